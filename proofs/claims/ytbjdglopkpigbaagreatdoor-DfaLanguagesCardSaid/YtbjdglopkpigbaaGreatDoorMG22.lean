import Derived.Test.YtbjdglopkpigbaaGreatDoorMG1
import Derived.Test.YtbjdglopkpigbaaGreatDoorMG6
import Derived.Test.YtbjdglopkpigbaaGreatDoorMG7
/-
  NaV, DfaM, DfaN
-/
set_option linter.unusedSimpArgs false
set_option linter.unusedVariables false
namespace Go.Proofs.YtbjdglopkpigbaaGreatDoor.Na
open List (foldr_cons foldr_nil setIfInBounds_toArray set_cons_succ set_cons_zero)
open Go.RowKit
attribute [local go_sem] Oper.semAt_some
set_option maxRecDepth 20000 in
set_option maxHeartbeats 20000000 in
theorem valid_any (d : Nfa) (h : NH) (w : World) (hd : IsNfa w h d) :
  Calls Tryz.prog 28 #[vNf d h] w fun e w' => e = .returned (.bool (vN d)) ∧ Below w.heap.size w w' := by
 obtain ⟨V, hV⟩ : ∃ V, vN d = V := ⟨_, rfl⟩
 have HV := Lib.hid hV
 rw [hV]
 clear hV
 have HD : ∀ x, x = vN d → x = V := fun x e => e.trans HV.out
 obtain ⟨n, s, fin, es⟩ := d
 obtain ⟨sa, sl, sc, fa, fl, fc, aa, al, ac⟩ := h
 obtain ⟨hst0, hf, he⟩ := hd
 simp only at hst0 hf he HV HD
 have hslen := hst0.length
 have hscap := hst0.cap
 unfold maxLen at hscap
 have HSL := Lib.hid hslen
 clear hslen
 have hlen := he.length
 have hflen := hf.length
 have hacap := he.capLe
 have hfcap := hf.capLe
 unfold maxLen at hacap hfcap
 obtain ⟨hb1, hs1, hO⟩ := boxN n sa sl sc fa fl fc aa al ac w
 obtain ⟨W1, hW1⟩ : ∃ W1, w.alloc (.cells #[.int .i64 n, .slice sa sl sc, .slice fa fl fc, .slice aa al ac] 43) = W1 := ⟨_, rfl⟩
 rw [hW1] at hb1 hs1 hO
 obtain ⟨d1, d2, d3, d4⟩ := hO W1 (Below.refl _ _)
 have hst := fun (m : Int) W => state_any ⟨n, s, fin, es⟩ ⟨sa, sl, sc, fa, fl, fc, aa, al, ac⟩ m W
 simp only [vNf] at hst
 have HFL := Lib.hid hflen
 clear hflen
 unfold vNf
 by_cases h1 : n < 0
 ·have t1 : decide (n < 0) = true := decide_eq_true h1
  have HN : Hid (false = V) := Lib.hid (HD _ (vN_no (by rintro ⟨v1, v2, v3, v4, v5⟩; simp only at v1 v2 v3; omega)).symm)
  clear hst HD
  go_enter Tryz.func28, Tryz.ntmps28
  go_wp2
  go_ret
  exact ⟨by rw [← HN.out]; rfl, hb1⟩
 have t1 : decide (n < 0) = false := decide_eq_false h1
 by_cases h2 : 200 < n
 ·have t2 : decide (200 < n) = true := decide_eq_true h2
  have HN : Hid (false = V) := Lib.hid (HD _ (vN_no (by rintro ⟨v1, v2, v3, v4, v5⟩; simp only at v1 v2 v3; omega)).symm)
  clear hst HD
  go_enter Tryz.func28, Tryz.ntmps28
  go_wp2
  go_ret
  exact ⟨by rw [← HN.out]; rfl, hb1⟩
 have t2 : decide (200 < n) = false := decide_eq_false h2
 by_cases h4 : (fl : Int) = n
 case neg =>
  have t4 : ((fl : Int) != n) = true := by simpa using h4
  have H4 := Lib.hid h4
  clear h4
  have HN : Hid (false = V) := Lib.hid (HD _ (vN_no (by rintro ⟨v1, v2, v3, v4, v5⟩; simp only at v1 v2 v3; rw [HFL.out] at v2; exact H4.out v2)).symm)
  clear hst HD
  go_enter Tryz.func28, Tryz.ntmps28
  go_wp2
  go_ret
  exact ⟨by rw [← HN.out]; rfl, hb1⟩
 have t4 : ((fl : Int) != n) = false := by simpa using h4
 have H4 := Lib.hid h4
 clear h4
 by_cases h5 : 2000 < al
 ·have t5 : decide (2000 < (al : Int)) = true := decide_eq_true (by omega)
  have HN : Hid (false = V) := Lib.hid (HD _ (vN_no (by rintro ⟨v1, v2, v3, v4, v5⟩; simp only at v1 v2 v3; omega)).symm)
  clear hst HD
  go_enter Tryz.func28, Tryz.ntmps28
  go_wp2
  go_ret
  exact ⟨by rw [← HN.out]; rfl, hb1⟩
 have t5 : decide (2000 < (al : Int)) = false := decide_eq_false (by omega)
 go_enter Tryz.func28, Tryz.ntmps28
 go_wp2_with (fail)
 have HO := Lib.hid hO
 have HB1 := Lib.hid hb1
 clear hO t1 t2 t4 t5 hb1 hW1
 go_loopw [32] (fun c W => ∃ k : Nat, k ≤ sl ∧ c = .int .i64 (k : Int) ∧ Hid (∀ i, i < k → StartOk n s i) ∧ Below (w.heap.size + 1) W1 W) (fun c _ => sl - (intOf c).toNat)
 case atStart => exact ⟨0, Nat.zero_le _, rfl, Lib.hid (fun i hi => by omega), Below.refl _ _⟩
 case round =>
  obtain ⟨k, hk, rfl, HA, hb⟩ := hrel
  have hbW : Below w.heap.size w wr := HB1.out.trans (hb.mono (by omega))
  obtain ⟨e1, e2, e3, e4⟩ := HO.out wr hb
  clear d1 d2 d3 d4
  rcases Nat.lt_or_ge k sl with hlt | hge
  ·have t1 : decide (k < sl) = true := decide_eq_true hlt
   obtain ⟨bs, os, rfl, hbl, hc⟩ := hst0.at wr hbW k hlt
   obtain ⟨z, hz⟩ : ∃ z, gi s k = z := ⟨_, rfl⟩
   rw [hz] at hc
   have HZ := Lib.hid hz
   clear hz
   have HNO : Hid (¬ StartOk n s k → false = V) := Lib.hid fun hno => HD _ (vN_no (validN_start (a := ⟨n, s, fin, es⟩) (by simp only; rw [HSL.out]; exact hlt) hno)).symm
   by_cases h6 : 0 ≤ z ∧ z < n
   case neg =>
    have hst' := fun W => hst z W
    rw [decide_eq_false h6] at hst'
    have HQ : Hid (¬ StartOk n s k) := Lib.hid fun h => h6 (by have := h.1; rw [HZ.out] at this; exact this)
    have HBW := Lib.hid hbW
    clear h6 hst hbW hst0 hf he hb
    go_wp2_with (go_at_call 42; refine (hst' _).mono ?_; rintro e w2 ⟨rfl, hb2⟩; have HR : Hid (Below w.heap.size w w2) := Lib.hid (HBW.out.trans (hb2.mono HBW.out.size)))
    go_ret
    exact ⟨by rw [← HNO.out HQ.out]; rfl, HR.out⟩
   have hst' := fun W => hst z W
   rw [decide_eq_true h6] at hst'
   have H6 := Lib.hid h6
   clear h6
   have HBW := Lib.hid hbW
   have HB := Lib.hid hb
   have hsz : w.heap.size + 1 ≤ wr.heap.size := by have := hb.size; omega
   rcases Nat.eq_zero_or_pos k with h0 | h0
   ·have q5 : decide (0 < k) = false := decide_eq_false (by omega)
    have HS : Hid (∀ i, i < k + 1 → StartOk n s i) := Lib.hid fun i hi => by
     rcases Nat.lt_or_ge i k with h1 | h1
     ·exact HA.out i h1
     ·rw [show i = k by omega]; exact ⟨by rw [HZ.out]; exact H6.out, fun h2 => by omega⟩
    clear hbW hb hst hst0 hf he HD h0
    go_wp2_with (go_at_call 42; refine (hst' _).mono ?_; rintro e w2 ⟨rfl, hb2⟩; obtain ⟨d1', d2', d3', d4'⟩ := HO.out w2 (HB.out.trans (hb2.mono hsz)))
    go_roundw
    case rel => exact ⟨k + 1, hlt, by go_num, HS, HB.out.trans (hb2.mono hsz)⟩
    case measure => simp [intOf]; omega
   ·have q5 : decide (0 < k) = true := decide_eq_true h0
    obtain ⟨p, hp⟩ : ∃ p, p = k - 1 := ⟨_, rfl⟩
    have hpk : (k : Int) - 1 = (p : Int) := by omega
    have hps : p < sl := by omega
    obtain ⟨bs', os', eb, hbl', hcp⟩ := hst0.at wr hbW p hps
    injection eb with eb
    injection eb with eb1 eb2
    subst eb1 eb2
    obtain ⟨y, hy⟩ : ∃ y, gi s p = y := ⟨_, rfl⟩
    rw [hy] at hcp
    have HY := Lib.hid hy
    have HP := Lib.hid hp
    clear hy hp
    by_cases hL : y < z
    ·have q6 : decide (z ≤ y) = false := decide_eq_false (by omega)
     have HS : Hid (∀ i, i < k + 1 → StartOk n s i) := Lib.hid fun i hi => by
      rcases Nat.lt_or_ge i k with h1 | h1
      ·exact HA.out i h1
      ·rw [show i = k by omega]; exact ⟨by rw [HZ.out]; exact H6.out, fun h2 => by rw [← HP.out, HY.out, HZ.out]; exact hL⟩
     clear hbW hb hst hst0 hf he HD hL
     go_wp2_with (go_at_call 42; refine (hst' _).mono ?_; rintro e w2 ⟨rfl, hb2⟩; obtain ⟨d1', d2', d3', d4'⟩ := HO.out w2 (HB.out.trans (hb2.mono hsz)); have hcp2 := (hb2.cell (p := ⟨bs, os + p, none⟩) (lt_of_cell hcp)).trans hcp)
     go_roundw
     case rel => exact ⟨k + 1, hlt, by go_num, HS, HB.out.trans (hb2.mono hsz)⟩
     case measure => simp [intOf]; omega
    ·have q6 : decide (z ≤ y) = true := decide_eq_true (by omega)
     have HQ : Hid (¬ StartOk n s k) := Lib.hid fun h => hL (by have := h.2 h0; rw [← HP.out, HY.out, HZ.out] at this; exact this)
     clear hbW hb hst hst0 hf he HD hL
     go_wp2_with (go_at_call 42; refine (hst' _).mono ?_; rintro e w2 ⟨rfl, hb2⟩; obtain ⟨d1', d2', d3', d4'⟩ := HO.out w2 (HB.out.trans (hb2.mono hsz)); have hcp2 := (hb2.cell (p := ⟨bs, os + p, none⟩) (lt_of_cell hcp)).trans hcp; have HR : Hid (Below w.heap.size w w2) := Lib.hid (HBW.out.trans (hb2.mono HBW.out.size)))
     go_ret
     exact ⟨by rw [← HNO.out HQ.out]; rfl, HR.out⟩
  ·have hkl : sl = k := by omega
   subst hkl
   have t1 : decide (sl < sl) = false := decide_eq_false (by omega)
   have HST : Hid (∀ i, i < s.length → StartOk n s i) := Lib.hid fun i hi => HA.out i (by rw [HSL.out] at hi; exact hi)
   obtain ⟨w2, hw2⟩ : ∃ w2 : World, w2 = wr := ⟨_, rfl⟩
   subst hw2
   have HB2 := Lib.hid hb
   have hsz2 : w.heap.size + 1 ≤ w2.heap.size := by have := hb.size; omega
   clear hk hge hb hst0 HA hbW HSL hscap
   go_wp2_with (fail)
   clear e1 e2 e3 e4
   go_loopw [59] (fun c W => ∃ k : Nat, k ≤ al ∧ c = .int .i64 (k : Int) ∧ Hid (∀ i, i < k → ArcOkN n es i) ∧ Below w2.heap.size w2 W) (fun c _ => al - (intOf c).toNat)
   case atStart => exact ⟨0, Nat.zero_le _, rfl, Lib.hid (fun i hi => by omega), Below.refl _ _⟩
   case round =>
    obtain ⟨k, hk, rfl, HA, hb⟩ := hrel
    have hbW : Below w.heap.size w wr := HB1.out.trans ((HB2.out.trans (hb.mono hsz2)).mono (by omega))
    have hszr : w.heap.size + 1 ≤ wr.heap.size := Nat.le_trans hsz2 hb.size
    rcases Nat.lt_or_ge k al with hlt | hge
    ·obtain ⟨b, off, rfl, hcell⟩ := he.fix (by omega)
     obtain ⟨x1, x2, x3, hx⟩ : ∃ x1 x2 x3, g3 es k = ⟨x1, x2, x3⟩ := ⟨_, _, _, rfl⟩
     obtain ⟨cx1, cx2, cx3⟩ := hcell wr hbW k hlt
     rw [hx] at cx1 cx2 cx3
     have HX := Lib.hid hx
     obtain ⟨e1, e2, e3, e4⟩ := HO.out wr (HB2.out.trans (hb.mono hsz2))
     obtain ⟨Wn, hWn⟩ : ∃ Wn, wr.alloc (.cells #[.int .i64 x1, .int .i64 x2, .int .i64 x3] 49) = Wn := ⟨_, rfl⟩
     have hbn : Below wr.heap.size wr Wn := by rw [← hWn]; exact (Below.refl _ _).alloc (Nat.le_refl _) _
     have hcm : ∀ W, Below Wn.heap.size Wn W → (W.cell? ⟨w.heap.size, 0, none⟩ = some (.int .i64 n) ∧ W.cell? ⟨w.heap.size, 1, none⟩ = some (.slice sa sl sc) ∧ W.cell? ⟨w.heap.size, 2, none⟩ = some (.slice fa fl fc) ∧ W.cell? ⟨w.heap.size, 3, none⟩ = some (.slice (some ⟨b, off, none⟩) al ac)) ∧ W.cell? ⟨wr.heap.size, 0, none⟩ = some (.int .i64 x1) ∧ W.cell? ⟨wr.heap.size, 1, none⟩ = some (.int .i64 x2) ∧ W.cell? ⟨wr.heap.size, 2, none⟩ = some (.int .i64 x3) := fun W h => by
      have h2 := (boxA ⟨x1, x2, x3⟩ wr).2.2 W (by simp only; rw [hWn]; exact h.mono (by rw [← hWn]; simp))
      exact ⟨HO.out W ((HB2.out.trans (hb.mono hsz2)).trans ((hbn.mono hszr).trans (h.mono (Nat.le_trans hszr hbn.size)))), h2⟩
     have hbWn : Below w2.heap.size w2 Wn := hb.trans (hbn.mono hb.size)
     have HBR := Lib.hid hbW
     have HBN := Lib.hid (show Below w.heap.size w Wn from hbW.trans (hbn.mono hbW.size))
     have HBWN := Lib.hid hbWn
     have HNO : Hid (¬ ArcOkN n es k → false = V) := Lib.hid fun hno => HD _ (vN_no (validN_arc (a := ⟨n, s, fin, es⟩) (by simp only; omega) hno)).symm
     have HCELL := Lib.hid hcell
     have hwn : Wn.heap.size = wr.heap.size + 1 := by rw [← hWn]; simp
     have hwn' : wr.heap.size ≤ Wn.heap.size := by omega
     have HWN := Lib.hid hwn
     clear hwn
     clear hx hcell he hf hbn hb hbW hbWn HD
     by_cases h6 : 0 ≤ x1 ∧ x1 < n
     case neg =>
      have q1 : decide (0 ≤ x1 ∧ x1 < n) = false := decide_eq_false h6
      have HQ : Hid (¬ ArcOkN n es k) := Lib.hid fun h => h6 (by have := h.1.1; rw [HX.out] at this; exact this)
      clear h6
      go_wp2_with (fail)
      refine wp_region_grow mixed (by kernel_rfl) [[], [], [(1, 65)], [(0, 64), (2, 66)], [(3, 67)], [(4, 68), (3, 67)], [(5, 69)], [(5, 69)], [(7, 71), (5, 69)], [(6, 70), (8, 72), (5, 69), (5, 69)], [(9, 73), (5, 69)], [(5, 69), (10, 74)], [(11, 75), (9, 73)], [(12, 76)], [(13, 77), (12, 76)], [(14, 78), (12, 76)], [(12, 76), (15, 79)], [(16, 80), (12, 76)], [(17, 81)], [(18, 82), (17, 81)], [(19, 83), (17, 81)], [(17, 81), (20, 84)], [(21, 85), (17, 81)], [(22, 86)], [(23, 87), (22, 86)], [(24, 88), (22, 86), (22, 86)], [(25, 89)], [(26, 90), (25, 89)], [(25, 89)], [(28, 92), (25, 89)], [(27, 91), (29, 93), (25, 89)], [(30, 94), (25, 89)], [(25, 89)], [(31, 95), (32, 96), (25, 89), (25, 89)], [(33, 97), (25, 89)], [(25, 89), (34, 98), (22, 86)], [(22, 86), (35, 99)]] [(0, 64), (1, 65), (2, 66), (3, 67), (4, 68), (5, 69), (6, 70), (7, 71), (8, 72), (9, 73), (10, 74), (11, 75), (12, 76), (13, 77), (14, 78), (15, 79), (16, 80), (17, 81), (18, 82), (19, 83), (20, 84), (21, 85), (22, 86), (23, 87), (24, 88), (25, 89), (26, 90), (27, 91), (28, 92), (29, 93), (30, 94), (31, 95), (32, 96), (33, 97), (34, 98), (35, 99), (36, 100)] rfl rfl [Ex ?eb0, Ex ?eb1, Ex ?eb2, Ex (.bool false), Ex ?eb4, Ex ?eb5, Ex undef, Ex undef, Ex undef, Ex undef, Ex undef, Ex ?eb11, Ex ?eb12, Ex undef, Ex undef, Ex undef, Ex ?eb16, Ex ?eb17, Ex undef, Ex undef, Ex undef, Ex ?eb21, Ex ?eb22, Ex undef, Ex undef, Ex undef, Ex undef, Ex undef, Ex undef, Ex undef, Ex undef, Ex undef, Ex undef, Ex undef, Ex undef, Ex undef, Ex ?eb36] ⟨stays_ex _, stays_ex _, stays_ex _, stays_ex _, stays_ex _, stays_ex _, stays_ex _, stays_ex _, stays_ex _, stays_ex _, stays_ex _, stays_ex _, stays_ex _, stays_ex _, stays_ex _, stays_ex _, stays_ex _, stays_ex _, stays_ex _, stays_ex _, stays_ex _, stays_ex _, stays_ex _, stays_ex _, stays_ex _, stays_ex _, stays_ex _, stays_ex _, stays_ex _, stays_ex _, stays_ex _, stays_ex _, stays_ex _, stays_ex _, stays_ex _, stays_ex _, stays_ex _, trivial⟩ ?bsteps ?brest
      case bsteps =>
       refine ⟨fun f W hC hh => ?_, fun f W hC hh => ?_, fun f W hC hh => ?_, fun f W hC hh => ?_, fun f W hC hh => ?_, fun f W hC hh => ?_, fun f W hC hh => ?_, fun f W hC hh => ?_, fun f W hC hh => ?_, fun f W hC hh => ?_, fun f W hC hh => ?_, fun f W hC hh => ?_, fun f W hC hh => ?_, fun f W hC hh => ?_, fun f W hC hh => ?_, fun f W hC hh => ?_, fun f W hC hh => ?_, fun f W hC hh => ?_, fun f W hC hh => ?_, fun f W hC hh => ?_, fun f W hC hh => ?_, fun f W hC hh => ?_, fun f W hC hh => ?_, fun f W hC hh => ?_, fun f W hC hh => ?_, fun f W hC hh => ?_, fun f W hC hh => ?_, fun f W hC hh => ?_, fun f W hC hh => ?_, fun f W hC hh => ?_, fun f W hC hh => ?_, fun f W hC hh => ?_, fun f W hC hh => ?_, fun f W hC hh => ?_, fun f W hC hh => ?_, fun f W hC hh => ?_, fun f W hC hh => ?_, trivial⟩
       ·
        refine tab_plain fun K Q hK => ?_;simp only [puts, foldr_nil]
        obtain ⟨⟨f1, f2, f3, f4⟩, f5, f6, f7⟩ := hcm W hC
        go_step;exact fam_e hK rfl rfl (Below.refl _ _) hC
       ·
        refine tab_plain fun K Q hK => ?_;simp only [puts, foldr_nil];go_step;exact fam_e hK rfl rfl (Below.refl _ _) hC
       ·
        obtain ⟨h1, -⟩ := hh;have g1 : f 1=_:=h1;refine tab_plain fun K Q hK => ?_;simp only [puts, Za, Zb, Zc, Zd, Ze, g1]
        obtain ⟨⟨f1, f2, f3, f4⟩, f5, f6, f7⟩ := hcm W hC
        go_step;exact fam_e hK rfl rfl (Below.refl _ _) hC
       ·
        obtain ⟨h0, h2, -⟩ := hh;have g0 : f 0=_:=h0;have g2 : f 2=_:=h2;refine tab_plain fun K Q hK => ?_;simp only [puts, Za, Zb, Zc, Zd, Ze, g0, g2];go_step
        go_at_call 42
        refine (hst x1 W).mono ?_
        rintro e w' ⟨rfl, hb⟩
        rw [q1]
        exact fam_fin hK rfl rfl hb (hC.trans (hb.mono hC.size))
       ·
        obtain ⟨h3, -⟩ := hh;have g3 : f 3=_:=h3;refine tab_plain fun K Q hK => ?_;simp only [puts, Za, Zb, Zc, Zd, Ze, g3];go_step;exact fam_e hK rfl rfl (Below.refl _ _) hC
       ·
        obtain ⟨h4, h3, -⟩ := hh;have g4 : f 4=_:=h4;have g3 : f 3=_:=h3;refine tab_plain fun K Q hK => ?_;simp only [puts, Za, Zb, Zc, Zd, Ze, g4, g3];go_step;exact fam_e hK rfl rfl (Below.refl _ _) hC
       ·
        obtain ⟨h5, -⟩ := hh;have g5 : f 5=_:=h5
        exact tab_no rfl g5 (by decide) rfl
       ·
        obtain ⟨h5, -⟩ := hh;have g5 : f 5=_:=h5
        exact tab_no rfl g5 (by decide) rfl
       ·
        obtain ⟨h7, h5, -⟩ := hh;have g7 : f 7=_:=h7;have g5 : f 5=_:=h5
        exact tab_no rfl g5 (by decide) rfl
       ·
        obtain ⟨h6, h8, h5, _, -⟩ := hh;have g6 : f 6=_:=h6;have g8 : f 8=_:=h8;have g5 : f 5=_:=h5
        exact tab_no rfl g5 (by decide) rfl
       ·
        obtain ⟨h9, h5, -⟩ := hh;have g9 : f 9=_:=h9;have g5 : f 5=_:=h5
        exact tab_no rfl g5 (by decide) rfl
       ·
        obtain ⟨h5, h10, -⟩ := hh;have g5 : f 5=_:=h5;have g10 : f 10=_:=h10;refine tab_plain fun K Q hK => ?_;simp only [puts, Za, Zb, Zc, Zd, Ze, g5, g10];go_step;exact fam_e hK rfl rfl (Below.refl _ _) hC
       ·
        obtain ⟨h11, h9, -⟩ := hh;have g11 : f 11=_:=h11;have g9 : f 9=_:=h9;refine tab_plain fun K Q hK => ?_;simp only [puts, Za, Zb, Zc, Zd, Ze, g11, g9];go_step;exact fam_e hK rfl rfl (Below.refl _ _) hC
       ·
        obtain ⟨h12, -⟩ := hh;have g12 : f 12=_:=h12
        exact tab_no rfl g12 (by decide) rfl
       ·
        obtain ⟨h13, h12, -⟩ := hh;have g13 : f 13=_:=h13;have g12 : f 12=_:=h12
        exact tab_no rfl g12 (by decide) rfl
       ·
        obtain ⟨h14, h12, -⟩ := hh;have g14 : f 14=_:=h14;have g12 : f 12=_:=h12
        exact tab_no rfl g12 (by decide) rfl
       ·
        obtain ⟨h12, h15, -⟩ := hh;have g12 : f 12=_:=h12;have g15 : f 15=_:=h15;refine tab_plain fun K Q hK => ?_;simp only [puts, Za, Zb, Zc, Zd, Ze, g12, g15];go_step;exact fam_e hK rfl rfl (Below.refl _ _) hC
       ·
        obtain ⟨h16, h12, -⟩ := hh;have g16 : f 16=_:=h16;have g12 : f 12=_:=h12;refine tab_plain fun K Q hK => ?_;simp only [puts, Za, Zb, Zc, Zd, Ze, g16, g12];go_step;exact fam_e hK rfl rfl (Below.refl _ _) hC
       ·
        obtain ⟨h17, -⟩ := hh;have g17 : f 17=_:=h17
        exact tab_no rfl g17 (by decide) rfl
       ·
        obtain ⟨h18, h17, -⟩ := hh;have g18 : f 18=_:=h18;have g17 : f 17=_:=h17
        exact tab_no rfl g17 (by decide) rfl
       ·
        obtain ⟨h19, h17, -⟩ := hh;have g19 : f 19=_:=h19;have g17 : f 17=_:=h17
        exact tab_no rfl g17 (by decide) rfl
       ·
        obtain ⟨h17, h20, -⟩ := hh;have g17 : f 17=_:=h17;have g20 : f 20=_:=h20;refine tab_plain fun K Q hK => ?_;simp only [puts, Za, Zb, Zc, Zd, Ze, g17, g20];go_step;exact fam_e hK rfl rfl (Below.refl _ _) hC
       ·
        obtain ⟨h21, h17, -⟩ := hh;have g21 : f 21=_:=h21;have g17 : f 17=_:=h17;refine tab_plain fun K Q hK => ?_;simp only [puts, Za, Zb, Zc, Zd, Ze, g21, g17];go_step;exact fam_e hK rfl rfl (Below.refl _ _) hC
       ·
        obtain ⟨h22, -⟩ := hh;have g22 : f 22=_:=h22
        exact tab_no rfl g22 (by decide) rfl
       ·
        obtain ⟨h23, h22, -⟩ := hh;have g23 : f 23=_:=h23;have g22 : f 22=_:=h22
        exact tab_no rfl g22 (by decide) rfl
       ·
        obtain ⟨h24, h22, _, -⟩ := hh;have g24 : f 24=_:=h24;have g22 : f 22=_:=h22
        exact tab_no rfl g22 (by decide) rfl
       ·
        obtain ⟨h25, -⟩ := hh;have g25 : f 25=_:=h25
        exact tab_noU rfl g25 rfl
       ·
        obtain ⟨h26, h25, -⟩ := hh;have g26 : f 26=_:=h26;have g25 : f 25=_:=h25
        exact tab_noU rfl g25 rfl
       ·
        obtain ⟨h25, -⟩ := hh;have g25 : f 25=_:=h25
        exact tab_noU rfl g25 rfl
       ·
        obtain ⟨h28, h25, -⟩ := hh;have g28 : f 28=_:=h28;have g25 : f 25=_:=h25
        exact tab_noU rfl g25 rfl
       ·
        obtain ⟨h27, h29, h25, -⟩ := hh;have g27 : f 27=_:=h27;have g29 : f 29=_:=h29;have g25 : f 25=_:=h25
        exact tab_noU rfl g25 rfl
       ·
        obtain ⟨h30, h25, -⟩ := hh;have g30 : f 30=_:=h30;have g25 : f 25=_:=h25
        exact tab_noU rfl g25 rfl
       ·
        obtain ⟨h25, -⟩ := hh;have g25 : f 25=_:=h25
        exact tab_noU rfl g25 rfl
       ·
        obtain ⟨h31, h32, h25, _, -⟩ := hh;have g31 : f 31=_:=h31;have g32 : f 32=_:=h32;have g25 : f 25=_:=h25
        exact tab_noU rfl g25 rfl
       ·
        obtain ⟨h33, h25, -⟩ := hh;have g33 : f 33=_:=h33;have g25 : f 25=_:=h25
        exact tab_noU rfl g25 rfl
       ·
        obtain ⟨h25, h34, h22, -⟩ := hh;have g25 : f 25=_:=h25;have g34 : f 34=_:=h34;have g22 : f 22=_:=h22
        exact tab_no rfl g22 (by decide) rfl
       ·
        obtain ⟨h22, h35, -⟩ := hh;have g22 : f 22=_:=h22;have g35 : f 35=_:=h35;refine tab_plain fun K Q hK => ?_;simp only [puts, Za, Zb, Zc, Zd, Ze, g22, g35];go_step;exact fam_e hK rfl rfl (Below.refl _ _) hC
      case brest =>
       intro f W2 hC hh
       obtain ⟨h0, h1, h2, h3, h4, h5, h6, h7, h8, h9, h10, h11, h12, h13, h14, h15, h16, h17, h18, h19, h20, h21, h22, h23, h24, h25, h26, h27, h28, h29, h30, h31, h32, h33, h34, h35, h36, -⟩ := hh;have g0 : f 0=_:=h0;have g1 : f 1=_:=h1;have g2 : f 2=_:=h2;have g3 : f 3=_:=h3;have g4 : f 4=_:=h4;have g5 : f 5=_:=h5;have g6 : f 6=_:=h6;have g7 : f 7=_:=h7;have g8 : f 8=_:=h8;have g9 : f 9=_:=h9;have g10 : f 10=_:=h10;have g11 : f 11=_:=h11;have g12 : f 12=_:=h12;have g13 : f 13=_:=h13;have g14 : f 14=_:=h14;have g15 : f 15=_:=h15;have g16 : f 16=_:=h16;have g17 : f 17=_:=h17;have g18 : f 18=_:=h18;have g19 : f 19=_:=h19;have g20 : f 20=_:=h20;have g21 : f 21=_:=h21;have g22 : f 22=_:=h22;have g23 : f 23=_:=h23;have g24 : f 24=_:=h24;have g25 : f 25=_:=h25;have g26 : f 26=_:=h26;have g27 : f 27=_:=h27;have g28 : f 28=_:=h28;have g29 : f 29=_:=h29;have g30 : f 30=_:=h30;have g31 : f 31=_:=h31;have g32 : f 32=_:=h32;have g33 : f 33=_:=h33;have g34 : f 34=_:=h34;have g35 : f 35=_:=h35;have g36 : f 36=_:=h36;simp only [puts, Za, Zb, Zc, Zd, Ze, g0, g1, g2, g3, g4, g5, g6, g7, g8, g9, g10, g11, g12, g13, g14, g15, g16, g17, g18, g19, g20, g21, g22, g23, g24, g25, g26, g27, g28, g29, g30, g31, g32, g33, g34, g35, g36]
       clear h0 h1 h2 h3 h4 h5 h6 h7 h8 h9 h10 h11 h12 h13 h14 h15 h16 h17 h18 h19 h20 h21 h22 h23 h24 h25 h26 h27 h28 h29 h30 h31 h32 h33 h34 h35 h36 g0 g1 g2 g3 g4 g5 g6 g7 g8 g9 g10 g11 g12 g13 g14 g15 g16 g17 g18 g19 g20 g21 g22 g23 g24 g25 g26 g27 g28 g29 g30 g31 g32 g33 g34 g35 g36
       go_wp2
       go_ret
       exact ⟨by rw [← HNO.out HQ.out]; rfl, HBN.out.trans (hC.mono HBN.out.size)⟩
     have q1 : decide (0 ≤ x1 ∧ x1 < n) = true := decide_eq_true h6
     have H6 := Lib.hid h6
     clear h6
     by_cases h7 : 0 ≤ x3 ∧ x3 < n
     case neg =>
      have q2 : decide (0 ≤ x3 ∧ x3 < n) = false := decide_eq_false h7
      have HQ : Hid (¬ ArcOkN n es k) := Lib.hid fun h => h7 (by have := h.1.2; rw [HX.out] at this; exact this)
      clear h7
      go_wp2_with (fail)
      refine wp_region_grow mixed (by kernel_rfl) [[], [], [(1, 65)], [(0, 64), (2, 66)], [(3, 67)], [(4, 68), (3, 67)], [(5, 69)], [(5, 69)], [(7, 71), (5, 69)], [(6, 70), (8, 72), (5, 69), (5, 69)], [(9, 73), (5, 69)], [(5, 69), (10, 74)], [(11, 75), (9, 73)], [(12, 76)], [(13, 77), (12, 76)], [(14, 78), (12, 76)], [(12, 76), (15, 79)], [(16, 80), (12, 76)], [(17, 81)], [(18, 82), (17, 81)], [(19, 83), (17, 81)], [(17, 81), (20, 84)], [(21, 85), (17, 81)], [(22, 86)], [(23, 87), (22, 86)], [(24, 88), (22, 86), (22, 86)], [(25, 89)], [(26, 90), (25, 89)], [(25, 89)], [(28, 92), (25, 89)], [(27, 91), (29, 93), (25, 89)], [(30, 94), (25, 89)], [(25, 89)], [(31, 95), (32, 96), (25, 89), (25, 89)], [(33, 97), (25, 89)], [(25, 89), (34, 98), (22, 86)], [(22, 86), (35, 99)]] [(0, 64), (1, 65), (2, 66), (3, 67), (4, 68), (5, 69), (6, 70), (7, 71), (8, 72), (9, 73), (10, 74), (11, 75), (12, 76), (13, 77), (14, 78), (15, 79), (16, 80), (17, 81), (18, 82), (19, 83), (20, 84), (21, 85), (22, 86), (23, 87), (24, 88), (25, 89), (26, 90), (27, 91), (28, 92), (29, 93), (30, 94), (31, 95), (32, 96), (33, 97), (34, 98), (35, 99), (36, 100)] rfl rfl [Ex ?ec0, Ex ?ec1, Ex ?ec2, Ex (.bool true), Ex ?ec4, Ex ?ec5, Ex ?ec6, Ex ?ec7, Ex ?ec8, Ex (.bool false), Ex ?ec10, Ex ?ec11, Ex ?ec12, Ex undef, Ex undef, Ex undef, Ex ?ec16, Ex ?ec17, Ex undef, Ex undef, Ex undef, Ex ?ec21, Ex ?ec22, Ex undef, Ex undef, Ex undef, Ex undef, Ex undef, Ex undef, Ex undef, Ex undef, Ex undef, Ex undef, Ex undef, Ex undef, Ex undef, Ex ?ec36] ⟨stays_ex _, stays_ex _, stays_ex _, stays_ex _, stays_ex _, stays_ex _, stays_ex _, stays_ex _, stays_ex _, stays_ex _, stays_ex _, stays_ex _, stays_ex _, stays_ex _, stays_ex _, stays_ex _, stays_ex _, stays_ex _, stays_ex _, stays_ex _, stays_ex _, stays_ex _, stays_ex _, stays_ex _, stays_ex _, stays_ex _, stays_ex _, stays_ex _, stays_ex _, stays_ex _, stays_ex _, stays_ex _, stays_ex _, stays_ex _, stays_ex _, stays_ex _, stays_ex _, trivial⟩ ?csteps ?crest
      case csteps =>
       refine ⟨fun f W hC hh => ?_, fun f W hC hh => ?_, fun f W hC hh => ?_, fun f W hC hh => ?_, fun f W hC hh => ?_, fun f W hC hh => ?_, fun f W hC hh => ?_, fun f W hC hh => ?_, fun f W hC hh => ?_, fun f W hC hh => ?_, fun f W hC hh => ?_, fun f W hC hh => ?_, fun f W hC hh => ?_, fun f W hC hh => ?_, fun f W hC hh => ?_, fun f W hC hh => ?_, fun f W hC hh => ?_, fun f W hC hh => ?_, fun f W hC hh => ?_, fun f W hC hh => ?_, fun f W hC hh => ?_, fun f W hC hh => ?_, fun f W hC hh => ?_, fun f W hC hh => ?_, fun f W hC hh => ?_, fun f W hC hh => ?_, fun f W hC hh => ?_, fun f W hC hh => ?_, fun f W hC hh => ?_, fun f W hC hh => ?_, fun f W hC hh => ?_, fun f W hC hh => ?_, fun f W hC hh => ?_, fun f W hC hh => ?_, fun f W hC hh => ?_, fun f W hC hh => ?_, fun f W hC hh => ?_, trivial⟩
       ·
        refine tab_plain fun K Q hK => ?_;simp only [puts, foldr_nil]
        obtain ⟨⟨f1, f2, f3, f4⟩, f5, f6, f7⟩ := hcm W hC
        go_step;exact fam_e hK rfl rfl (Below.refl _ _) hC
       ·
        refine tab_plain fun K Q hK => ?_;simp only [puts, foldr_nil];go_step;exact fam_e hK rfl rfl (Below.refl _ _) hC
       ·
        obtain ⟨h1, -⟩ := hh;have g1 : f 1=_:=h1;refine tab_plain fun K Q hK => ?_;simp only [puts, Za, Zb, Zc, Zd, Ze, g1]
        obtain ⟨⟨f1, f2, f3, f4⟩, f5, f6, f7⟩ := hcm W hC
        go_step;exact fam_e hK rfl rfl (Below.refl _ _) hC
       ·
        obtain ⟨h0, h2, -⟩ := hh;have g0 : f 0=_:=h0;have g2 : f 2=_:=h2;refine tab_plain fun K Q hK => ?_;simp only [puts, Za, Zb, Zc, Zd, Ze, g0, g2];go_step
        go_at_call 42
        refine (hst x1 W).mono ?_
        rintro e w' ⟨rfl, hb⟩
        rw [q1]
        exact fam_fin hK rfl rfl hb (hC.trans (hb.mono hC.size))
       ·
        obtain ⟨h3, -⟩ := hh;have g3 : f 3=_:=h3;refine tab_plain fun K Q hK => ?_;simp only [puts, Za, Zb, Zc, Zd, Ze, g3];go_step;exact fam_e hK rfl rfl (Below.refl _ _) hC
       ·
        obtain ⟨h4, h3, -⟩ := hh;have g4 : f 4=_:=h4;have g3 : f 3=_:=h3;refine tab_plain fun K Q hK => ?_;simp only [puts, Za, Zb, Zc, Zd, Ze, g4, g3];go_step;exact fam_e hK rfl rfl (Below.refl _ _) hC
       ·
        obtain ⟨h5, -⟩ := hh;have g5 : f 5=_:=h5;refine tab_yes g5 fun K Q hK => ?_;simp only [puts, Za, Zb, Zc, Zd, Ze, g5]
        obtain ⟨⟨f1, f2, f3, f4⟩, f5, f6, f7⟩ := hcm W hC
        go_step;exact fam_e hK rfl rfl (Below.refl _ _) hC
       ·
        obtain ⟨h5, -⟩ := hh;have g5 : f 5=_:=h5;refine tab_yes g5 fun K Q hK => ?_;simp only [puts, Za, Zb, Zc, Zd, Ze, g5];go_step;exact fam_e hK rfl rfl (Below.refl _ _) hC
       ·
        obtain ⟨h7, h5, -⟩ := hh;have g7 : f 7=_:=h7;have g5 : f 5=_:=h5;refine tab_yes g5 fun K Q hK => ?_;simp only [puts, Za, Zb, Zc, Zd, Ze, g7, g5]
        obtain ⟨⟨f1, f2, f3, f4⟩, f5, f6, f7⟩ := hcm W hC
        go_step;exact fam_e hK rfl rfl (Below.refl _ _) hC
       ·
        obtain ⟨h6, h8, h5, _, -⟩ := hh;have g6 : f 6=_:=h6;have g8 : f 8=_:=h8;have g5 : f 5=_:=h5;refine tab_yes g5 fun K Q hK => ?_;simp only [puts, Za, Zb, Zc, Zd, Ze, g6, g8, g5];go_step
        go_at_call 42
        refine (hst x3 W).mono ?_
        rintro e w' ⟨rfl, hb⟩
        rw [q2]
        exact fam_fin hK rfl rfl hb (hC.trans (hb.mono hC.size))
       ·
        obtain ⟨h9, h5, -⟩ := hh;have g9 : f 9=_:=h9;have g5 : f 5=_:=h5;refine tab_yes g5 fun K Q hK => ?_;simp only [puts, Za, Zb, Zc, Zd, Ze, g9, g5];go_step;exact fam_e hK rfl rfl (Below.refl _ _) hC
       ·
        obtain ⟨h5, h10, -⟩ := hh;have g5 : f 5=_:=h5;have g10 : f 10=_:=h10;refine tab_plain fun K Q hK => ?_;simp only [puts, Za, Zb, Zc, Zd, Ze, g5, g10];go_step;exact fam_e hK rfl rfl (Below.refl _ _) hC
       ·
        obtain ⟨h11, h9, -⟩ := hh;have g11 : f 11=_:=h11;have g9 : f 9=_:=h9;refine tab_plain fun K Q hK => ?_;simp only [puts, Za, Zb, Zc, Zd, Ze, g11, g9];go_step;exact fam_e hK rfl rfl (Below.refl _ _) hC
       ·
        obtain ⟨h12, -⟩ := hh;have g12 : f 12=_:=h12
        exact tab_no rfl g12 (by decide) rfl
       ·
        obtain ⟨h13, h12, -⟩ := hh;have g13 : f 13=_:=h13;have g12 : f 12=_:=h12
        exact tab_no rfl g12 (by decide) rfl
       ·
        obtain ⟨h14, h12, -⟩ := hh;have g14 : f 14=_:=h14;have g12 : f 12=_:=h12
        exact tab_no rfl g12 (by decide) rfl
       ·
        obtain ⟨h12, h15, -⟩ := hh;have g12 : f 12=_:=h12;have g15 : f 15=_:=h15;refine tab_plain fun K Q hK => ?_;simp only [puts, Za, Zb, Zc, Zd, Ze, g12, g15];go_step;exact fam_e hK rfl rfl (Below.refl _ _) hC
       ·
        obtain ⟨h16, h12, -⟩ := hh;have g16 : f 16=_:=h16;have g12 : f 12=_:=h12;refine tab_plain fun K Q hK => ?_;simp only [puts, Za, Zb, Zc, Zd, Ze, g16, g12];go_step;exact fam_e hK rfl rfl (Below.refl _ _) hC
       ·
        obtain ⟨h17, -⟩ := hh;have g17 : f 17=_:=h17
        exact tab_no rfl g17 (by decide) rfl
       ·
        obtain ⟨h18, h17, -⟩ := hh;have g18 : f 18=_:=h18;have g17 : f 17=_:=h17
        exact tab_no rfl g17 (by decide) rfl
       ·
        obtain ⟨h19, h17, -⟩ := hh;have g19 : f 19=_:=h19;have g17 : f 17=_:=h17
        exact tab_no rfl g17 (by decide) rfl
       ·
        obtain ⟨h17, h20, -⟩ := hh;have g17 : f 17=_:=h17;have g20 : f 20=_:=h20;refine tab_plain fun K Q hK => ?_;simp only [puts, Za, Zb, Zc, Zd, Ze, g17, g20];go_step;exact fam_e hK rfl rfl (Below.refl _ _) hC
       ·
        obtain ⟨h21, h17, -⟩ := hh;have g21 : f 21=_:=h21;have g17 : f 17=_:=h17;refine tab_plain fun K Q hK => ?_;simp only [puts, Za, Zb, Zc, Zd, Ze, g21, g17];go_step;exact fam_e hK rfl rfl (Below.refl _ _) hC
       ·
        obtain ⟨h22, -⟩ := hh;have g22 : f 22=_:=h22
        exact tab_no rfl g22 (by decide) rfl
       ·
        obtain ⟨h23, h22, -⟩ := hh;have g23 : f 23=_:=h23;have g22 : f 22=_:=h22
        exact tab_no rfl g22 (by decide) rfl
       ·
        obtain ⟨h24, h22, _, -⟩ := hh;have g24 : f 24=_:=h24;have g22 : f 22=_:=h22
        exact tab_no rfl g22 (by decide) rfl
       ·
        obtain ⟨h25, -⟩ := hh;have g25 : f 25=_:=h25
        exact tab_noU rfl g25 rfl
       ·
        obtain ⟨h26, h25, -⟩ := hh;have g26 : f 26=_:=h26;have g25 : f 25=_:=h25
        exact tab_noU rfl g25 rfl
       ·
        obtain ⟨h25, -⟩ := hh;have g25 : f 25=_:=h25
        exact tab_noU rfl g25 rfl
       ·
        obtain ⟨h28, h25, -⟩ := hh;have g28 : f 28=_:=h28;have g25 : f 25=_:=h25
        exact tab_noU rfl g25 rfl
       ·
        obtain ⟨h27, h29, h25, -⟩ := hh;have g27 : f 27=_:=h27;have g29 : f 29=_:=h29;have g25 : f 25=_:=h25
        exact tab_noU rfl g25 rfl
       ·
        obtain ⟨h30, h25, -⟩ := hh;have g30 : f 30=_:=h30;have g25 : f 25=_:=h25
        exact tab_noU rfl g25 rfl
       ·
        obtain ⟨h25, -⟩ := hh;have g25 : f 25=_:=h25
        exact tab_noU rfl g25 rfl
       ·
        obtain ⟨h31, h32, h25, _, -⟩ := hh;have g31 : f 31=_:=h31;have g32 : f 32=_:=h32;have g25 : f 25=_:=h25
        exact tab_noU rfl g25 rfl
       ·
        obtain ⟨h33, h25, -⟩ := hh;have g33 : f 33=_:=h33;have g25 : f 25=_:=h25
        exact tab_noU rfl g25 rfl
       ·
        obtain ⟨h25, h34, h22, -⟩ := hh;have g25 : f 25=_:=h25;have g34 : f 34=_:=h34;have g22 : f 22=_:=h22
        exact tab_no rfl g22 (by decide) rfl
       ·
        obtain ⟨h22, h35, -⟩ := hh;have g22 : f 22=_:=h22;have g35 : f 35=_:=h35;refine tab_plain fun K Q hK => ?_;simp only [puts, Za, Zb, Zc, Zd, Ze, g22, g35];go_step;exact fam_e hK rfl rfl (Below.refl _ _) hC
      case crest =>
       intro f W2 hC hh
       obtain ⟨h0, h1, h2, h3, h4, h5, h6, h7, h8, h9, h10, h11, h12, h13, h14, h15, h16, h17, h18, h19, h20, h21, h22, h23, h24, h25, h26, h27, h28, h29, h30, h31, h32, h33, h34, h35, h36, -⟩ := hh;have g0 : f 0=_:=h0;have g1 : f 1=_:=h1;have g2 : f 2=_:=h2;have g3 : f 3=_:=h3;have g4 : f 4=_:=h4;have g5 : f 5=_:=h5;have g6 : f 6=_:=h6;have g7 : f 7=_:=h7;have g8 : f 8=_:=h8;have g9 : f 9=_:=h9;have g10 : f 10=_:=h10;have g11 : f 11=_:=h11;have g12 : f 12=_:=h12;have g13 : f 13=_:=h13;have g14 : f 14=_:=h14;have g15 : f 15=_:=h15;have g16 : f 16=_:=h16;have g17 : f 17=_:=h17;have g18 : f 18=_:=h18;have g19 : f 19=_:=h19;have g20 : f 20=_:=h20;have g21 : f 21=_:=h21;have g22 : f 22=_:=h22;have g23 : f 23=_:=h23;have g24 : f 24=_:=h24;have g25 : f 25=_:=h25;have g26 : f 26=_:=h26;have g27 : f 27=_:=h27;have g28 : f 28=_:=h28;have g29 : f 29=_:=h29;have g30 : f 30=_:=h30;have g31 : f 31=_:=h31;have g32 : f 32=_:=h32;have g33 : f 33=_:=h33;have g34 : f 34=_:=h34;have g35 : f 35=_:=h35;have g36 : f 36=_:=h36;simp only [puts, Za, Zb, Zc, Zd, Ze, g0, g1, g2, g3, g4, g5, g6, g7, g8, g9, g10, g11, g12, g13, g14, g15, g16, g17, g18, g19, g20, g21, g22, g23, g24, g25, g26, g27, g28, g29, g30, g31, g32, g33, g34, g35, g36]
       clear h0 h1 h2 h3 h4 h5 h6 h7 h8 h9 h10 h11 h12 h13 h14 h15 h16 h17 h18 h19 h20 h21 h22 h23 h24 h25 h26 h27 h28 h29 h30 h31 h32 h33 h34 h35 h36 g0 g1 g2 g3 g4 g5 g6 g7 g8 g9 g10 g11 g12 g13 g14 g15 g16 g17 g18 g19 g20 g21 g22 g23 g24 g25 g26 g27 g28 g29 g30 g31 g32 g33 g34 g35 g36
       go_wp2
       go_ret
       exact ⟨by rw [← HNO.out HQ.out]; rfl, HBN.out.trans (hC.mono HBN.out.size)⟩
     have q2 : decide (0 ≤ x3 ∧ x3 < n) = true := decide_eq_true h7
     have H7 := Lib.hid h7
     clear h7
     by_cases h8 : x2 < 0
     ·have q3 : decide (x2 < 0) = true := decide_eq_true h8
      have HQ : Hid (¬ ArcOkN n es k) := Lib.hid fun h => by have := h.2.1.1; rw [HX.out] at this; simp only at this; omega
      clear h8
      go_wp2_with (fail)
      refine wp_region_grow mixed (by kernel_rfl) [[], [], [(1, 65)], [(0, 64), (2, 66)], [(3, 67)], [(4, 68), (3, 67)], [(5, 69)], [(5, 69)], [(7, 71), (5, 69)], [(6, 70), (8, 72), (5, 69), (5, 69)], [(9, 73), (5, 69)], [(5, 69), (10, 74)], [(11, 75), (9, 73)], [(12, 76)], [(13, 77), (12, 76)], [(14, 78), (12, 76)], [(12, 76), (15, 79)], [(16, 80), (12, 76)], [(17, 81)], [(18, 82), (17, 81)], [(19, 83), (17, 81)], [(17, 81), (20, 84)], [(21, 85), (17, 81)], [(22, 86)], [(23, 87), (22, 86)], [(24, 88), (22, 86), (22, 86)], [(25, 89)], [(26, 90), (25, 89)], [(25, 89)], [(28, 92), (25, 89)], [(27, 91), (29, 93), (25, 89)], [(30, 94), (25, 89)], [(25, 89)], [(31, 95), (32, 96), (25, 89), (25, 89)], [(33, 97), (25, 89)], [(25, 89), (34, 98), (22, 86)], [(22, 86), (35, 99)]] [(0, 64), (1, 65), (2, 66), (3, 67), (4, 68), (5, 69), (6, 70), (7, 71), (8, 72), (9, 73), (10, 74), (11, 75), (12, 76), (13, 77), (14, 78), (15, 79), (16, 80), (17, 81), (18, 82), (19, 83), (20, 84), (21, 85), (22, 86), (23, 87), (24, 88), (25, 89), (26, 90), (27, 91), (28, 92), (29, 93), (30, 94), (31, 95), (32, 96), (33, 97), (34, 98), (35, 99), (36, 100)] rfl rfl [Ex ?ed0, Ex ?ed1, Ex ?ed2, Ex (.bool true), Ex ?ed4, Ex ?ed5, Ex ?ed6, Ex ?ed7, Ex ?ed8, Ex (.bool true), Ex ?ed10, Ex ?ed11, Ex ?ed12, Ex ?ed13, Ex ?ed14, Ex ?ed15, Ex ?ed16, Ex ?ed17, Ex undef, Ex undef, Ex undef, Ex ?ed21, Ex ?ed22, Ex undef, Ex undef, Ex undef, Ex undef, Ex undef, Ex undef, Ex undef, Ex undef, Ex undef, Ex undef, Ex undef, Ex undef, Ex undef, Ex ?ed36] ⟨stays_ex _, stays_ex _, stays_ex _, stays_ex _, stays_ex _, stays_ex _, stays_ex _, stays_ex _, stays_ex _, stays_ex _, stays_ex _, stays_ex _, stays_ex _, stays_ex _, stays_ex _, stays_ex _, stays_ex _, stays_ex _, stays_ex _, stays_ex _, stays_ex _, stays_ex _, stays_ex _, stays_ex _, stays_ex _, stays_ex _, stays_ex _, stays_ex _, stays_ex _, stays_ex _, stays_ex _, stays_ex _, stays_ex _, stays_ex _, stays_ex _, stays_ex _, stays_ex _, trivial⟩ ?dsteps ?drest
      case dsteps =>
       refine ⟨fun f W hC hh => ?_, fun f W hC hh => ?_, fun f W hC hh => ?_, fun f W hC hh => ?_, fun f W hC hh => ?_, fun f W hC hh => ?_, fun f W hC hh => ?_, fun f W hC hh => ?_, fun f W hC hh => ?_, fun f W hC hh => ?_, fun f W hC hh => ?_, fun f W hC hh => ?_, fun f W hC hh => ?_, fun f W hC hh => ?_, fun f W hC hh => ?_, fun f W hC hh => ?_, fun f W hC hh => ?_, fun f W hC hh => ?_, fun f W hC hh => ?_, fun f W hC hh => ?_, fun f W hC hh => ?_, fun f W hC hh => ?_, fun f W hC hh => ?_, fun f W hC hh => ?_, fun f W hC hh => ?_, fun f W hC hh => ?_, fun f W hC hh => ?_, fun f W hC hh => ?_, fun f W hC hh => ?_, fun f W hC hh => ?_, fun f W hC hh => ?_, fun f W hC hh => ?_, fun f W hC hh => ?_, fun f W hC hh => ?_, fun f W hC hh => ?_, fun f W hC hh => ?_, fun f W hC hh => ?_, trivial⟩
       ·
        refine tab_plain fun K Q hK => ?_;simp only [puts, foldr_nil]
        obtain ⟨⟨f1, f2, f3, f4⟩, f5, f6, f7⟩ := hcm W hC
        go_step;exact fam_e hK rfl rfl (Below.refl _ _) hC
       ·
        refine tab_plain fun K Q hK => ?_;simp only [puts, foldr_nil];go_step;exact fam_e hK rfl rfl (Below.refl _ _) hC
       ·
        obtain ⟨h1, -⟩ := hh;have g1 : f 1=_:=h1;refine tab_plain fun K Q hK => ?_;simp only [puts, Za, Zb, Zc, Zd, Ze, g1]
        obtain ⟨⟨f1, f2, f3, f4⟩, f5, f6, f7⟩ := hcm W hC
        go_step;exact fam_e hK rfl rfl (Below.refl _ _) hC
       ·
        obtain ⟨h0, h2, -⟩ := hh;have g0 : f 0=_:=h0;have g2 : f 2=_:=h2;refine tab_plain fun K Q hK => ?_;simp only [puts, Za, Zb, Zc, Zd, Ze, g0, g2];go_step
        go_at_call 42
        refine (hst x1 W).mono ?_
        rintro e w' ⟨rfl, hb⟩
        rw [q1]
        exact fam_fin hK rfl rfl hb (hC.trans (hb.mono hC.size))
       ·
        obtain ⟨h3, -⟩ := hh;have g3 : f 3=_:=h3;refine tab_plain fun K Q hK => ?_;simp only [puts, Za, Zb, Zc, Zd, Ze, g3];go_step;exact fam_e hK rfl rfl (Below.refl _ _) hC
       ·
        obtain ⟨h4, h3, -⟩ := hh;have g4 : f 4=_:=h4;have g3 : f 3=_:=h3;refine tab_plain fun K Q hK => ?_;simp only [puts, Za, Zb, Zc, Zd, Ze, g4, g3];go_step;exact fam_e hK rfl rfl (Below.refl _ _) hC
       ·
        obtain ⟨h5, -⟩ := hh;have g5 : f 5=_:=h5;refine tab_yes g5 fun K Q hK => ?_;simp only [puts, Za, Zb, Zc, Zd, Ze, g5]
        obtain ⟨⟨f1, f2, f3, f4⟩, f5, f6, f7⟩ := hcm W hC
        go_step;exact fam_e hK rfl rfl (Below.refl _ _) hC
       ·
        obtain ⟨h5, -⟩ := hh;have g5 : f 5=_:=h5;refine tab_yes g5 fun K Q hK => ?_;simp only [puts, Za, Zb, Zc, Zd, Ze, g5];go_step;exact fam_e hK rfl rfl (Below.refl _ _) hC
       ·
        obtain ⟨h7, h5, -⟩ := hh;have g7 : f 7=_:=h7;have g5 : f 5=_:=h5;refine tab_yes g5 fun K Q hK => ?_;simp only [puts, Za, Zb, Zc, Zd, Ze, g7, g5]
        obtain ⟨⟨f1, f2, f3, f4⟩, f5, f6, f7⟩ := hcm W hC
        go_step;exact fam_e hK rfl rfl (Below.refl _ _) hC
       ·
        obtain ⟨h6, h8, h5, _, -⟩ := hh;have g6 : f 6=_:=h6;have g8 : f 8=_:=h8;have g5 : f 5=_:=h5;refine tab_yes g5 fun K Q hK => ?_;simp only [puts, Za, Zb, Zc, Zd, Ze, g6, g8, g5];go_step
        go_at_call 42
        refine (hst x3 W).mono ?_
        rintro e w' ⟨rfl, hb⟩
        rw [q2]
        exact fam_fin hK rfl rfl hb (hC.trans (hb.mono hC.size))
       ·
        obtain ⟨h9, h5, -⟩ := hh;have g9 : f 9=_:=h9;have g5 : f 5=_:=h5;refine tab_yes g5 fun K Q hK => ?_;simp only [puts, Za, Zb, Zc, Zd, Ze, g9, g5];go_step;exact fam_e hK rfl rfl (Below.refl _ _) hC
       ·
        obtain ⟨h5, h10, -⟩ := hh;have g5 : f 5=_:=h5;have g10 : f 10=_:=h10;refine tab_plain fun K Q hK => ?_;simp only [puts, Za, Zb, Zc, Zd, Ze, g5, g10];go_step;exact fam_e hK rfl rfl (Below.refl _ _) hC
       ·
        obtain ⟨h11, h9, -⟩ := hh;have g11 : f 11=_:=h11;have g9 : f 9=_:=h9;refine tab_plain fun K Q hK => ?_;simp only [puts, Za, Zb, Zc, Zd, Ze, g11, g9];go_step;exact fam_e hK rfl rfl (Below.refl _ _) hC
       ·
        obtain ⟨h12, -⟩ := hh;have g12 : f 12=_:=h12;refine tab_yes g12 fun K Q hK => ?_;simp only [puts, Za, Zb, Zc, Zd, Ze, g12];go_step;exact fam_e hK rfl rfl (Below.refl _ _) hC
       ·
        obtain ⟨h13, h12, -⟩ := hh;have g13 : f 13=_:=h13;have g12 : f 12=_:=h12;refine tab_yes g12 fun K Q hK => ?_;simp only [puts, Za, Zb, Zc, Zd, Ze, g13, g12]
        obtain ⟨⟨f1, f2, f3, f4⟩, f5, f6, f7⟩ := hcm W hC
        go_step;exact fam_e hK rfl rfl (Below.refl _ _) hC
       ·
        obtain ⟨h14, h12, -⟩ := hh;have g14 : f 14=_:=h14;have g12 : f 12=_:=h12;refine tab_yes g12 fun K Q hK => ?_;simp only [puts, Za, Zb, Zc, Zd, Ze, g14, g12];go_step;exact fam_e hK rfl rfl (Below.refl _ _) hC
       ·
        obtain ⟨h12, h15, -⟩ := hh;have g12 : f 12=_:=h12;have g15 : f 15=_:=h15;refine tab_plain fun K Q hK => ?_;simp only [puts, Za, Zb, Zc, Zd, Ze, g12, g15];go_step;exact fam_e hK rfl rfl (Below.refl _ _) hC
       ·
        obtain ⟨h16, h12, -⟩ := hh;have g16 : f 16=_:=h16;have g12 : f 12=_:=h12;refine tab_plain fun K Q hK => ?_;simp only [puts, Za, Zb, Zc, Zd, Ze, g16, g12];go_step;exact fam_e hK rfl rfl (Below.refl _ _) hC
       ·
        obtain ⟨h17, -⟩ := hh;have g17 : f 17=_:=h17
        exact tab_no rfl g17 (by decide) rfl
       ·
        obtain ⟨h18, h17, -⟩ := hh;have g18 : f 18=_:=h18;have g17 : f 17=_:=h17
        exact tab_no rfl g17 (by decide) rfl
       ·
        obtain ⟨h19, h17, -⟩ := hh;have g19 : f 19=_:=h19;have g17 : f 17=_:=h17
        exact tab_no rfl g17 (by decide) rfl
       ·
        obtain ⟨h17, h20, -⟩ := hh;have g17 : f 17=_:=h17;have g20 : f 20=_:=h20;refine tab_plain fun K Q hK => ?_;simp only [puts, Za, Zb, Zc, Zd, Ze, g17, g20];go_step;exact fam_e hK rfl rfl (Below.refl _ _) hC
       ·
        obtain ⟨h21, h17, -⟩ := hh;have g21 : f 21=_:=h21;have g17 : f 17=_:=h17;refine tab_plain fun K Q hK => ?_;simp only [puts, Za, Zb, Zc, Zd, Ze, g21, g17];go_step;exact fam_e hK rfl rfl (Below.refl _ _) hC
       ·
        obtain ⟨h22, -⟩ := hh;have g22 : f 22=_:=h22
        exact tab_no rfl g22 (by decide) rfl
       ·
        obtain ⟨h23, h22, -⟩ := hh;have g23 : f 23=_:=h23;have g22 : f 22=_:=h22
        exact tab_no rfl g22 (by decide) rfl
       ·
        obtain ⟨h24, h22, _, -⟩ := hh;have g24 : f 24=_:=h24;have g22 : f 22=_:=h22
        exact tab_no rfl g22 (by decide) rfl
       ·
        obtain ⟨h25, -⟩ := hh;have g25 : f 25=_:=h25
        exact tab_noU rfl g25 rfl
       ·
        obtain ⟨h26, h25, -⟩ := hh;have g26 : f 26=_:=h26;have g25 : f 25=_:=h25
        exact tab_noU rfl g25 rfl
       ·
        obtain ⟨h25, -⟩ := hh;have g25 : f 25=_:=h25
        exact tab_noU rfl g25 rfl
       ·
        obtain ⟨h28, h25, -⟩ := hh;have g28 : f 28=_:=h28;have g25 : f 25=_:=h25
        exact tab_noU rfl g25 rfl
       ·
        obtain ⟨h27, h29, h25, -⟩ := hh;have g27 : f 27=_:=h27;have g29 : f 29=_:=h29;have g25 : f 25=_:=h25
        exact tab_noU rfl g25 rfl
       ·
        obtain ⟨h30, h25, -⟩ := hh;have g30 : f 30=_:=h30;have g25 : f 25=_:=h25
        exact tab_noU rfl g25 rfl
       ·
        obtain ⟨h25, -⟩ := hh;have g25 : f 25=_:=h25
        exact tab_noU rfl g25 rfl
       ·
        obtain ⟨h31, h32, h25, _, -⟩ := hh;have g31 : f 31=_:=h31;have g32 : f 32=_:=h32;have g25 : f 25=_:=h25
        exact tab_noU rfl g25 rfl
       ·
        obtain ⟨h33, h25, -⟩ := hh;have g33 : f 33=_:=h33;have g25 : f 25=_:=h25
        exact tab_noU rfl g25 rfl
       ·
        obtain ⟨h25, h34, h22, -⟩ := hh;have g25 : f 25=_:=h25;have g34 : f 34=_:=h34;have g22 : f 22=_:=h22
        exact tab_no rfl g22 (by decide) rfl
       ·
        obtain ⟨h22, h35, -⟩ := hh;have g22 : f 22=_:=h22;have g35 : f 35=_:=h35;refine tab_plain fun K Q hK => ?_;simp only [puts, Za, Zb, Zc, Zd, Ze, g22, g35];go_step;exact fam_e hK rfl rfl (Below.refl _ _) hC
      case drest =>
       intro f W2 hC hh
       obtain ⟨h0, h1, h2, h3, h4, h5, h6, h7, h8, h9, h10, h11, h12, h13, h14, h15, h16, h17, h18, h19, h20, h21, h22, h23, h24, h25, h26, h27, h28, h29, h30, h31, h32, h33, h34, h35, h36, -⟩ := hh;have g0 : f 0=_:=h0;have g1 : f 1=_:=h1;have g2 : f 2=_:=h2;have g3 : f 3=_:=h3;have g4 : f 4=_:=h4;have g5 : f 5=_:=h5;have g6 : f 6=_:=h6;have g7 : f 7=_:=h7;have g8 : f 8=_:=h8;have g9 : f 9=_:=h9;have g10 : f 10=_:=h10;have g11 : f 11=_:=h11;have g12 : f 12=_:=h12;have g13 : f 13=_:=h13;have g14 : f 14=_:=h14;have g15 : f 15=_:=h15;have g16 : f 16=_:=h16;have g17 : f 17=_:=h17;have g18 : f 18=_:=h18;have g19 : f 19=_:=h19;have g20 : f 20=_:=h20;have g21 : f 21=_:=h21;have g22 : f 22=_:=h22;have g23 : f 23=_:=h23;have g24 : f 24=_:=h24;have g25 : f 25=_:=h25;have g26 : f 26=_:=h26;have g27 : f 27=_:=h27;have g28 : f 28=_:=h28;have g29 : f 29=_:=h29;have g30 : f 30=_:=h30;have g31 : f 31=_:=h31;have g32 : f 32=_:=h32;have g33 : f 33=_:=h33;have g34 : f 34=_:=h34;have g35 : f 35=_:=h35;have g36 : f 36=_:=h36;simp only [puts, Za, Zb, Zc, Zd, Ze, g0, g1, g2, g3, g4, g5, g6, g7, g8, g9, g10, g11, g12, g13, g14, g15, g16, g17, g18, g19, g20, g21, g22, g23, g24, g25, g26, g27, g28, g29, g30, g31, g32, g33, g34, g35, g36]
       clear h0 h1 h2 h3 h4 h5 h6 h7 h8 h9 h10 h11 h12 h13 h14 h15 h16 h17 h18 h19 h20 h21 h22 h23 h24 h25 h26 h27 h28 h29 h30 h31 h32 h33 h34 h35 h36 g0 g1 g2 g3 g4 g5 g6 g7 g8 g9 g10 g11 g12 g13 g14 g15 g16 g17 g18 g19 g20 g21 g22 g23 g24 g25 g26 g27 g28 g29 g30 g31 g32 g33 g34 g35 g36
       go_wp2
       go_ret
       exact ⟨by rw [← HNO.out HQ.out]; rfl, HBN.out.trans (hC.mono HBN.out.size)⟩
     have q3 : decide (x2 < 0) = false := decide_eq_false h8
     by_cases h9 : 10000 < x2
     ·have q4 : decide (10000 < x2) = true := decide_eq_true h9
      have HQ : Hid (¬ ArcOkN n es k) := Lib.hid fun h => by have := h.2.1.2; rw [HX.out] at this; simp only at this; omega
      clear h9 h8
      go_wp2_with (fail)
      refine wp_region_grow mixed (by kernel_rfl) [[], [], [(1, 65)], [(0, 64), (2, 66)], [(3, 67)], [(4, 68), (3, 67)], [(5, 69)], [(5, 69)], [(7, 71), (5, 69)], [(6, 70), (8, 72), (5, 69), (5, 69)], [(9, 73), (5, 69)], [(5, 69), (10, 74)], [(11, 75), (9, 73)], [(12, 76)], [(13, 77), (12, 76)], [(14, 78), (12, 76)], [(12, 76), (15, 79)], [(16, 80), (12, 76)], [(17, 81)], [(18, 82), (17, 81)], [(19, 83), (17, 81)], [(17, 81), (20, 84)], [(21, 85), (17, 81)], [(22, 86)], [(23, 87), (22, 86)], [(24, 88), (22, 86), (22, 86)], [(25, 89)], [(26, 90), (25, 89)], [(25, 89)], [(28, 92), (25, 89)], [(27, 91), (29, 93), (25, 89)], [(30, 94), (25, 89)], [(25, 89)], [(31, 95), (32, 96), (25, 89), (25, 89)], [(33, 97), (25, 89)], [(25, 89), (34, 98), (22, 86)], [(22, 86), (35, 99)]] [(0, 64), (1, 65), (2, 66), (3, 67), (4, 68), (5, 69), (6, 70), (7, 71), (8, 72), (9, 73), (10, 74), (11, 75), (12, 76), (13, 77), (14, 78), (15, 79), (16, 80), (17, 81), (18, 82), (19, 83), (20, 84), (21, 85), (22, 86), (23, 87), (24, 88), (25, 89), (26, 90), (27, 91), (28, 92), (29, 93), (30, 94), (31, 95), (32, 96), (33, 97), (34, 98), (35, 99), (36, 100)] rfl rfl [Ex ?ee0, Ex ?ee1, Ex ?ee2, Ex (.bool true), Ex ?ee4, Ex ?ee5, Ex ?ee6, Ex ?ee7, Ex ?ee8, Ex (.bool true), Ex ?ee10, Ex ?ee11, Ex ?ee12, Ex ?ee13, Ex ?ee14, Ex ?ee15, Ex ?ee16, Ex ?ee17, Ex ?ee18, Ex ?ee19, Ex ?ee20, Ex ?ee21, Ex ?ee22, Ex undef, Ex undef, Ex undef, Ex undef, Ex undef, Ex undef, Ex undef, Ex undef, Ex undef, Ex undef, Ex undef, Ex undef, Ex undef, Ex ?ee36] ⟨stays_ex _, stays_ex _, stays_ex _, stays_ex _, stays_ex _, stays_ex _, stays_ex _, stays_ex _, stays_ex _, stays_ex _, stays_ex _, stays_ex _, stays_ex _, stays_ex _, stays_ex _, stays_ex _, stays_ex _, stays_ex _, stays_ex _, stays_ex _, stays_ex _, stays_ex _, stays_ex _, stays_ex _, stays_ex _, stays_ex _, stays_ex _, stays_ex _, stays_ex _, stays_ex _, stays_ex _, stays_ex _, stays_ex _, stays_ex _, stays_ex _, stays_ex _, stays_ex _, trivial⟩ ?esteps ?erest
      case esteps =>
       refine ⟨fun f W hC hh => ?_, fun f W hC hh => ?_, fun f W hC hh => ?_, fun f W hC hh => ?_, fun f W hC hh => ?_, fun f W hC hh => ?_, fun f W hC hh => ?_, fun f W hC hh => ?_, fun f W hC hh => ?_, fun f W hC hh => ?_, fun f W hC hh => ?_, fun f W hC hh => ?_, fun f W hC hh => ?_, fun f W hC hh => ?_, fun f W hC hh => ?_, fun f W hC hh => ?_, fun f W hC hh => ?_, fun f W hC hh => ?_, fun f W hC hh => ?_, fun f W hC hh => ?_, fun f W hC hh => ?_, fun f W hC hh => ?_, fun f W hC hh => ?_, fun f W hC hh => ?_, fun f W hC hh => ?_, fun f W hC hh => ?_, fun f W hC hh => ?_, fun f W hC hh => ?_, fun f W hC hh => ?_, fun f W hC hh => ?_, fun f W hC hh => ?_, fun f W hC hh => ?_, fun f W hC hh => ?_, fun f W hC hh => ?_, fun f W hC hh => ?_, fun f W hC hh => ?_, fun f W hC hh => ?_, trivial⟩
       ·
        refine tab_plain fun K Q hK => ?_;simp only [puts, foldr_nil]
        obtain ⟨⟨f1, f2, f3, f4⟩, f5, f6, f7⟩ := hcm W hC
        go_step;exact fam_e hK rfl rfl (Below.refl _ _) hC
       ·
        refine tab_plain fun K Q hK => ?_;simp only [puts, foldr_nil];go_step;exact fam_e hK rfl rfl (Below.refl _ _) hC
       ·
        obtain ⟨h1, -⟩ := hh;have g1 : f 1=_:=h1;refine tab_plain fun K Q hK => ?_;simp only [puts, Za, Zb, Zc, Zd, Ze, g1]
        obtain ⟨⟨f1, f2, f3, f4⟩, f5, f6, f7⟩ := hcm W hC
        go_step;exact fam_e hK rfl rfl (Below.refl _ _) hC
       ·
        obtain ⟨h0, h2, -⟩ := hh;have g0 : f 0=_:=h0;have g2 : f 2=_:=h2;refine tab_plain fun K Q hK => ?_;simp only [puts, Za, Zb, Zc, Zd, Ze, g0, g2];go_step
        go_at_call 42
        refine (hst x1 W).mono ?_
        rintro e w' ⟨rfl, hb⟩
        rw [q1]
        exact fam_fin hK rfl rfl hb (hC.trans (hb.mono hC.size))
       ·
        obtain ⟨h3, -⟩ := hh;have g3 : f 3=_:=h3;refine tab_plain fun K Q hK => ?_;simp only [puts, Za, Zb, Zc, Zd, Ze, g3];go_step;exact fam_e hK rfl rfl (Below.refl _ _) hC
       ·
        obtain ⟨h4, h3, -⟩ := hh;have g4 : f 4=_:=h4;have g3 : f 3=_:=h3;refine tab_plain fun K Q hK => ?_;simp only [puts, Za, Zb, Zc, Zd, Ze, g4, g3];go_step;exact fam_e hK rfl rfl (Below.refl _ _) hC
       ·
        obtain ⟨h5, -⟩ := hh;have g5 : f 5=_:=h5;refine tab_yes g5 fun K Q hK => ?_;simp only [puts, Za, Zb, Zc, Zd, Ze, g5]
        obtain ⟨⟨f1, f2, f3, f4⟩, f5, f6, f7⟩ := hcm W hC
        go_step;exact fam_e hK rfl rfl (Below.refl _ _) hC
       ·
        obtain ⟨h5, -⟩ := hh;have g5 : f 5=_:=h5;refine tab_yes g5 fun K Q hK => ?_;simp only [puts, Za, Zb, Zc, Zd, Ze, g5];go_step;exact fam_e hK rfl rfl (Below.refl _ _) hC
       ·
        obtain ⟨h7, h5, -⟩ := hh;have g7 : f 7=_:=h7;have g5 : f 5=_:=h5;refine tab_yes g5 fun K Q hK => ?_;simp only [puts, Za, Zb, Zc, Zd, Ze, g7, g5]
        obtain ⟨⟨f1, f2, f3, f4⟩, f5, f6, f7⟩ := hcm W hC
        go_step;exact fam_e hK rfl rfl (Below.refl _ _) hC
       ·
        obtain ⟨h6, h8, h5, _, -⟩ := hh;have g6 : f 6=_:=h6;have g8 : f 8=_:=h8;have g5 : f 5=_:=h5;refine tab_yes g5 fun K Q hK => ?_;simp only [puts, Za, Zb, Zc, Zd, Ze, g6, g8, g5];go_step
        go_at_call 42
        refine (hst x3 W).mono ?_
        rintro e w' ⟨rfl, hb⟩
        rw [q2]
        exact fam_fin hK rfl rfl hb (hC.trans (hb.mono hC.size))
       ·
        obtain ⟨h9, h5, -⟩ := hh;have g9 : f 9=_:=h9;have g5 : f 5=_:=h5;refine tab_yes g5 fun K Q hK => ?_;simp only [puts, Za, Zb, Zc, Zd, Ze, g9, g5];go_step;exact fam_e hK rfl rfl (Below.refl _ _) hC
       ·
        obtain ⟨h5, h10, -⟩ := hh;have g5 : f 5=_:=h5;have g10 : f 10=_:=h10;refine tab_plain fun K Q hK => ?_;simp only [puts, Za, Zb, Zc, Zd, Ze, g5, g10];go_step;exact fam_e hK rfl rfl (Below.refl _ _) hC
       ·
        obtain ⟨h11, h9, -⟩ := hh;have g11 : f 11=_:=h11;have g9 : f 9=_:=h9;refine tab_plain fun K Q hK => ?_;simp only [puts, Za, Zb, Zc, Zd, Ze, g11, g9];go_step;exact fam_e hK rfl rfl (Below.refl _ _) hC
       ·
        obtain ⟨h12, -⟩ := hh;have g12 : f 12=_:=h12;refine tab_yes g12 fun K Q hK => ?_;simp only [puts, Za, Zb, Zc, Zd, Ze, g12];go_step;exact fam_e hK rfl rfl (Below.refl _ _) hC
       ·
        obtain ⟨h13, h12, -⟩ := hh;have g13 : f 13=_:=h13;have g12 : f 12=_:=h12;refine tab_yes g12 fun K Q hK => ?_;simp only [puts, Za, Zb, Zc, Zd, Ze, g13, g12]
        obtain ⟨⟨f1, f2, f3, f4⟩, f5, f6, f7⟩ := hcm W hC
        go_step;exact fam_e hK rfl rfl (Below.refl _ _) hC
       ·
        obtain ⟨h14, h12, -⟩ := hh;have g14 : f 14=_:=h14;have g12 : f 12=_:=h12;refine tab_yes g12 fun K Q hK => ?_;simp only [puts, Za, Zb, Zc, Zd, Ze, g14, g12];go_step;exact fam_e hK rfl rfl (Below.refl _ _) hC
       ·
        obtain ⟨h12, h15, -⟩ := hh;have g12 : f 12=_:=h12;have g15 : f 15=_:=h15;refine tab_plain fun K Q hK => ?_;simp only [puts, Za, Zb, Zc, Zd, Ze, g12, g15];go_step;exact fam_e hK rfl rfl (Below.refl _ _) hC
       ·
        obtain ⟨h16, h12, -⟩ := hh;have g16 : f 16=_:=h16;have g12 : f 12=_:=h12;refine tab_plain fun K Q hK => ?_;simp only [puts, Za, Zb, Zc, Zd, Ze, g16, g12];go_step;exact fam_e hK rfl rfl (Below.refl _ _) hC
       ·
        obtain ⟨h17, -⟩ := hh;have g17 : f 17=_:=h17;refine tab_yes g17 fun K Q hK => ?_;simp only [puts, Za, Zb, Zc, Zd, Ze, g17];go_step;exact fam_e hK rfl rfl (Below.refl _ _) hC
       ·
        obtain ⟨h18, h17, -⟩ := hh;have g18 : f 18=_:=h18;have g17 : f 17=_:=h17;refine tab_yes g17 fun K Q hK => ?_;simp only [puts, Za, Zb, Zc, Zd, Ze, g18, g17]
        obtain ⟨⟨f1, f2, f3, f4⟩, f5, f6, f7⟩ := hcm W hC
        go_step;exact fam_e hK rfl rfl (Below.refl _ _) hC
       ·
        obtain ⟨h19, h17, -⟩ := hh;have g19 : f 19=_:=h19;have g17 : f 17=_:=h17;refine tab_yes g17 fun K Q hK => ?_;simp only [puts, Za, Zb, Zc, Zd, Ze, g19, g17];go_step;exact fam_e hK rfl rfl (Below.refl _ _) hC
       ·
        obtain ⟨h17, h20, -⟩ := hh;have g17 : f 17=_:=h17;have g20 : f 20=_:=h20;refine tab_plain fun K Q hK => ?_;simp only [puts, Za, Zb, Zc, Zd, Ze, g17, g20];go_step;exact fam_e hK rfl rfl (Below.refl _ _) hC
       ·
        obtain ⟨h21, h17, -⟩ := hh;have g21 : f 21=_:=h21;have g17 : f 17=_:=h17;refine tab_plain fun K Q hK => ?_;simp only [puts, Za, Zb, Zc, Zd, Ze, g21, g17];go_step;exact fam_e hK rfl rfl (Below.refl _ _) hC
       ·
        obtain ⟨h22, -⟩ := hh;have g22 : f 22=_:=h22
        exact tab_no rfl g22 (by decide) rfl
       ·
        obtain ⟨h23, h22, -⟩ := hh;have g23 : f 23=_:=h23;have g22 : f 22=_:=h22
        exact tab_no rfl g22 (by decide) rfl
       ·
        obtain ⟨h24, h22, _, -⟩ := hh;have g24 : f 24=_:=h24;have g22 : f 22=_:=h22
        exact tab_no rfl g22 (by decide) rfl
       ·
        obtain ⟨h25, -⟩ := hh;have g25 : f 25=_:=h25
        exact tab_noU rfl g25 rfl
       ·
        obtain ⟨h26, h25, -⟩ := hh;have g26 : f 26=_:=h26;have g25 : f 25=_:=h25
        exact tab_noU rfl g25 rfl
       ·
        obtain ⟨h25, -⟩ := hh;have g25 : f 25=_:=h25
        exact tab_noU rfl g25 rfl
       ·
        obtain ⟨h28, h25, -⟩ := hh;have g28 : f 28=_:=h28;have g25 : f 25=_:=h25
        exact tab_noU rfl g25 rfl
       ·
        obtain ⟨h27, h29, h25, -⟩ := hh;have g27 : f 27=_:=h27;have g29 : f 29=_:=h29;have g25 : f 25=_:=h25
        exact tab_noU rfl g25 rfl
       ·
        obtain ⟨h30, h25, -⟩ := hh;have g30 : f 30=_:=h30;have g25 : f 25=_:=h25
        exact tab_noU rfl g25 rfl
       ·
        obtain ⟨h25, -⟩ := hh;have g25 : f 25=_:=h25
        exact tab_noU rfl g25 rfl
       ·
        obtain ⟨h31, h32, h25, _, -⟩ := hh;have g31 : f 31=_:=h31;have g32 : f 32=_:=h32;have g25 : f 25=_:=h25
        exact tab_noU rfl g25 rfl
       ·
        obtain ⟨h33, h25, -⟩ := hh;have g33 : f 33=_:=h33;have g25 : f 25=_:=h25
        exact tab_noU rfl g25 rfl
       ·
        obtain ⟨h25, h34, h22, -⟩ := hh;have g25 : f 25=_:=h25;have g34 : f 34=_:=h34;have g22 : f 22=_:=h22
        exact tab_no rfl g22 (by decide) rfl
       ·
        obtain ⟨h22, h35, -⟩ := hh;have g22 : f 22=_:=h22;have g35 : f 35=_:=h35;refine tab_plain fun K Q hK => ?_;simp only [puts, Za, Zb, Zc, Zd, Ze, g22, g35];go_step;exact fam_e hK rfl rfl (Below.refl _ _) hC
      case erest =>
       intro f W2 hC hh
       obtain ⟨h0, h1, h2, h3, h4, h5, h6, h7, h8, h9, h10, h11, h12, h13, h14, h15, h16, h17, h18, h19, h20, h21, h22, h23, h24, h25, h26, h27, h28, h29, h30, h31, h32, h33, h34, h35, h36, -⟩ := hh;have g0 : f 0=_:=h0;have g1 : f 1=_:=h1;have g2 : f 2=_:=h2;have g3 : f 3=_:=h3;have g4 : f 4=_:=h4;have g5 : f 5=_:=h5;have g6 : f 6=_:=h6;have g7 : f 7=_:=h7;have g8 : f 8=_:=h8;have g9 : f 9=_:=h9;have g10 : f 10=_:=h10;have g11 : f 11=_:=h11;have g12 : f 12=_:=h12;have g13 : f 13=_:=h13;have g14 : f 14=_:=h14;have g15 : f 15=_:=h15;have g16 : f 16=_:=h16;have g17 : f 17=_:=h17;have g18 : f 18=_:=h18;have g19 : f 19=_:=h19;have g20 : f 20=_:=h20;have g21 : f 21=_:=h21;have g22 : f 22=_:=h22;have g23 : f 23=_:=h23;have g24 : f 24=_:=h24;have g25 : f 25=_:=h25;have g26 : f 26=_:=h26;have g27 : f 27=_:=h27;have g28 : f 28=_:=h28;have g29 : f 29=_:=h29;have g30 : f 30=_:=h30;have g31 : f 31=_:=h31;have g32 : f 32=_:=h32;have g33 : f 33=_:=h33;have g34 : f 34=_:=h34;have g35 : f 35=_:=h35;have g36 : f 36=_:=h36;simp only [puts, Za, Zb, Zc, Zd, Ze, g0, g1, g2, g3, g4, g5, g6, g7, g8, g9, g10, g11, g12, g13, g14, g15, g16, g17, g18, g19, g20, g21, g22, g23, g24, g25, g26, g27, g28, g29, g30, g31, g32, g33, g34, g35, g36]
       clear h0 h1 h2 h3 h4 h5 h6 h7 h8 h9 h10 h11 h12 h13 h14 h15 h16 h17 h18 h19 h20 h21 h22 h23 h24 h25 h26 h27 h28 h29 h30 h31 h32 h33 h34 h35 h36 g0 g1 g2 g3 g4 g5 g6 g7 g8 g9 g10 g11 g12 g13 g14 g15 g16 g17 g18 g19 g20 g21 g22 g23 g24 g25 g26 g27 g28 g29 g30 g31 g32 g33 g34 g35 g36
       go_wp2
       go_ret
       exact ⟨by rw [← HNO.out HQ.out]; rfl, HBN.out.trans (hC.mono HBN.out.size)⟩
     have q4 : decide (10000 < x2) = false := decide_eq_false h9
     have H8 := Lib.hid (show 0 ≤ x2 ∧ x2 ≤ 10000 by omega)
     clear h8 h9
     by_cases h10 : k = 0
     ·have q5 : decide (0 < k) = false := decide_eq_false (by omega)
      have HK0 := Lib.hid h10
      clear h10
      go_wp2_with (fail)
      refine wp_region_grow mixed (by kernel_rfl) [[], [], [(1, 65)], [(0, 64), (2, 66)], [(3, 67)], [(4, 68), (3, 67)], [(5, 69)], [(5, 69)], [(7, 71), (5, 69)], [(6, 70), (8, 72), (5, 69), (5, 69)], [(9, 73), (5, 69)], [(5, 69), (10, 74)], [(11, 75), (9, 73)], [(12, 76)], [(13, 77), (12, 76)], [(14, 78), (12, 76)], [(12, 76), (15, 79)], [(16, 80), (12, 76)], [(17, 81)], [(18, 82), (17, 81)], [(19, 83), (17, 81)], [(17, 81), (20, 84)], [(21, 85), (17, 81)], [(22, 86)], [(23, 87), (22, 86)], [(24, 88), (22, 86), (22, 86)], [(25, 89)], [(26, 90), (25, 89)], [(25, 89)], [(28, 92), (25, 89)], [(27, 91), (29, 93), (25, 89)], [(30, 94), (25, 89)], [(25, 89)], [(31, 95), (32, 96), (25, 89), (25, 89)], [(33, 97), (25, 89)], [(25, 89), (34, 98), (22, 86)], [(22, 86), (35, 99)]] [(0, 64), (1, 65), (2, 66), (3, 67), (4, 68), (5, 69), (6, 70), (7, 71), (8, 72), (9, 73), (10, 74), (11, 75), (12, 76), (13, 77), (14, 78), (15, 79), (16, 80), (17, 81), (18, 82), (19, 83), (20, 84), (21, 85), (22, 86), (23, 87), (24, 88), (25, 89), (26, 90), (27, 91), (28, 92), (29, 93), (30, 94), (31, 95), (32, 96), (33, 97), (34, 98), (35, 99), (36, 100)] rfl rfl [Ex ?ef0, Ex ?ef1, Ex ?ef2, Ex (.bool true), Ex ?ef4, Ex ?ef5, Ex ?ef6, Ex ?ef7, Ex ?ef8, Ex (.bool true), Ex ?ef10, Ex ?ef11, Ex ?ef12, Ex ?ef13, Ex ?ef14, Ex ?ef15, Ex ?ef16, Ex ?ef17, Ex ?ef18, Ex ?ef19, Ex ?ef20, Ex ?ef21, Ex ?ef22, Ex ?ef23, Ex ?ef24, Ex ?ef25, Ex undef, Ex undef, Ex undef, Ex undef, Ex undef, Ex undef, Ex undef, Ex undef, Ex undef, Ex ?ef35, Ex ?ef36] ⟨stays_ex _, stays_ex _, stays_ex _, stays_ex _, stays_ex _, stays_ex _, stays_ex _, stays_ex _, stays_ex _, stays_ex _, stays_ex _, stays_ex _, stays_ex _, stays_ex _, stays_ex _, stays_ex _, stays_ex _, stays_ex _, stays_ex _, stays_ex _, stays_ex _, stays_ex _, stays_ex _, stays_ex _, stays_ex _, stays_ex _, stays_ex _, stays_ex _, stays_ex _, stays_ex _, stays_ex _, stays_ex _, stays_ex _, stays_ex _, stays_ex _, stays_ex _, stays_ex _, trivial⟩ ?fsteps ?frest
      case fsteps =>
       refine ⟨fun f W hC hh => ?_, fun f W hC hh => ?_, fun f W hC hh => ?_, fun f W hC hh => ?_, fun f W hC hh => ?_, fun f W hC hh => ?_, fun f W hC hh => ?_, fun f W hC hh => ?_, fun f W hC hh => ?_, fun f W hC hh => ?_, fun f W hC hh => ?_, fun f W hC hh => ?_, fun f W hC hh => ?_, fun f W hC hh => ?_, fun f W hC hh => ?_, fun f W hC hh => ?_, fun f W hC hh => ?_, fun f W hC hh => ?_, fun f W hC hh => ?_, fun f W hC hh => ?_, fun f W hC hh => ?_, fun f W hC hh => ?_, fun f W hC hh => ?_, fun f W hC hh => ?_, fun f W hC hh => ?_, fun f W hC hh => ?_, fun f W hC hh => ?_, fun f W hC hh => ?_, fun f W hC hh => ?_, fun f W hC hh => ?_, fun f W hC hh => ?_, fun f W hC hh => ?_, fun f W hC hh => ?_, fun f W hC hh => ?_, fun f W hC hh => ?_, fun f W hC hh => ?_, fun f W hC hh => ?_, trivial⟩
       ·
        refine tab_plain fun K Q hK => ?_;simp only [puts, foldr_nil]
        obtain ⟨⟨f1, f2, f3, f4⟩, f5, f6, f7⟩ := hcm W hC
        go_step;exact fam_e hK rfl rfl (Below.refl _ _) hC
       ·
        refine tab_plain fun K Q hK => ?_;simp only [puts, foldr_nil];go_step;exact fam_e hK rfl rfl (Below.refl _ _) hC
       ·
        obtain ⟨h1, -⟩ := hh;have g1 : f 1=_:=h1;refine tab_plain fun K Q hK => ?_;simp only [puts, Za, Zb, Zc, Zd, Ze, g1]
        obtain ⟨⟨f1, f2, f3, f4⟩, f5, f6, f7⟩ := hcm W hC
        go_step;exact fam_e hK rfl rfl (Below.refl _ _) hC
       ·
        obtain ⟨h0, h2, -⟩ := hh;have g0 : f 0=_:=h0;have g2 : f 2=_:=h2;refine tab_plain fun K Q hK => ?_;simp only [puts, Za, Zb, Zc, Zd, Ze, g0, g2];go_step
        go_at_call 42
        refine (hst x1 W).mono ?_
        rintro e w' ⟨rfl, hb⟩
        rw [q1]
        exact fam_fin hK rfl rfl hb (hC.trans (hb.mono hC.size))
       ·
        obtain ⟨h3, -⟩ := hh;have g3 : f 3=_:=h3;refine tab_plain fun K Q hK => ?_;simp only [puts, Za, Zb, Zc, Zd, Ze, g3];go_step;exact fam_e hK rfl rfl (Below.refl _ _) hC
       ·
        obtain ⟨h4, h3, -⟩ := hh;have g4 : f 4=_:=h4;have g3 : f 3=_:=h3;refine tab_plain fun K Q hK => ?_;simp only [puts, Za, Zb, Zc, Zd, Ze, g4, g3];go_step;exact fam_e hK rfl rfl (Below.refl _ _) hC
       ·
        obtain ⟨h5, -⟩ := hh;have g5 : f 5=_:=h5;refine tab_yes g5 fun K Q hK => ?_;simp only [puts, Za, Zb, Zc, Zd, Ze, g5]
        obtain ⟨⟨f1, f2, f3, f4⟩, f5, f6, f7⟩ := hcm W hC
        go_step;exact fam_e hK rfl rfl (Below.refl _ _) hC
       ·
        obtain ⟨h5, -⟩ := hh;have g5 : f 5=_:=h5;refine tab_yes g5 fun K Q hK => ?_;simp only [puts, Za, Zb, Zc, Zd, Ze, g5];go_step;exact fam_e hK rfl rfl (Below.refl _ _) hC
       ·
        obtain ⟨h7, h5, -⟩ := hh;have g7 : f 7=_:=h7;have g5 : f 5=_:=h5;refine tab_yes g5 fun K Q hK => ?_;simp only [puts, Za, Zb, Zc, Zd, Ze, g7, g5]
        obtain ⟨⟨f1, f2, f3, f4⟩, f5, f6, f7⟩ := hcm W hC
        go_step;exact fam_e hK rfl rfl (Below.refl _ _) hC
       ·
        obtain ⟨h6, h8, h5, _, -⟩ := hh;have g6 : f 6=_:=h6;have g8 : f 8=_:=h8;have g5 : f 5=_:=h5;refine tab_yes g5 fun K Q hK => ?_;simp only [puts, Za, Zb, Zc, Zd, Ze, g6, g8, g5];go_step
        go_at_call 42
        refine (hst x3 W).mono ?_
        rintro e w' ⟨rfl, hb⟩
        rw [q2]
        exact fam_fin hK rfl rfl hb (hC.trans (hb.mono hC.size))
       ·
        obtain ⟨h9, h5, -⟩ := hh;have g9 : f 9=_:=h9;have g5 : f 5=_:=h5;refine tab_yes g5 fun K Q hK => ?_;simp only [puts, Za, Zb, Zc, Zd, Ze, g9, g5];go_step;exact fam_e hK rfl rfl (Below.refl _ _) hC
       ·
        obtain ⟨h5, h10, -⟩ := hh;have g5 : f 5=_:=h5;have g10 : f 10=_:=h10;refine tab_plain fun K Q hK => ?_;simp only [puts, Za, Zb, Zc, Zd, Ze, g5, g10];go_step;exact fam_e hK rfl rfl (Below.refl _ _) hC
       ·
        obtain ⟨h11, h9, -⟩ := hh;have g11 : f 11=_:=h11;have g9 : f 9=_:=h9;refine tab_plain fun K Q hK => ?_;simp only [puts, Za, Zb, Zc, Zd, Ze, g11, g9];go_step;exact fam_e hK rfl rfl (Below.refl _ _) hC
       ·
        obtain ⟨h12, -⟩ := hh;have g12 : f 12=_:=h12;refine tab_yes g12 fun K Q hK => ?_;simp only [puts, Za, Zb, Zc, Zd, Ze, g12];go_step;exact fam_e hK rfl rfl (Below.refl _ _) hC
       ·
        obtain ⟨h13, h12, -⟩ := hh;have g13 : f 13=_:=h13;have g12 : f 12=_:=h12;refine tab_yes g12 fun K Q hK => ?_;simp only [puts, Za, Zb, Zc, Zd, Ze, g13, g12]
        obtain ⟨⟨f1, f2, f3, f4⟩, f5, f6, f7⟩ := hcm W hC
        go_step;exact fam_e hK rfl rfl (Below.refl _ _) hC
       ·
        obtain ⟨h14, h12, -⟩ := hh;have g14 : f 14=_:=h14;have g12 : f 12=_:=h12;refine tab_yes g12 fun K Q hK => ?_;simp only [puts, Za, Zb, Zc, Zd, Ze, g14, g12];go_step;exact fam_e hK rfl rfl (Below.refl _ _) hC
       ·
        obtain ⟨h12, h15, -⟩ := hh;have g12 : f 12=_:=h12;have g15 : f 15=_:=h15;refine tab_plain fun K Q hK => ?_;simp only [puts, Za, Zb, Zc, Zd, Ze, g12, g15];go_step;exact fam_e hK rfl rfl (Below.refl _ _) hC
       ·
        obtain ⟨h16, h12, -⟩ := hh;have g16 : f 16=_:=h16;have g12 : f 12=_:=h12;refine tab_plain fun K Q hK => ?_;simp only [puts, Za, Zb, Zc, Zd, Ze, g16, g12];go_step;exact fam_e hK rfl rfl (Below.refl _ _) hC
       ·
        obtain ⟨h17, -⟩ := hh;have g17 : f 17=_:=h17;refine tab_yes g17 fun K Q hK => ?_;simp only [puts, Za, Zb, Zc, Zd, Ze, g17];go_step;exact fam_e hK rfl rfl (Below.refl _ _) hC
       ·
        obtain ⟨h18, h17, -⟩ := hh;have g18 : f 18=_:=h18;have g17 : f 17=_:=h17;refine tab_yes g17 fun K Q hK => ?_;simp only [puts, Za, Zb, Zc, Zd, Ze, g18, g17]
        obtain ⟨⟨f1, f2, f3, f4⟩, f5, f6, f7⟩ := hcm W hC
        go_step;exact fam_e hK rfl rfl (Below.refl _ _) hC
       ·
        obtain ⟨h19, h17, -⟩ := hh;have g19 : f 19=_:=h19;have g17 : f 17=_:=h17;refine tab_yes g17 fun K Q hK => ?_;simp only [puts, Za, Zb, Zc, Zd, Ze, g19, g17];go_step;exact fam_e hK rfl rfl (Below.refl _ _) hC
       ·
        obtain ⟨h17, h20, -⟩ := hh;have g17 : f 17=_:=h17;have g20 : f 20=_:=h20;refine tab_plain fun K Q hK => ?_;simp only [puts, Za, Zb, Zc, Zd, Ze, g17, g20];go_step;exact fam_e hK rfl rfl (Below.refl _ _) hC
       ·
        obtain ⟨h21, h17, -⟩ := hh;have g21 : f 21=_:=h21;have g17 : f 17=_:=h17;refine tab_plain fun K Q hK => ?_;simp only [puts, Za, Zb, Zc, Zd, Ze, g21, g17];go_step;exact fam_e hK rfl rfl (Below.refl _ _) hC
       ·
        obtain ⟨h22, -⟩ := hh;have g22 : f 22=_:=h22;refine tab_yes g22 fun K Q hK => ?_;simp only [puts, Za, Zb, Zc, Zd, Ze, g22];go_step;exact fam_e hK rfl rfl (Below.refl _ _) hC
       ·
        obtain ⟨h23, h22, -⟩ := hh;have g23 : f 23=_:=h23;have g22 : f 22=_:=h22;refine tab_yes g22 fun K Q hK => ?_;simp only [puts, Za, Zb, Zc, Zd, Ze, g23, g22];go_step;exact fam_e hK rfl rfl (Below.refl _ _) hC
       ·
        obtain ⟨h24, h22, _, -⟩ := hh;have g24 : f 24=_:=h24;have g22 : f 22=_:=h22;refine tab_yes g22 fun K Q hK => ?_;simp only [puts, Za, Zb, Zc, Zd, Ze, g24, g22];go_step;exact fam_e hK rfl rfl (Below.refl _ _) hC
       ·
        obtain ⟨h25, -⟩ := hh;have g25 : f 25=_:=h25
        exact tab_no rfl g25 (by decide) rfl
       ·
        obtain ⟨h26, h25, -⟩ := hh;have g26 : f 26=_:=h26;have g25 : f 25=_:=h25
        exact tab_no rfl g25 (by decide) rfl
       ·
        obtain ⟨h25, -⟩ := hh;have g25 : f 25=_:=h25
        exact tab_no rfl g25 (by decide) rfl
       ·
        obtain ⟨h28, h25, -⟩ := hh;have g28 : f 28=_:=h28;have g25 : f 25=_:=h25
        exact tab_no rfl g25 (by decide) rfl
       ·
        obtain ⟨h27, h29, h25, -⟩ := hh;have g27 : f 27=_:=h27;have g29 : f 29=_:=h29;have g25 : f 25=_:=h25
        exact tab_no rfl g25 (by decide) rfl
       ·
        obtain ⟨h30, h25, -⟩ := hh;have g30 : f 30=_:=h30;have g25 : f 25=_:=h25
        exact tab_no rfl g25 (by decide) rfl
       ·
        obtain ⟨h25, -⟩ := hh;have g25 : f 25=_:=h25
        exact tab_no rfl g25 (by decide) rfl
       ·
        obtain ⟨h31, h32, h25, _, -⟩ := hh;have g31 : f 31=_:=h31;have g32 : f 32=_:=h32;have g25 : f 25=_:=h25
        exact tab_no rfl g25 (by decide) rfl
       ·
        obtain ⟨h33, h25, -⟩ := hh;have g33 : f 33=_:=h33;have g25 : f 25=_:=h25
        exact tab_no rfl g25 (by decide) rfl
       ·
        obtain ⟨h25, h34, h22, -⟩ := hh;have g25 : f 25=_:=h25;have g34 : f 34=_:=h34;have g22 : f 22=_:=h22;refine tab_yes g22 fun K Q hK => ?_;simp only [puts, Za, Zb, Zc, Zd, Ze, g25, g34, g22];go_step;exact fam_e hK rfl rfl (Below.refl _ _) hC
       ·
        obtain ⟨h22, h35, -⟩ := hh;have g22 : f 22=_:=h22;have g35 : f 35=_:=h35;refine tab_plain fun K Q hK => ?_;simp only [puts, Za, Zb, Zc, Zd, Ze, g22, g35];go_step;exact fam_e hK rfl rfl (Below.refl _ _) hC
      case frest =>
       intro f W2 hC hh
       obtain ⟨h0, h1, h2, h3, h4, h5, h6, h7, h8, h9, h10, h11, h12, h13, h14, h15, h16, h17, h18, h19, h20, h21, h22, h23, h24, h25, h26, h27, h28, h29, h30, h31, h32, h33, h34, h35, h36, -⟩ := hh;have g0 : f 0=_:=h0;have g1 : f 1=_:=h1;have g2 : f 2=_:=h2;have g3 : f 3=_:=h3;have g4 : f 4=_:=h4;have g5 : f 5=_:=h5;have g6 : f 6=_:=h6;have g7 : f 7=_:=h7;have g8 : f 8=_:=h8;have g9 : f 9=_:=h9;have g10 : f 10=_:=h10;have g11 : f 11=_:=h11;have g12 : f 12=_:=h12;have g13 : f 13=_:=h13;have g14 : f 14=_:=h14;have g15 : f 15=_:=h15;have g16 : f 16=_:=h16;have g17 : f 17=_:=h17;have g18 : f 18=_:=h18;have g19 : f 19=_:=h19;have g20 : f 20=_:=h20;have g21 : f 21=_:=h21;have g22 : f 22=_:=h22;have g23 : f 23=_:=h23;have g24 : f 24=_:=h24;have g25 : f 25=_:=h25;have g26 : f 26=_:=h26;have g27 : f 27=_:=h27;have g28 : f 28=_:=h28;have g29 : f 29=_:=h29;have g30 : f 30=_:=h30;have g31 : f 31=_:=h31;have g32 : f 32=_:=h32;have g33 : f 33=_:=h33;have g34 : f 34=_:=h34;have g35 : f 35=_:=h35;have g36 : f 36=_:=h36;simp only [puts, Za, Zb, Zc, Zd, Ze, g0, g1, g2, g3, g4, g5, g6, g7, g8, g9, g10, g11, g12, g13, g14, g15, g16, g17, g18, g19, g20, g21, g22, g23, g24, g25, g26, g27, g28, g29, g30, g31, g32, g33, g34, g35, g36]
       clear h0 h1 h2 h3 h4 h5 h6 h7 h8 h9 h10 h11 h12 h13 h14 h15 h16 h17 h18 h19 h20 h21 h22 h23 h24 h25 h26 h27 h28 h29 h30 h31 h32 h33 h34 h35 h36 g0 g1 g2 g3 g4 g5 g6 g7 g8 g9 g10 g11 g12 g13 g14 g15 g16 g17 g18 g19 g20 g21 g22 g23 g24 g25 g26 g27 g28 g29 g30 g31 g32 g33 g34 g35 g36
       go_wp2
       go_roundw
       case rel =>
        refine ⟨k + 1, by omega, by go_num, Lib.hid fun i hi => ?_, HBWN.out.trans (hC.mono HBWN.out.size)⟩
        rcases Nat.lt_or_ge i k with h | h
        ·exact HA.out i h
        ·rw [show i = k by omega]; unfold ArcOkN; rw [HX.out]; exact ⟨⟨H6.out, H7.out⟩, H8.out, fun h => absurd HK0.out (by omega)⟩
       case measure => simp [intOf]; omega
     ·have hk1 : 0 < k := by omega
      have q5 : decide (0 < k) = true := decide_eq_true (by omega)
      obtain ⟨p, hp⟩ : ∃ p, p = k - 1 := ⟨_, rfl⟩
      have hpk : (k : Int) - 1 = (p : Int) := by omega
      obtain ⟨y1, y2, y3, hy⟩ : ∃ y1 y2 y3, g3 es p = ⟨y1, y2, y3⟩ := ⟨_, _, _, rfl⟩
      have HP := Lib.hid hp
      have HY := Lib.hid hy
      have hpl : p < al := by omega
      have hcp : ∀ W, Below Wn.heap.size Wn W → W.cell? ⟨b, off + p * 3, none⟩ = some (.int .i64 y1) ∧ W.cell? ⟨b, off + p * 3 + 1, none⟩ = some (.int .i64 y2) ∧ W.cell? ⟨b, off + p * 3 + 2, none⟩ = some (.int .i64 y3) := fun W h => by
       have := HCELL.out W (HBN.out.trans (h.mono HBN.out.size)) p hpl
       rwa [hy] at this
      clear hp hy h10
      by_cases hL : LtN ⟨y1, y2, y3⟩ ⟨x1, x2, x3⟩
      ·have q6 : decide (0 ≤ ordN ⟨y1, y2, y3⟩ ⟨x1, x2, x3⟩) = false := decide_eq_false (fun h => ordN_ge.1 h hL)
       have HLT := Lib.hid hL
       clear hL
       go_wp2_with (fail)
       refine wp_region_grow mixed (by kernel_rfl) [[], [], [(1, 65)], [(0, 64), (2, 66)], [(3, 67)], [(4, 68), (3, 67)], [(5, 69)], [(5, 69)], [(7, 71), (5, 69)], [(6, 70), (8, 72), (5, 69), (5, 69)], [(9, 73), (5, 69)], [(5, 69), (10, 74)], [(11, 75), (9, 73)], [(12, 76)], [(13, 77), (12, 76)], [(14, 78), (12, 76)], [(12, 76), (15, 79)], [(16, 80), (12, 76)], [(17, 81)], [(18, 82), (17, 81)], [(19, 83), (17, 81)], [(17, 81), (20, 84)], [(21, 85), (17, 81)], [(22, 86)], [(23, 87), (22, 86)], [(24, 88), (22, 86), (22, 86)], [(25, 89)], [(26, 90), (25, 89)], [(25, 89)], [(28, 92), (25, 89)], [(27, 91), (29, 93), (25, 89)], [(30, 94), (25, 89)], [(25, 89)], [(31, 95), (32, 96), (25, 89), (25, 89)], [(33, 97), (25, 89)], [(25, 89), (34, 98), (22, 86)], [(22, 86), (35, 99)]] [(0, 64), (1, 65), (2, 66), (3, 67), (4, 68), (5, 69), (6, 70), (7, 71), (8, 72), (9, 73), (10, 74), (11, 75), (12, 76), (13, 77), (14, 78), (15, 79), (16, 80), (17, 81), (18, 82), (19, 83), (20, 84), (21, 85), (22, 86), (23, 87), (24, 88), (25, 89), (26, 90), (27, 91), (28, 92), (29, 93), (30, 94), (31, 95), (32, 96), (33, 97), (34, 98), (35, 99), (36, 100)] rfl rfl [Ex ?eg0, Ex ?eg1, Ex ?eg2, Ex (.bool true), Ex ?eg4, Ex ?eg5, Ex ?eg6, Ex ?eg7, Ex ?eg8, Ex (.bool true), Ex ?eg10, Ex ?eg11, Ex ?eg12, Ex ?eg13, Ex ?eg14, Ex ?eg15, Ex ?eg16, Ex ?eg17, Ex ?eg18, Ex ?eg19, Ex ?eg20, Ex ?eg21, Ex ?eg22, Ex ?eg23, Ex ?eg24, Ex ?eg25, Ex ?eg26, Ex ?eg27, Ex ?eg28, Ex ?eg29, Ex ?eg30, Ex ?eg31, Ex ?eg32, Ex (.int .i64 (ordN ⟨y1, y2, y3⟩ ⟨x1, x2, x3⟩)), Ex ?eg34, Ex ?eg35, Ex ?eg36] ⟨stays_ex _, stays_ex _, stays_ex _, stays_ex _, stays_ex _, stays_ex _, stays_ex _, stays_ex _, stays_ex _, stays_ex _, stays_ex _, stays_ex _, stays_ex _, stays_ex _, stays_ex _, stays_ex _, stays_ex _, stays_ex _, stays_ex _, stays_ex _, stays_ex _, stays_ex _, stays_ex _, stays_ex _, stays_ex _, stays_ex _, stays_ex _, stays_ex _, stays_ex _, stays_ex _, stays_ex _, stays_ex _, stays_ex _, stays_ex _, stays_ex _, stays_ex _, stays_ex _, trivial⟩ ?gsteps ?grest
       case gsteps =>
        refine ⟨fun f W hC hh => ?_, fun f W hC hh => ?_, fun f W hC hh => ?_, fun f W hC hh => ?_, fun f W hC hh => ?_, fun f W hC hh => ?_, fun f W hC hh => ?_, fun f W hC hh => ?_, fun f W hC hh => ?_, fun f W hC hh => ?_, fun f W hC hh => ?_, fun f W hC hh => ?_, fun f W hC hh => ?_, fun f W hC hh => ?_, fun f W hC hh => ?_, fun f W hC hh => ?_, fun f W hC hh => ?_, fun f W hC hh => ?_, fun f W hC hh => ?_, fun f W hC hh => ?_, fun f W hC hh => ?_, fun f W hC hh => ?_, fun f W hC hh => ?_, fun f W hC hh => ?_, fun f W hC hh => ?_, fun f W hC hh => ?_, fun f W hC hh => ?_, fun f W hC hh => ?_, fun f W hC hh => ?_, fun f W hC hh => ?_, fun f W hC hh => ?_, fun f W hC hh => ?_, fun f W hC hh => ?_, fun f W hC hh => ?_, fun f W hC hh => ?_, fun f W hC hh => ?_, fun f W hC hh => ?_, trivial⟩
        ·
         refine tab_plain fun K Q hK => ?_;simp only [puts, foldr_nil]
         obtain ⟨⟨f1, f2, f3, f4⟩, f5, f6, f7⟩ := hcm W hC
         obtain ⟨f8, f9, f10⟩ := hcp W hC
         go_step;exact fam_e hK rfl rfl (Below.refl _ _) hC
        ·
         refine tab_plain fun K Q hK => ?_;simp only [puts, foldr_nil];go_step;exact fam_e hK rfl rfl (Below.refl _ _) hC
        ·
         obtain ⟨h1, -⟩ := hh;have g1 : f 1=_:=h1;refine tab_plain fun K Q hK => ?_;simp only [puts, Za, Zb, Zc, Zd, Ze, g1]
         obtain ⟨⟨f1, f2, f3, f4⟩, f5, f6, f7⟩ := hcm W hC
         obtain ⟨f8, f9, f10⟩ := hcp W hC
         go_step;exact fam_e hK rfl rfl (Below.refl _ _) hC
        ·
         obtain ⟨h0, h2, -⟩ := hh;have g0 : f 0=_:=h0;have g2 : f 2=_:=h2;refine tab_plain fun K Q hK => ?_;simp only [puts, Za, Zb, Zc, Zd, Ze, g0, g2];go_step
         go_at_call 42
         refine (hst x1 W).mono ?_
         rintro e w' ⟨rfl, hb⟩
         rw [q1]
         exact fam_fin hK rfl rfl hb (hC.trans (hb.mono hC.size))
        ·
         obtain ⟨h3, -⟩ := hh;have g3 : f 3=_:=h3;refine tab_plain fun K Q hK => ?_;simp only [puts, Za, Zb, Zc, Zd, Ze, g3];go_step;exact fam_e hK rfl rfl (Below.refl _ _) hC
        ·
         obtain ⟨h4, h3, -⟩ := hh;have g4 : f 4=_:=h4;have g3 : f 3=_:=h3;refine tab_plain fun K Q hK => ?_;simp only [puts, Za, Zb, Zc, Zd, Ze, g4, g3];go_step;exact fam_e hK rfl rfl (Below.refl _ _) hC
        ·
         obtain ⟨h5, -⟩ := hh;have g5 : f 5=_:=h5;refine tab_yes g5 fun K Q hK => ?_;simp only [puts, Za, Zb, Zc, Zd, Ze, g5]
         obtain ⟨⟨f1, f2, f3, f4⟩, f5, f6, f7⟩ := hcm W hC
         obtain ⟨f8, f9, f10⟩ := hcp W hC
         go_step;exact fam_e hK rfl rfl (Below.refl _ _) hC
        ·
         obtain ⟨h5, -⟩ := hh;have g5 : f 5=_:=h5;refine tab_yes g5 fun K Q hK => ?_;simp only [puts, Za, Zb, Zc, Zd, Ze, g5];go_step;exact fam_e hK rfl rfl (Below.refl _ _) hC
        ·
         obtain ⟨h7, h5, -⟩ := hh;have g7 : f 7=_:=h7;have g5 : f 5=_:=h5;refine tab_yes g5 fun K Q hK => ?_;simp only [puts, Za, Zb, Zc, Zd, Ze, g7, g5]
         obtain ⟨⟨f1, f2, f3, f4⟩, f5, f6, f7⟩ := hcm W hC
         obtain ⟨f8, f9, f10⟩ := hcp W hC
         go_step;exact fam_e hK rfl rfl (Below.refl _ _) hC
        ·
         obtain ⟨h6, h8, h5, _, -⟩ := hh;have g6 : f 6=_:=h6;have g8 : f 8=_:=h8;have g5 : f 5=_:=h5;refine tab_yes g5 fun K Q hK => ?_;simp only [puts, Za, Zb, Zc, Zd, Ze, g6, g8, g5];go_step
         go_at_call 42
         refine (hst x3 W).mono ?_
         rintro e w' ⟨rfl, hb⟩
         rw [q2]
         exact fam_fin hK rfl rfl hb (hC.trans (hb.mono hC.size))
        ·
         obtain ⟨h9, h5, -⟩ := hh;have g9 : f 9=_:=h9;have g5 : f 5=_:=h5;refine tab_yes g5 fun K Q hK => ?_;simp only [puts, Za, Zb, Zc, Zd, Ze, g9, g5];go_step;exact fam_e hK rfl rfl (Below.refl _ _) hC
        ·
         obtain ⟨h5, h10, -⟩ := hh;have g5 : f 5=_:=h5;have g10 : f 10=_:=h10;refine tab_plain fun K Q hK => ?_;simp only [puts, Za, Zb, Zc, Zd, Ze, g5, g10];go_step;exact fam_e hK rfl rfl (Below.refl _ _) hC
        ·
         obtain ⟨h11, h9, -⟩ := hh;have g11 : f 11=_:=h11;have g9 : f 9=_:=h9;refine tab_plain fun K Q hK => ?_;simp only [puts, Za, Zb, Zc, Zd, Ze, g11, g9];go_step;exact fam_e hK rfl rfl (Below.refl _ _) hC
        ·
         obtain ⟨h12, -⟩ := hh;have g12 : f 12=_:=h12;refine tab_yes g12 fun K Q hK => ?_;simp only [puts, Za, Zb, Zc, Zd, Ze, g12];go_step;exact fam_e hK rfl rfl (Below.refl _ _) hC
        ·
         obtain ⟨h13, h12, -⟩ := hh;have g13 : f 13=_:=h13;have g12 : f 12=_:=h12;refine tab_yes g12 fun K Q hK => ?_;simp only [puts, Za, Zb, Zc, Zd, Ze, g13, g12]
         obtain ⟨⟨f1, f2, f3, f4⟩, f5, f6, f7⟩ := hcm W hC
         obtain ⟨f8, f9, f10⟩ := hcp W hC
         go_step;exact fam_e hK rfl rfl (Below.refl _ _) hC
        ·
         obtain ⟨h14, h12, -⟩ := hh;have g14 : f 14=_:=h14;have g12 : f 12=_:=h12;refine tab_yes g12 fun K Q hK => ?_;simp only [puts, Za, Zb, Zc, Zd, Ze, g14, g12];go_step;exact fam_e hK rfl rfl (Below.refl _ _) hC
        ·
         obtain ⟨h12, h15, -⟩ := hh;have g12 : f 12=_:=h12;have g15 : f 15=_:=h15;refine tab_plain fun K Q hK => ?_;simp only [puts, Za, Zb, Zc, Zd, Ze, g12, g15];go_step;exact fam_e hK rfl rfl (Below.refl _ _) hC
        ·
         obtain ⟨h16, h12, -⟩ := hh;have g16 : f 16=_:=h16;have g12 : f 12=_:=h12;refine tab_plain fun K Q hK => ?_;simp only [puts, Za, Zb, Zc, Zd, Ze, g16, g12];go_step;exact fam_e hK rfl rfl (Below.refl _ _) hC
        ·
         obtain ⟨h17, -⟩ := hh;have g17 : f 17=_:=h17;refine tab_yes g17 fun K Q hK => ?_;simp only [puts, Za, Zb, Zc, Zd, Ze, g17];go_step;exact fam_e hK rfl rfl (Below.refl _ _) hC
        ·
         obtain ⟨h18, h17, -⟩ := hh;have g18 : f 18=_:=h18;have g17 : f 17=_:=h17;refine tab_yes g17 fun K Q hK => ?_;simp only [puts, Za, Zb, Zc, Zd, Ze, g18, g17]
         obtain ⟨⟨f1, f2, f3, f4⟩, f5, f6, f7⟩ := hcm W hC
         obtain ⟨f8, f9, f10⟩ := hcp W hC
         go_step;exact fam_e hK rfl rfl (Below.refl _ _) hC
        ·
         obtain ⟨h19, h17, -⟩ := hh;have g19 : f 19=_:=h19;have g17 : f 17=_:=h17;refine tab_yes g17 fun K Q hK => ?_;simp only [puts, Za, Zb, Zc, Zd, Ze, g19, g17];go_step;exact fam_e hK rfl rfl (Below.refl _ _) hC
        ·
         obtain ⟨h17, h20, -⟩ := hh;have g17 : f 17=_:=h17;have g20 : f 20=_:=h20;refine tab_plain fun K Q hK => ?_;simp only [puts, Za, Zb, Zc, Zd, Ze, g17, g20];go_step;exact fam_e hK rfl rfl (Below.refl _ _) hC
        ·
         obtain ⟨h21, h17, -⟩ := hh;have g21 : f 21=_:=h21;have g17 : f 17=_:=h17;refine tab_plain fun K Q hK => ?_;simp only [puts, Za, Zb, Zc, Zd, Ze, g21, g17];go_step;exact fam_e hK rfl rfl (Below.refl _ _) hC
        ·
         obtain ⟨h22, -⟩ := hh;have g22 : f 22=_:=h22;refine tab_yes g22 fun K Q hK => ?_;simp only [puts, Za, Zb, Zc, Zd, Ze, g22];go_step;exact fam_e hK rfl rfl (Below.refl _ _) hC
        ·
         obtain ⟨h23, h22, -⟩ := hh;have g23 : f 23=_:=h23;have g22 : f 22=_:=h22;refine tab_yes g22 fun K Q hK => ?_;simp only [puts, Za, Zb, Zc, Zd, Ze, g23, g22];go_step;exact fam_e hK rfl rfl (Below.refl _ _) hC
        ·
         obtain ⟨h24, h22, _, -⟩ := hh;have g24 : f 24=_:=h24;have g22 : f 22=_:=h22;refine tab_yes g22 fun K Q hK => ?_;simp only [puts, Za, Zb, Zc, Zd, Ze, g24, g22];go_step;exact fam_e hK rfl rfl (Below.refl _ _) hC
        ·
         obtain ⟨h25, -⟩ := hh;have g25 : f 25=_:=h25;refine tab_yes g25 fun K Q hK => ?_;simp only [puts, Za, Zb, Zc, Zd, Ze, g25];go_step;exact fam_e hK rfl rfl (Below.refl _ _) hC
        ·
         obtain ⟨h26, h25, -⟩ := hh;have g26 : f 26=_:=h26;have g25 : f 25=_:=h25;refine tab_yes g25 fun K Q hK => ?_;simp only [puts, Za, Zb, Zc, Zd, Ze, g26, g25]
         obtain ⟨⟨f1, f2, f3, f4⟩, f5, f6, f7⟩ := hcm W hC
         obtain ⟨f8, f9, f10⟩ := hcp W hC
         go_step;exact fam_e hK rfl rfl (Below.refl _ _) hC
        ·
         obtain ⟨h25, -⟩ := hh;have g25 : f 25=_:=h25;refine tab_yes g25 fun K Q hK => ?_;simp only [puts, Za, Zb, Zc, Zd, Ze, g25];go_step;exact fam_e hK rfl rfl (Below.refl _ _) hC
        ·
         obtain ⟨h28, h25, -⟩ := hh;have g28 : f 28=_:=h28;have g25 : f 25=_:=h25;refine tab_yes g25 fun K Q hK => ?_;simp only [puts, Za, Zb, Zc, Zd, Ze, g28, g25];go_step;exact fam_e hK rfl rfl (Below.refl _ _) hC
        ·
         obtain ⟨h27, h29, h25, -⟩ := hh;have g27 : f 27=_:=h27;have g29 : f 29=_:=h29;have g25 : f 25=_:=h25;refine tab_yes g25 fun K Q hK => ?_;simp only [puts, Za, Zb, Zc, Zd, Ze, g27, g29, g25];go_step;exact fam_e hK rfl rfl (Below.refl _ _) hC
        ·
         obtain ⟨h30, h25, -⟩ := hh;have g30 : f 30=_:=h30;have g25 : f 25=_:=h25;refine tab_yes g25 fun K Q hK => ?_;simp only [puts, Za, Zb, Zc, Zd, Ze, g30, g25]
         obtain ⟨⟨f1, f2, f3, f4⟩, f5, f6, f7⟩ := hcm W hC
         obtain ⟨f8, f9, f10⟩ := hcp W hC
         go_step;exact fam_e hK rfl rfl (Below.refl _ _) hC
        ·
         obtain ⟨h25, -⟩ := hh;have g25 : f 25=_:=h25;refine tab_yes g25 fun K Q hK => ?_;simp only [puts, Za, Zb, Zc, Zd, Ze, g25]
         obtain ⟨⟨f1, f2, f3, f4⟩, f5, f6, f7⟩ := hcm W hC
         obtain ⟨f8, f9, f10⟩ := hcp W hC
         go_step;exact fam_e hK rfl rfl (Below.refl _ _) hC
        ·
         obtain ⟨h31, h32, h25, _, -⟩ := hh;have g31 : f 31=_:=h31;have g32 : f 32=_:=h32;have g25 : f 25=_:=h25;refine tab_yes g25 fun K Q hK => ?_;simp only [puts, Za, Zb, Zc, Zd, Ze, g31, g32, g25];go_step
         go_at_call 43
         refine (order_any ⟨y1, y2, y3⟩ ⟨x1, x2, x3⟩ W).mono ?_
         rintro e w' ⟨rfl, hb⟩
         exact fam_fin hK rfl rfl hb (hC.trans (hb.mono hC.size))
        ·
         obtain ⟨h33, h25, -⟩ := hh;have g33 : f 33=_:=h33;have g25 : f 25=_:=h25;refine tab_yes g25 fun K Q hK => ?_;simp only [puts, Za, Zb, Zc, Zd, Ze, g33, g25];go_step;exact fam_e hK rfl rfl (Below.refl _ _) hC
        ·
         obtain ⟨h25, h34, h22, -⟩ := hh;have g25 : f 25=_:=h25;have g34 : f 34=_:=h34;have g22 : f 22=_:=h22;refine tab_yes g22 fun K Q hK => ?_;simp only [puts, Za, Zb, Zc, Zd, Ze, g25, g34, g22];go_step;exact fam_e hK rfl rfl (Below.refl _ _) hC
        ·
         obtain ⟨h22, h35, -⟩ := hh;have g22 : f 22=_:=h22;have g35 : f 35=_:=h35;refine tab_plain fun K Q hK => ?_;simp only [puts, Za, Zb, Zc, Zd, Ze, g22, g35];go_step;exact fam_e hK rfl rfl (Below.refl _ _) hC
       case grest =>
        intro f W2 hC hh
        obtain ⟨h0, h1, h2, h3, h4, h5, h6, h7, h8, h9, h10, h11, h12, h13, h14, h15, h16, h17, h18, h19, h20, h21, h22, h23, h24, h25, h26, h27, h28, h29, h30, h31, h32, h33, h34, h35, h36, -⟩ := hh;have g0 : f 0=_:=h0;have g1 : f 1=_:=h1;have g2 : f 2=_:=h2;have g3 : f 3=_:=h3;have g4 : f 4=_:=h4;have g5 : f 5=_:=h5;have g6 : f 6=_:=h6;have g7 : f 7=_:=h7;have g8 : f 8=_:=h8;have g9 : f 9=_:=h9;have g10 : f 10=_:=h10;have g11 : f 11=_:=h11;have g12 : f 12=_:=h12;have g13 : f 13=_:=h13;have g14 : f 14=_:=h14;have g15 : f 15=_:=h15;have g16 : f 16=_:=h16;have g17 : f 17=_:=h17;have g18 : f 18=_:=h18;have g19 : f 19=_:=h19;have g20 : f 20=_:=h20;have g21 : f 21=_:=h21;have g22 : f 22=_:=h22;have g23 : f 23=_:=h23;have g24 : f 24=_:=h24;have g25 : f 25=_:=h25;have g26 : f 26=_:=h26;have g27 : f 27=_:=h27;have g28 : f 28=_:=h28;have g29 : f 29=_:=h29;have g30 : f 30=_:=h30;have g31 : f 31=_:=h31;have g32 : f 32=_:=h32;have g33 : f 33=_:=h33;have g34 : f 34=_:=h34;have g35 : f 35=_:=h35;have g36 : f 36=_:=h36;simp only [puts, Za, Zb, Zc, Zd, Ze, g0, g1, g2, g3, g4, g5, g6, g7, g8, g9, g10, g11, g12, g13, g14, g15, g16, g17, g18, g19, g20, g21, g22, g23, g24, g25, g26, g27, g28, g29, g30, g31, g32, g33, g34, g35, g36]
        clear h0 h1 h2 h3 h4 h5 h6 h7 h8 h9 h10 h11 h12 h13 h14 h15 h16 h17 h18 h19 h20 h21 h22 h23 h24 h25 h26 h27 h28 h29 h30 h31 h32 h33 h34 h35 h36 g0 g1 g2 g3 g4 g5 g6 g7 g8 g9 g10 g11 g12 g13 g14 g15 g16 g17 g18 g19 g20 g21 g22 g23 g24 g25 g26 g27 g28 g29 g30 g31 g32 g33 g34 g35 g36
        go_wp2
        go_roundw
        case rel =>
         refine ⟨k + 1, by omega, by go_num, Lib.hid fun i hi => ?_, HBWN.out.trans (hC.mono HBWN.out.size)⟩
         rcases Nat.lt_or_ge i k with h | h
         ·exact HA.out i h
         ·rw [show i = k by omega]; unfold ArcOkN; rw [HX.out]; exact ⟨⟨H6.out, H7.out⟩, H8.out, fun _ => by rw [← HP.out, HY.out]; exact HLT.out⟩
        case measure => simp [intOf]; omega
      ·have q6 : decide (0 ≤ ordN ⟨y1, y2, y3⟩ ⟨x1, x2, x3⟩) = true := decide_eq_true (ordN_ge.2 hL)
       have HLT := Lib.hid hL
       have HQ : Hid (¬ ArcOkN n es k) := Lib.hid fun h => HLT.out (by have := h.2.2 hk1; rwa [← HP.out, HY.out, HX.out] at this)
       clear hL
       go_wp2_with (fail)
       refine wp_region_grow mixed (by kernel_rfl) [[], [], [(1, 65)], [(0, 64), (2, 66)], [(3, 67)], [(4, 68), (3, 67)], [(5, 69)], [(5, 69)], [(7, 71), (5, 69)], [(6, 70), (8, 72), (5, 69), (5, 69)], [(9, 73), (5, 69)], [(5, 69), (10, 74)], [(11, 75), (9, 73)], [(12, 76)], [(13, 77), (12, 76)], [(14, 78), (12, 76)], [(12, 76), (15, 79)], [(16, 80), (12, 76)], [(17, 81)], [(18, 82), (17, 81)], [(19, 83), (17, 81)], [(17, 81), (20, 84)], [(21, 85), (17, 81)], [(22, 86)], [(23, 87), (22, 86)], [(24, 88), (22, 86), (22, 86)], [(25, 89)], [(26, 90), (25, 89)], [(25, 89)], [(28, 92), (25, 89)], [(27, 91), (29, 93), (25, 89)], [(30, 94), (25, 89)], [(25, 89)], [(31, 95), (32, 96), (25, 89), (25, 89)], [(33, 97), (25, 89)], [(25, 89), (34, 98), (22, 86)], [(22, 86), (35, 99)]] [(0, 64), (1, 65), (2, 66), (3, 67), (4, 68), (5, 69), (6, 70), (7, 71), (8, 72), (9, 73), (10, 74), (11, 75), (12, 76), (13, 77), (14, 78), (15, 79), (16, 80), (17, 81), (18, 82), (19, 83), (20, 84), (21, 85), (22, 86), (23, 87), (24, 88), (25, 89), (26, 90), (27, 91), (28, 92), (29, 93), (30, 94), (31, 95), (32, 96), (33, 97), (34, 98), (35, 99), (36, 100)] rfl rfl [Ex ?eh0, Ex ?eh1, Ex ?eh2, Ex (.bool true), Ex ?eh4, Ex ?eh5, Ex ?eh6, Ex ?eh7, Ex ?eh8, Ex (.bool true), Ex ?eh10, Ex ?eh11, Ex ?eh12, Ex ?eh13, Ex ?eh14, Ex ?eh15, Ex ?eh16, Ex ?eh17, Ex ?eh18, Ex ?eh19, Ex ?eh20, Ex ?eh21, Ex ?eh22, Ex ?eh23, Ex ?eh24, Ex ?eh25, Ex ?eh26, Ex ?eh27, Ex ?eh28, Ex ?eh29, Ex ?eh30, Ex ?eh31, Ex ?eh32, Ex (.int .i64 (ordN ⟨y1, y2, y3⟩ ⟨x1, x2, x3⟩)), Ex ?eh34, Ex ?eh35, Ex ?eh36] ⟨stays_ex _, stays_ex _, stays_ex _, stays_ex _, stays_ex _, stays_ex _, stays_ex _, stays_ex _, stays_ex _, stays_ex _, stays_ex _, stays_ex _, stays_ex _, stays_ex _, stays_ex _, stays_ex _, stays_ex _, stays_ex _, stays_ex _, stays_ex _, stays_ex _, stays_ex _, stays_ex _, stays_ex _, stays_ex _, stays_ex _, stays_ex _, stays_ex _, stays_ex _, stays_ex _, stays_ex _, stays_ex _, stays_ex _, stays_ex _, stays_ex _, stays_ex _, stays_ex _, trivial⟩ ?hsteps ?hrest
       case hsteps =>
        refine ⟨fun f W hC hh => ?_, fun f W hC hh => ?_, fun f W hC hh => ?_, fun f W hC hh => ?_, fun f W hC hh => ?_, fun f W hC hh => ?_, fun f W hC hh => ?_, fun f W hC hh => ?_, fun f W hC hh => ?_, fun f W hC hh => ?_, fun f W hC hh => ?_, fun f W hC hh => ?_, fun f W hC hh => ?_, fun f W hC hh => ?_, fun f W hC hh => ?_, fun f W hC hh => ?_, fun f W hC hh => ?_, fun f W hC hh => ?_, fun f W hC hh => ?_, fun f W hC hh => ?_, fun f W hC hh => ?_, fun f W hC hh => ?_, fun f W hC hh => ?_, fun f W hC hh => ?_, fun f W hC hh => ?_, fun f W hC hh => ?_, fun f W hC hh => ?_, fun f W hC hh => ?_, fun f W hC hh => ?_, fun f W hC hh => ?_, fun f W hC hh => ?_, fun f W hC hh => ?_, fun f W hC hh => ?_, fun f W hC hh => ?_, fun f W hC hh => ?_, fun f W hC hh => ?_, fun f W hC hh => ?_, trivial⟩
        ·
         refine tab_plain fun K Q hK => ?_;simp only [puts, foldr_nil]
         obtain ⟨⟨f1, f2, f3, f4⟩, f5, f6, f7⟩ := hcm W hC
         obtain ⟨f8, f9, f10⟩ := hcp W hC
         go_step;exact fam_e hK rfl rfl (Below.refl _ _) hC
        ·
         refine tab_plain fun K Q hK => ?_;simp only [puts, foldr_nil];go_step;exact fam_e hK rfl rfl (Below.refl _ _) hC
        ·
         obtain ⟨h1, -⟩ := hh;have g1 : f 1=_:=h1;refine tab_plain fun K Q hK => ?_;simp only [puts, Za, Zb, Zc, Zd, Ze, g1]
         obtain ⟨⟨f1, f2, f3, f4⟩, f5, f6, f7⟩ := hcm W hC
         obtain ⟨f8, f9, f10⟩ := hcp W hC
         go_step;exact fam_e hK rfl rfl (Below.refl _ _) hC
        ·
         obtain ⟨h0, h2, -⟩ := hh;have g0 : f 0=_:=h0;have g2 : f 2=_:=h2;refine tab_plain fun K Q hK => ?_;simp only [puts, Za, Zb, Zc, Zd, Ze, g0, g2];go_step
         go_at_call 42
         refine (hst x1 W).mono ?_
         rintro e w' ⟨rfl, hb⟩
         rw [q1]
         exact fam_fin hK rfl rfl hb (hC.trans (hb.mono hC.size))
        ·
         obtain ⟨h3, -⟩ := hh;have g3 : f 3=_:=h3;refine tab_plain fun K Q hK => ?_;simp only [puts, Za, Zb, Zc, Zd, Ze, g3];go_step;exact fam_e hK rfl rfl (Below.refl _ _) hC
        ·
         obtain ⟨h4, h3, -⟩ := hh;have g4 : f 4=_:=h4;have g3 : f 3=_:=h3;refine tab_plain fun K Q hK => ?_;simp only [puts, Za, Zb, Zc, Zd, Ze, g4, g3];go_step;exact fam_e hK rfl rfl (Below.refl _ _) hC
        ·
         obtain ⟨h5, -⟩ := hh;have g5 : f 5=_:=h5;refine tab_yes g5 fun K Q hK => ?_;simp only [puts, Za, Zb, Zc, Zd, Ze, g5]
         obtain ⟨⟨f1, f2, f3, f4⟩, f5, f6, f7⟩ := hcm W hC
         obtain ⟨f8, f9, f10⟩ := hcp W hC
         go_step;exact fam_e hK rfl rfl (Below.refl _ _) hC
        ·
         obtain ⟨h5, -⟩ := hh;have g5 : f 5=_:=h5;refine tab_yes g5 fun K Q hK => ?_;simp only [puts, Za, Zb, Zc, Zd, Ze, g5];go_step;exact fam_e hK rfl rfl (Below.refl _ _) hC
        ·
         obtain ⟨h7, h5, -⟩ := hh;have g7 : f 7=_:=h7;have g5 : f 5=_:=h5;refine tab_yes g5 fun K Q hK => ?_;simp only [puts, Za, Zb, Zc, Zd, Ze, g7, g5]
         obtain ⟨⟨f1, f2, f3, f4⟩, f5, f6, f7⟩ := hcm W hC
         obtain ⟨f8, f9, f10⟩ := hcp W hC
         go_step;exact fam_e hK rfl rfl (Below.refl _ _) hC
        ·
         obtain ⟨h6, h8, h5, _, -⟩ := hh;have g6 : f 6=_:=h6;have g8 : f 8=_:=h8;have g5 : f 5=_:=h5;refine tab_yes g5 fun K Q hK => ?_;simp only [puts, Za, Zb, Zc, Zd, Ze, g6, g8, g5];go_step
         go_at_call 42
         refine (hst x3 W).mono ?_
         rintro e w' ⟨rfl, hb⟩
         rw [q2]
         exact fam_fin hK rfl rfl hb (hC.trans (hb.mono hC.size))
        ·
         obtain ⟨h9, h5, -⟩ := hh;have g9 : f 9=_:=h9;have g5 : f 5=_:=h5;refine tab_yes g5 fun K Q hK => ?_;simp only [puts, Za, Zb, Zc, Zd, Ze, g9, g5];go_step;exact fam_e hK rfl rfl (Below.refl _ _) hC
        ·
         obtain ⟨h5, h10, -⟩ := hh;have g5 : f 5=_:=h5;have g10 : f 10=_:=h10;refine tab_plain fun K Q hK => ?_;simp only [puts, Za, Zb, Zc, Zd, Ze, g5, g10];go_step;exact fam_e hK rfl rfl (Below.refl _ _) hC
        ·
         obtain ⟨h11, h9, -⟩ := hh;have g11 : f 11=_:=h11;have g9 : f 9=_:=h9;refine tab_plain fun K Q hK => ?_;simp only [puts, Za, Zb, Zc, Zd, Ze, g11, g9];go_step;exact fam_e hK rfl rfl (Below.refl _ _) hC
        ·
         obtain ⟨h12, -⟩ := hh;have g12 : f 12=_:=h12;refine tab_yes g12 fun K Q hK => ?_;simp only [puts, Za, Zb, Zc, Zd, Ze, g12];go_step;exact fam_e hK rfl rfl (Below.refl _ _) hC
        ·
         obtain ⟨h13, h12, -⟩ := hh;have g13 : f 13=_:=h13;have g12 : f 12=_:=h12;refine tab_yes g12 fun K Q hK => ?_;simp only [puts, Za, Zb, Zc, Zd, Ze, g13, g12]
         obtain ⟨⟨f1, f2, f3, f4⟩, f5, f6, f7⟩ := hcm W hC
         obtain ⟨f8, f9, f10⟩ := hcp W hC
         go_step;exact fam_e hK rfl rfl (Below.refl _ _) hC
        ·
         obtain ⟨h14, h12, -⟩ := hh;have g14 : f 14=_:=h14;have g12 : f 12=_:=h12;refine tab_yes g12 fun K Q hK => ?_;simp only [puts, Za, Zb, Zc, Zd, Ze, g14, g12];go_step;exact fam_e hK rfl rfl (Below.refl _ _) hC
        ·
         obtain ⟨h12, h15, -⟩ := hh;have g12 : f 12=_:=h12;have g15 : f 15=_:=h15;refine tab_plain fun K Q hK => ?_;simp only [puts, Za, Zb, Zc, Zd, Ze, g12, g15];go_step;exact fam_e hK rfl rfl (Below.refl _ _) hC
        ·
         obtain ⟨h16, h12, -⟩ := hh;have g16 : f 16=_:=h16;have g12 : f 12=_:=h12;refine tab_plain fun K Q hK => ?_;simp only [puts, Za, Zb, Zc, Zd, Ze, g16, g12];go_step;exact fam_e hK rfl rfl (Below.refl _ _) hC
        ·
         obtain ⟨h17, -⟩ := hh;have g17 : f 17=_:=h17;refine tab_yes g17 fun K Q hK => ?_;simp only [puts, Za, Zb, Zc, Zd, Ze, g17];go_step;exact fam_e hK rfl rfl (Below.refl _ _) hC
        ·
         obtain ⟨h18, h17, -⟩ := hh;have g18 : f 18=_:=h18;have g17 : f 17=_:=h17;refine tab_yes g17 fun K Q hK => ?_;simp only [puts, Za, Zb, Zc, Zd, Ze, g18, g17]
         obtain ⟨⟨f1, f2, f3, f4⟩, f5, f6, f7⟩ := hcm W hC
         obtain ⟨f8, f9, f10⟩ := hcp W hC
         go_step;exact fam_e hK rfl rfl (Below.refl _ _) hC
        ·
         obtain ⟨h19, h17, -⟩ := hh;have g19 : f 19=_:=h19;have g17 : f 17=_:=h17;refine tab_yes g17 fun K Q hK => ?_;simp only [puts, Za, Zb, Zc, Zd, Ze, g19, g17];go_step;exact fam_e hK rfl rfl (Below.refl _ _) hC
        ·
         obtain ⟨h17, h20, -⟩ := hh;have g17 : f 17=_:=h17;have g20 : f 20=_:=h20;refine tab_plain fun K Q hK => ?_;simp only [puts, Za, Zb, Zc, Zd, Ze, g17, g20];go_step;exact fam_e hK rfl rfl (Below.refl _ _) hC
        ·
         obtain ⟨h21, h17, -⟩ := hh;have g21 : f 21=_:=h21;have g17 : f 17=_:=h17;refine tab_plain fun K Q hK => ?_;simp only [puts, Za, Zb, Zc, Zd, Ze, g21, g17];go_step;exact fam_e hK rfl rfl (Below.refl _ _) hC
        ·
         obtain ⟨h22, -⟩ := hh;have g22 : f 22=_:=h22;refine tab_yes g22 fun K Q hK => ?_;simp only [puts, Za, Zb, Zc, Zd, Ze, g22];go_step;exact fam_e hK rfl rfl (Below.refl _ _) hC
        ·
         obtain ⟨h23, h22, -⟩ := hh;have g23 : f 23=_:=h23;have g22 : f 22=_:=h22;refine tab_yes g22 fun K Q hK => ?_;simp only [puts, Za, Zb, Zc, Zd, Ze, g23, g22];go_step;exact fam_e hK rfl rfl (Below.refl _ _) hC
        ·
         obtain ⟨h24, h22, _, -⟩ := hh;have g24 : f 24=_:=h24;have g22 : f 22=_:=h22;refine tab_yes g22 fun K Q hK => ?_;simp only [puts, Za, Zb, Zc, Zd, Ze, g24, g22];go_step;exact fam_e hK rfl rfl (Below.refl _ _) hC
        ·
         obtain ⟨h25, -⟩ := hh;have g25 : f 25=_:=h25;refine tab_yes g25 fun K Q hK => ?_;simp only [puts, Za, Zb, Zc, Zd, Ze, g25];go_step;exact fam_e hK rfl rfl (Below.refl _ _) hC
        ·
         obtain ⟨h26, h25, -⟩ := hh;have g26 : f 26=_:=h26;have g25 : f 25=_:=h25;refine tab_yes g25 fun K Q hK => ?_;simp only [puts, Za, Zb, Zc, Zd, Ze, g26, g25]
         obtain ⟨⟨f1, f2, f3, f4⟩, f5, f6, f7⟩ := hcm W hC
         obtain ⟨f8, f9, f10⟩ := hcp W hC
         go_step;exact fam_e hK rfl rfl (Below.refl _ _) hC
        ·
         obtain ⟨h25, -⟩ := hh;have g25 : f 25=_:=h25;refine tab_yes g25 fun K Q hK => ?_;simp only [puts, Za, Zb, Zc, Zd, Ze, g25];go_step;exact fam_e hK rfl rfl (Below.refl _ _) hC
        ·
         obtain ⟨h28, h25, -⟩ := hh;have g28 : f 28=_:=h28;have g25 : f 25=_:=h25;refine tab_yes g25 fun K Q hK => ?_;simp only [puts, Za, Zb, Zc, Zd, Ze, g28, g25];go_step;exact fam_e hK rfl rfl (Below.refl _ _) hC
        ·
         obtain ⟨h27, h29, h25, -⟩ := hh;have g27 : f 27=_:=h27;have g29 : f 29=_:=h29;have g25 : f 25=_:=h25;refine tab_yes g25 fun K Q hK => ?_;simp only [puts, Za, Zb, Zc, Zd, Ze, g27, g29, g25];go_step;exact fam_e hK rfl rfl (Below.refl _ _) hC
        ·
         obtain ⟨h30, h25, -⟩ := hh;have g30 : f 30=_:=h30;have g25 : f 25=_:=h25;refine tab_yes g25 fun K Q hK => ?_;simp only [puts, Za, Zb, Zc, Zd, Ze, g30, g25]
         obtain ⟨⟨f1, f2, f3, f4⟩, f5, f6, f7⟩ := hcm W hC
         obtain ⟨f8, f9, f10⟩ := hcp W hC
         go_step;exact fam_e hK rfl rfl (Below.refl _ _) hC
        ·
         obtain ⟨h25, -⟩ := hh;have g25 : f 25=_:=h25;refine tab_yes g25 fun K Q hK => ?_;simp only [puts, Za, Zb, Zc, Zd, Ze, g25]
         obtain ⟨⟨f1, f2, f3, f4⟩, f5, f6, f7⟩ := hcm W hC
         obtain ⟨f8, f9, f10⟩ := hcp W hC
         go_step;exact fam_e hK rfl rfl (Below.refl _ _) hC
        ·
         obtain ⟨h31, h32, h25, _, -⟩ := hh;have g31 : f 31=_:=h31;have g32 : f 32=_:=h32;have g25 : f 25=_:=h25;refine tab_yes g25 fun K Q hK => ?_;simp only [puts, Za, Zb, Zc, Zd, Ze, g31, g32, g25];go_step
         go_at_call 43
         refine (order_any ⟨y1, y2, y3⟩ ⟨x1, x2, x3⟩ W).mono ?_
         rintro e w' ⟨rfl, hb⟩
         exact fam_fin hK rfl rfl hb (hC.trans (hb.mono hC.size))
        ·
         obtain ⟨h33, h25, -⟩ := hh;have g33 : f 33=_:=h33;have g25 : f 25=_:=h25;refine tab_yes g25 fun K Q hK => ?_;simp only [puts, Za, Zb, Zc, Zd, Ze, g33, g25];go_step;exact fam_e hK rfl rfl (Below.refl _ _) hC
        ·
         obtain ⟨h25, h34, h22, -⟩ := hh;have g25 : f 25=_:=h25;have g34 : f 34=_:=h34;have g22 : f 22=_:=h22;refine tab_yes g22 fun K Q hK => ?_;simp only [puts, Za, Zb, Zc, Zd, Ze, g25, g34, g22];go_step;exact fam_e hK rfl rfl (Below.refl _ _) hC
        ·
         obtain ⟨h22, h35, -⟩ := hh;have g22 : f 22=_:=h22;have g35 : f 35=_:=h35;refine tab_plain fun K Q hK => ?_;simp only [puts, Za, Zb, Zc, Zd, Ze, g22, g35];go_step;exact fam_e hK rfl rfl (Below.refl _ _) hC
       case hrest =>
        intro f W2 hC hh
        obtain ⟨h0, h1, h2, h3, h4, h5, h6, h7, h8, h9, h10, h11, h12, h13, h14, h15, h16, h17, h18, h19, h20, h21, h22, h23, h24, h25, h26, h27, h28, h29, h30, h31, h32, h33, h34, h35, h36, -⟩ := hh;have g0 : f 0=_:=h0;have g1 : f 1=_:=h1;have g2 : f 2=_:=h2;have g3 : f 3=_:=h3;have g4 : f 4=_:=h4;have g5 : f 5=_:=h5;have g6 : f 6=_:=h6;have g7 : f 7=_:=h7;have g8 : f 8=_:=h8;have g9 : f 9=_:=h9;have g10 : f 10=_:=h10;have g11 : f 11=_:=h11;have g12 : f 12=_:=h12;have g13 : f 13=_:=h13;have g14 : f 14=_:=h14;have g15 : f 15=_:=h15;have g16 : f 16=_:=h16;have g17 : f 17=_:=h17;have g18 : f 18=_:=h18;have g19 : f 19=_:=h19;have g20 : f 20=_:=h20;have g21 : f 21=_:=h21;have g22 : f 22=_:=h22;have g23 : f 23=_:=h23;have g24 : f 24=_:=h24;have g25 : f 25=_:=h25;have g26 : f 26=_:=h26;have g27 : f 27=_:=h27;have g28 : f 28=_:=h28;have g29 : f 29=_:=h29;have g30 : f 30=_:=h30;have g31 : f 31=_:=h31;have g32 : f 32=_:=h32;have g33 : f 33=_:=h33;have g34 : f 34=_:=h34;have g35 : f 35=_:=h35;have g36 : f 36=_:=h36;simp only [puts, Za, Zb, Zc, Zd, Ze, g0, g1, g2, g3, g4, g5, g6, g7, g8, g9, g10, g11, g12, g13, g14, g15, g16, g17, g18, g19, g20, g21, g22, g23, g24, g25, g26, g27, g28, g29, g30, g31, g32, g33, g34, g35, g36]
        clear h0 h1 h2 h3 h4 h5 h6 h7 h8 h9 h10 h11 h12 h13 h14 h15 h16 h17 h18 h19 h20 h21 h22 h23 h24 h25 h26 h27 h28 h29 h30 h31 h32 h33 h34 h35 h36 g0 g1 g2 g3 g4 g5 g6 g7 g8 g9 g10 g11 g12 g13 g14 g15 g16 g17 g18 g19 g20 g21 g22 g23 g24 g25 g26 g27 g28 g29 g30 g31 g32 g33 g34 g35 g36
        go_wp2
        go_ret
        exact ⟨by rw [← HNO.out HQ.out]; rfl, HBN.out.trans (hC.mono HBN.out.size)⟩
    ·have hkl : k = al := by omega
     subst hkl
     have HYES : Hid (true = V) := Lib.hid (HD _ (vN_yes ⟨⟨by simp only; omega, by simp only; omega⟩, by simp only; rw [HFL.out]; exact H4.out, by simp only; omega, HST.out, fun i hi => HA.out i (by simp only at hi; omega)⟩).symm)
     clear HD hst
     go_wp2
     go_ret
     exact ⟨by rw [← HYES.out]; rfl, hbW⟩
end Go.Proofs.YtbjdglopkpigbaaGreatDoor.Na
namespace Go.Proofs.YtbjdglopkpigbaaGreatDoor
structure Dfa where
 n : Int
 s : Int
 fin : List Bool
 arcs : List A3
def LtA (x y : A3) : Prop := x.f < y.f ∨ (x.f = y.f ∧ x.l < y.l)
instance (x y : A3) : Decidable (LtA x y) := by unfold LtA; infer_instance
theorem LtA.trans {x y z : A3} (h : LtA x y) (h' : LtA y z) : LtA x z := by unfold LtA at *; omega
theorem LtA.irrefl {x : A3} : ¬ LtA x x := by unfold LtA; omega
def ArcOk (n : Int) (ar : List A3) (i : Nat) : Prop := ((0 ≤ (g3 ar i).f ∧ (g3 ar i).f < n) ∧ (0 ≤ (g3 ar i).t ∧ (g3 ar i).t < n)) ∧ (1 ≤ (g3 ar i).l ∧ (g3 ar i).l ≤ 10000) ∧ (0 < i → LtA (g3 ar (i - 1)) (g3 ar i))
def ValidD (d : Dfa) : Prop := (1 ≤ d.n ∧ d.n ≤ 1000) ∧ (0 ≤ d.s ∧ d.s < d.n) ∧ (d.fin.length : Int) = d.n ∧ d.arcs.length ≤ 20000 ∧ ∀ i, i < d.arcs.length → ArcOk d.n d.arcs i
theorem validD_no {d : Dfa} {i : Nat} (hi : i < d.arcs.length) (h : ¬ ArcOk d.n d.arcs i) : ¬ ValidD d := fun hv => h (hv.2.2.2.2 i hi)
open Classical in
noncomputable def vD (d : Dfa) : Bool := decide (ValidD d)
open Classical in
theorem vD_yes {d : Dfa} (h : ValidD d) : vD d = true := by unfold vD; exact decide_eq_true h
open Classical in
theorem vD_no {d : Dfa} (h : ¬ ValidD d) : vD d = false := by unfold vD; exact decide_eq_false h
def SortedA (ar : List A3) : Prop := ar.Pairwise LtA
theorem sorted_of_steps {ar : List A3} (h : ∀ i, 0 < i → i < ar.length → LtA (g3 ar (i - 1)) (g3 ar i)) : SortedA ar := by
 have up : ∀ d i, i + (d + 1) < ar.length → LtA (g3 ar i) (g3 ar (i + (d + 1))) := by
  intro d
  induction d with
  | zero => intro i hi; have := h (i + 1) (by omega) hi; simpa using this
  | succ d ih =>
   intro i hi
   have h1 := ih i (by omega)
   have h2 := h (i + (d + 1) + 1) (by omega) hi
   rw [show i + (d + 1) + 1 - 1 = i + (d + 1) by omega] at h2
   rw [show i + (d + 1 + 1) = i + (d + 1) + 1 by omega]
   exact h1.trans h2
 refine List.pairwise_iff_getElem.2 fun i j hi hj hij => ?_
 have := up (j - i - 1) i (by omega)
 rw [show i + (j - i - 1 + 1) = j by omega, g3_eq _ i hi, g3_eq _ j hj] at this
 exact this
theorem ValidD.sorted {d : Dfa} (h : ValidD d) : SortedA d.arcs := sorted_of_steps fun i h0 hi => (h.2.2.2.2 i hi).2.2 h0
theorem SortedA.lt {ar : List A3} (h : SortedA ar) {i j : Nat} (hij : i < j) (hj : j < ar.length) : LtA (g3 ar i) (g3 ar j) := by
 rw [g3_eq _ _ (by omega), g3_eq _ _ hj]
 exact List.pairwise_iff_getElem.1 h i j (by omega) hj hij
theorem ValidD.arc {d : Dfa} (h : ValidD d) {x : A3} (hx : x ∈ d.arcs) : ((0 ≤ x.f ∧ x.f < d.n) ∧ (0 ≤ x.t ∧ x.t < d.n)) ∧ (1 ≤ x.l ∧ x.l ≤ 10000) := by
 obtain ⟨i, hi, e⟩ := List.getElem_of_mem hx
 have := h.2.2.2.2 i hi
 unfold ArcOk at this
 rw [g3_eq _ i hi, e] at this
 exact ⟨this.1, this.2.1⟩
def loP (ar : List A3) (y : A3) : Nat := (ar.filter fun x => decide (LtA x y)).length
theorem loP_le (ar : List A3) (y : A3) : loP ar y ≤ ar.length := List.length_filter_le _ _
theorem loP_iff {ar : List A3} (h : SortedA ar) (y : A3) : ∀ i, i < ar.length → (i < loP ar y ↔ LtA (g3 ar i) y) := by
 induction ar with
 | nil => intro i hi; exact absurd hi (Nat.not_lt_zero _)
 | cons x l ih =>
  intro i hi
  have h' := List.pairwise_cons.1 h
  by_cases hx : LtA x y
  ·have e : loP (x :: l) y = loP l y + 1 := by unfold loP; rw [List.filter_cons_of_pos (by exact decide_eq_true hx)]; rfl
   rw [e]
   cases i with
   | zero => exact ⟨fun _ => hx, fun _ => by omega⟩
   | succ i =>
    have := ih h'.2 i (by simpa using hi)
    rw [show g3 (x :: l) (i + 1) = g3 l i from rfl, ← this]
    omega
  ·have hall : ∀ z ∈ l, ¬ LtA z y := fun z hz hzy => hx ((h'.1 z hz).trans hzy)
   have e : loP (x :: l) y = 0 := by
    unfold loP
    rw [List.filter_cons_of_neg (by simpa using hx), List.length_eq_zero_iff, List.filter_eq_nil_iff]
    intro z hz
    simpa using hall z hz
   rw [e]
   refine ⟨fun h => absurd h (Nat.not_lt_zero _), fun hl => ?_⟩
   cases i with
   | zero => exact absurd hl hx
   | succ i =>
    have hi' : i < l.length := by simpa using hi
    exact absurd hl (hall _ (g3_mem l i hi'))
theorem loP_eq {ar : List A3} (h : SortedA ar) (y : A3) {p : Nat} (hp : p ≤ ar.length) (h1 : ∀ i, i < p → LtA (g3 ar i) y) (h2 : ∀ i, p ≤ i → i < ar.length → ¬ LtA (g3 ar i) y) : p = loP ar y := by
 have hl := loP_le ar y
 rcases Nat.lt_trichotomy p (loP ar y) with h3 | h3 | h3
 ·exact absurd ((loP_iff h y p (by omega)).1 h3) (h2 p (Nat.le_refl _) (by omega))
 ·exact h3
 ·have := (loP_iff h y (loP ar y) (by omega)).2 (h1 _ h3)
  omega
def nxtD (ar : List A3) (q c : Int) : Option A3 := ar.find? fun x => decide (x.f = q) && decide (x.l = c)
def hasAt (ar : List A3) (q c : Int) : Prop := loP ar ⟨q, c, 0⟩ < ar.length ∧ (g3 ar (loP ar ⟨q, c, 0⟩)).f = q ∧ (g3 ar (loP ar ⟨q, c, 0⟩)).l = c
theorem nxtD_some {ar : List A3} (h : SortedA ar) {q c : Int} (hh : hasAt ar q c) : nxtD ar q c = some (g3 ar (loP ar ⟨q, c, 0⟩)) := by
 unfold nxtD
 obtain ⟨h1, h2, h3⟩ := hh
 rw [List.find?_eq_some_iff_append]
 refine ⟨by simp [h2, h3], ar.take (loP ar ⟨q, c, 0⟩), ar.drop (loP ar ⟨q, c, 0⟩ + 1), ?_, fun x hx => ?_⟩
 ·rw [g3_eq _ _ h1, ← List.drop_eq_getElem_cons h1, List.take_append_drop]
 ·obtain ⟨i, hi, e⟩ := List.getElem_of_mem hx
  rw [List.length_take] at hi
  rw [List.getElem_take] at e
  have := (loP_iff h ⟨q, c, 0⟩ i (by omega)).1 (by omega)
  rw [g3_eq _ i (by omega), e] at this
  unfold LtA at this
  simp at this ⊢
  omega
theorem nxtD_none {ar : List A3} (h : SortedA ar) {q c : Int} (hh : ¬ hasAt ar q c) : nxtD ar q c = none := by
 unfold nxtD
 rw [List.find?_eq_none]
 intro x hx hc
 simp at hc
 obtain ⟨i, hi, e⟩ := List.getElem_of_mem hx
 have e' : g3 ar i = x := by rw [g3_eq _ i hi]; exact e
 refine hh ?_
 have : loP ar ⟨q, c, 0⟩ = i := by
  refine (loP_eq h ⟨q, c, 0⟩ (p := i) (by omega) (fun j hj => ?_) (fun j hj hjl => ?_)).symm
  ·have := h.lt hj hi
   rw [e'] at this
   unfold LtA at this ⊢
   simp
   omega
  ·intro hl
   rcases Nat.lt_or_ge i j with h2 | h2
   ·have := h.lt h2 hjl
    rw [e'] at this
    unfold LtA at this hl
    simp at hl
    omega
   ·rw [show j = i by omega, e'] at hl
    unfold LtA at hl
    simp at hl
    omega
 unfold hasAt
 rw [this, e']
 exact ⟨hi, hc⟩
def outsD (ar : List A3) (q : Int) : List A3 := ar.filter fun x => decide (x.f = q)
theorem outsD_part {ar : List A3} (h : SortedA ar) (hl : ∀ x ∈ ar, 1 ≤ x.l) (q : Int) : loP ar ⟨q, 0, 0⟩ ≤ loP ar ⟨q + 1, 0, 0⟩ ∧ (ar.drop (loP ar ⟨q, 0, 0⟩)).take (loP ar ⟨q + 1, 0, 0⟩ - loP ar ⟨q, 0, 0⟩) = outsD ar q := by
 have lt0 : ∀ x ∈ ar, (LtA x ⟨q, 0, 0⟩ ↔ x.f < q) := fun x hx => by
  have := hl x hx
  unfold LtA
  simp
  omega
 have lt1 : ∀ x ∈ ar, (LtA x ⟨q + 1, 0, 0⟩ ↔ x.f < q + 1) := fun x hx => by
  have := hl x hx
  unfold LtA
  simp
  omega
 have hle : loP ar ⟨q, 0, 0⟩ ≤ loP ar ⟨q + 1, 0, 0⟩ := by
  refine Nat.le_of_not_lt fun hlt => ?_
  have h1 := loP_le ar ⟨q, 0, 0⟩
  have hi : loP ar ⟨q + 1, 0, 0⟩ < ar.length := by omega
  have h2 := (lt0 _ (g3_mem ar _ hi)).1 ((loP_iff h ⟨q, 0, 0⟩ _ hi).1 hlt)
  have h3 := (loP_iff h ⟨q + 1, 0, 0⟩ _ hi).2 ((lt1 _ (g3_mem ar _ hi)).2 (by omega))
  omega
 refine ⟨hle, ?_⟩
 have h1 := loP_le ar ⟨q + 1, 0, 0⟩
 have split : ar = ar.take (loP ar ⟨q, 0, 0⟩) ++ ((ar.drop (loP ar ⟨q, 0, 0⟩)).take (loP ar ⟨q + 1, 0, 0⟩ - loP ar ⟨q, 0, 0⟩) ++ ar.drop (loP ar ⟨q + 1, 0, 0⟩)) := by
  have e : (ar.drop (loP ar ⟨q, 0, 0⟩)).drop (loP ar ⟨q + 1, 0, 0⟩ - loP ar ⟨q, 0, 0⟩) = ar.drop (loP ar ⟨q + 1, 0, 0⟩) := by rw [List.drop_drop]; congr 1; omega
  rw [← e, List.take_append_drop, List.take_append_drop]
 have key : ∀ i, i < ar.length → ((g3 ar i).f = q ↔ loP ar ⟨q, 0, 0⟩ ≤ i ∧ i < loP ar ⟨q + 1, 0, 0⟩) := fun i hi => by
  have e0 := (loP_iff h ⟨q, 0, 0⟩ i hi).trans (lt0 _ (g3_mem ar i hi))
  have e1 := (loP_iff h ⟨q + 1, 0, 0⟩ i hi).trans (lt1 _ (g3_mem ar i hi))
  omega
 unfold outsD
 conv => rhs; rw [split]
 rw [List.filter_append, List.filter_append]
 have f1 : (ar.take (loP ar ⟨q, 0, 0⟩)).filter (fun x => decide (x.f = q)) = [] := by
  rw [List.filter_eq_nil_iff]
  intro x hx
  obtain ⟨i, hi, e⟩ := List.getElem_of_mem hx
  rw [List.length_take] at hi
  rw [List.getElem_take] at e
  have := key i (by omega)
  rw [g3_eq _ i (by omega), e] at this
  simp
  omega
 have f3 : (ar.drop (loP ar ⟨q + 1, 0, 0⟩)).filter (fun x => decide (x.f = q)) = [] := by
  rw [List.filter_eq_nil_iff]
  intro x hx
  obtain ⟨i, hi, e⟩ := List.getElem_of_mem hx
  rw [List.length_drop] at hi
  rw [List.getElem_drop] at e
  have := key (loP ar ⟨q + 1, 0, 0⟩ + i) (by omega)
  rw [g3_eq _ _ (by omega), e] at this
  simp
  omega
 have f2 : ((ar.drop (loP ar ⟨q, 0, 0⟩)).take (loP ar ⟨q + 1, 0, 0⟩ - loP ar ⟨q, 0, 0⟩)).filter (fun x => decide (x.f = q)) = (ar.drop (loP ar ⟨q, 0, 0⟩)).take (loP ar ⟨q + 1, 0, 0⟩ - loP ar ⟨q, 0, 0⟩) := by
  rw [List.filter_eq_self]
  intro x hx
  obtain ⟨i, hi, e⟩ := List.getElem_of_mem hx
  rw [List.length_take, List.length_drop] at hi
  rw [List.getElem_take, List.getElem_drop] at e
  have := key (loP ar ⟨q, 0, 0⟩ + i) (by omega)
  rw [g3_eq _ _ (by omega), e] at this
  simp
  omega
 rw [f1, f2, f3]
 simp
end Go.Proofs.YtbjdglopkpigbaaGreatDoor
set_option linter.unusedSectionVars false
namespace Go.Proofs.YtbjdglopkpigbaaGreatDoor
structure Bq (α : Type) where
 q : List α
 w : List (List Int)
 a : List A3
section
variable {α : Type} [DecidableEq α]
def bq1 (h : Nat) (st : Bq α) (x : Int × α) : Bq α :=
 ⟨if x.2 ∈ st.q then st.q else st.q ++ [x.2], if x.2 ∈ st.q then st.w else st.w ++ [st.w.getD h [] ++ [x.1]], st.a ++ [⟨h, x.1, (st.q.idxOf x.2 : Nat)⟩]⟩
def bqs (h : Nat) (st : Bq α) (l : List (Int × α)) : Bq α := l.foldl (bq1 h) st
def bqh (o : α → List (Int × α)) (h : Nat) (st : Bq α) : Bq α :=
 match st.q[h]? with
 | some q => bqs h st (o q)
 | none => st
def bq (o : α → List (Int × α)) (s : α) : Nat → Bq α
 | 0 => ⟨[s], [[]], []⟩
 | k + 1 => bqh o k (bq o s k)
theorem bqs_nil (h : Nat) (st : Bq α) : bqs h st [] = st := rfl
theorem bqs_cons (h : Nat) (st : Bq α) (x : Int × α) (l : List (Int × α)) : bqs h st (x :: l) = bqs h (bq1 h st x) l := rfl
theorem bqs_snoc (h : Nat) (st : Bq α) (x : Int × α) (l : List (Int × α)) : bqs h st (l ++ [x]) = bq1 h (bqs h st l) x := by unfold bqs; rw [List.foldl_append]; rfl
theorem bqh_at {o : α → List (Int × α)} {h : Nat} {st : Bq α} (hh : h < st.q.length) : bqh o h st = bqs h st (o st.q[h]) := by
 unfold bqh; rw [List.getElem?_eq_getElem hh]
theorem bqh_over {o : α → List (Int × α)} {h : Nat} {st : Bq α} (hh : st.q.length ≤ h) : bqh o h st = st := by
 unfold bqh; rw [List.getElem?_eq_none hh]
theorem bq1_pre (h : Nat) (st : Bq α) (x : Int × α) : st.q <+: (bq1 h st x).q := by
 unfold bq1
 by_cases hx : x.2 ∈ st.q
 ·simp only [if_pos hx]; exact List.prefix_refl _
 ·simp only [if_neg hx]; exact List.prefix_append _ _
theorem bqs_pre (h : Nat) : ∀ (l : List (Int × α)) (st : Bq α), st.q <+: (bqs h st l).q
 | [], st => List.prefix_refl _
 | x :: l, st => (bq1_pre h st x).trans (bqs_pre h l (bq1 h st x))
theorem bqh_pre (o : α → List (Int × α)) (h : Nat) (st : Bq α) : st.q <+: (bqh o h st).q := by
 unfold bqh
 split
 ·exact bqs_pre h _ st
 ·exact List.prefix_refl _
theorem bq_pre (o : α → List (Int × α)) (s : α) {j k : Nat} (h : j ≤ k) : (bq o s j).q <+: (bq o s k).q := by
 induction k with
 | zero => rw [show j = 0 by omega]; exact List.prefix_refl _
 | succ k ih =>
  rcases Nat.lt_or_ge k j with h1 | h1
  ·rw [show j = k + 1 by omega]; exact List.prefix_refl _
  ·exact (ih h1).trans (bqh_pre o k (bq o s k))
theorem idx_pre {xs ys : List α} (h : xs <+: ys) {x : α} (hx : x ∈ xs) : ys.idxOf x = xs.idxOf x := by
 obtain ⟨t, rfl⟩ := h
 rw [List.idxOf_append, if_pos hx]
theorem get_pre {xs ys : List α} (h : xs <+: ys) {i : Nat} (hi : i < xs.length) : ∃ h', ys[i]'h' = xs[i] := by
 obtain ⟨t, rfl⟩ := h
 exact ⟨by rw [List.length_append]; omega, List.getElem_append_left hi⟩
theorem bq1_mem (h : Nat) (st : Bq α) (x : Int × α) : x.2 ∈ (bq1 h st x).q := by
 unfold bq1
 by_cases hx : x.2 ∈ st.q
 ·simp only [if_pos hx]; exact hx
 ·simp only [if_neg hx]; simp
theorem bqs_mem (h : Nat) : ∀ (l : List (Int × α)) (st : Bq α), ∀ x ∈ l, x.2 ∈ (bqs h st l).q
 | [], st, x, hx => absurd hx List.not_mem_nil
 | y :: l, st, x, hx => by
  rcases List.mem_cons.1 hx with rfl | hx
  ·exact (bqs_pre h l _).subset (bq1_mem h st x)
  ·exact bqs_mem h l _ x hx
theorem bq1_nodup (h : Nat) (st : Bq α) (x : Int × α) (hn : st.q.Nodup) : (bq1 h st x).q.Nodup := by
 unfold bq1
 by_cases hx : x.2 ∈ st.q
 ·simp only [if_pos hx]; exact hn
 ·simp only [if_neg hx]
  rw [List.nodup_append]
  refine ⟨hn, by simp, fun a ha b hb => ?_⟩
  rw [List.mem_singleton.1 hb]
  rintro rfl
  exact hx ha
theorem bqs_nodup (h : Nat) : ∀ (l : List (Int × α)) (st : Bq α), st.q.Nodup → (bqs h st l).q.Nodup
 | [], st, hn => hn
 | x :: l, st, hn => bqs_nodup h l _ (bq1_nodup h st x hn)
theorem bqh_nodup (o : α → List (Int × α)) (h : Nat) (st : Bq α) (hn : st.q.Nodup) : (bqh o h st).q.Nodup := by
 unfold bqh
 split
 ·exact bqs_nodup h _ st hn
 ·exact hn
theorem bq_nodup (o : α → List (Int × α)) (s : α) : ∀ k, (bq o s k).q.Nodup
 | 0 => by simp [bq]
 | k + 1 => bqh_nodup o k _ (bq_nodup o s k)
theorem bq1_all {P : α → Prop} (h : Nat) (st : Bq α) (x : Int × α) (hP : ∀ y ∈ st.q, P y) (hx : P x.2) : ∀ y ∈ (bq1 h st x).q, P y := by
 unfold bq1
 by_cases hm : x.2 ∈ st.q
 ·simp only [if_pos hm]; exact hP
 ·simp only [if_neg hm]
  intro y hy
  rcases List.mem_append.1 hy with hy | hy
  ·exact hP y hy
  ·rw [List.mem_singleton.1 hy]; exact hx
theorem bqs_all {P : α → Prop} (h : Nat) : ∀ (l : List (Int × α)) (st : Bq α), (∀ y ∈ st.q, P y) → (∀ x ∈ l, P x.2) → ∀ y ∈ (bqs h st l).q, P y
 | [], st, hP, hl => hP
 | x :: l, st, hP, hl => bqs_all h l _ (bq1_all h st x hP (hl x List.mem_cons_self)) fun z hz => hl z (List.mem_cons_of_mem _ hz)
theorem bq_all {P : α → Prop} {o : α → List (Int × α)} {s : α} (hs : P s) (ho : ∀ y, P y → ∀ x ∈ o y, P x.2) : ∀ k, ∀ y ∈ (bq o s k).q, P y
 | 0 => by intro y hy; have hy : y ∈ [s] := hy; rw [List.mem_singleton.1 hy]; exact hs
 | k + 1 => by
  have ih := bq_all hs ho k
  show ∀ y ∈ (bqh o k (bq o s k)).q, P y
  unfold bqh
  split
  ·rename_i y e
   exact bqs_all k _ _ ih (ho y (ih y (List.mem_of_getElem? e)))
  ·exact ih
theorem bqs_arcs (h : Nat) : ∀ (l : List (Int × α)) (st : Bq α), (bqs h st l).a = st.a ++ l.map fun x => ⟨h, x.1, ((bqs h st l).q.idxOf x.2 : Nat)⟩
 | [], st => by simp [bqs_nil]
 | x :: l, st => by
  rw [bqs_cons, bqs_arcs h l, List.map_cons, show (bq1 h st x).a = st.a ++ [⟨h, x.1, (st.q.idxOf x.2 : Nat)⟩] from rfl, List.append_assoc, List.singleton_append]
  congr 3
  have e1 := idx_pre (bqs_pre h l (bq1 h st x)) (bq1_mem h st x)
  rw [e1]
  by_cases hx : x.2 ∈ st.q
  ·rw [idx_pre (bq1_pre h st x) hx]
  ·have : (bq1 h st x).q = st.q ++ [x.2] := by unfold bq1; simp only [if_neg hx]
   rw [this, List.idxOf_append, if_neg hx, List.idxOf_eq_length hx]
   simp
def headArcs (o : α → List (Int × α)) (Q : List α) (i : Nat) : List A3 :=
 match Q[i]? with
 | some y => (o y).map fun x => ⟨i, x.1, (Q.idxOf x.2 : Nat)⟩
 | none => []
theorem bq_succ_arcs (o : α → List (Int × α)) (s : α) (k : Nat) : (bq o s (k + 1)).a = (bq o s k).a ++ headArcs o (bq o s (k + 1)).q k := by
 show (bqh o k (bq o s k)).a = _
 rcases Nat.lt_or_ge k (bq o s k).q.length with hk | hk
 ·have e : bq o s (k + 1) = bqs k (bq o s k) (o (bq o s k).q[k]) := bqh_at hk
  rw [bqh_at hk, bqs_arcs]
  obtain ⟨h', hg⟩ := get_pre (bq_pre o s (Nat.le_succ k)) hk
  unfold headArcs
  rw [List.getElem?_eq_getElem h', hg, e]
 ·have e : bq o s (k + 1) = bq o s k := bqh_over hk
  rw [bqh_over hk]
  unfold headArcs
  rw [e, List.getElem?_eq_none hk]
  simp
theorem bq_closed (o : α → List (Int × α)) (s : α) : ∀ k i, i < k → ∀ y, (bq o s k).q[i]? = some y → ∀ x ∈ o y, x.2 ∈ (bq o s k).q := by
 intro k
 induction k with
 | zero => intro i hi; omega
 | succ k ih =>
  intro i hi y hy x hx
  rcases Nat.lt_or_ge k (bq o s k).q.length with hk | hk
  ·have e : bq o s (k + 1) = bqs k (bq o s k) (o (bq o s k).q[k]) := bqh_at hk
   have hil : i < (bq o s k).q.length := by omega
   obtain ⟨h', hg⟩ := get_pre (bq_pre o s (Nat.le_succ k)) hil
   rw [List.getElem?_eq_getElem h', hg] at hy
   injection hy with hy
   rcases Nat.lt_or_ge i k with h1 | h1
   ·exact (bq_pre o s (Nat.le_succ k)).subset (ih i h1 y (by rw [List.getElem?_eq_getElem hil, hy]) x hx)
   ·have : i = k := by omega
    subst this
    rw [e]
    rw [← hy] at hx
    exact bqs_mem _ _ _ x hx
  ·have e : bq o s (k + 1) = bq o s k := bqh_over hk
   rw [e] at hy ⊢
   have hil := (List.getElem?_eq_some_iff.1 hy).1
   exact ih i (by omega) y hy x hx
theorem headArcs_pre {o : α → List (Int × α)} {Q Q' : List α} (h : Q <+: Q') {i : Nat} (hi : i < Q.length) (hc : ∀ y, Q[i]? = some y → ∀ x ∈ o y, x.2 ∈ Q) : headArcs o Q' i = headArcs o Q i := by
 obtain ⟨h', hg⟩ := get_pre h hi
 have hc := hc Q[i] (List.getElem?_eq_getElem hi)
 unfold headArcs
 rw [List.getElem?_eq_getElem h', List.getElem?_eq_getElem hi, hg]
 exact List.map_congr_left fun x hx => by rw [idx_pre h (hc x hx)]
theorem bq_arcs (o : α → List (Int × α)) (s : α) : ∀ k, (bq o s k).a = (List.range k).flatMap (headArcs o (bq o s k).q) := by
 intro k
 induction k with
 | zero => rfl
 | succ k ih =>
  rw [bq_succ_arcs, ih, List.range_succ, List.flatMap_append]
  congr 1
  ·have : ∀ i ∈ List.range k, headArcs o (bq o s k).q i = headArcs o (bq o s (k + 1)).q i := fun i hi => by
    have hi := List.mem_range.1 hi
    rcases Nat.lt_or_ge i (bq o s k).q.length with h1 | h1
    ·exact (headArcs_pre (bq_pre o s (Nat.le_succ k)) h1 (bq_closed o s k i hi)).symm
    ·have e : bq o s (k + 1) = bq o s k := bqh_over (by omega)
     rw [e]
   simp only [List.flatMap]
   rw [List.map_congr_left this]
  ·simp [List.flatMap]
theorem bq_stay (o : α → List (Int × α)) (s : α) {k : Nat} (h : (bq o s k).q.length ≤ k) : ∀ d, bq o s (k + d) = bq o s k
 | 0 => rfl
 | d + 1 => by
  have ih := bq_stay o s h d
  show bqh o (k + d) (bq o s (k + d)) = bq o s k
  rw [ih]
  exact bqh_over (by omega)
theorem bq_fin (o : α → List (Int × α)) (s : α) {k n : Nat} (h : (bq o s k).q.length ≤ k) (hn : (bq o s n).q.length ≤ n) : bq o s k = bq o s n := by
 rcases Nat.le_total k n with h1 | h1
 ·have := bq_stay o s h (n - k)
  rw [show k + (n - k) = n by omega] at this
  exact this.symm
 ·have := bq_stay o s hn (k - n)
  rwa [show n + (k - n) = k by omega] at this
end
theorem bq_map {α β : Type} [DecidableEq α] [DecidableEq β] {o : α → List (Int × α)} {o' : β → List (Int × β)} {s : α} (g : α → β) (P : α → Prop) (hs : P s) (ho : ∀ y, P y → ∀ x ∈ o y, P x.2) (hg : ∀ x y, P x → P y → g x = g y → x = y) (he : ∀ y, P y → o' (g y) = (o y).map fun x => (x.1, g x.2)) : ∀ k, bq o' (g s) k = ⟨(bq o s k).q.map g, (bq o s k).w, (bq o s k).a⟩ := by
 have mem_map : ∀ (Q : List α) (x : α), (∀ y ∈ Q, P y) → P x → (g x ∈ Q.map g ↔ x ∈ Q) := fun Q x hQ hx => by
  rw [List.mem_map]
  exact ⟨fun ⟨y, hy, e⟩ => hg y x (hQ y hy) hx e ▸ hy, fun h => ⟨x, h, rfl⟩⟩
 have idx_map : ∀ (Q : List α) (x : α), (∀ y ∈ Q, P y) → P x → (Q.map g).idxOf (g x) = Q.idxOf x := by
  intro Q x hQ hx
  induction Q with
  | nil => rfl
  | cons y Q ih =>
   have ih := ih fun z hz => hQ z (List.mem_cons_of_mem _ hz)
   rw [List.map_cons, List.idxOf_cons, List.idxOf_cons, ih]
   by_cases e : y = x
   ·subst e; simp
   ·have e' : g y ≠ g x := fun h => e (hg y x (hQ y List.mem_cons_self) hx h)
    have b1 : (y == x) = false := by simpa using e
    have b2 : (g y == g x) = false := by simpa using e'
    rw [b1, b2]
 have one : ∀ (h : Nat) (st : Bq α) (x : Int × α), (∀ y ∈ st.q, P y) → P x.2 → bq1 h (⟨st.q.map g, st.w, st.a⟩ : Bq β) (x.1, g x.2) = ⟨(bq1 h st x).q.map g, (bq1 h st x).w, (bq1 h st x).a⟩ := by
  intro h st x hQ hx
  unfold bq1
  simp only [mem_map st.q x.2 hQ hx, idx_map st.q x.2 hQ hx]
  by_cases hm : x.2 ∈ st.q
  ·simp only [if_pos hm]
  ·simp only [if_neg hm, List.map_append, List.map_cons, List.map_nil]
 have all : ∀ (h : Nat) (l : List (Int × α)) (st : Bq α), (∀ y ∈ st.q, P y) → (∀ x ∈ l, P x.2) → bqs h (⟨st.q.map g, st.w, st.a⟩ : Bq β) (l.map fun x => (x.1, g x.2)) = ⟨(bqs h st l).q.map g, (bqs h st l).w, (bqs h st l).a⟩ := by
  intro h l
  induction l with
  | nil => intro st _ _; rfl
  | cons x l ih =>
   intro st hQ hl
   rw [List.map_cons, bqs_cons, bqs_cons, one h st x hQ (hl x List.mem_cons_self)]
   exact ih _ (bq1_all h st x hQ (hl x List.mem_cons_self)) fun z hz => hl z (List.mem_cons_of_mem _ hz)
 intro k
 induction k with
 | zero => rfl
 | succ k ih =>
  show bqh o' k (bq o' (g s) k) = _
  rw [ih]
  have hQ := bq_all (o := o) hs ho k
  rcases Nat.lt_or_ge k (bq o s k).q.length with hk | hk
  ·have e : bq o s (k + 1) = bqs k (bq o s k) (o (bq o s k).q[k]) := bqh_at hk
   have hp := hQ _ (List.getElem_mem hk)
   rw [bqh_at (by simpa using hk), e]
   simp only [List.getElem_map]
   rw [he _ hp]
   exact all k _ _ hQ (ho _ hp)
  ·have e : bq o s (k + 1) = bq o s k := bqh_over hk
   rw [bqh_over (by simpa using hk), e]
end Go.Proofs.YtbjdglopkpigbaaGreatDoor
