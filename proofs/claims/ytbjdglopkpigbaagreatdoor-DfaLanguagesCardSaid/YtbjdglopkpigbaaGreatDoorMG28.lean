import Derived.Test.YtbjdglopkpigbaaGreatDoorMG6
import Derived.Test.YtbjdglopkpigbaaGreatDoorMG24
import Derived.Test.YtbjdglopkpigbaaGreatDoorMG25
/-
  DfaC, DfaV, DfaD
-/
set_option linter.unusedSimpArgs false
set_option linter.unusedVariables false
namespace Go.Proofs.YtbjdglopkpigbaaGreatDoor
open Go.RowKit
attribute [local go_sem] Oper.semAt_some
def nextV (ar : List A3) (q c : Int) : Value := match nxtD ar q c with
 | some x => .tuple #[.int .i64 x.t, .bool true]
 | none => .tuple #[.int .i64 0, .bool false]
set_option maxRecDepth 20000 in
theorem next_any (d : Dfa) (h : DH) (q c : Int) (w : World) (hd : IsDfa w h d) (hS : SortedA d.arcs) (hl : d.arcs.length ≤ 20000) :
  Calls Tryz.prog 18 #[vDf d h, .int .i64 q, .int .i64 c] w fun e w' => e = .returned (nextV d.arcs q c) ∧ Below w.heap.size w w' := by
 obtain ⟨n, s, fin, es⟩ := d
 obtain ⟨fa, fl, fc, aa, al, ac⟩ := h
 obtain ⟨-, he⟩ := hd
 simp only at he hS hl ⊢
 have hlen := he.length
 rw [hlen] at hl
 obtain ⟨hb1, hs1, hO⟩ := boxD n s fa fl fc aa al ac w
 obtain ⟨W1, hW1⟩ : ∃ W1, w.alloc (.cells #[.int .i64 n, .int .i64 s, .slice fa fl fc, .slice aa al ac] 37) = W1 := ⟨_, rfl⟩
 rw [hW1] at hb1 hs1 hO
 obtain ⟨-, -, -, co⟩ := hO W1 (Below.refl _ _)
 have he1 := he.later hb1
 unfold vDf
 by_cases hh : hasAt es q c
 ·have HR : Hid (nextV es q c = .tuple #[.int .i64 (g3 es (loP es ⟨q, c, 0⟩)).t, .bool true]) := Lib.hid (by unfold nextV; rw [nxtD_some hS hh])
  have hp := hh.1
  obtain ⟨b, off, rfl, hcell⟩ := he.fix (by omega)
  have hcall := search_any _ al ac es q c W1 he1 hS (by omega)
  have HH := Lib.hid hh
  obtain ⟨p, hpe⟩ : ∃ p, loP es ⟨q, c, 0⟩ = p := ⟨_, rfl⟩
  rw [hpe] at HR hp hcall
  clear hpe hh he he1
  go_enter Tryz.func18, Tryz.ntmps18
  go_wp2_with (go_at_call 33; refine hcall.mono ?_; rintro e w2 ⟨⟨u, rfl, hu⟩, hb2⟩; have hu2 : u = true := hu.2 HH.out; subst hu2; clear hu; obtain ⟨-, -, -, co2⟩ := hO w2 (hb2.mono (by omega)); obtain ⟨-, -, ct⟩ := hcell w2 (hb1.trans (hb2.mono hb1.size)) p (by omega))
  go_ret2
  exact ⟨by rw [HR.out]; rfl, hb1.trans (hb2.mono hb1.size)⟩
 ·have HR : Hid (nextV es q c = .tuple #[.int .i64 0, .bool false]) := Lib.hid (by unfold nextV; rw [nxtD_none hS hh])
  have hcall := search_any _ al ac es q c W1 he1 hS (by omega)
  have HH := Lib.hid hh
  clear hh he he1
  go_enter Tryz.func18, Tryz.ntmps18
  go_wp2_with (go_at_call 33; refine hcall.mono ?_; rintro e w2 ⟨⟨u, rfl, hu⟩, hb2⟩; have hu2 : u = false := Bool.eq_false_iff.2 fun h => HH.out (hu.1 h); subst hu2; clear hu)
  go_ret2
  exact ⟨by rw [HR.out]; rfl, hb1.trans (hb2.mono hb1.size)⟩
theorem IsArcs.part {w : World} {b off al ac : Nat} {es : List A3} (h : IsArcs w (some ⟨b, off, none⟩) al ac es) {i k c : Nat} (hik : i ≤ k) (hk : k ≤ al) (hc : k - i ≤ c) (hcm : c ≤ maxLen) : IsArcs w (some ⟨b, off + i * 3, none⟩) (k - i) c ((es.drop i).take (k - i)) := by
 have hl := h.length
 refine .inr ⟨b, off + i * 3, rfl, hc, hcm, by rw [List.length_take, List.length_drop]; omega, fun j hj => ?_⟩
 have e : g3 ((es.drop i).take (k - i)) j = g3 es (i + j) := by
  unfold g3
  rw [List.getD_eq_getElem?_getD, List.getD_eq_getElem?_getD, List.getElem?_take_of_lt (by omega), List.getElem?_drop]
 rw [e]
 have := h.get (i + j) (by omega)
 rwa [show off + (i + j) * 3 = off + i * 3 + j * 3 by omega] at this
end Go.Proofs.YtbjdglopkpigbaaGreatDoor
namespace Go.Proofs.YtbjdglopkpigbaaGreatDoor
open List (foldr_cons foldr_nil setIfInBounds_toArray set_cons_succ set_cons_zero)
open Go.RowKit
attribute [local go_sem] Oper.semAt_some
set_option maxRecDepth 20000 in
set_option maxHeartbeats 4000000 in
theorem valid_any (d : Dfa) (h : DH) (w : World) (hd : IsDfa w h d) :
  Calls Tryz.prog 17 #[vDf d h] w fun e w' => e = .returned (.bool (vD d)) ∧ Below w.heap.size w w' := by
 obtain ⟨V, hV⟩ : ∃ V, vD d = V := ⟨_, rfl⟩
 have HV := Lib.hid hV
 rw [hV]
 clear hV
 have HD : ∀ x, x = vD d → x = V := fun x e => e.trans HV.out
 obtain ⟨n, s, fin, es⟩ := d
 obtain ⟨fa, fl, fc, aa, al, ac⟩ := h
 obtain ⟨hf, he⟩ := hd
 simp only at hf he HV HD
 have hlen := he.length
 have hflen := hf.length
 have hacap := he.capLe
 have hfcap := hf.capLe
 unfold maxLen at hacap hfcap
 obtain ⟨hb1, hs1, hO⟩ := boxD n s fa fl fc aa al ac w
 obtain ⟨W1, hW1⟩ : ∃ W1, w.alloc (.cells #[.int .i64 n, .int .i64 s, .slice fa fl fc, .slice aa al ac] 37) = W1 := ⟨_, rfl⟩
 rw [hW1] at hb1 hs1 hO
 obtain ⟨d1, d2, d3, d4⟩ := hO W1 (Below.refl _ _)
 have hst := fun (m : Int) W => state_any ⟨n, s, fin, es⟩ ⟨fa, fl, fc, aa, al, ac⟩ m W
 simp only [vDf] at hst
 have HFL := Lib.hid hflen
 clear hflen
 unfold vDf
 by_cases h1 : n < 1
 ·have t1 : decide (n < 1) = true := decide_eq_true h1
  have HN : Hid (false = V) := Lib.hid (HD _ (vD_no (by rintro ⟨v1, v2, v3, v4, v5⟩; simp only at v1 v2 v3 v4; omega)).symm)
  clear hst HD
  go_enter Tryz.func17, Tryz.ntmps17
  go_wp2
  go_ret
  exact ⟨by rw [← HN.out]; rfl, hb1⟩
 have t1 : decide (n < 1) = false := decide_eq_false h1
 by_cases h2 : 1000 < n
 ·have t2 : decide (1000 < n) = true := decide_eq_true h2
  have HN : Hid (false = V) := Lib.hid (HD _ (vD_no (by rintro ⟨v1, v2, v3, v4, v5⟩; simp only at v1 v2 v3 v4; omega)).symm)
  clear hst HD
  go_enter Tryz.func17, Tryz.ntmps17
  go_wp2
  go_ret
  exact ⟨by rw [← HN.out]; rfl, hb1⟩
 have t2 : decide (1000 < n) = false := decide_eq_false h2
 by_cases h3 : 0 ≤ s ∧ s < n
 case neg =>
  have hst' := fun W => hst s W
  rw [decide_eq_false h3] at hst'
  have H3 := Lib.hid h3
  clear h3
  have HN : Hid (false = V) := Lib.hid (HD _ (vD_no (by rintro ⟨v1, v2, v3, v4, v5⟩; simp only at v1 v2 v3 v4; exact H3.out v2)).symm)
  clear hst HD
  go_enter Tryz.func17, Tryz.ntmps17
  go_wp2_with (go_at_call 32; refine (hst' _).mono ?_; rintro e w2 ⟨rfl, hb2⟩; obtain ⟨d1', d2', d3', d4'⟩ := hO w2 (hb2.mono (by omega)))
  go_ret
  exact ⟨by rw [← HN.out]; rfl, hb1.trans (hb2.mono (by omega))⟩
 have hst' := fun W => hst s W
 rw [decide_eq_true h3] at hst'
 by_cases h4 : (fl : Int) = n
 case neg =>
  have t4 : ((fl : Int) != n) = true := by simpa using h4
  have H4 := Lib.hid h4
  clear h4 h3
  have HN : Hid (false = V) := Lib.hid (HD _ (vD_no (by rintro ⟨v1, v2, v3, v4, v5⟩; simp only at v1 v2 v3 v4; rw [HFL.out] at v3; exact H4.out v3)).symm)
  clear hst HD
  go_enter Tryz.func17, Tryz.ntmps17
  go_wp2_with (go_at_call 32; refine (hst' _).mono ?_; rintro e w2 ⟨rfl, hb2⟩; obtain ⟨d1', d2', d3', d4'⟩ := hO w2 (hb2.mono (by omega)))
  go_ret
  exact ⟨by rw [← HN.out]; rfl, hb1.trans (hb2.mono (by omega))⟩
 have t4 : ((fl : Int) != n) = false := by simpa using h4
 have H4 := Lib.hid h4
 have H3 := Lib.hid h3
 clear h4 h3
 by_cases h5 : 20000 < al
 ·have t5 : decide (20000 < (al : Int)) = true := decide_eq_true (by omega)
  have HN : Hid (false = V) := Lib.hid (HD _ (vD_no (by rintro ⟨v1, v2, v3, v4, v5⟩; simp only at v1 v2 v3 v4; omega)).symm)
  clear hst HD
  go_enter Tryz.func17, Tryz.ntmps17
  go_wp2_with (go_at_call 32; refine (hst' _).mono ?_; rintro e w2 ⟨rfl, hb2⟩; obtain ⟨d1', d2', d3', d4'⟩ := hO w2 (hb2.mono (by omega)))
  go_ret
  exact ⟨by rw [← HN.out]; rfl, hb1.trans (hb2.mono (by omega))⟩
 have t5 : decide (20000 < (al : Int)) = false := decide_eq_false (by omega)
 go_enter Tryz.func17, Tryz.ntmps17
 go_wp2_with (go_at_call 32; refine (hst' _).mono ?_; rintro e w2 ⟨rfl, hb2⟩; obtain ⟨d1', d2', d3', d4'⟩ := hO w2 (hb2.mono (by omega)); have HO := Lib.hid hO; clear hst')
 have hsz2 : w.heap.size + 1 ≤ w2.heap.size := by have := hb2.size; omega
 have HB2 := Lib.hid (show Below (w.heap.size + 1) W1 w2 from hb2.mono (by omega))
 clear hO hs1 d1 d2 d3 d4 d1' d2' d3' d4' t1 t2 t4 t5
 have HB1 := Lib.hid hb1
 clear hb1 hb2 hW1
 go_loopw [37] (fun c W => ∃ k : Nat, k ≤ al ∧ c = .int .i64 (k : Int) ∧ Hid (∀ i, i < k → ArcOk n es i) ∧ Below w2.heap.size w2 W) (fun c _ => al - (intOf c).toNat)
 case atStart => exact ⟨0, Nat.zero_le _, rfl, Lib.hid (fun i hi => by omega), Below.refl _ _⟩
 case round =>
  obtain ⟨k, hk, rfl, HA, hb⟩ := hrel
  have hbW : Below w.heap.size w wr := HB1.out.trans ((HB2.out.trans (hb.mono hsz2)).mono (by omega))
  have hszr : w.heap.size + 1 ≤ wr.heap.size := Nat.le_trans hsz2 hb.size
  rcases Nat.lt_or_ge k al with hlt | hge
  ·obtain ⟨b, off, rfl, hcell⟩ := he.fix (by omega)
   obtain ⟨x1, x2, x3, hx⟩ : ∃ x1 x2 x3, g3 es k = ⟨x1, x2, x3⟩ := ⟨_, _, _, rfl⟩
   obtain ⟨cx1, cx2, cx3⟩ := hcell wr hbW k hlt
   rw [hx] at cx1 cx2 cx3
   have HX := Lib.hid hx
   obtain ⟨e1, e2, e3, e4⟩ := HO.out wr (HB2.out.trans (hb.mono hsz2))
   obtain ⟨Wn, hWn⟩ : ∃ Wn, wr.alloc (.cells #[.int .i64 x1, .int .i64 x2, .int .i64 x3] 49) = Wn := ⟨_, rfl⟩
   have hbn : Below wr.heap.size wr Wn := by rw [← hWn]; exact (Below.refl _ _).alloc (Nat.le_refl _) _
   have hcm : ∀ W, Below Wn.heap.size Wn W → (W.cell? ⟨w.heap.size, 0, none⟩ = some (.int .i64 n) ∧ W.cell? ⟨w.heap.size, 1, none⟩ = some (.int .i64 s) ∧ W.cell? ⟨w.heap.size, 2, none⟩ = some (.slice fa fl fc) ∧ W.cell? ⟨w.heap.size, 3, none⟩ = some (.slice (some ⟨b, off, none⟩) al ac)) ∧ W.cell? ⟨wr.heap.size, 0, none⟩ = some (.int .i64 x1) ∧ W.cell? ⟨wr.heap.size, 1, none⟩ = some (.int .i64 x2) ∧ W.cell? ⟨wr.heap.size, 2, none⟩ = some (.int .i64 x3) := fun W h => by
    have h2 := (boxA ⟨x1, x2, x3⟩ wr).2.2 W (by simp only; rw [hWn]; exact h.mono (by rw [← hWn]; simp))
    exact ⟨HO.out W ((HB2.out.trans (hb.mono hsz2)).trans ((hbn.mono hszr).trans (h.mono (Nat.le_trans hszr hbn.size)))), h2⟩
   have hbWn : Below w2.heap.size w2 Wn := hb.trans (hbn.mono hb.size)
   have HBR := Lib.hid hbW
   have HBN := Lib.hid (show Below w.heap.size w Wn from hbW.trans (hbn.mono hbW.size))
   have HBWN := Lib.hid hbWn
   have HNO : Hid (¬ ArcOk n es k → false = V) := Lib.hid fun hno => HD _ (vD_no (validD_no (d := ⟨n, s, fin, es⟩) (by simp only; omega) hno)).symm
   have HCELL := Lib.hid hcell
   have hwn : Wn.heap.size = wr.heap.size + 1 := by rw [← hWn]; simp
   have hwn' : wr.heap.size ≤ Wn.heap.size := by omega
   have HWN := Lib.hid hwn
   clear hwn
   clear hx hcell he hf hbn hb hbW hbWn HD
   by_cases h6 : 0 ≤ x1 ∧ x1 < n
   case neg =>
    have q1 : decide (0 ≤ x1 ∧ x1 < n) = false := decide_eq_false h6
    have HQ : Hid (¬ ArcOk n es k) := Lib.hid fun h => h6 (by have := h.1.1; rw [HX.out] at this; exact this)
    clear h6
    go_wp2_with (fail)
    refine wp_region_grow mixed (by kernel_rfl) [[], [], [(1, 43)], [(0, 42), (2, 44)], [(3, 45)], [(4, 46), (3, 45)], [(5, 47)], [(5, 47)], [(7, 49), (5, 47)], [(6, 48), (8, 50), (5, 47), (5, 47)], [(9, 51), (5, 47)], [(5, 47), (10, 52)], [(11, 53), (9, 51)], [(12, 54)], [(13, 55), (12, 54)], [(14, 56), (12, 54)], [(12, 54), (15, 57)], [(16, 58), (12, 54)], [(17, 59)], [(18, 60), (17, 59)], [(19, 61), (17, 59)], [(17, 59), (20, 62)], [(21, 63), (17, 59)], [(22, 64)], [(23, 65), (22, 64)], [(24, 66), (22, 64), (22, 64)], [(25, 67)], [(26, 68), (25, 67)], [(25, 67)], [(28, 70), (25, 67)], [(27, 69), (29, 71), (25, 67)], [(30, 72), (25, 67)], [(25, 67)], [(31, 73), (32, 74), (25, 67), (25, 67)], [(33, 75), (25, 67)], [(25, 67), (34, 76), (22, 64)], [(22, 64), (35, 77)]] [(0, 42), (1, 43), (2, 44), (3, 45), (4, 46), (5, 47), (6, 48), (7, 49), (8, 50), (9, 51), (10, 52), (11, 53), (12, 54), (13, 55), (14, 56), (15, 57), (16, 58), (17, 59), (18, 60), (19, 61), (20, 62), (21, 63), (22, 64), (23, 65), (24, 66), (25, 67), (26, 68), (27, 69), (28, 70), (29, 71), (30, 72), (31, 73), (32, 74), (33, 75), (34, 76), (35, 77), (36, 78)] rfl rfl [Ex ?eb0, Ex ?eb1, Ex ?eb2, Ex (.bool false), Ex ?eb4, Ex ?eb5, Ex undef, Ex undef, Ex undef, Ex undef, Ex undef, Ex ?eb11, Ex ?eb12, Ex undef, Ex undef, Ex undef, Ex ?eb16, Ex ?eb17, Ex undef, Ex undef, Ex undef, Ex ?eb21, Ex ?eb22, Ex undef, Ex undef, Ex undef, Ex undef, Ex undef, Ex undef, Ex undef, Ex undef, Ex undef, Ex undef, Ex undef, Ex undef, Ex undef, Ex ?eb36] ⟨stays_ex _, stays_ex _, stays_ex _, stays_ex _, stays_ex _, stays_ex _, stays_ex _, stays_ex _, stays_ex _, stays_ex _, stays_ex _, stays_ex _, stays_ex _, stays_ex _, stays_ex _, stays_ex _, stays_ex _, stays_ex _, stays_ex _, stays_ex _, stays_ex _, stays_ex _, stays_ex _, stays_ex _, stays_ex _, stays_ex _, stays_ex _, stays_ex _, stays_ex _, stays_ex _, stays_ex _, stays_ex _, stays_ex _, stays_ex _, stays_ex _, stays_ex _, stays_ex _, trivial⟩ ?bsteps ?brest
    case bsteps =>
     refine ⟨fun f W hC hh => ?_, fun f W hC hh => ?_, fun f W hC hh => ?_, fun f W hC hh => ?_, fun f W hC hh => ?_, fun f W hC hh => ?_, fun f W hC hh => ?_, fun f W hC hh => ?_, fun f W hC hh => ?_, fun f W hC hh => ?_, fun f W hC hh => ?_, fun f W hC hh => ?_, fun f W hC hh => ?_, fun f W hC hh => ?_, fun f W hC hh => ?_, fun f W hC hh => ?_, fun f W hC hh => ?_, fun f W hC hh => ?_, fun f W hC hh => ?_, fun f W hC hh => ?_, fun f W hC hh => ?_, fun f W hC hh => ?_, fun f W hC hh => ?_, fun f W hC hh => ?_, fun f W hC hh => ?_, fun f W hC hh => ?_, fun f W hC hh => ?_, fun f W hC hh => ?_, fun f W hC hh => ?_, fun f W hC hh => ?_, fun f W hC hh => ?_, fun f W hC hh => ?_, fun f W hC hh => ?_, fun f W hC hh => ?_, fun f W hC hh => ?_, fun f W hC hh => ?_, fun f W hC hh => ?_, trivial⟩
     ·
      refine tab_plain fun K Q hK => ?_;simp only [puts, foldr_nil]
      obtain ⟨⟨f1, f2, f3, f4⟩, f5, f6, f7⟩ := hcm W hC
      go_step;exact fam_e hK rfl rfl (Below.refl _ _) hC
     ·
      refine tab_plain fun K Q hK => ?_;simp only [puts, foldr_nil];go_step;exact fam_e hK rfl rfl (Below.refl _ _) hC
     ·
      obtain ⟨h1, -⟩ := hh;have g1 : f 1=_:=h1;refine tab_plain fun K Q hK => ?_;simp only [puts, Za, Zb, Zc, Zd, Ze, g1]
      obtain ⟨⟨f1, f2, f3, f4⟩, f5, f6, f7⟩ := hcm W hC
      go_step;exact fam_e hK rfl rfl (Below.refl _ _) hC
     ·
      obtain ⟨h0, h2, -⟩ := hh;have g0 : f 0=_:=h0;have g2 : f 2=_:=h2;refine tab_plain fun K Q hK => ?_;simp only [puts, Za, Zb, Zc, Zd, Ze, g0, g2];go_step
      go_at_call 32
      refine (hst x1 W).mono ?_
      rintro e w' ⟨rfl, hb⟩
      rw [q1]
      exact fam_fin hK rfl rfl hb (hC.trans (hb.mono hC.size))
     ·
      obtain ⟨h3, -⟩ := hh;have g3 : f 3=_:=h3;refine tab_plain fun K Q hK => ?_;simp only [puts, Za, Zb, Zc, Zd, Ze, g3];go_step;exact fam_e hK rfl rfl (Below.refl _ _) hC
     ·
      obtain ⟨h4, h3, -⟩ := hh;have g4 : f 4=_:=h4;have g3 : f 3=_:=h3;refine tab_plain fun K Q hK => ?_;simp only [puts, Za, Zb, Zc, Zd, Ze, g4, g3];go_step;exact fam_e hK rfl rfl (Below.refl _ _) hC
     ·
      obtain ⟨h5, -⟩ := hh;have g5 : f 5=_:=h5
      exact tab_no rfl g5 (by decide) rfl
     ·
      obtain ⟨h5, -⟩ := hh;have g5 : f 5=_:=h5
      exact tab_no rfl g5 (by decide) rfl
     ·
      obtain ⟨h7, h5, -⟩ := hh;have g7 : f 7=_:=h7;have g5 : f 5=_:=h5
      exact tab_no rfl g5 (by decide) rfl
     ·
      obtain ⟨h6, h8, h5, _, -⟩ := hh;have g6 : f 6=_:=h6;have g8 : f 8=_:=h8;have g5 : f 5=_:=h5
      exact tab_no rfl g5 (by decide) rfl
     ·
      obtain ⟨h9, h5, -⟩ := hh;have g9 : f 9=_:=h9;have g5 : f 5=_:=h5
      exact tab_no rfl g5 (by decide) rfl
     ·
      obtain ⟨h5, h10, -⟩ := hh;have g5 : f 5=_:=h5;have g10 : f 10=_:=h10;refine tab_plain fun K Q hK => ?_;simp only [puts, Za, Zb, Zc, Zd, Ze, g5, g10];go_step;exact fam_e hK rfl rfl (Below.refl _ _) hC
     ·
      obtain ⟨h11, h9, -⟩ := hh;have g11 : f 11=_:=h11;have g9 : f 9=_:=h9;refine tab_plain fun K Q hK => ?_;simp only [puts, Za, Zb, Zc, Zd, Ze, g11, g9];go_step;exact fam_e hK rfl rfl (Below.refl _ _) hC
     ·
      obtain ⟨h12, -⟩ := hh;have g12 : f 12=_:=h12
      exact tab_no rfl g12 (by decide) rfl
     ·
      obtain ⟨h13, h12, -⟩ := hh;have g13 : f 13=_:=h13;have g12 : f 12=_:=h12
      exact tab_no rfl g12 (by decide) rfl
     ·
      obtain ⟨h14, h12, -⟩ := hh;have g14 : f 14=_:=h14;have g12 : f 12=_:=h12
      exact tab_no rfl g12 (by decide) rfl
     ·
      obtain ⟨h12, h15, -⟩ := hh;have g12 : f 12=_:=h12;have g15 : f 15=_:=h15;refine tab_plain fun K Q hK => ?_;simp only [puts, Za, Zb, Zc, Zd, Ze, g12, g15];go_step;exact fam_e hK rfl rfl (Below.refl _ _) hC
     ·
      obtain ⟨h16, h12, -⟩ := hh;have g16 : f 16=_:=h16;have g12 : f 12=_:=h12;refine tab_plain fun K Q hK => ?_;simp only [puts, Za, Zb, Zc, Zd, Ze, g16, g12];go_step;exact fam_e hK rfl rfl (Below.refl _ _) hC
     ·
      obtain ⟨h17, -⟩ := hh;have g17 : f 17=_:=h17
      exact tab_no rfl g17 (by decide) rfl
     ·
      obtain ⟨h18, h17, -⟩ := hh;have g18 : f 18=_:=h18;have g17 : f 17=_:=h17
      exact tab_no rfl g17 (by decide) rfl
     ·
      obtain ⟨h19, h17, -⟩ := hh;have g19 : f 19=_:=h19;have g17 : f 17=_:=h17
      exact tab_no rfl g17 (by decide) rfl
     ·
      obtain ⟨h17, h20, -⟩ := hh;have g17 : f 17=_:=h17;have g20 : f 20=_:=h20;refine tab_plain fun K Q hK => ?_;simp only [puts, Za, Zb, Zc, Zd, Ze, g17, g20];go_step;exact fam_e hK rfl rfl (Below.refl _ _) hC
     ·
      obtain ⟨h21, h17, -⟩ := hh;have g21 : f 21=_:=h21;have g17 : f 17=_:=h17;refine tab_plain fun K Q hK => ?_;simp only [puts, Za, Zb, Zc, Zd, Ze, g21, g17];go_step;exact fam_e hK rfl rfl (Below.refl _ _) hC
     ·
      obtain ⟨h22, -⟩ := hh;have g22 : f 22=_:=h22
      exact tab_no rfl g22 (by decide) rfl
     ·
      obtain ⟨h23, h22, -⟩ := hh;have g23 : f 23=_:=h23;have g22 : f 22=_:=h22
      exact tab_no rfl g22 (by decide) rfl
     ·
      obtain ⟨h24, h22, _, -⟩ := hh;have g24 : f 24=_:=h24;have g22 : f 22=_:=h22
      exact tab_no rfl g22 (by decide) rfl
     ·
      obtain ⟨h25, -⟩ := hh;have g25 : f 25=_:=h25
      exact tab_noU rfl g25 rfl
     ·
      obtain ⟨h26, h25, -⟩ := hh;have g26 : f 26=_:=h26;have g25 : f 25=_:=h25
      exact tab_noU rfl g25 rfl
     ·
      obtain ⟨h25, -⟩ := hh;have g25 : f 25=_:=h25
      exact tab_noU rfl g25 rfl
     ·
      obtain ⟨h28, h25, -⟩ := hh;have g28 : f 28=_:=h28;have g25 : f 25=_:=h25
      exact tab_noU rfl g25 rfl
     ·
      obtain ⟨h27, h29, h25, -⟩ := hh;have g27 : f 27=_:=h27;have g29 : f 29=_:=h29;have g25 : f 25=_:=h25
      exact tab_noU rfl g25 rfl
     ·
      obtain ⟨h30, h25, -⟩ := hh;have g30 : f 30=_:=h30;have g25 : f 25=_:=h25
      exact tab_noU rfl g25 rfl
     ·
      obtain ⟨h25, -⟩ := hh;have g25 : f 25=_:=h25
      exact tab_noU rfl g25 rfl
     ·
      obtain ⟨h31, h32, h25, _, -⟩ := hh;have g31 : f 31=_:=h31;have g32 : f 32=_:=h32;have g25 : f 25=_:=h25
      exact tab_noU rfl g25 rfl
     ·
      obtain ⟨h33, h25, -⟩ := hh;have g33 : f 33=_:=h33;have g25 : f 25=_:=h25
      exact tab_noU rfl g25 rfl
     ·
      obtain ⟨h25, h34, h22, -⟩ := hh;have g25 : f 25=_:=h25;have g34 : f 34=_:=h34;have g22 : f 22=_:=h22
      exact tab_no rfl g22 (by decide) rfl
     ·
      obtain ⟨h22, h35, -⟩ := hh;have g22 : f 22=_:=h22;have g35 : f 35=_:=h35;refine tab_plain fun K Q hK => ?_;simp only [puts, Za, Zb, Zc, Zd, Ze, g22, g35];go_step;exact fam_e hK rfl rfl (Below.refl _ _) hC
    case brest =>
     intro f W2 hC hh
     obtain ⟨h0, h1, h2, h3, h4, h5, h6, h7, h8, h9, h10, h11, h12, h13, h14, h15, h16, h17, h18, h19, h20, h21, h22, h23, h24, h25, h26, h27, h28, h29, h30, h31, h32, h33, h34, h35, h36, -⟩ := hh;have g0 : f 0=_:=h0;have g1 : f 1=_:=h1;have g2 : f 2=_:=h2;have g3 : f 3=_:=h3;have g4 : f 4=_:=h4;have g5 : f 5=_:=h5;have g6 : f 6=_:=h6;have g7 : f 7=_:=h7;have g8 : f 8=_:=h8;have g9 : f 9=_:=h9;have g10 : f 10=_:=h10;have g11 : f 11=_:=h11;have g12 : f 12=_:=h12;have g13 : f 13=_:=h13;have g14 : f 14=_:=h14;have g15 : f 15=_:=h15;have g16 : f 16=_:=h16;have g17 : f 17=_:=h17;have g18 : f 18=_:=h18;have g19 : f 19=_:=h19;have g20 : f 20=_:=h20;have g21 : f 21=_:=h21;have g22 : f 22=_:=h22;have g23 : f 23=_:=h23;have g24 : f 24=_:=h24;have g25 : f 25=_:=h25;have g26 : f 26=_:=h26;have g27 : f 27=_:=h27;have g28 : f 28=_:=h28;have g29 : f 29=_:=h29;have g30 : f 30=_:=h30;have g31 : f 31=_:=h31;have g32 : f 32=_:=h32;have g33 : f 33=_:=h33;have g34 : f 34=_:=h34;have g35 : f 35=_:=h35;have g36 : f 36=_:=h36;simp only [puts, Za, Zb, Zc, Zd, Ze, g0, g1, g2, g3, g4, g5, g6, g7, g8, g9, g10, g11, g12, g13, g14, g15, g16, g17, g18, g19, g20, g21, g22, g23, g24, g25, g26, g27, g28, g29, g30, g31, g32, g33, g34, g35, g36]
     clear h0 h1 h2 h3 h4 h5 h6 h7 h8 h9 h10 h11 h12 h13 h14 h15 h16 h17 h18 h19 h20 h21 h22 h23 h24 h25 h26 h27 h28 h29 h30 h31 h32 h33 h34 h35 h36 g0 g1 g2 g3 g4 g5 g6 g7 g8 g9 g10 g11 g12 g13 g14 g15 g16 g17 g18 g19 g20 g21 g22 g23 g24 g25 g26 g27 g28 g29 g30 g31 g32 g33 g34 g35 g36
     go_wp2
     go_ret
     exact ⟨by rw [← HNO.out HQ.out]; rfl, HBN.out.trans (hC.mono HBN.out.size)⟩
   have q1 : decide (0 ≤ x1 ∧ x1 < n) = true := decide_eq_true h6
   have H6 := Lib.hid h6
   clear h6
   by_cases h7 : 0 ≤ x3 ∧ x3 < n
   case neg =>
    have q2 : decide (0 ≤ x3 ∧ x3 < n) = false := decide_eq_false h7
    have HQ : Hid (¬ ArcOk n es k) := Lib.hid fun h => h7 (by have := h.1.2; rw [HX.out] at this; exact this)
    clear h7
    go_wp2_with (fail)
    refine wp_region_grow mixed (by kernel_rfl) [[], [], [(1, 43)], [(0, 42), (2, 44)], [(3, 45)], [(4, 46), (3, 45)], [(5, 47)], [(5, 47)], [(7, 49), (5, 47)], [(6, 48), (8, 50), (5, 47), (5, 47)], [(9, 51), (5, 47)], [(5, 47), (10, 52)], [(11, 53), (9, 51)], [(12, 54)], [(13, 55), (12, 54)], [(14, 56), (12, 54)], [(12, 54), (15, 57)], [(16, 58), (12, 54)], [(17, 59)], [(18, 60), (17, 59)], [(19, 61), (17, 59)], [(17, 59), (20, 62)], [(21, 63), (17, 59)], [(22, 64)], [(23, 65), (22, 64)], [(24, 66), (22, 64), (22, 64)], [(25, 67)], [(26, 68), (25, 67)], [(25, 67)], [(28, 70), (25, 67)], [(27, 69), (29, 71), (25, 67)], [(30, 72), (25, 67)], [(25, 67)], [(31, 73), (32, 74), (25, 67), (25, 67)], [(33, 75), (25, 67)], [(25, 67), (34, 76), (22, 64)], [(22, 64), (35, 77)]] [(0, 42), (1, 43), (2, 44), (3, 45), (4, 46), (5, 47), (6, 48), (7, 49), (8, 50), (9, 51), (10, 52), (11, 53), (12, 54), (13, 55), (14, 56), (15, 57), (16, 58), (17, 59), (18, 60), (19, 61), (20, 62), (21, 63), (22, 64), (23, 65), (24, 66), (25, 67), (26, 68), (27, 69), (28, 70), (29, 71), (30, 72), (31, 73), (32, 74), (33, 75), (34, 76), (35, 77), (36, 78)] rfl rfl [Ex ?ec0, Ex ?ec1, Ex ?ec2, Ex (.bool true), Ex ?ec4, Ex ?ec5, Ex ?ec6, Ex ?ec7, Ex ?ec8, Ex (.bool false), Ex ?ec10, Ex ?ec11, Ex ?ec12, Ex undef, Ex undef, Ex undef, Ex ?ec16, Ex ?ec17, Ex undef, Ex undef, Ex undef, Ex ?ec21, Ex ?ec22, Ex undef, Ex undef, Ex undef, Ex undef, Ex undef, Ex undef, Ex undef, Ex undef, Ex undef, Ex undef, Ex undef, Ex undef, Ex undef, Ex ?ec36] ⟨stays_ex _, stays_ex _, stays_ex _, stays_ex _, stays_ex _, stays_ex _, stays_ex _, stays_ex _, stays_ex _, stays_ex _, stays_ex _, stays_ex _, stays_ex _, stays_ex _, stays_ex _, stays_ex _, stays_ex _, stays_ex _, stays_ex _, stays_ex _, stays_ex _, stays_ex _, stays_ex _, stays_ex _, stays_ex _, stays_ex _, stays_ex _, stays_ex _, stays_ex _, stays_ex _, stays_ex _, stays_ex _, stays_ex _, stays_ex _, stays_ex _, stays_ex _, stays_ex _, trivial⟩ ?csteps ?crest
    case csteps =>
     refine ⟨fun f W hC hh => ?_, fun f W hC hh => ?_, fun f W hC hh => ?_, fun f W hC hh => ?_, fun f W hC hh => ?_, fun f W hC hh => ?_, fun f W hC hh => ?_, fun f W hC hh => ?_, fun f W hC hh => ?_, fun f W hC hh => ?_, fun f W hC hh => ?_, fun f W hC hh => ?_, fun f W hC hh => ?_, fun f W hC hh => ?_, fun f W hC hh => ?_, fun f W hC hh => ?_, fun f W hC hh => ?_, fun f W hC hh => ?_, fun f W hC hh => ?_, fun f W hC hh => ?_, fun f W hC hh => ?_, fun f W hC hh => ?_, fun f W hC hh => ?_, fun f W hC hh => ?_, fun f W hC hh => ?_, fun f W hC hh => ?_, fun f W hC hh => ?_, fun f W hC hh => ?_, fun f W hC hh => ?_, fun f W hC hh => ?_, fun f W hC hh => ?_, fun f W hC hh => ?_, fun f W hC hh => ?_, fun f W hC hh => ?_, fun f W hC hh => ?_, fun f W hC hh => ?_, fun f W hC hh => ?_, trivial⟩
     ·
      refine tab_plain fun K Q hK => ?_;simp only [puts, foldr_nil]
      obtain ⟨⟨f1, f2, f3, f4⟩, f5, f6, f7⟩ := hcm W hC
      go_step;exact fam_e hK rfl rfl (Below.refl _ _) hC
     ·
      refine tab_plain fun K Q hK => ?_;simp only [puts, foldr_nil];go_step;exact fam_e hK rfl rfl (Below.refl _ _) hC
     ·
      obtain ⟨h1, -⟩ := hh;have g1 : f 1=_:=h1;refine tab_plain fun K Q hK => ?_;simp only [puts, Za, Zb, Zc, Zd, Ze, g1]
      obtain ⟨⟨f1, f2, f3, f4⟩, f5, f6, f7⟩ := hcm W hC
      go_step;exact fam_e hK rfl rfl (Below.refl _ _) hC
     ·
      obtain ⟨h0, h2, -⟩ := hh;have g0 : f 0=_:=h0;have g2 : f 2=_:=h2;refine tab_plain fun K Q hK => ?_;simp only [puts, Za, Zb, Zc, Zd, Ze, g0, g2];go_step
      go_at_call 32
      refine (hst x1 W).mono ?_
      rintro e w' ⟨rfl, hb⟩
      rw [q1]
      exact fam_fin hK rfl rfl hb (hC.trans (hb.mono hC.size))
     ·
      obtain ⟨h3, -⟩ := hh;have g3 : f 3=_:=h3;refine tab_plain fun K Q hK => ?_;simp only [puts, Za, Zb, Zc, Zd, Ze, g3];go_step;exact fam_e hK rfl rfl (Below.refl _ _) hC
     ·
      obtain ⟨h4, h3, -⟩ := hh;have g4 : f 4=_:=h4;have g3 : f 3=_:=h3;refine tab_plain fun K Q hK => ?_;simp only [puts, Za, Zb, Zc, Zd, Ze, g4, g3];go_step;exact fam_e hK rfl rfl (Below.refl _ _) hC
     ·
      obtain ⟨h5, -⟩ := hh;have g5 : f 5=_:=h5;refine tab_yes g5 fun K Q hK => ?_;simp only [puts, Za, Zb, Zc, Zd, Ze, g5]
      obtain ⟨⟨f1, f2, f3, f4⟩, f5, f6, f7⟩ := hcm W hC
      go_step;exact fam_e hK rfl rfl (Below.refl _ _) hC
     ·
      obtain ⟨h5, -⟩ := hh;have g5 : f 5=_:=h5;refine tab_yes g5 fun K Q hK => ?_;simp only [puts, Za, Zb, Zc, Zd, Ze, g5];go_step;exact fam_e hK rfl rfl (Below.refl _ _) hC
     ·
      obtain ⟨h7, h5, -⟩ := hh;have g7 : f 7=_:=h7;have g5 : f 5=_:=h5;refine tab_yes g5 fun K Q hK => ?_;simp only [puts, Za, Zb, Zc, Zd, Ze, g7, g5]
      obtain ⟨⟨f1, f2, f3, f4⟩, f5, f6, f7⟩ := hcm W hC
      go_step;exact fam_e hK rfl rfl (Below.refl _ _) hC
     ·
      obtain ⟨h6, h8, h5, _, -⟩ := hh;have g6 : f 6=_:=h6;have g8 : f 8=_:=h8;have g5 : f 5=_:=h5;refine tab_yes g5 fun K Q hK => ?_;simp only [puts, Za, Zb, Zc, Zd, Ze, g6, g8, g5];go_step
      go_at_call 32
      refine (hst x3 W).mono ?_
      rintro e w' ⟨rfl, hb⟩
      rw [q2]
      exact fam_fin hK rfl rfl hb (hC.trans (hb.mono hC.size))
     ·
      obtain ⟨h9, h5, -⟩ := hh;have g9 : f 9=_:=h9;have g5 : f 5=_:=h5;refine tab_yes g5 fun K Q hK => ?_;simp only [puts, Za, Zb, Zc, Zd, Ze, g9, g5];go_step;exact fam_e hK rfl rfl (Below.refl _ _) hC
     ·
      obtain ⟨h5, h10, -⟩ := hh;have g5 : f 5=_:=h5;have g10 : f 10=_:=h10;refine tab_plain fun K Q hK => ?_;simp only [puts, Za, Zb, Zc, Zd, Ze, g5, g10];go_step;exact fam_e hK rfl rfl (Below.refl _ _) hC
     ·
      obtain ⟨h11, h9, -⟩ := hh;have g11 : f 11=_:=h11;have g9 : f 9=_:=h9;refine tab_plain fun K Q hK => ?_;simp only [puts, Za, Zb, Zc, Zd, Ze, g11, g9];go_step;exact fam_e hK rfl rfl (Below.refl _ _) hC
     ·
      obtain ⟨h12, -⟩ := hh;have g12 : f 12=_:=h12
      exact tab_no rfl g12 (by decide) rfl
     ·
      obtain ⟨h13, h12, -⟩ := hh;have g13 : f 13=_:=h13;have g12 : f 12=_:=h12
      exact tab_no rfl g12 (by decide) rfl
     ·
      obtain ⟨h14, h12, -⟩ := hh;have g14 : f 14=_:=h14;have g12 : f 12=_:=h12
      exact tab_no rfl g12 (by decide) rfl
     ·
      obtain ⟨h12, h15, -⟩ := hh;have g12 : f 12=_:=h12;have g15 : f 15=_:=h15;refine tab_plain fun K Q hK => ?_;simp only [puts, Za, Zb, Zc, Zd, Ze, g12, g15];go_step;exact fam_e hK rfl rfl (Below.refl _ _) hC
     ·
      obtain ⟨h16, h12, -⟩ := hh;have g16 : f 16=_:=h16;have g12 : f 12=_:=h12;refine tab_plain fun K Q hK => ?_;simp only [puts, Za, Zb, Zc, Zd, Ze, g16, g12];go_step;exact fam_e hK rfl rfl (Below.refl _ _) hC
     ·
      obtain ⟨h17, -⟩ := hh;have g17 : f 17=_:=h17
      exact tab_no rfl g17 (by decide) rfl
     ·
      obtain ⟨h18, h17, -⟩ := hh;have g18 : f 18=_:=h18;have g17 : f 17=_:=h17
      exact tab_no rfl g17 (by decide) rfl
     ·
      obtain ⟨h19, h17, -⟩ := hh;have g19 : f 19=_:=h19;have g17 : f 17=_:=h17
      exact tab_no rfl g17 (by decide) rfl
     ·
      obtain ⟨h17, h20, -⟩ := hh;have g17 : f 17=_:=h17;have g20 : f 20=_:=h20;refine tab_plain fun K Q hK => ?_;simp only [puts, Za, Zb, Zc, Zd, Ze, g17, g20];go_step;exact fam_e hK rfl rfl (Below.refl _ _) hC
     ·
      obtain ⟨h21, h17, -⟩ := hh;have g21 : f 21=_:=h21;have g17 : f 17=_:=h17;refine tab_plain fun K Q hK => ?_;simp only [puts, Za, Zb, Zc, Zd, Ze, g21, g17];go_step;exact fam_e hK rfl rfl (Below.refl _ _) hC
     ·
      obtain ⟨h22, -⟩ := hh;have g22 : f 22=_:=h22
      exact tab_no rfl g22 (by decide) rfl
     ·
      obtain ⟨h23, h22, -⟩ := hh;have g23 : f 23=_:=h23;have g22 : f 22=_:=h22
      exact tab_no rfl g22 (by decide) rfl
     ·
      obtain ⟨h24, h22, _, -⟩ := hh;have g24 : f 24=_:=h24;have g22 : f 22=_:=h22
      exact tab_no rfl g22 (by decide) rfl
     ·
      obtain ⟨h25, -⟩ := hh;have g25 : f 25=_:=h25
      exact tab_noU rfl g25 rfl
     ·
      obtain ⟨h26, h25, -⟩ := hh;have g26 : f 26=_:=h26;have g25 : f 25=_:=h25
      exact tab_noU rfl g25 rfl
     ·
      obtain ⟨h25, -⟩ := hh;have g25 : f 25=_:=h25
      exact tab_noU rfl g25 rfl
     ·
      obtain ⟨h28, h25, -⟩ := hh;have g28 : f 28=_:=h28;have g25 : f 25=_:=h25
      exact tab_noU rfl g25 rfl
     ·
      obtain ⟨h27, h29, h25, -⟩ := hh;have g27 : f 27=_:=h27;have g29 : f 29=_:=h29;have g25 : f 25=_:=h25
      exact tab_noU rfl g25 rfl
     ·
      obtain ⟨h30, h25, -⟩ := hh;have g30 : f 30=_:=h30;have g25 : f 25=_:=h25
      exact tab_noU rfl g25 rfl
     ·
      obtain ⟨h25, -⟩ := hh;have g25 : f 25=_:=h25
      exact tab_noU rfl g25 rfl
     ·
      obtain ⟨h31, h32, h25, _, -⟩ := hh;have g31 : f 31=_:=h31;have g32 : f 32=_:=h32;have g25 : f 25=_:=h25
      exact tab_noU rfl g25 rfl
     ·
      obtain ⟨h33, h25, -⟩ := hh;have g33 : f 33=_:=h33;have g25 : f 25=_:=h25
      exact tab_noU rfl g25 rfl
     ·
      obtain ⟨h25, h34, h22, -⟩ := hh;have g25 : f 25=_:=h25;have g34 : f 34=_:=h34;have g22 : f 22=_:=h22
      exact tab_no rfl g22 (by decide) rfl
     ·
      obtain ⟨h22, h35, -⟩ := hh;have g22 : f 22=_:=h22;have g35 : f 35=_:=h35;refine tab_plain fun K Q hK => ?_;simp only [puts, Za, Zb, Zc, Zd, Ze, g22, g35];go_step;exact fam_e hK rfl rfl (Below.refl _ _) hC
    case crest =>
     intro f W2 hC hh
     obtain ⟨h0, h1, h2, h3, h4, h5, h6, h7, h8, h9, h10, h11, h12, h13, h14, h15, h16, h17, h18, h19, h20, h21, h22, h23, h24, h25, h26, h27, h28, h29, h30, h31, h32, h33, h34, h35, h36, -⟩ := hh;have g0 : f 0=_:=h0;have g1 : f 1=_:=h1;have g2 : f 2=_:=h2;have g3 : f 3=_:=h3;have g4 : f 4=_:=h4;have g5 : f 5=_:=h5;have g6 : f 6=_:=h6;have g7 : f 7=_:=h7;have g8 : f 8=_:=h8;have g9 : f 9=_:=h9;have g10 : f 10=_:=h10;have g11 : f 11=_:=h11;have g12 : f 12=_:=h12;have g13 : f 13=_:=h13;have g14 : f 14=_:=h14;have g15 : f 15=_:=h15;have g16 : f 16=_:=h16;have g17 : f 17=_:=h17;have g18 : f 18=_:=h18;have g19 : f 19=_:=h19;have g20 : f 20=_:=h20;have g21 : f 21=_:=h21;have g22 : f 22=_:=h22;have g23 : f 23=_:=h23;have g24 : f 24=_:=h24;have g25 : f 25=_:=h25;have g26 : f 26=_:=h26;have g27 : f 27=_:=h27;have g28 : f 28=_:=h28;have g29 : f 29=_:=h29;have g30 : f 30=_:=h30;have g31 : f 31=_:=h31;have g32 : f 32=_:=h32;have g33 : f 33=_:=h33;have g34 : f 34=_:=h34;have g35 : f 35=_:=h35;have g36 : f 36=_:=h36;simp only [puts, Za, Zb, Zc, Zd, Ze, g0, g1, g2, g3, g4, g5, g6, g7, g8, g9, g10, g11, g12, g13, g14, g15, g16, g17, g18, g19, g20, g21, g22, g23, g24, g25, g26, g27, g28, g29, g30, g31, g32, g33, g34, g35, g36]
     clear h0 h1 h2 h3 h4 h5 h6 h7 h8 h9 h10 h11 h12 h13 h14 h15 h16 h17 h18 h19 h20 h21 h22 h23 h24 h25 h26 h27 h28 h29 h30 h31 h32 h33 h34 h35 h36 g0 g1 g2 g3 g4 g5 g6 g7 g8 g9 g10 g11 g12 g13 g14 g15 g16 g17 g18 g19 g20 g21 g22 g23 g24 g25 g26 g27 g28 g29 g30 g31 g32 g33 g34 g35 g36
     go_wp2
     go_ret
     exact ⟨by rw [← HNO.out HQ.out]; rfl, HBN.out.trans (hC.mono HBN.out.size)⟩
   have q2 : decide (0 ≤ x3 ∧ x3 < n) = true := decide_eq_true h7
   have H7 := Lib.hid h7
   clear h7
   by_cases h8 : x2 < 1
   ·have q3 : decide (x2 < 1) = true := decide_eq_true h8
    have HQ : Hid (¬ ArcOk n es k) := Lib.hid fun h => by have := h.2.1.1; rw [HX.out] at this; simp only at this; omega
    clear h8
    go_wp2_with (fail)
    refine wp_region_grow mixed (by kernel_rfl) [[], [], [(1, 43)], [(0, 42), (2, 44)], [(3, 45)], [(4, 46), (3, 45)], [(5, 47)], [(5, 47)], [(7, 49), (5, 47)], [(6, 48), (8, 50), (5, 47), (5, 47)], [(9, 51), (5, 47)], [(5, 47), (10, 52)], [(11, 53), (9, 51)], [(12, 54)], [(13, 55), (12, 54)], [(14, 56), (12, 54)], [(12, 54), (15, 57)], [(16, 58), (12, 54)], [(17, 59)], [(18, 60), (17, 59)], [(19, 61), (17, 59)], [(17, 59), (20, 62)], [(21, 63), (17, 59)], [(22, 64)], [(23, 65), (22, 64)], [(24, 66), (22, 64), (22, 64)], [(25, 67)], [(26, 68), (25, 67)], [(25, 67)], [(28, 70), (25, 67)], [(27, 69), (29, 71), (25, 67)], [(30, 72), (25, 67)], [(25, 67)], [(31, 73), (32, 74), (25, 67), (25, 67)], [(33, 75), (25, 67)], [(25, 67), (34, 76), (22, 64)], [(22, 64), (35, 77)]] [(0, 42), (1, 43), (2, 44), (3, 45), (4, 46), (5, 47), (6, 48), (7, 49), (8, 50), (9, 51), (10, 52), (11, 53), (12, 54), (13, 55), (14, 56), (15, 57), (16, 58), (17, 59), (18, 60), (19, 61), (20, 62), (21, 63), (22, 64), (23, 65), (24, 66), (25, 67), (26, 68), (27, 69), (28, 70), (29, 71), (30, 72), (31, 73), (32, 74), (33, 75), (34, 76), (35, 77), (36, 78)] rfl rfl [Ex ?ed0, Ex ?ed1, Ex ?ed2, Ex (.bool true), Ex ?ed4, Ex ?ed5, Ex ?ed6, Ex ?ed7, Ex ?ed8, Ex (.bool true), Ex ?ed10, Ex ?ed11, Ex ?ed12, Ex ?ed13, Ex ?ed14, Ex ?ed15, Ex ?ed16, Ex ?ed17, Ex undef, Ex undef, Ex undef, Ex ?ed21, Ex ?ed22, Ex undef, Ex undef, Ex undef, Ex undef, Ex undef, Ex undef, Ex undef, Ex undef, Ex undef, Ex undef, Ex undef, Ex undef, Ex undef, Ex ?ed36] ⟨stays_ex _, stays_ex _, stays_ex _, stays_ex _, stays_ex _, stays_ex _, stays_ex _, stays_ex _, stays_ex _, stays_ex _, stays_ex _, stays_ex _, stays_ex _, stays_ex _, stays_ex _, stays_ex _, stays_ex _, stays_ex _, stays_ex _, stays_ex _, stays_ex _, stays_ex _, stays_ex _, stays_ex _, stays_ex _, stays_ex _, stays_ex _, stays_ex _, stays_ex _, stays_ex _, stays_ex _, stays_ex _, stays_ex _, stays_ex _, stays_ex _, stays_ex _, stays_ex _, trivial⟩ ?dsteps ?drest
    case dsteps =>
     refine ⟨fun f W hC hh => ?_, fun f W hC hh => ?_, fun f W hC hh => ?_, fun f W hC hh => ?_, fun f W hC hh => ?_, fun f W hC hh => ?_, fun f W hC hh => ?_, fun f W hC hh => ?_, fun f W hC hh => ?_, fun f W hC hh => ?_, fun f W hC hh => ?_, fun f W hC hh => ?_, fun f W hC hh => ?_, fun f W hC hh => ?_, fun f W hC hh => ?_, fun f W hC hh => ?_, fun f W hC hh => ?_, fun f W hC hh => ?_, fun f W hC hh => ?_, fun f W hC hh => ?_, fun f W hC hh => ?_, fun f W hC hh => ?_, fun f W hC hh => ?_, fun f W hC hh => ?_, fun f W hC hh => ?_, fun f W hC hh => ?_, fun f W hC hh => ?_, fun f W hC hh => ?_, fun f W hC hh => ?_, fun f W hC hh => ?_, fun f W hC hh => ?_, fun f W hC hh => ?_, fun f W hC hh => ?_, fun f W hC hh => ?_, fun f W hC hh => ?_, fun f W hC hh => ?_, fun f W hC hh => ?_, trivial⟩
     ·
      refine tab_plain fun K Q hK => ?_;simp only [puts, foldr_nil]
      obtain ⟨⟨f1, f2, f3, f4⟩, f5, f6, f7⟩ := hcm W hC
      go_step;exact fam_e hK rfl rfl (Below.refl _ _) hC
     ·
      refine tab_plain fun K Q hK => ?_;simp only [puts, foldr_nil];go_step;exact fam_e hK rfl rfl (Below.refl _ _) hC
     ·
      obtain ⟨h1, -⟩ := hh;have g1 : f 1=_:=h1;refine tab_plain fun K Q hK => ?_;simp only [puts, Za, Zb, Zc, Zd, Ze, g1]
      obtain ⟨⟨f1, f2, f3, f4⟩, f5, f6, f7⟩ := hcm W hC
      go_step;exact fam_e hK rfl rfl (Below.refl _ _) hC
     ·
      obtain ⟨h0, h2, -⟩ := hh;have g0 : f 0=_:=h0;have g2 : f 2=_:=h2;refine tab_plain fun K Q hK => ?_;simp only [puts, Za, Zb, Zc, Zd, Ze, g0, g2];go_step
      go_at_call 32
      refine (hst x1 W).mono ?_
      rintro e w' ⟨rfl, hb⟩
      rw [q1]
      exact fam_fin hK rfl rfl hb (hC.trans (hb.mono hC.size))
     ·
      obtain ⟨h3, -⟩ := hh;have g3 : f 3=_:=h3;refine tab_plain fun K Q hK => ?_;simp only [puts, Za, Zb, Zc, Zd, Ze, g3];go_step;exact fam_e hK rfl rfl (Below.refl _ _) hC
     ·
      obtain ⟨h4, h3, -⟩ := hh;have g4 : f 4=_:=h4;have g3 : f 3=_:=h3;refine tab_plain fun K Q hK => ?_;simp only [puts, Za, Zb, Zc, Zd, Ze, g4, g3];go_step;exact fam_e hK rfl rfl (Below.refl _ _) hC
     ·
      obtain ⟨h5, -⟩ := hh;have g5 : f 5=_:=h5;refine tab_yes g5 fun K Q hK => ?_;simp only [puts, Za, Zb, Zc, Zd, Ze, g5]
      obtain ⟨⟨f1, f2, f3, f4⟩, f5, f6, f7⟩ := hcm W hC
      go_step;exact fam_e hK rfl rfl (Below.refl _ _) hC
     ·
      obtain ⟨h5, -⟩ := hh;have g5 : f 5=_:=h5;refine tab_yes g5 fun K Q hK => ?_;simp only [puts, Za, Zb, Zc, Zd, Ze, g5];go_step;exact fam_e hK rfl rfl (Below.refl _ _) hC
     ·
      obtain ⟨h7, h5, -⟩ := hh;have g7 : f 7=_:=h7;have g5 : f 5=_:=h5;refine tab_yes g5 fun K Q hK => ?_;simp only [puts, Za, Zb, Zc, Zd, Ze, g7, g5]
      obtain ⟨⟨f1, f2, f3, f4⟩, f5, f6, f7⟩ := hcm W hC
      go_step;exact fam_e hK rfl rfl (Below.refl _ _) hC
     ·
      obtain ⟨h6, h8, h5, _, -⟩ := hh;have g6 : f 6=_:=h6;have g8 : f 8=_:=h8;have g5 : f 5=_:=h5;refine tab_yes g5 fun K Q hK => ?_;simp only [puts, Za, Zb, Zc, Zd, Ze, g6, g8, g5];go_step
      go_at_call 32
      refine (hst x3 W).mono ?_
      rintro e w' ⟨rfl, hb⟩
      rw [q2]
      exact fam_fin hK rfl rfl hb (hC.trans (hb.mono hC.size))
     ·
      obtain ⟨h9, h5, -⟩ := hh;have g9 : f 9=_:=h9;have g5 : f 5=_:=h5;refine tab_yes g5 fun K Q hK => ?_;simp only [puts, Za, Zb, Zc, Zd, Ze, g9, g5];go_step;exact fam_e hK rfl rfl (Below.refl _ _) hC
     ·
      obtain ⟨h5, h10, -⟩ := hh;have g5 : f 5=_:=h5;have g10 : f 10=_:=h10;refine tab_plain fun K Q hK => ?_;simp only [puts, Za, Zb, Zc, Zd, Ze, g5, g10];go_step;exact fam_e hK rfl rfl (Below.refl _ _) hC
     ·
      obtain ⟨h11, h9, -⟩ := hh;have g11 : f 11=_:=h11;have g9 : f 9=_:=h9;refine tab_plain fun K Q hK => ?_;simp only [puts, Za, Zb, Zc, Zd, Ze, g11, g9];go_step;exact fam_e hK rfl rfl (Below.refl _ _) hC
     ·
      obtain ⟨h12, -⟩ := hh;have g12 : f 12=_:=h12;refine tab_yes g12 fun K Q hK => ?_;simp only [puts, Za, Zb, Zc, Zd, Ze, g12];go_step;exact fam_e hK rfl rfl (Below.refl _ _) hC
     ·
      obtain ⟨h13, h12, -⟩ := hh;have g13 : f 13=_:=h13;have g12 : f 12=_:=h12;refine tab_yes g12 fun K Q hK => ?_;simp only [puts, Za, Zb, Zc, Zd, Ze, g13, g12]
      obtain ⟨⟨f1, f2, f3, f4⟩, f5, f6, f7⟩ := hcm W hC
      go_step;exact fam_e hK rfl rfl (Below.refl _ _) hC
     ·
      obtain ⟨h14, h12, -⟩ := hh;have g14 : f 14=_:=h14;have g12 : f 12=_:=h12;refine tab_yes g12 fun K Q hK => ?_;simp only [puts, Za, Zb, Zc, Zd, Ze, g14, g12];go_step;exact fam_e hK rfl rfl (Below.refl _ _) hC
     ·
      obtain ⟨h12, h15, -⟩ := hh;have g12 : f 12=_:=h12;have g15 : f 15=_:=h15;refine tab_plain fun K Q hK => ?_;simp only [puts, Za, Zb, Zc, Zd, Ze, g12, g15];go_step;exact fam_e hK rfl rfl (Below.refl _ _) hC
     ·
      obtain ⟨h16, h12, -⟩ := hh;have g16 : f 16=_:=h16;have g12 : f 12=_:=h12;refine tab_plain fun K Q hK => ?_;simp only [puts, Za, Zb, Zc, Zd, Ze, g16, g12];go_step;exact fam_e hK rfl rfl (Below.refl _ _) hC
     ·
      obtain ⟨h17, -⟩ := hh;have g17 : f 17=_:=h17
      exact tab_no rfl g17 (by decide) rfl
     ·
      obtain ⟨h18, h17, -⟩ := hh;have g18 : f 18=_:=h18;have g17 : f 17=_:=h17
      exact tab_no rfl g17 (by decide) rfl
     ·
      obtain ⟨h19, h17, -⟩ := hh;have g19 : f 19=_:=h19;have g17 : f 17=_:=h17
      exact tab_no rfl g17 (by decide) rfl
     ·
      obtain ⟨h17, h20, -⟩ := hh;have g17 : f 17=_:=h17;have g20 : f 20=_:=h20;refine tab_plain fun K Q hK => ?_;simp only [puts, Za, Zb, Zc, Zd, Ze, g17, g20];go_step;exact fam_e hK rfl rfl (Below.refl _ _) hC
     ·
      obtain ⟨h21, h17, -⟩ := hh;have g21 : f 21=_:=h21;have g17 : f 17=_:=h17;refine tab_plain fun K Q hK => ?_;simp only [puts, Za, Zb, Zc, Zd, Ze, g21, g17];go_step;exact fam_e hK rfl rfl (Below.refl _ _) hC
     ·
      obtain ⟨h22, -⟩ := hh;have g22 : f 22=_:=h22
      exact tab_no rfl g22 (by decide) rfl
     ·
      obtain ⟨h23, h22, -⟩ := hh;have g23 : f 23=_:=h23;have g22 : f 22=_:=h22
      exact tab_no rfl g22 (by decide) rfl
     ·
      obtain ⟨h24, h22, _, -⟩ := hh;have g24 : f 24=_:=h24;have g22 : f 22=_:=h22
      exact tab_no rfl g22 (by decide) rfl
     ·
      obtain ⟨h25, -⟩ := hh;have g25 : f 25=_:=h25
      exact tab_noU rfl g25 rfl
     ·
      obtain ⟨h26, h25, -⟩ := hh;have g26 : f 26=_:=h26;have g25 : f 25=_:=h25
      exact tab_noU rfl g25 rfl
     ·
      obtain ⟨h25, -⟩ := hh;have g25 : f 25=_:=h25
      exact tab_noU rfl g25 rfl
     ·
      obtain ⟨h28, h25, -⟩ := hh;have g28 : f 28=_:=h28;have g25 : f 25=_:=h25
      exact tab_noU rfl g25 rfl
     ·
      obtain ⟨h27, h29, h25, -⟩ := hh;have g27 : f 27=_:=h27;have g29 : f 29=_:=h29;have g25 : f 25=_:=h25
      exact tab_noU rfl g25 rfl
     ·
      obtain ⟨h30, h25, -⟩ := hh;have g30 : f 30=_:=h30;have g25 : f 25=_:=h25
      exact tab_noU rfl g25 rfl
     ·
      obtain ⟨h25, -⟩ := hh;have g25 : f 25=_:=h25
      exact tab_noU rfl g25 rfl
     ·
      obtain ⟨h31, h32, h25, _, -⟩ := hh;have g31 : f 31=_:=h31;have g32 : f 32=_:=h32;have g25 : f 25=_:=h25
      exact tab_noU rfl g25 rfl
     ·
      obtain ⟨h33, h25, -⟩ := hh;have g33 : f 33=_:=h33;have g25 : f 25=_:=h25
      exact tab_noU rfl g25 rfl
     ·
      obtain ⟨h25, h34, h22, -⟩ := hh;have g25 : f 25=_:=h25;have g34 : f 34=_:=h34;have g22 : f 22=_:=h22
      exact tab_no rfl g22 (by decide) rfl
     ·
      obtain ⟨h22, h35, -⟩ := hh;have g22 : f 22=_:=h22;have g35 : f 35=_:=h35;refine tab_plain fun K Q hK => ?_;simp only [puts, Za, Zb, Zc, Zd, Ze, g22, g35];go_step;exact fam_e hK rfl rfl (Below.refl _ _) hC
    case drest =>
     intro f W2 hC hh
     obtain ⟨h0, h1, h2, h3, h4, h5, h6, h7, h8, h9, h10, h11, h12, h13, h14, h15, h16, h17, h18, h19, h20, h21, h22, h23, h24, h25, h26, h27, h28, h29, h30, h31, h32, h33, h34, h35, h36, -⟩ := hh;have g0 : f 0=_:=h0;have g1 : f 1=_:=h1;have g2 : f 2=_:=h2;have g3 : f 3=_:=h3;have g4 : f 4=_:=h4;have g5 : f 5=_:=h5;have g6 : f 6=_:=h6;have g7 : f 7=_:=h7;have g8 : f 8=_:=h8;have g9 : f 9=_:=h9;have g10 : f 10=_:=h10;have g11 : f 11=_:=h11;have g12 : f 12=_:=h12;have g13 : f 13=_:=h13;have g14 : f 14=_:=h14;have g15 : f 15=_:=h15;have g16 : f 16=_:=h16;have g17 : f 17=_:=h17;have g18 : f 18=_:=h18;have g19 : f 19=_:=h19;have g20 : f 20=_:=h20;have g21 : f 21=_:=h21;have g22 : f 22=_:=h22;have g23 : f 23=_:=h23;have g24 : f 24=_:=h24;have g25 : f 25=_:=h25;have g26 : f 26=_:=h26;have g27 : f 27=_:=h27;have g28 : f 28=_:=h28;have g29 : f 29=_:=h29;have g30 : f 30=_:=h30;have g31 : f 31=_:=h31;have g32 : f 32=_:=h32;have g33 : f 33=_:=h33;have g34 : f 34=_:=h34;have g35 : f 35=_:=h35;have g36 : f 36=_:=h36;simp only [puts, Za, Zb, Zc, Zd, Ze, g0, g1, g2, g3, g4, g5, g6, g7, g8, g9, g10, g11, g12, g13, g14, g15, g16, g17, g18, g19, g20, g21, g22, g23, g24, g25, g26, g27, g28, g29, g30, g31, g32, g33, g34, g35, g36]
     clear h0 h1 h2 h3 h4 h5 h6 h7 h8 h9 h10 h11 h12 h13 h14 h15 h16 h17 h18 h19 h20 h21 h22 h23 h24 h25 h26 h27 h28 h29 h30 h31 h32 h33 h34 h35 h36 g0 g1 g2 g3 g4 g5 g6 g7 g8 g9 g10 g11 g12 g13 g14 g15 g16 g17 g18 g19 g20 g21 g22 g23 g24 g25 g26 g27 g28 g29 g30 g31 g32 g33 g34 g35 g36
     go_wp2
     go_ret
     exact ⟨by rw [← HNO.out HQ.out]; rfl, HBN.out.trans (hC.mono HBN.out.size)⟩
   have q3 : decide (x2 < 1) = false := decide_eq_false h8
   by_cases h9 : 10000 < x2
   ·have q4 : decide (10000 < x2) = true := decide_eq_true h9
    have HQ : Hid (¬ ArcOk n es k) := Lib.hid fun h => by have := h.2.1.2; rw [HX.out] at this; simp only at this; omega
    clear h9 h8
    go_wp2_with (fail)
    refine wp_region_grow mixed (by kernel_rfl) [[], [], [(1, 43)], [(0, 42), (2, 44)], [(3, 45)], [(4, 46), (3, 45)], [(5, 47)], [(5, 47)], [(7, 49), (5, 47)], [(6, 48), (8, 50), (5, 47), (5, 47)], [(9, 51), (5, 47)], [(5, 47), (10, 52)], [(11, 53), (9, 51)], [(12, 54)], [(13, 55), (12, 54)], [(14, 56), (12, 54)], [(12, 54), (15, 57)], [(16, 58), (12, 54)], [(17, 59)], [(18, 60), (17, 59)], [(19, 61), (17, 59)], [(17, 59), (20, 62)], [(21, 63), (17, 59)], [(22, 64)], [(23, 65), (22, 64)], [(24, 66), (22, 64), (22, 64)], [(25, 67)], [(26, 68), (25, 67)], [(25, 67)], [(28, 70), (25, 67)], [(27, 69), (29, 71), (25, 67)], [(30, 72), (25, 67)], [(25, 67)], [(31, 73), (32, 74), (25, 67), (25, 67)], [(33, 75), (25, 67)], [(25, 67), (34, 76), (22, 64)], [(22, 64), (35, 77)]] [(0, 42), (1, 43), (2, 44), (3, 45), (4, 46), (5, 47), (6, 48), (7, 49), (8, 50), (9, 51), (10, 52), (11, 53), (12, 54), (13, 55), (14, 56), (15, 57), (16, 58), (17, 59), (18, 60), (19, 61), (20, 62), (21, 63), (22, 64), (23, 65), (24, 66), (25, 67), (26, 68), (27, 69), (28, 70), (29, 71), (30, 72), (31, 73), (32, 74), (33, 75), (34, 76), (35, 77), (36, 78)] rfl rfl [Ex ?ee0, Ex ?ee1, Ex ?ee2, Ex (.bool true), Ex ?ee4, Ex ?ee5, Ex ?ee6, Ex ?ee7, Ex ?ee8, Ex (.bool true), Ex ?ee10, Ex ?ee11, Ex ?ee12, Ex ?ee13, Ex ?ee14, Ex ?ee15, Ex ?ee16, Ex ?ee17, Ex ?ee18, Ex ?ee19, Ex ?ee20, Ex ?ee21, Ex ?ee22, Ex undef, Ex undef, Ex undef, Ex undef, Ex undef, Ex undef, Ex undef, Ex undef, Ex undef, Ex undef, Ex undef, Ex undef, Ex undef, Ex ?ee36] ⟨stays_ex _, stays_ex _, stays_ex _, stays_ex _, stays_ex _, stays_ex _, stays_ex _, stays_ex _, stays_ex _, stays_ex _, stays_ex _, stays_ex _, stays_ex _, stays_ex _, stays_ex _, stays_ex _, stays_ex _, stays_ex _, stays_ex _, stays_ex _, stays_ex _, stays_ex _, stays_ex _, stays_ex _, stays_ex _, stays_ex _, stays_ex _, stays_ex _, stays_ex _, stays_ex _, stays_ex _, stays_ex _, stays_ex _, stays_ex _, stays_ex _, stays_ex _, stays_ex _, trivial⟩ ?esteps ?erest
    case esteps =>
     refine ⟨fun f W hC hh => ?_, fun f W hC hh => ?_, fun f W hC hh => ?_, fun f W hC hh => ?_, fun f W hC hh => ?_, fun f W hC hh => ?_, fun f W hC hh => ?_, fun f W hC hh => ?_, fun f W hC hh => ?_, fun f W hC hh => ?_, fun f W hC hh => ?_, fun f W hC hh => ?_, fun f W hC hh => ?_, fun f W hC hh => ?_, fun f W hC hh => ?_, fun f W hC hh => ?_, fun f W hC hh => ?_, fun f W hC hh => ?_, fun f W hC hh => ?_, fun f W hC hh => ?_, fun f W hC hh => ?_, fun f W hC hh => ?_, fun f W hC hh => ?_, fun f W hC hh => ?_, fun f W hC hh => ?_, fun f W hC hh => ?_, fun f W hC hh => ?_, fun f W hC hh => ?_, fun f W hC hh => ?_, fun f W hC hh => ?_, fun f W hC hh => ?_, fun f W hC hh => ?_, fun f W hC hh => ?_, fun f W hC hh => ?_, fun f W hC hh => ?_, fun f W hC hh => ?_, fun f W hC hh => ?_, trivial⟩
     ·
      refine tab_plain fun K Q hK => ?_;simp only [puts, foldr_nil]
      obtain ⟨⟨f1, f2, f3, f4⟩, f5, f6, f7⟩ := hcm W hC
      go_step;exact fam_e hK rfl rfl (Below.refl _ _) hC
     ·
      refine tab_plain fun K Q hK => ?_;simp only [puts, foldr_nil];go_step;exact fam_e hK rfl rfl (Below.refl _ _) hC
     ·
      obtain ⟨h1, -⟩ := hh;have g1 : f 1=_:=h1;refine tab_plain fun K Q hK => ?_;simp only [puts, Za, Zb, Zc, Zd, Ze, g1]
      obtain ⟨⟨f1, f2, f3, f4⟩, f5, f6, f7⟩ := hcm W hC
      go_step;exact fam_e hK rfl rfl (Below.refl _ _) hC
     ·
      obtain ⟨h0, h2, -⟩ := hh;have g0 : f 0=_:=h0;have g2 : f 2=_:=h2;refine tab_plain fun K Q hK => ?_;simp only [puts, Za, Zb, Zc, Zd, Ze, g0, g2];go_step
      go_at_call 32
      refine (hst x1 W).mono ?_
      rintro e w' ⟨rfl, hb⟩
      rw [q1]
      exact fam_fin hK rfl rfl hb (hC.trans (hb.mono hC.size))
     ·
      obtain ⟨h3, -⟩ := hh;have g3 : f 3=_:=h3;refine tab_plain fun K Q hK => ?_;simp only [puts, Za, Zb, Zc, Zd, Ze, g3];go_step;exact fam_e hK rfl rfl (Below.refl _ _) hC
     ·
      obtain ⟨h4, h3, -⟩ := hh;have g4 : f 4=_:=h4;have g3 : f 3=_:=h3;refine tab_plain fun K Q hK => ?_;simp only [puts, Za, Zb, Zc, Zd, Ze, g4, g3];go_step;exact fam_e hK rfl rfl (Below.refl _ _) hC
     ·
      obtain ⟨h5, -⟩ := hh;have g5 : f 5=_:=h5;refine tab_yes g5 fun K Q hK => ?_;simp only [puts, Za, Zb, Zc, Zd, Ze, g5]
      obtain ⟨⟨f1, f2, f3, f4⟩, f5, f6, f7⟩ := hcm W hC
      go_step;exact fam_e hK rfl rfl (Below.refl _ _) hC
     ·
      obtain ⟨h5, -⟩ := hh;have g5 : f 5=_:=h5;refine tab_yes g5 fun K Q hK => ?_;simp only [puts, Za, Zb, Zc, Zd, Ze, g5];go_step;exact fam_e hK rfl rfl (Below.refl _ _) hC
     ·
      obtain ⟨h7, h5, -⟩ := hh;have g7 : f 7=_:=h7;have g5 : f 5=_:=h5;refine tab_yes g5 fun K Q hK => ?_;simp only [puts, Za, Zb, Zc, Zd, Ze, g7, g5]
      obtain ⟨⟨f1, f2, f3, f4⟩, f5, f6, f7⟩ := hcm W hC
      go_step;exact fam_e hK rfl rfl (Below.refl _ _) hC
     ·
      obtain ⟨h6, h8, h5, _, -⟩ := hh;have g6 : f 6=_:=h6;have g8 : f 8=_:=h8;have g5 : f 5=_:=h5;refine tab_yes g5 fun K Q hK => ?_;simp only [puts, Za, Zb, Zc, Zd, Ze, g6, g8, g5];go_step
      go_at_call 32
      refine (hst x3 W).mono ?_
      rintro e w' ⟨rfl, hb⟩
      rw [q2]
      exact fam_fin hK rfl rfl hb (hC.trans (hb.mono hC.size))
     ·
      obtain ⟨h9, h5, -⟩ := hh;have g9 : f 9=_:=h9;have g5 : f 5=_:=h5;refine tab_yes g5 fun K Q hK => ?_;simp only [puts, Za, Zb, Zc, Zd, Ze, g9, g5];go_step;exact fam_e hK rfl rfl (Below.refl _ _) hC
     ·
      obtain ⟨h5, h10, -⟩ := hh;have g5 : f 5=_:=h5;have g10 : f 10=_:=h10;refine tab_plain fun K Q hK => ?_;simp only [puts, Za, Zb, Zc, Zd, Ze, g5, g10];go_step;exact fam_e hK rfl rfl (Below.refl _ _) hC
     ·
      obtain ⟨h11, h9, -⟩ := hh;have g11 : f 11=_:=h11;have g9 : f 9=_:=h9;refine tab_plain fun K Q hK => ?_;simp only [puts, Za, Zb, Zc, Zd, Ze, g11, g9];go_step;exact fam_e hK rfl rfl (Below.refl _ _) hC
     ·
      obtain ⟨h12, -⟩ := hh;have g12 : f 12=_:=h12;refine tab_yes g12 fun K Q hK => ?_;simp only [puts, Za, Zb, Zc, Zd, Ze, g12];go_step;exact fam_e hK rfl rfl (Below.refl _ _) hC
     ·
      obtain ⟨h13, h12, -⟩ := hh;have g13 : f 13=_:=h13;have g12 : f 12=_:=h12;refine tab_yes g12 fun K Q hK => ?_;simp only [puts, Za, Zb, Zc, Zd, Ze, g13, g12]
      obtain ⟨⟨f1, f2, f3, f4⟩, f5, f6, f7⟩ := hcm W hC
      go_step;exact fam_e hK rfl rfl (Below.refl _ _) hC
     ·
      obtain ⟨h14, h12, -⟩ := hh;have g14 : f 14=_:=h14;have g12 : f 12=_:=h12;refine tab_yes g12 fun K Q hK => ?_;simp only [puts, Za, Zb, Zc, Zd, Ze, g14, g12];go_step;exact fam_e hK rfl rfl (Below.refl _ _) hC
     ·
      obtain ⟨h12, h15, -⟩ := hh;have g12 : f 12=_:=h12;have g15 : f 15=_:=h15;refine tab_plain fun K Q hK => ?_;simp only [puts, Za, Zb, Zc, Zd, Ze, g12, g15];go_step;exact fam_e hK rfl rfl (Below.refl _ _) hC
     ·
      obtain ⟨h16, h12, -⟩ := hh;have g16 : f 16=_:=h16;have g12 : f 12=_:=h12;refine tab_plain fun K Q hK => ?_;simp only [puts, Za, Zb, Zc, Zd, Ze, g16, g12];go_step;exact fam_e hK rfl rfl (Below.refl _ _) hC
     ·
      obtain ⟨h17, -⟩ := hh;have g17 : f 17=_:=h17;refine tab_yes g17 fun K Q hK => ?_;simp only [puts, Za, Zb, Zc, Zd, Ze, g17];go_step;exact fam_e hK rfl rfl (Below.refl _ _) hC
     ·
      obtain ⟨h18, h17, -⟩ := hh;have g18 : f 18=_:=h18;have g17 : f 17=_:=h17;refine tab_yes g17 fun K Q hK => ?_;simp only [puts, Za, Zb, Zc, Zd, Ze, g18, g17]
      obtain ⟨⟨f1, f2, f3, f4⟩, f5, f6, f7⟩ := hcm W hC
      go_step;exact fam_e hK rfl rfl (Below.refl _ _) hC
     ·
      obtain ⟨h19, h17, -⟩ := hh;have g19 : f 19=_:=h19;have g17 : f 17=_:=h17;refine tab_yes g17 fun K Q hK => ?_;simp only [puts, Za, Zb, Zc, Zd, Ze, g19, g17];go_step;exact fam_e hK rfl rfl (Below.refl _ _) hC
     ·
      obtain ⟨h17, h20, -⟩ := hh;have g17 : f 17=_:=h17;have g20 : f 20=_:=h20;refine tab_plain fun K Q hK => ?_;simp only [puts, Za, Zb, Zc, Zd, Ze, g17, g20];go_step;exact fam_e hK rfl rfl (Below.refl _ _) hC
     ·
      obtain ⟨h21, h17, -⟩ := hh;have g21 : f 21=_:=h21;have g17 : f 17=_:=h17;refine tab_plain fun K Q hK => ?_;simp only [puts, Za, Zb, Zc, Zd, Ze, g21, g17];go_step;exact fam_e hK rfl rfl (Below.refl _ _) hC
     ·
      obtain ⟨h22, -⟩ := hh;have g22 : f 22=_:=h22
      exact tab_no rfl g22 (by decide) rfl
     ·
      obtain ⟨h23, h22, -⟩ := hh;have g23 : f 23=_:=h23;have g22 : f 22=_:=h22
      exact tab_no rfl g22 (by decide) rfl
     ·
      obtain ⟨h24, h22, _, -⟩ := hh;have g24 : f 24=_:=h24;have g22 : f 22=_:=h22
      exact tab_no rfl g22 (by decide) rfl
     ·
      obtain ⟨h25, -⟩ := hh;have g25 : f 25=_:=h25
      exact tab_noU rfl g25 rfl
     ·
      obtain ⟨h26, h25, -⟩ := hh;have g26 : f 26=_:=h26;have g25 : f 25=_:=h25
      exact tab_noU rfl g25 rfl
     ·
      obtain ⟨h25, -⟩ := hh;have g25 : f 25=_:=h25
      exact tab_noU rfl g25 rfl
     ·
      obtain ⟨h28, h25, -⟩ := hh;have g28 : f 28=_:=h28;have g25 : f 25=_:=h25
      exact tab_noU rfl g25 rfl
     ·
      obtain ⟨h27, h29, h25, -⟩ := hh;have g27 : f 27=_:=h27;have g29 : f 29=_:=h29;have g25 : f 25=_:=h25
      exact tab_noU rfl g25 rfl
     ·
      obtain ⟨h30, h25, -⟩ := hh;have g30 : f 30=_:=h30;have g25 : f 25=_:=h25
      exact tab_noU rfl g25 rfl
     ·
      obtain ⟨h25, -⟩ := hh;have g25 : f 25=_:=h25
      exact tab_noU rfl g25 rfl
     ·
      obtain ⟨h31, h32, h25, _, -⟩ := hh;have g31 : f 31=_:=h31;have g32 : f 32=_:=h32;have g25 : f 25=_:=h25
      exact tab_noU rfl g25 rfl
     ·
      obtain ⟨h33, h25, -⟩ := hh;have g33 : f 33=_:=h33;have g25 : f 25=_:=h25
      exact tab_noU rfl g25 rfl
     ·
      obtain ⟨h25, h34, h22, -⟩ := hh;have g25 : f 25=_:=h25;have g34 : f 34=_:=h34;have g22 : f 22=_:=h22
      exact tab_no rfl g22 (by decide) rfl
     ·
      obtain ⟨h22, h35, -⟩ := hh;have g22 : f 22=_:=h22;have g35 : f 35=_:=h35;refine tab_plain fun K Q hK => ?_;simp only [puts, Za, Zb, Zc, Zd, Ze, g22, g35];go_step;exact fam_e hK rfl rfl (Below.refl _ _) hC
    case erest =>
     intro f W2 hC hh
     obtain ⟨h0, h1, h2, h3, h4, h5, h6, h7, h8, h9, h10, h11, h12, h13, h14, h15, h16, h17, h18, h19, h20, h21, h22, h23, h24, h25, h26, h27, h28, h29, h30, h31, h32, h33, h34, h35, h36, -⟩ := hh;have g0 : f 0=_:=h0;have g1 : f 1=_:=h1;have g2 : f 2=_:=h2;have g3 : f 3=_:=h3;have g4 : f 4=_:=h4;have g5 : f 5=_:=h5;have g6 : f 6=_:=h6;have g7 : f 7=_:=h7;have g8 : f 8=_:=h8;have g9 : f 9=_:=h9;have g10 : f 10=_:=h10;have g11 : f 11=_:=h11;have g12 : f 12=_:=h12;have g13 : f 13=_:=h13;have g14 : f 14=_:=h14;have g15 : f 15=_:=h15;have g16 : f 16=_:=h16;have g17 : f 17=_:=h17;have g18 : f 18=_:=h18;have g19 : f 19=_:=h19;have g20 : f 20=_:=h20;have g21 : f 21=_:=h21;have g22 : f 22=_:=h22;have g23 : f 23=_:=h23;have g24 : f 24=_:=h24;have g25 : f 25=_:=h25;have g26 : f 26=_:=h26;have g27 : f 27=_:=h27;have g28 : f 28=_:=h28;have g29 : f 29=_:=h29;have g30 : f 30=_:=h30;have g31 : f 31=_:=h31;have g32 : f 32=_:=h32;have g33 : f 33=_:=h33;have g34 : f 34=_:=h34;have g35 : f 35=_:=h35;have g36 : f 36=_:=h36;simp only [puts, Za, Zb, Zc, Zd, Ze, g0, g1, g2, g3, g4, g5, g6, g7, g8, g9, g10, g11, g12, g13, g14, g15, g16, g17, g18, g19, g20, g21, g22, g23, g24, g25, g26, g27, g28, g29, g30, g31, g32, g33, g34, g35, g36]
     clear h0 h1 h2 h3 h4 h5 h6 h7 h8 h9 h10 h11 h12 h13 h14 h15 h16 h17 h18 h19 h20 h21 h22 h23 h24 h25 h26 h27 h28 h29 h30 h31 h32 h33 h34 h35 h36 g0 g1 g2 g3 g4 g5 g6 g7 g8 g9 g10 g11 g12 g13 g14 g15 g16 g17 g18 g19 g20 g21 g22 g23 g24 g25 g26 g27 g28 g29 g30 g31 g32 g33 g34 g35 g36
     go_wp2
     go_ret
     exact ⟨by rw [← HNO.out HQ.out]; rfl, HBN.out.trans (hC.mono HBN.out.size)⟩
   have q4 : decide (10000 < x2) = false := decide_eq_false h9
   have H8 := Lib.hid (show 1 ≤ x2 ∧ x2 ≤ 10000 by omega)
   clear h8 h9
   by_cases h10 : k = 0
   ·have q5 : decide (0 < k) = false := decide_eq_false (by omega)
    have HK0 := Lib.hid h10
    clear h10
    go_wp2_with (fail)
    refine wp_region_grow mixed (by kernel_rfl) [[], [], [(1, 43)], [(0, 42), (2, 44)], [(3, 45)], [(4, 46), (3, 45)], [(5, 47)], [(5, 47)], [(7, 49), (5, 47)], [(6, 48), (8, 50), (5, 47), (5, 47)], [(9, 51), (5, 47)], [(5, 47), (10, 52)], [(11, 53), (9, 51)], [(12, 54)], [(13, 55), (12, 54)], [(14, 56), (12, 54)], [(12, 54), (15, 57)], [(16, 58), (12, 54)], [(17, 59)], [(18, 60), (17, 59)], [(19, 61), (17, 59)], [(17, 59), (20, 62)], [(21, 63), (17, 59)], [(22, 64)], [(23, 65), (22, 64)], [(24, 66), (22, 64), (22, 64)], [(25, 67)], [(26, 68), (25, 67)], [(25, 67)], [(28, 70), (25, 67)], [(27, 69), (29, 71), (25, 67)], [(30, 72), (25, 67)], [(25, 67)], [(31, 73), (32, 74), (25, 67), (25, 67)], [(33, 75), (25, 67)], [(25, 67), (34, 76), (22, 64)], [(22, 64), (35, 77)]] [(0, 42), (1, 43), (2, 44), (3, 45), (4, 46), (5, 47), (6, 48), (7, 49), (8, 50), (9, 51), (10, 52), (11, 53), (12, 54), (13, 55), (14, 56), (15, 57), (16, 58), (17, 59), (18, 60), (19, 61), (20, 62), (21, 63), (22, 64), (23, 65), (24, 66), (25, 67), (26, 68), (27, 69), (28, 70), (29, 71), (30, 72), (31, 73), (32, 74), (33, 75), (34, 76), (35, 77), (36, 78)] rfl rfl [Ex ?ef0, Ex ?ef1, Ex ?ef2, Ex (.bool true), Ex ?ef4, Ex ?ef5, Ex ?ef6, Ex ?ef7, Ex ?ef8, Ex (.bool true), Ex ?ef10, Ex ?ef11, Ex ?ef12, Ex ?ef13, Ex ?ef14, Ex ?ef15, Ex ?ef16, Ex ?ef17, Ex ?ef18, Ex ?ef19, Ex ?ef20, Ex ?ef21, Ex ?ef22, Ex ?ef23, Ex ?ef24, Ex ?ef25, Ex undef, Ex undef, Ex undef, Ex undef, Ex undef, Ex undef, Ex undef, Ex undef, Ex undef, Ex ?ef35, Ex ?ef36] ⟨stays_ex _, stays_ex _, stays_ex _, stays_ex _, stays_ex _, stays_ex _, stays_ex _, stays_ex _, stays_ex _, stays_ex _, stays_ex _, stays_ex _, stays_ex _, stays_ex _, stays_ex _, stays_ex _, stays_ex _, stays_ex _, stays_ex _, stays_ex _, stays_ex _, stays_ex _, stays_ex _, stays_ex _, stays_ex _, stays_ex _, stays_ex _, stays_ex _, stays_ex _, stays_ex _, stays_ex _, stays_ex _, stays_ex _, stays_ex _, stays_ex _, stays_ex _, stays_ex _, trivial⟩ ?fsteps ?frest
    case fsteps =>
     refine ⟨fun f W hC hh => ?_, fun f W hC hh => ?_, fun f W hC hh => ?_, fun f W hC hh => ?_, fun f W hC hh => ?_, fun f W hC hh => ?_, fun f W hC hh => ?_, fun f W hC hh => ?_, fun f W hC hh => ?_, fun f W hC hh => ?_, fun f W hC hh => ?_, fun f W hC hh => ?_, fun f W hC hh => ?_, fun f W hC hh => ?_, fun f W hC hh => ?_, fun f W hC hh => ?_, fun f W hC hh => ?_, fun f W hC hh => ?_, fun f W hC hh => ?_, fun f W hC hh => ?_, fun f W hC hh => ?_, fun f W hC hh => ?_, fun f W hC hh => ?_, fun f W hC hh => ?_, fun f W hC hh => ?_, fun f W hC hh => ?_, fun f W hC hh => ?_, fun f W hC hh => ?_, fun f W hC hh => ?_, fun f W hC hh => ?_, fun f W hC hh => ?_, fun f W hC hh => ?_, fun f W hC hh => ?_, fun f W hC hh => ?_, fun f W hC hh => ?_, fun f W hC hh => ?_, fun f W hC hh => ?_, trivial⟩
     ·
      refine tab_plain fun K Q hK => ?_;simp only [puts, foldr_nil]
      obtain ⟨⟨f1, f2, f3, f4⟩, f5, f6, f7⟩ := hcm W hC
      go_step;exact fam_e hK rfl rfl (Below.refl _ _) hC
     ·
      refine tab_plain fun K Q hK => ?_;simp only [puts, foldr_nil];go_step;exact fam_e hK rfl rfl (Below.refl _ _) hC
     ·
      obtain ⟨h1, -⟩ := hh;have g1 : f 1=_:=h1;refine tab_plain fun K Q hK => ?_;simp only [puts, Za, Zb, Zc, Zd, Ze, g1]
      obtain ⟨⟨f1, f2, f3, f4⟩, f5, f6, f7⟩ := hcm W hC
      go_step;exact fam_e hK rfl rfl (Below.refl _ _) hC
     ·
      obtain ⟨h0, h2, -⟩ := hh;have g0 : f 0=_:=h0;have g2 : f 2=_:=h2;refine tab_plain fun K Q hK => ?_;simp only [puts, Za, Zb, Zc, Zd, Ze, g0, g2];go_step
      go_at_call 32
      refine (hst x1 W).mono ?_
      rintro e w' ⟨rfl, hb⟩
      rw [q1]
      exact fam_fin hK rfl rfl hb (hC.trans (hb.mono hC.size))
     ·
      obtain ⟨h3, -⟩ := hh;have g3 : f 3=_:=h3;refine tab_plain fun K Q hK => ?_;simp only [puts, Za, Zb, Zc, Zd, Ze, g3];go_step;exact fam_e hK rfl rfl (Below.refl _ _) hC
     ·
      obtain ⟨h4, h3, -⟩ := hh;have g4 : f 4=_:=h4;have g3 : f 3=_:=h3;refine tab_plain fun K Q hK => ?_;simp only [puts, Za, Zb, Zc, Zd, Ze, g4, g3];go_step;exact fam_e hK rfl rfl (Below.refl _ _) hC
     ·
      obtain ⟨h5, -⟩ := hh;have g5 : f 5=_:=h5;refine tab_yes g5 fun K Q hK => ?_;simp only [puts, Za, Zb, Zc, Zd, Ze, g5]
      obtain ⟨⟨f1, f2, f3, f4⟩, f5, f6, f7⟩ := hcm W hC
      go_step;exact fam_e hK rfl rfl (Below.refl _ _) hC
     ·
      obtain ⟨h5, -⟩ := hh;have g5 : f 5=_:=h5;refine tab_yes g5 fun K Q hK => ?_;simp only [puts, Za, Zb, Zc, Zd, Ze, g5];go_step;exact fam_e hK rfl rfl (Below.refl _ _) hC
     ·
      obtain ⟨h7, h5, -⟩ := hh;have g7 : f 7=_:=h7;have g5 : f 5=_:=h5;refine tab_yes g5 fun K Q hK => ?_;simp only [puts, Za, Zb, Zc, Zd, Ze, g7, g5]
      obtain ⟨⟨f1, f2, f3, f4⟩, f5, f6, f7⟩ := hcm W hC
      go_step;exact fam_e hK rfl rfl (Below.refl _ _) hC
     ·
      obtain ⟨h6, h8, h5, _, -⟩ := hh;have g6 : f 6=_:=h6;have g8 : f 8=_:=h8;have g5 : f 5=_:=h5;refine tab_yes g5 fun K Q hK => ?_;simp only [puts, Za, Zb, Zc, Zd, Ze, g6, g8, g5];go_step
      go_at_call 32
      refine (hst x3 W).mono ?_
      rintro e w' ⟨rfl, hb⟩
      rw [q2]
      exact fam_fin hK rfl rfl hb (hC.trans (hb.mono hC.size))
     ·
      obtain ⟨h9, h5, -⟩ := hh;have g9 : f 9=_:=h9;have g5 : f 5=_:=h5;refine tab_yes g5 fun K Q hK => ?_;simp only [puts, Za, Zb, Zc, Zd, Ze, g9, g5];go_step;exact fam_e hK rfl rfl (Below.refl _ _) hC
     ·
      obtain ⟨h5, h10, -⟩ := hh;have g5 : f 5=_:=h5;have g10 : f 10=_:=h10;refine tab_plain fun K Q hK => ?_;simp only [puts, Za, Zb, Zc, Zd, Ze, g5, g10];go_step;exact fam_e hK rfl rfl (Below.refl _ _) hC
     ·
      obtain ⟨h11, h9, -⟩ := hh;have g11 : f 11=_:=h11;have g9 : f 9=_:=h9;refine tab_plain fun K Q hK => ?_;simp only [puts, Za, Zb, Zc, Zd, Ze, g11, g9];go_step;exact fam_e hK rfl rfl (Below.refl _ _) hC
     ·
      obtain ⟨h12, -⟩ := hh;have g12 : f 12=_:=h12;refine tab_yes g12 fun K Q hK => ?_;simp only [puts, Za, Zb, Zc, Zd, Ze, g12];go_step;exact fam_e hK rfl rfl (Below.refl _ _) hC
     ·
      obtain ⟨h13, h12, -⟩ := hh;have g13 : f 13=_:=h13;have g12 : f 12=_:=h12;refine tab_yes g12 fun K Q hK => ?_;simp only [puts, Za, Zb, Zc, Zd, Ze, g13, g12]
      obtain ⟨⟨f1, f2, f3, f4⟩, f5, f6, f7⟩ := hcm W hC
      go_step;exact fam_e hK rfl rfl (Below.refl _ _) hC
     ·
      obtain ⟨h14, h12, -⟩ := hh;have g14 : f 14=_:=h14;have g12 : f 12=_:=h12;refine tab_yes g12 fun K Q hK => ?_;simp only [puts, Za, Zb, Zc, Zd, Ze, g14, g12];go_step;exact fam_e hK rfl rfl (Below.refl _ _) hC
     ·
      obtain ⟨h12, h15, -⟩ := hh;have g12 : f 12=_:=h12;have g15 : f 15=_:=h15;refine tab_plain fun K Q hK => ?_;simp only [puts, Za, Zb, Zc, Zd, Ze, g12, g15];go_step;exact fam_e hK rfl rfl (Below.refl _ _) hC
     ·
      obtain ⟨h16, h12, -⟩ := hh;have g16 : f 16=_:=h16;have g12 : f 12=_:=h12;refine tab_plain fun K Q hK => ?_;simp only [puts, Za, Zb, Zc, Zd, Ze, g16, g12];go_step;exact fam_e hK rfl rfl (Below.refl _ _) hC
     ·
      obtain ⟨h17, -⟩ := hh;have g17 : f 17=_:=h17;refine tab_yes g17 fun K Q hK => ?_;simp only [puts, Za, Zb, Zc, Zd, Ze, g17];go_step;exact fam_e hK rfl rfl (Below.refl _ _) hC
     ·
      obtain ⟨h18, h17, -⟩ := hh;have g18 : f 18=_:=h18;have g17 : f 17=_:=h17;refine tab_yes g17 fun K Q hK => ?_;simp only [puts, Za, Zb, Zc, Zd, Ze, g18, g17]
      obtain ⟨⟨f1, f2, f3, f4⟩, f5, f6, f7⟩ := hcm W hC
      go_step;exact fam_e hK rfl rfl (Below.refl _ _) hC
     ·
      obtain ⟨h19, h17, -⟩ := hh;have g19 : f 19=_:=h19;have g17 : f 17=_:=h17;refine tab_yes g17 fun K Q hK => ?_;simp only [puts, Za, Zb, Zc, Zd, Ze, g19, g17];go_step;exact fam_e hK rfl rfl (Below.refl _ _) hC
     ·
      obtain ⟨h17, h20, -⟩ := hh;have g17 : f 17=_:=h17;have g20 : f 20=_:=h20;refine tab_plain fun K Q hK => ?_;simp only [puts, Za, Zb, Zc, Zd, Ze, g17, g20];go_step;exact fam_e hK rfl rfl (Below.refl _ _) hC
     ·
      obtain ⟨h21, h17, -⟩ := hh;have g21 : f 21=_:=h21;have g17 : f 17=_:=h17;refine tab_plain fun K Q hK => ?_;simp only [puts, Za, Zb, Zc, Zd, Ze, g21, g17];go_step;exact fam_e hK rfl rfl (Below.refl _ _) hC
     ·
      obtain ⟨h22, -⟩ := hh;have g22 : f 22=_:=h22;refine tab_yes g22 fun K Q hK => ?_;simp only [puts, Za, Zb, Zc, Zd, Ze, g22];go_step;exact fam_e hK rfl rfl (Below.refl _ _) hC
     ·
      obtain ⟨h23, h22, -⟩ := hh;have g23 : f 23=_:=h23;have g22 : f 22=_:=h22;refine tab_yes g22 fun K Q hK => ?_;simp only [puts, Za, Zb, Zc, Zd, Ze, g23, g22];go_step;exact fam_e hK rfl rfl (Below.refl _ _) hC
     ·
      obtain ⟨h24, h22, _, -⟩ := hh;have g24 : f 24=_:=h24;have g22 : f 22=_:=h22;refine tab_yes g22 fun K Q hK => ?_;simp only [puts, Za, Zb, Zc, Zd, Ze, g24, g22];go_step;exact fam_e hK rfl rfl (Below.refl _ _) hC
     ·
      obtain ⟨h25, -⟩ := hh;have g25 : f 25=_:=h25
      exact tab_no rfl g25 (by decide) rfl
     ·
      obtain ⟨h26, h25, -⟩ := hh;have g26 : f 26=_:=h26;have g25 : f 25=_:=h25
      exact tab_no rfl g25 (by decide) rfl
     ·
      obtain ⟨h25, -⟩ := hh;have g25 : f 25=_:=h25
      exact tab_no rfl g25 (by decide) rfl
     ·
      obtain ⟨h28, h25, -⟩ := hh;have g28 : f 28=_:=h28;have g25 : f 25=_:=h25
      exact tab_no rfl g25 (by decide) rfl
     ·
      obtain ⟨h27, h29, h25, -⟩ := hh;have g27 : f 27=_:=h27;have g29 : f 29=_:=h29;have g25 : f 25=_:=h25
      exact tab_no rfl g25 (by decide) rfl
     ·
      obtain ⟨h30, h25, -⟩ := hh;have g30 : f 30=_:=h30;have g25 : f 25=_:=h25
      exact tab_no rfl g25 (by decide) rfl
     ·
      obtain ⟨h25, -⟩ := hh;have g25 : f 25=_:=h25
      exact tab_no rfl g25 (by decide) rfl
     ·
      obtain ⟨h31, h32, h25, _, -⟩ := hh;have g31 : f 31=_:=h31;have g32 : f 32=_:=h32;have g25 : f 25=_:=h25
      exact tab_no rfl g25 (by decide) rfl
     ·
      obtain ⟨h33, h25, -⟩ := hh;have g33 : f 33=_:=h33;have g25 : f 25=_:=h25
      exact tab_no rfl g25 (by decide) rfl
     ·
      obtain ⟨h25, h34, h22, -⟩ := hh;have g25 : f 25=_:=h25;have g34 : f 34=_:=h34;have g22 : f 22=_:=h22;refine tab_yes g22 fun K Q hK => ?_;simp only [puts, Za, Zb, Zc, Zd, Ze, g25, g34, g22];go_step;exact fam_e hK rfl rfl (Below.refl _ _) hC
     ·
      obtain ⟨h22, h35, -⟩ := hh;have g22 : f 22=_:=h22;have g35 : f 35=_:=h35;refine tab_plain fun K Q hK => ?_;simp only [puts, Za, Zb, Zc, Zd, Ze, g22, g35];go_step;exact fam_e hK rfl rfl (Below.refl _ _) hC
    case frest =>
     intro f W2 hC hh
     obtain ⟨h0, h1, h2, h3, h4, h5, h6, h7, h8, h9, h10, h11, h12, h13, h14, h15, h16, h17, h18, h19, h20, h21, h22, h23, h24, h25, h26, h27, h28, h29, h30, h31, h32, h33, h34, h35, h36, -⟩ := hh;have g0 : f 0=_:=h0;have g1 : f 1=_:=h1;have g2 : f 2=_:=h2;have g3 : f 3=_:=h3;have g4 : f 4=_:=h4;have g5 : f 5=_:=h5;have g6 : f 6=_:=h6;have g7 : f 7=_:=h7;have g8 : f 8=_:=h8;have g9 : f 9=_:=h9;have g10 : f 10=_:=h10;have g11 : f 11=_:=h11;have g12 : f 12=_:=h12;have g13 : f 13=_:=h13;have g14 : f 14=_:=h14;have g15 : f 15=_:=h15;have g16 : f 16=_:=h16;have g17 : f 17=_:=h17;have g18 : f 18=_:=h18;have g19 : f 19=_:=h19;have g20 : f 20=_:=h20;have g21 : f 21=_:=h21;have g22 : f 22=_:=h22;have g23 : f 23=_:=h23;have g24 : f 24=_:=h24;have g25 : f 25=_:=h25;have g26 : f 26=_:=h26;have g27 : f 27=_:=h27;have g28 : f 28=_:=h28;have g29 : f 29=_:=h29;have g30 : f 30=_:=h30;have g31 : f 31=_:=h31;have g32 : f 32=_:=h32;have g33 : f 33=_:=h33;have g34 : f 34=_:=h34;have g35 : f 35=_:=h35;have g36 : f 36=_:=h36;simp only [puts, Za, Zb, Zc, Zd, Ze, g0, g1, g2, g3, g4, g5, g6, g7, g8, g9, g10, g11, g12, g13, g14, g15, g16, g17, g18, g19, g20, g21, g22, g23, g24, g25, g26, g27, g28, g29, g30, g31, g32, g33, g34, g35, g36]
     clear h0 h1 h2 h3 h4 h5 h6 h7 h8 h9 h10 h11 h12 h13 h14 h15 h16 h17 h18 h19 h20 h21 h22 h23 h24 h25 h26 h27 h28 h29 h30 h31 h32 h33 h34 h35 h36 g0 g1 g2 g3 g4 g5 g6 g7 g8 g9 g10 g11 g12 g13 g14 g15 g16 g17 g18 g19 g20 g21 g22 g23 g24 g25 g26 g27 g28 g29 g30 g31 g32 g33 g34 g35 g36
     go_wp2
     go_roundw
     case rel =>
      refine ⟨k + 1, by omega, by go_num, Lib.hid fun i hi => ?_, HBWN.out.trans (hC.mono HBWN.out.size)⟩
      rcases Nat.lt_or_ge i k with h | h
      ·exact HA.out i h
      ·rw [show i = k by omega]; unfold ArcOk; rw [HX.out]; exact ⟨⟨H6.out, H7.out⟩, H8.out, fun h => absurd HK0.out (by omega)⟩
     case measure => simp [intOf]; omega
   ·have hk1 : 0 < k := by omega
    have q5 : decide (0 < k) = true := decide_eq_true (by omega)
    obtain ⟨p, hp⟩ : ∃ p, p = k - 1 := ⟨_, rfl⟩
    have hpk : (k : Int) - 1 = (p : Int) := by omega
    obtain ⟨y1, y2, y3, hy⟩ : ∃ y1 y2 y3, g3 es p = ⟨y1, y2, y3⟩ := ⟨_, _, _, rfl⟩
    have HP := Lib.hid hp
    have HY := Lib.hid hy
    have hpl : p < al := by omega
    have hcp : ∀ W, Below Wn.heap.size Wn W → W.cell? ⟨b, off + p * 3, none⟩ = some (.int .i64 y1) ∧ W.cell? ⟨b, off + p * 3 + 1, none⟩ = some (.int .i64 y2) ∧ W.cell? ⟨b, off + p * 3 + 2, none⟩ = some (.int .i64 y3) := fun W h => by
     have := HCELL.out W (HBN.out.trans (h.mono HBN.out.size)) p hpl
     rwa [hy] at this
    clear hp hy h10
    by_cases hL : LtA ⟨y1, y2, y3⟩ ⟨x1, x2, x3⟩
    ·have q6 : decide (0 ≤ ordA ⟨y1, y2, y3⟩ ⟨x1, x2, x3⟩) = false := decide_eq_false (fun h => ordA_ge.1 h hL)
     have HLT := Lib.hid hL
     clear hL
     go_wp2_with (fail)
     refine wp_region_grow mixed (by kernel_rfl) [[], [], [(1, 43)], [(0, 42), (2, 44)], [(3, 45)], [(4, 46), (3, 45)], [(5, 47)], [(5, 47)], [(7, 49), (5, 47)], [(6, 48), (8, 50), (5, 47), (5, 47)], [(9, 51), (5, 47)], [(5, 47), (10, 52)], [(11, 53), (9, 51)], [(12, 54)], [(13, 55), (12, 54)], [(14, 56), (12, 54)], [(12, 54), (15, 57)], [(16, 58), (12, 54)], [(17, 59)], [(18, 60), (17, 59)], [(19, 61), (17, 59)], [(17, 59), (20, 62)], [(21, 63), (17, 59)], [(22, 64)], [(23, 65), (22, 64)], [(24, 66), (22, 64), (22, 64)], [(25, 67)], [(26, 68), (25, 67)], [(25, 67)], [(28, 70), (25, 67)], [(27, 69), (29, 71), (25, 67)], [(30, 72), (25, 67)], [(25, 67)], [(31, 73), (32, 74), (25, 67), (25, 67)], [(33, 75), (25, 67)], [(25, 67), (34, 76), (22, 64)], [(22, 64), (35, 77)]] [(0, 42), (1, 43), (2, 44), (3, 45), (4, 46), (5, 47), (6, 48), (7, 49), (8, 50), (9, 51), (10, 52), (11, 53), (12, 54), (13, 55), (14, 56), (15, 57), (16, 58), (17, 59), (18, 60), (19, 61), (20, 62), (21, 63), (22, 64), (23, 65), (24, 66), (25, 67), (26, 68), (27, 69), (28, 70), (29, 71), (30, 72), (31, 73), (32, 74), (33, 75), (34, 76), (35, 77), (36, 78)] rfl rfl [Ex ?eg0, Ex ?eg1, Ex ?eg2, Ex (.bool true), Ex ?eg4, Ex ?eg5, Ex ?eg6, Ex ?eg7, Ex ?eg8, Ex (.bool true), Ex ?eg10, Ex ?eg11, Ex ?eg12, Ex ?eg13, Ex ?eg14, Ex ?eg15, Ex ?eg16, Ex ?eg17, Ex ?eg18, Ex ?eg19, Ex ?eg20, Ex ?eg21, Ex ?eg22, Ex ?eg23, Ex ?eg24, Ex ?eg25, Ex ?eg26, Ex ?eg27, Ex ?eg28, Ex ?eg29, Ex ?eg30, Ex ?eg31, Ex ?eg32, Ex (.int .i64 (ordA ⟨y1, y2, y3⟩ ⟨x1, x2, x3⟩)), Ex ?eg34, Ex ?eg35, Ex ?eg36] ⟨stays_ex _, stays_ex _, stays_ex _, stays_ex _, stays_ex _, stays_ex _, stays_ex _, stays_ex _, stays_ex _, stays_ex _, stays_ex _, stays_ex _, stays_ex _, stays_ex _, stays_ex _, stays_ex _, stays_ex _, stays_ex _, stays_ex _, stays_ex _, stays_ex _, stays_ex _, stays_ex _, stays_ex _, stays_ex _, stays_ex _, stays_ex _, stays_ex _, stays_ex _, stays_ex _, stays_ex _, stays_ex _, stays_ex _, stays_ex _, stays_ex _, stays_ex _, stays_ex _, trivial⟩ ?gsteps ?grest
     case gsteps =>
      refine ⟨fun f W hC hh => ?_, fun f W hC hh => ?_, fun f W hC hh => ?_, fun f W hC hh => ?_, fun f W hC hh => ?_, fun f W hC hh => ?_, fun f W hC hh => ?_, fun f W hC hh => ?_, fun f W hC hh => ?_, fun f W hC hh => ?_, fun f W hC hh => ?_, fun f W hC hh => ?_, fun f W hC hh => ?_, fun f W hC hh => ?_, fun f W hC hh => ?_, fun f W hC hh => ?_, fun f W hC hh => ?_, fun f W hC hh => ?_, fun f W hC hh => ?_, fun f W hC hh => ?_, fun f W hC hh => ?_, fun f W hC hh => ?_, fun f W hC hh => ?_, fun f W hC hh => ?_, fun f W hC hh => ?_, fun f W hC hh => ?_, fun f W hC hh => ?_, fun f W hC hh => ?_, fun f W hC hh => ?_, fun f W hC hh => ?_, fun f W hC hh => ?_, fun f W hC hh => ?_, fun f W hC hh => ?_, fun f W hC hh => ?_, fun f W hC hh => ?_, fun f W hC hh => ?_, fun f W hC hh => ?_, trivial⟩
      ·
       refine tab_plain fun K Q hK => ?_;simp only [puts, foldr_nil]
       obtain ⟨⟨f1, f2, f3, f4⟩, f5, f6, f7⟩ := hcm W hC
       obtain ⟨f8, f9, f10⟩ := hcp W hC
       go_step;exact fam_e hK rfl rfl (Below.refl _ _) hC
      ·
       refine tab_plain fun K Q hK => ?_;simp only [puts, foldr_nil];go_step;exact fam_e hK rfl rfl (Below.refl _ _) hC
      ·
       obtain ⟨h1, -⟩ := hh;have g1 : f 1=_:=h1;refine tab_plain fun K Q hK => ?_;simp only [puts, Za, Zb, Zc, Zd, Ze, g1]
       obtain ⟨⟨f1, f2, f3, f4⟩, f5, f6, f7⟩ := hcm W hC
       obtain ⟨f8, f9, f10⟩ := hcp W hC
       go_step;exact fam_e hK rfl rfl (Below.refl _ _) hC
      ·
       obtain ⟨h0, h2, -⟩ := hh;have g0 : f 0=_:=h0;have g2 : f 2=_:=h2;refine tab_plain fun K Q hK => ?_;simp only [puts, Za, Zb, Zc, Zd, Ze, g0, g2];go_step
       go_at_call 32
       refine (hst x1 W).mono ?_
       rintro e w' ⟨rfl, hb⟩
       rw [q1]
       exact fam_fin hK rfl rfl hb (hC.trans (hb.mono hC.size))
      ·
       obtain ⟨h3, -⟩ := hh;have g3 : f 3=_:=h3;refine tab_plain fun K Q hK => ?_;simp only [puts, Za, Zb, Zc, Zd, Ze, g3];go_step;exact fam_e hK rfl rfl (Below.refl _ _) hC
      ·
       obtain ⟨h4, h3, -⟩ := hh;have g4 : f 4=_:=h4;have g3 : f 3=_:=h3;refine tab_plain fun K Q hK => ?_;simp only [puts, Za, Zb, Zc, Zd, Ze, g4, g3];go_step;exact fam_e hK rfl rfl (Below.refl _ _) hC
      ·
       obtain ⟨h5, -⟩ := hh;have g5 : f 5=_:=h5;refine tab_yes g5 fun K Q hK => ?_;simp only [puts, Za, Zb, Zc, Zd, Ze, g5]
       obtain ⟨⟨f1, f2, f3, f4⟩, f5, f6, f7⟩ := hcm W hC
       obtain ⟨f8, f9, f10⟩ := hcp W hC
       go_step;exact fam_e hK rfl rfl (Below.refl _ _) hC
      ·
       obtain ⟨h5, -⟩ := hh;have g5 : f 5=_:=h5;refine tab_yes g5 fun K Q hK => ?_;simp only [puts, Za, Zb, Zc, Zd, Ze, g5];go_step;exact fam_e hK rfl rfl (Below.refl _ _) hC
      ·
       obtain ⟨h7, h5, -⟩ := hh;have g7 : f 7=_:=h7;have g5 : f 5=_:=h5;refine tab_yes g5 fun K Q hK => ?_;simp only [puts, Za, Zb, Zc, Zd, Ze, g7, g5]
       obtain ⟨⟨f1, f2, f3, f4⟩, f5, f6, f7⟩ := hcm W hC
       obtain ⟨f8, f9, f10⟩ := hcp W hC
       go_step;exact fam_e hK rfl rfl (Below.refl _ _) hC
      ·
       obtain ⟨h6, h8, h5, _, -⟩ := hh;have g6 : f 6=_:=h6;have g8 : f 8=_:=h8;have g5 : f 5=_:=h5;refine tab_yes g5 fun K Q hK => ?_;simp only [puts, Za, Zb, Zc, Zd, Ze, g6, g8, g5];go_step
       go_at_call 32
       refine (hst x3 W).mono ?_
       rintro e w' ⟨rfl, hb⟩
       rw [q2]
       exact fam_fin hK rfl rfl hb (hC.trans (hb.mono hC.size))
      ·
       obtain ⟨h9, h5, -⟩ := hh;have g9 : f 9=_:=h9;have g5 : f 5=_:=h5;refine tab_yes g5 fun K Q hK => ?_;simp only [puts, Za, Zb, Zc, Zd, Ze, g9, g5];go_step;exact fam_e hK rfl rfl (Below.refl _ _) hC
      ·
       obtain ⟨h5, h10, -⟩ := hh;have g5 : f 5=_:=h5;have g10 : f 10=_:=h10;refine tab_plain fun K Q hK => ?_;simp only [puts, Za, Zb, Zc, Zd, Ze, g5, g10];go_step;exact fam_e hK rfl rfl (Below.refl _ _) hC
      ·
       obtain ⟨h11, h9, -⟩ := hh;have g11 : f 11=_:=h11;have g9 : f 9=_:=h9;refine tab_plain fun K Q hK => ?_;simp only [puts, Za, Zb, Zc, Zd, Ze, g11, g9];go_step;exact fam_e hK rfl rfl (Below.refl _ _) hC
      ·
       obtain ⟨h12, -⟩ := hh;have g12 : f 12=_:=h12;refine tab_yes g12 fun K Q hK => ?_;simp only [puts, Za, Zb, Zc, Zd, Ze, g12];go_step;exact fam_e hK rfl rfl (Below.refl _ _) hC
      ·
       obtain ⟨h13, h12, -⟩ := hh;have g13 : f 13=_:=h13;have g12 : f 12=_:=h12;refine tab_yes g12 fun K Q hK => ?_;simp only [puts, Za, Zb, Zc, Zd, Ze, g13, g12]
       obtain ⟨⟨f1, f2, f3, f4⟩, f5, f6, f7⟩ := hcm W hC
       obtain ⟨f8, f9, f10⟩ := hcp W hC
       go_step;exact fam_e hK rfl rfl (Below.refl _ _) hC
      ·
       obtain ⟨h14, h12, -⟩ := hh;have g14 : f 14=_:=h14;have g12 : f 12=_:=h12;refine tab_yes g12 fun K Q hK => ?_;simp only [puts, Za, Zb, Zc, Zd, Ze, g14, g12];go_step;exact fam_e hK rfl rfl (Below.refl _ _) hC
      ·
       obtain ⟨h12, h15, -⟩ := hh;have g12 : f 12=_:=h12;have g15 : f 15=_:=h15;refine tab_plain fun K Q hK => ?_;simp only [puts, Za, Zb, Zc, Zd, Ze, g12, g15];go_step;exact fam_e hK rfl rfl (Below.refl _ _) hC
      ·
       obtain ⟨h16, h12, -⟩ := hh;have g16 : f 16=_:=h16;have g12 : f 12=_:=h12;refine tab_plain fun K Q hK => ?_;simp only [puts, Za, Zb, Zc, Zd, Ze, g16, g12];go_step;exact fam_e hK rfl rfl (Below.refl _ _) hC
      ·
       obtain ⟨h17, -⟩ := hh;have g17 : f 17=_:=h17;refine tab_yes g17 fun K Q hK => ?_;simp only [puts, Za, Zb, Zc, Zd, Ze, g17];go_step;exact fam_e hK rfl rfl (Below.refl _ _) hC
      ·
       obtain ⟨h18, h17, -⟩ := hh;have g18 : f 18=_:=h18;have g17 : f 17=_:=h17;refine tab_yes g17 fun K Q hK => ?_;simp only [puts, Za, Zb, Zc, Zd, Ze, g18, g17]
       obtain ⟨⟨f1, f2, f3, f4⟩, f5, f6, f7⟩ := hcm W hC
       obtain ⟨f8, f9, f10⟩ := hcp W hC
       go_step;exact fam_e hK rfl rfl (Below.refl _ _) hC
      ·
       obtain ⟨h19, h17, -⟩ := hh;have g19 : f 19=_:=h19;have g17 : f 17=_:=h17;refine tab_yes g17 fun K Q hK => ?_;simp only [puts, Za, Zb, Zc, Zd, Ze, g19, g17];go_step;exact fam_e hK rfl rfl (Below.refl _ _) hC
      ·
       obtain ⟨h17, h20, -⟩ := hh;have g17 : f 17=_:=h17;have g20 : f 20=_:=h20;refine tab_plain fun K Q hK => ?_;simp only [puts, Za, Zb, Zc, Zd, Ze, g17, g20];go_step;exact fam_e hK rfl rfl (Below.refl _ _) hC
      ·
       obtain ⟨h21, h17, -⟩ := hh;have g21 : f 21=_:=h21;have g17 : f 17=_:=h17;refine tab_plain fun K Q hK => ?_;simp only [puts, Za, Zb, Zc, Zd, Ze, g21, g17];go_step;exact fam_e hK rfl rfl (Below.refl _ _) hC
      ·
       obtain ⟨h22, -⟩ := hh;have g22 : f 22=_:=h22;refine tab_yes g22 fun K Q hK => ?_;simp only [puts, Za, Zb, Zc, Zd, Ze, g22];go_step;exact fam_e hK rfl rfl (Below.refl _ _) hC
      ·
       obtain ⟨h23, h22, -⟩ := hh;have g23 : f 23=_:=h23;have g22 : f 22=_:=h22;refine tab_yes g22 fun K Q hK => ?_;simp only [puts, Za, Zb, Zc, Zd, Ze, g23, g22];go_step;exact fam_e hK rfl rfl (Below.refl _ _) hC
      ·
       obtain ⟨h24, h22, _, -⟩ := hh;have g24 : f 24=_:=h24;have g22 : f 22=_:=h22;refine tab_yes g22 fun K Q hK => ?_;simp only [puts, Za, Zb, Zc, Zd, Ze, g24, g22];go_step;exact fam_e hK rfl rfl (Below.refl _ _) hC
      ·
       obtain ⟨h25, -⟩ := hh;have g25 : f 25=_:=h25;refine tab_yes g25 fun K Q hK => ?_;simp only [puts, Za, Zb, Zc, Zd, Ze, g25];go_step;exact fam_e hK rfl rfl (Below.refl _ _) hC
      ·
       obtain ⟨h26, h25, -⟩ := hh;have g26 : f 26=_:=h26;have g25 : f 25=_:=h25;refine tab_yes g25 fun K Q hK => ?_;simp only [puts, Za, Zb, Zc, Zd, Ze, g26, g25]
       obtain ⟨⟨f1, f2, f3, f4⟩, f5, f6, f7⟩ := hcm W hC
       obtain ⟨f8, f9, f10⟩ := hcp W hC
       go_step;exact fam_e hK rfl rfl (Below.refl _ _) hC
      ·
       obtain ⟨h25, -⟩ := hh;have g25 : f 25=_:=h25;refine tab_yes g25 fun K Q hK => ?_;simp only [puts, Za, Zb, Zc, Zd, Ze, g25];go_step;exact fam_e hK rfl rfl (Below.refl _ _) hC
      ·
       obtain ⟨h28, h25, -⟩ := hh;have g28 : f 28=_:=h28;have g25 : f 25=_:=h25;refine tab_yes g25 fun K Q hK => ?_;simp only [puts, Za, Zb, Zc, Zd, Ze, g28, g25];go_step;exact fam_e hK rfl rfl (Below.refl _ _) hC
      ·
       obtain ⟨h27, h29, h25, -⟩ := hh;have g27 : f 27=_:=h27;have g29 : f 29=_:=h29;have g25 : f 25=_:=h25;refine tab_yes g25 fun K Q hK => ?_;simp only [puts, Za, Zb, Zc, Zd, Ze, g27, g29, g25];go_step;exact fam_e hK rfl rfl (Below.refl _ _) hC
      ·
       obtain ⟨h30, h25, -⟩ := hh;have g30 : f 30=_:=h30;have g25 : f 25=_:=h25;refine tab_yes g25 fun K Q hK => ?_;simp only [puts, Za, Zb, Zc, Zd, Ze, g30, g25]
       obtain ⟨⟨f1, f2, f3, f4⟩, f5, f6, f7⟩ := hcm W hC
       obtain ⟨f8, f9, f10⟩ := hcp W hC
       go_step;exact fam_e hK rfl rfl (Below.refl _ _) hC
      ·
       obtain ⟨h25, -⟩ := hh;have g25 : f 25=_:=h25;refine tab_yes g25 fun K Q hK => ?_;simp only [puts, Za, Zb, Zc, Zd, Ze, g25]
       obtain ⟨⟨f1, f2, f3, f4⟩, f5, f6, f7⟩ := hcm W hC
       obtain ⟨f8, f9, f10⟩ := hcp W hC
       go_step;exact fam_e hK rfl rfl (Below.refl _ _) hC
      ·
       obtain ⟨h31, h32, h25, _, -⟩ := hh;have g31 : f 31=_:=h31;have g32 : f 32=_:=h32;have g25 : f 25=_:=h25;refine tab_yes g25 fun K Q hK => ?_;simp only [puts, Za, Zb, Zc, Zd, Ze, g31, g32, g25];go_step
       go_at_call 25
       refine (order_any ⟨y1, y2, y3⟩ ⟨x1, x2, x3⟩ W).mono ?_
       rintro e w' ⟨rfl, hb⟩
       exact fam_fin hK rfl rfl hb (hC.trans (hb.mono hC.size))
      ·
       obtain ⟨h33, h25, -⟩ := hh;have g33 : f 33=_:=h33;have g25 : f 25=_:=h25;refine tab_yes g25 fun K Q hK => ?_;simp only [puts, Za, Zb, Zc, Zd, Ze, g33, g25];go_step;exact fam_e hK rfl rfl (Below.refl _ _) hC
      ·
       obtain ⟨h25, h34, h22, -⟩ := hh;have g25 : f 25=_:=h25;have g34 : f 34=_:=h34;have g22 : f 22=_:=h22;refine tab_yes g22 fun K Q hK => ?_;simp only [puts, Za, Zb, Zc, Zd, Ze, g25, g34, g22];go_step;exact fam_e hK rfl rfl (Below.refl _ _) hC
      ·
       obtain ⟨h22, h35, -⟩ := hh;have g22 : f 22=_:=h22;have g35 : f 35=_:=h35;refine tab_plain fun K Q hK => ?_;simp only [puts, Za, Zb, Zc, Zd, Ze, g22, g35];go_step;exact fam_e hK rfl rfl (Below.refl _ _) hC
     case grest =>
      intro f W2 hC hh
      obtain ⟨h0, h1, h2, h3, h4, h5, h6, h7, h8, h9, h10, h11, h12, h13, h14, h15, h16, h17, h18, h19, h20, h21, h22, h23, h24, h25, h26, h27, h28, h29, h30, h31, h32, h33, h34, h35, h36, -⟩ := hh;have g0 : f 0=_:=h0;have g1 : f 1=_:=h1;have g2 : f 2=_:=h2;have g3 : f 3=_:=h3;have g4 : f 4=_:=h4;have g5 : f 5=_:=h5;have g6 : f 6=_:=h6;have g7 : f 7=_:=h7;have g8 : f 8=_:=h8;have g9 : f 9=_:=h9;have g10 : f 10=_:=h10;have g11 : f 11=_:=h11;have g12 : f 12=_:=h12;have g13 : f 13=_:=h13;have g14 : f 14=_:=h14;have g15 : f 15=_:=h15;have g16 : f 16=_:=h16;have g17 : f 17=_:=h17;have g18 : f 18=_:=h18;have g19 : f 19=_:=h19;have g20 : f 20=_:=h20;have g21 : f 21=_:=h21;have g22 : f 22=_:=h22;have g23 : f 23=_:=h23;have g24 : f 24=_:=h24;have g25 : f 25=_:=h25;have g26 : f 26=_:=h26;have g27 : f 27=_:=h27;have g28 : f 28=_:=h28;have g29 : f 29=_:=h29;have g30 : f 30=_:=h30;have g31 : f 31=_:=h31;have g32 : f 32=_:=h32;have g33 : f 33=_:=h33;have g34 : f 34=_:=h34;have g35 : f 35=_:=h35;have g36 : f 36=_:=h36;simp only [puts, Za, Zb, Zc, Zd, Ze, g0, g1, g2, g3, g4, g5, g6, g7, g8, g9, g10, g11, g12, g13, g14, g15, g16, g17, g18, g19, g20, g21, g22, g23, g24, g25, g26, g27, g28, g29, g30, g31, g32, g33, g34, g35, g36]
      clear h0 h1 h2 h3 h4 h5 h6 h7 h8 h9 h10 h11 h12 h13 h14 h15 h16 h17 h18 h19 h20 h21 h22 h23 h24 h25 h26 h27 h28 h29 h30 h31 h32 h33 h34 h35 h36 g0 g1 g2 g3 g4 g5 g6 g7 g8 g9 g10 g11 g12 g13 g14 g15 g16 g17 g18 g19 g20 g21 g22 g23 g24 g25 g26 g27 g28 g29 g30 g31 g32 g33 g34 g35 g36
      go_wp2
      go_roundw
      case rel =>
       refine ⟨k + 1, by omega, by go_num, Lib.hid fun i hi => ?_, HBWN.out.trans (hC.mono HBWN.out.size)⟩
       rcases Nat.lt_or_ge i k with h | h
       ·exact HA.out i h
       ·rw [show i = k by omega]; unfold ArcOk; rw [HX.out]; exact ⟨⟨H6.out, H7.out⟩, H8.out, fun _ => by rw [← HP.out, HY.out]; exact HLT.out⟩
      case measure => simp [intOf]; omega
    ·have q6 : decide (0 ≤ ordA ⟨y1, y2, y3⟩ ⟨x1, x2, x3⟩) = true := decide_eq_true (ordA_ge.2 hL)
     have HLT := Lib.hid hL
     have HQ : Hid (¬ ArcOk n es k) := Lib.hid fun h => HLT.out (by have := h.2.2 hk1; rwa [← HP.out, HY.out, HX.out] at this)
     clear hL
     go_wp2_with (fail)
     refine wp_region_grow mixed (by kernel_rfl) [[], [], [(1, 43)], [(0, 42), (2, 44)], [(3, 45)], [(4, 46), (3, 45)], [(5, 47)], [(5, 47)], [(7, 49), (5, 47)], [(6, 48), (8, 50), (5, 47), (5, 47)], [(9, 51), (5, 47)], [(5, 47), (10, 52)], [(11, 53), (9, 51)], [(12, 54)], [(13, 55), (12, 54)], [(14, 56), (12, 54)], [(12, 54), (15, 57)], [(16, 58), (12, 54)], [(17, 59)], [(18, 60), (17, 59)], [(19, 61), (17, 59)], [(17, 59), (20, 62)], [(21, 63), (17, 59)], [(22, 64)], [(23, 65), (22, 64)], [(24, 66), (22, 64), (22, 64)], [(25, 67)], [(26, 68), (25, 67)], [(25, 67)], [(28, 70), (25, 67)], [(27, 69), (29, 71), (25, 67)], [(30, 72), (25, 67)], [(25, 67)], [(31, 73), (32, 74), (25, 67), (25, 67)], [(33, 75), (25, 67)], [(25, 67), (34, 76), (22, 64)], [(22, 64), (35, 77)]] [(0, 42), (1, 43), (2, 44), (3, 45), (4, 46), (5, 47), (6, 48), (7, 49), (8, 50), (9, 51), (10, 52), (11, 53), (12, 54), (13, 55), (14, 56), (15, 57), (16, 58), (17, 59), (18, 60), (19, 61), (20, 62), (21, 63), (22, 64), (23, 65), (24, 66), (25, 67), (26, 68), (27, 69), (28, 70), (29, 71), (30, 72), (31, 73), (32, 74), (33, 75), (34, 76), (35, 77), (36, 78)] rfl rfl [Ex ?eh0, Ex ?eh1, Ex ?eh2, Ex (.bool true), Ex ?eh4, Ex ?eh5, Ex ?eh6, Ex ?eh7, Ex ?eh8, Ex (.bool true), Ex ?eh10, Ex ?eh11, Ex ?eh12, Ex ?eh13, Ex ?eh14, Ex ?eh15, Ex ?eh16, Ex ?eh17, Ex ?eh18, Ex ?eh19, Ex ?eh20, Ex ?eh21, Ex ?eh22, Ex ?eh23, Ex ?eh24, Ex ?eh25, Ex ?eh26, Ex ?eh27, Ex ?eh28, Ex ?eh29, Ex ?eh30, Ex ?eh31, Ex ?eh32, Ex (.int .i64 (ordA ⟨y1, y2, y3⟩ ⟨x1, x2, x3⟩)), Ex ?eh34, Ex ?eh35, Ex ?eh36] ⟨stays_ex _, stays_ex _, stays_ex _, stays_ex _, stays_ex _, stays_ex _, stays_ex _, stays_ex _, stays_ex _, stays_ex _, stays_ex _, stays_ex _, stays_ex _, stays_ex _, stays_ex _, stays_ex _, stays_ex _, stays_ex _, stays_ex _, stays_ex _, stays_ex _, stays_ex _, stays_ex _, stays_ex _, stays_ex _, stays_ex _, stays_ex _, stays_ex _, stays_ex _, stays_ex _, stays_ex _, stays_ex _, stays_ex _, stays_ex _, stays_ex _, stays_ex _, stays_ex _, trivial⟩ ?hsteps ?hrest
     case hsteps =>
      refine ⟨fun f W hC hh => ?_, fun f W hC hh => ?_, fun f W hC hh => ?_, fun f W hC hh => ?_, fun f W hC hh => ?_, fun f W hC hh => ?_, fun f W hC hh => ?_, fun f W hC hh => ?_, fun f W hC hh => ?_, fun f W hC hh => ?_, fun f W hC hh => ?_, fun f W hC hh => ?_, fun f W hC hh => ?_, fun f W hC hh => ?_, fun f W hC hh => ?_, fun f W hC hh => ?_, fun f W hC hh => ?_, fun f W hC hh => ?_, fun f W hC hh => ?_, fun f W hC hh => ?_, fun f W hC hh => ?_, fun f W hC hh => ?_, fun f W hC hh => ?_, fun f W hC hh => ?_, fun f W hC hh => ?_, fun f W hC hh => ?_, fun f W hC hh => ?_, fun f W hC hh => ?_, fun f W hC hh => ?_, fun f W hC hh => ?_, fun f W hC hh => ?_, fun f W hC hh => ?_, fun f W hC hh => ?_, fun f W hC hh => ?_, fun f W hC hh => ?_, fun f W hC hh => ?_, fun f W hC hh => ?_, trivial⟩
      ·
       refine tab_plain fun K Q hK => ?_;simp only [puts, foldr_nil]
       obtain ⟨⟨f1, f2, f3, f4⟩, f5, f6, f7⟩ := hcm W hC
       obtain ⟨f8, f9, f10⟩ := hcp W hC
       go_step;exact fam_e hK rfl rfl (Below.refl _ _) hC
      ·
       refine tab_plain fun K Q hK => ?_;simp only [puts, foldr_nil];go_step;exact fam_e hK rfl rfl (Below.refl _ _) hC
      ·
       obtain ⟨h1, -⟩ := hh;have g1 : f 1=_:=h1;refine tab_plain fun K Q hK => ?_;simp only [puts, Za, Zb, Zc, Zd, Ze, g1]
       obtain ⟨⟨f1, f2, f3, f4⟩, f5, f6, f7⟩ := hcm W hC
       obtain ⟨f8, f9, f10⟩ := hcp W hC
       go_step;exact fam_e hK rfl rfl (Below.refl _ _) hC
      ·
       obtain ⟨h0, h2, -⟩ := hh;have g0 : f 0=_:=h0;have g2 : f 2=_:=h2;refine tab_plain fun K Q hK => ?_;simp only [puts, Za, Zb, Zc, Zd, Ze, g0, g2];go_step
       go_at_call 32
       refine (hst x1 W).mono ?_
       rintro e w' ⟨rfl, hb⟩
       rw [q1]
       exact fam_fin hK rfl rfl hb (hC.trans (hb.mono hC.size))
      ·
       obtain ⟨h3, -⟩ := hh;have g3 : f 3=_:=h3;refine tab_plain fun K Q hK => ?_;simp only [puts, Za, Zb, Zc, Zd, Ze, g3];go_step;exact fam_e hK rfl rfl (Below.refl _ _) hC
      ·
       obtain ⟨h4, h3, -⟩ := hh;have g4 : f 4=_:=h4;have g3 : f 3=_:=h3;refine tab_plain fun K Q hK => ?_;simp only [puts, Za, Zb, Zc, Zd, Ze, g4, g3];go_step;exact fam_e hK rfl rfl (Below.refl _ _) hC
      ·
       obtain ⟨h5, -⟩ := hh;have g5 : f 5=_:=h5;refine tab_yes g5 fun K Q hK => ?_;simp only [puts, Za, Zb, Zc, Zd, Ze, g5]
       obtain ⟨⟨f1, f2, f3, f4⟩, f5, f6, f7⟩ := hcm W hC
       obtain ⟨f8, f9, f10⟩ := hcp W hC
       go_step;exact fam_e hK rfl rfl (Below.refl _ _) hC
      ·
       obtain ⟨h5, -⟩ := hh;have g5 : f 5=_:=h5;refine tab_yes g5 fun K Q hK => ?_;simp only [puts, Za, Zb, Zc, Zd, Ze, g5];go_step;exact fam_e hK rfl rfl (Below.refl _ _) hC
      ·
       obtain ⟨h7, h5, -⟩ := hh;have g7 : f 7=_:=h7;have g5 : f 5=_:=h5;refine tab_yes g5 fun K Q hK => ?_;simp only [puts, Za, Zb, Zc, Zd, Ze, g7, g5]
       obtain ⟨⟨f1, f2, f3, f4⟩, f5, f6, f7⟩ := hcm W hC
       obtain ⟨f8, f9, f10⟩ := hcp W hC
       go_step;exact fam_e hK rfl rfl (Below.refl _ _) hC
      ·
       obtain ⟨h6, h8, h5, _, -⟩ := hh;have g6 : f 6=_:=h6;have g8 : f 8=_:=h8;have g5 : f 5=_:=h5;refine tab_yes g5 fun K Q hK => ?_;simp only [puts, Za, Zb, Zc, Zd, Ze, g6, g8, g5];go_step
       go_at_call 32
       refine (hst x3 W).mono ?_
       rintro e w' ⟨rfl, hb⟩
       rw [q2]
       exact fam_fin hK rfl rfl hb (hC.trans (hb.mono hC.size))
      ·
       obtain ⟨h9, h5, -⟩ := hh;have g9 : f 9=_:=h9;have g5 : f 5=_:=h5;refine tab_yes g5 fun K Q hK => ?_;simp only [puts, Za, Zb, Zc, Zd, Ze, g9, g5];go_step;exact fam_e hK rfl rfl (Below.refl _ _) hC
      ·
       obtain ⟨h5, h10, -⟩ := hh;have g5 : f 5=_:=h5;have g10 : f 10=_:=h10;refine tab_plain fun K Q hK => ?_;simp only [puts, Za, Zb, Zc, Zd, Ze, g5, g10];go_step;exact fam_e hK rfl rfl (Below.refl _ _) hC
      ·
       obtain ⟨h11, h9, -⟩ := hh;have g11 : f 11=_:=h11;have g9 : f 9=_:=h9;refine tab_plain fun K Q hK => ?_;simp only [puts, Za, Zb, Zc, Zd, Ze, g11, g9];go_step;exact fam_e hK rfl rfl (Below.refl _ _) hC
      ·
       obtain ⟨h12, -⟩ := hh;have g12 : f 12=_:=h12;refine tab_yes g12 fun K Q hK => ?_;simp only [puts, Za, Zb, Zc, Zd, Ze, g12];go_step;exact fam_e hK rfl rfl (Below.refl _ _) hC
      ·
       obtain ⟨h13, h12, -⟩ := hh;have g13 : f 13=_:=h13;have g12 : f 12=_:=h12;refine tab_yes g12 fun K Q hK => ?_;simp only [puts, Za, Zb, Zc, Zd, Ze, g13, g12]
       obtain ⟨⟨f1, f2, f3, f4⟩, f5, f6, f7⟩ := hcm W hC
       obtain ⟨f8, f9, f10⟩ := hcp W hC
       go_step;exact fam_e hK rfl rfl (Below.refl _ _) hC
      ·
       obtain ⟨h14, h12, -⟩ := hh;have g14 : f 14=_:=h14;have g12 : f 12=_:=h12;refine tab_yes g12 fun K Q hK => ?_;simp only [puts, Za, Zb, Zc, Zd, Ze, g14, g12];go_step;exact fam_e hK rfl rfl (Below.refl _ _) hC
      ·
       obtain ⟨h12, h15, -⟩ := hh;have g12 : f 12=_:=h12;have g15 : f 15=_:=h15;refine tab_plain fun K Q hK => ?_;simp only [puts, Za, Zb, Zc, Zd, Ze, g12, g15];go_step;exact fam_e hK rfl rfl (Below.refl _ _) hC
      ·
       obtain ⟨h16, h12, -⟩ := hh;have g16 : f 16=_:=h16;have g12 : f 12=_:=h12;refine tab_plain fun K Q hK => ?_;simp only [puts, Za, Zb, Zc, Zd, Ze, g16, g12];go_step;exact fam_e hK rfl rfl (Below.refl _ _) hC
      ·
       obtain ⟨h17, -⟩ := hh;have g17 : f 17=_:=h17;refine tab_yes g17 fun K Q hK => ?_;simp only [puts, Za, Zb, Zc, Zd, Ze, g17];go_step;exact fam_e hK rfl rfl (Below.refl _ _) hC
      ·
       obtain ⟨h18, h17, -⟩ := hh;have g18 : f 18=_:=h18;have g17 : f 17=_:=h17;refine tab_yes g17 fun K Q hK => ?_;simp only [puts, Za, Zb, Zc, Zd, Ze, g18, g17]
       obtain ⟨⟨f1, f2, f3, f4⟩, f5, f6, f7⟩ := hcm W hC
       obtain ⟨f8, f9, f10⟩ := hcp W hC
       go_step;exact fam_e hK rfl rfl (Below.refl _ _) hC
      ·
       obtain ⟨h19, h17, -⟩ := hh;have g19 : f 19=_:=h19;have g17 : f 17=_:=h17;refine tab_yes g17 fun K Q hK => ?_;simp only [puts, Za, Zb, Zc, Zd, Ze, g19, g17];go_step;exact fam_e hK rfl rfl (Below.refl _ _) hC
      ·
       obtain ⟨h17, h20, -⟩ := hh;have g17 : f 17=_:=h17;have g20 : f 20=_:=h20;refine tab_plain fun K Q hK => ?_;simp only [puts, Za, Zb, Zc, Zd, Ze, g17, g20];go_step;exact fam_e hK rfl rfl (Below.refl _ _) hC
      ·
       obtain ⟨h21, h17, -⟩ := hh;have g21 : f 21=_:=h21;have g17 : f 17=_:=h17;refine tab_plain fun K Q hK => ?_;simp only [puts, Za, Zb, Zc, Zd, Ze, g21, g17];go_step;exact fam_e hK rfl rfl (Below.refl _ _) hC
      ·
       obtain ⟨h22, -⟩ := hh;have g22 : f 22=_:=h22;refine tab_yes g22 fun K Q hK => ?_;simp only [puts, Za, Zb, Zc, Zd, Ze, g22];go_step;exact fam_e hK rfl rfl (Below.refl _ _) hC
      ·
       obtain ⟨h23, h22, -⟩ := hh;have g23 : f 23=_:=h23;have g22 : f 22=_:=h22;refine tab_yes g22 fun K Q hK => ?_;simp only [puts, Za, Zb, Zc, Zd, Ze, g23, g22];go_step;exact fam_e hK rfl rfl (Below.refl _ _) hC
      ·
       obtain ⟨h24, h22, _, -⟩ := hh;have g24 : f 24=_:=h24;have g22 : f 22=_:=h22;refine tab_yes g22 fun K Q hK => ?_;simp only [puts, Za, Zb, Zc, Zd, Ze, g24, g22];go_step;exact fam_e hK rfl rfl (Below.refl _ _) hC
      ·
       obtain ⟨h25, -⟩ := hh;have g25 : f 25=_:=h25;refine tab_yes g25 fun K Q hK => ?_;simp only [puts, Za, Zb, Zc, Zd, Ze, g25];go_step;exact fam_e hK rfl rfl (Below.refl _ _) hC
      ·
       obtain ⟨h26, h25, -⟩ := hh;have g26 : f 26=_:=h26;have g25 : f 25=_:=h25;refine tab_yes g25 fun K Q hK => ?_;simp only [puts, Za, Zb, Zc, Zd, Ze, g26, g25]
       obtain ⟨⟨f1, f2, f3, f4⟩, f5, f6, f7⟩ := hcm W hC
       obtain ⟨f8, f9, f10⟩ := hcp W hC
       go_step;exact fam_e hK rfl rfl (Below.refl _ _) hC
      ·
       obtain ⟨h25, -⟩ := hh;have g25 : f 25=_:=h25;refine tab_yes g25 fun K Q hK => ?_;simp only [puts, Za, Zb, Zc, Zd, Ze, g25];go_step;exact fam_e hK rfl rfl (Below.refl _ _) hC
      ·
       obtain ⟨h28, h25, -⟩ := hh;have g28 : f 28=_:=h28;have g25 : f 25=_:=h25;refine tab_yes g25 fun K Q hK => ?_;simp only [puts, Za, Zb, Zc, Zd, Ze, g28, g25];go_step;exact fam_e hK rfl rfl (Below.refl _ _) hC
      ·
       obtain ⟨h27, h29, h25, -⟩ := hh;have g27 : f 27=_:=h27;have g29 : f 29=_:=h29;have g25 : f 25=_:=h25;refine tab_yes g25 fun K Q hK => ?_;simp only [puts, Za, Zb, Zc, Zd, Ze, g27, g29, g25];go_step;exact fam_e hK rfl rfl (Below.refl _ _) hC
      ·
       obtain ⟨h30, h25, -⟩ := hh;have g30 : f 30=_:=h30;have g25 : f 25=_:=h25;refine tab_yes g25 fun K Q hK => ?_;simp only [puts, Za, Zb, Zc, Zd, Ze, g30, g25]
       obtain ⟨⟨f1, f2, f3, f4⟩, f5, f6, f7⟩ := hcm W hC
       obtain ⟨f8, f9, f10⟩ := hcp W hC
       go_step;exact fam_e hK rfl rfl (Below.refl _ _) hC
      ·
       obtain ⟨h25, -⟩ := hh;have g25 : f 25=_:=h25;refine tab_yes g25 fun K Q hK => ?_;simp only [puts, Za, Zb, Zc, Zd, Ze, g25]
       obtain ⟨⟨f1, f2, f3, f4⟩, f5, f6, f7⟩ := hcm W hC
       obtain ⟨f8, f9, f10⟩ := hcp W hC
       go_step;exact fam_e hK rfl rfl (Below.refl _ _) hC
      ·
       obtain ⟨h31, h32, h25, _, -⟩ := hh;have g31 : f 31=_:=h31;have g32 : f 32=_:=h32;have g25 : f 25=_:=h25;refine tab_yes g25 fun K Q hK => ?_;simp only [puts, Za, Zb, Zc, Zd, Ze, g31, g32, g25];go_step
       go_at_call 25
       refine (order_any ⟨y1, y2, y3⟩ ⟨x1, x2, x3⟩ W).mono ?_
       rintro e w' ⟨rfl, hb⟩
       exact fam_fin hK rfl rfl hb (hC.trans (hb.mono hC.size))
      ·
       obtain ⟨h33, h25, -⟩ := hh;have g33 : f 33=_:=h33;have g25 : f 25=_:=h25;refine tab_yes g25 fun K Q hK => ?_;simp only [puts, Za, Zb, Zc, Zd, Ze, g33, g25];go_step;exact fam_e hK rfl rfl (Below.refl _ _) hC
      ·
       obtain ⟨h25, h34, h22, -⟩ := hh;have g25 : f 25=_:=h25;have g34 : f 34=_:=h34;have g22 : f 22=_:=h22;refine tab_yes g22 fun K Q hK => ?_;simp only [puts, Za, Zb, Zc, Zd, Ze, g25, g34, g22];go_step;exact fam_e hK rfl rfl (Below.refl _ _) hC
      ·
       obtain ⟨h22, h35, -⟩ := hh;have g22 : f 22=_:=h22;have g35 : f 35=_:=h35;refine tab_plain fun K Q hK => ?_;simp only [puts, Za, Zb, Zc, Zd, Ze, g22, g35];go_step;exact fam_e hK rfl rfl (Below.refl _ _) hC
     case hrest =>
      intro f W2 hC hh
      obtain ⟨h0, h1, h2, h3, h4, h5, h6, h7, h8, h9, h10, h11, h12, h13, h14, h15, h16, h17, h18, h19, h20, h21, h22, h23, h24, h25, h26, h27, h28, h29, h30, h31, h32, h33, h34, h35, h36, -⟩ := hh;have g0 : f 0=_:=h0;have g1 : f 1=_:=h1;have g2 : f 2=_:=h2;have g3 : f 3=_:=h3;have g4 : f 4=_:=h4;have g5 : f 5=_:=h5;have g6 : f 6=_:=h6;have g7 : f 7=_:=h7;have g8 : f 8=_:=h8;have g9 : f 9=_:=h9;have g10 : f 10=_:=h10;have g11 : f 11=_:=h11;have g12 : f 12=_:=h12;have g13 : f 13=_:=h13;have g14 : f 14=_:=h14;have g15 : f 15=_:=h15;have g16 : f 16=_:=h16;have g17 : f 17=_:=h17;have g18 : f 18=_:=h18;have g19 : f 19=_:=h19;have g20 : f 20=_:=h20;have g21 : f 21=_:=h21;have g22 : f 22=_:=h22;have g23 : f 23=_:=h23;have g24 : f 24=_:=h24;have g25 : f 25=_:=h25;have g26 : f 26=_:=h26;have g27 : f 27=_:=h27;have g28 : f 28=_:=h28;have g29 : f 29=_:=h29;have g30 : f 30=_:=h30;have g31 : f 31=_:=h31;have g32 : f 32=_:=h32;have g33 : f 33=_:=h33;have g34 : f 34=_:=h34;have g35 : f 35=_:=h35;have g36 : f 36=_:=h36;simp only [puts, Za, Zb, Zc, Zd, Ze, g0, g1, g2, g3, g4, g5, g6, g7, g8, g9, g10, g11, g12, g13, g14, g15, g16, g17, g18, g19, g20, g21, g22, g23, g24, g25, g26, g27, g28, g29, g30, g31, g32, g33, g34, g35, g36]
      clear h0 h1 h2 h3 h4 h5 h6 h7 h8 h9 h10 h11 h12 h13 h14 h15 h16 h17 h18 h19 h20 h21 h22 h23 h24 h25 h26 h27 h28 h29 h30 h31 h32 h33 h34 h35 h36 g0 g1 g2 g3 g4 g5 g6 g7 g8 g9 g10 g11 g12 g13 g14 g15 g16 g17 g18 g19 g20 g21 g22 g23 g24 g25 g26 g27 g28 g29 g30 g31 g32 g33 g34 g35 g36
      go_wp2
      go_ret
      exact ⟨by rw [← HNO.out HQ.out]; rfl, HBN.out.trans (hC.mono HBN.out.size)⟩
  ·have hkl : k = al := by omega
   subst hkl
   have HYES : Hid (true = V) := Lib.hid (HD _ (vD_yes ⟨⟨by simp only; omega, by simp only; omega⟩, H3.out, by simp only; rw [HFL.out]; exact H4.out, by simp only; omega, fun i hi => HA.out i (by simp only at hi; omega)⟩).symm)
   clear HD hst
   go_wp2
   go_ret
   exact ⟨by rw [← HYES.out]; rfl, hbW⟩
end Go.Proofs.YtbjdglopkpigbaaGreatDoor
namespace Go.Proofs.YtbjdglopkpigbaaGreatDoor
open Go.RowKit
attribute [local go_sem] Oper.semAt_some
variable {d : Dfa} {h : DH} {w : World}
theorem valid_yes (hv : ValidD d) (hd : IsDfa w h d) : Calls Tryz.prog 17 #[vDf d h] w fun e w' => e = .returned (.bool true) ∧ Below w.heap.size w w' :=
 (valid_any d h w hd).mono fun e w' ⟨h1, h2⟩ => ⟨by rw [h1, vD_yes hv], h2⟩
theorem valid_no (hv : ¬ ValidD d) (hd : IsDfa w h d) : Calls Tryz.prog 17 #[vDf d h] w fun e w' => e = .returned (.bool false) ∧ Below w.heap.size w w' :=
 (valid_any d h w hd).mono fun e w' ⟨h1, h2⟩ => ⟨by rw [h1, vD_no hv], h2⟩
theorem boxDW (d : Dfa) (h : DH) (w : World) (hd : IsDfa w h d) : ∃ W1, w.alloc (.cells #[.int .i64 d.n, .int .i64 d.s, .slice h.fa h.fl h.fc, .slice h.aa h.al h.ac] 37) = W1 ∧ W1.heap.size = w.heap.size + 1 ∧ Below w.heap.size w W1 ∧
  ∀ W, Below (w.heap.size + 1) W1 W → (W.cell? ⟨w.heap.size, 0, none⟩ = some (.int .i64 d.n) ∧ W.cell? ⟨w.heap.size, 1, none⟩ = some (.int .i64 d.s) ∧ W.cell? ⟨w.heap.size, 2, none⟩ = some (.slice h.fa h.fl h.fc) ∧ W.cell? ⟨w.heap.size, 3, none⟩ = some (.slice h.aa h.al h.ac)) ∧ IsDfa W h d ∧ Below w.heap.size w W := by
 obtain ⟨h1, h2, h3⟩ := boxD d.n d.s h.fa h.fl h.fc h.aa h.al h.ac w
 exact ⟨_, rfl, h2, h1, fun W hb => ⟨h3 W hb, hd.later (h1.trans (hb.mono (by omega))), h1.trans (hb.mono (by omega))⟩⟩
end Go.Proofs.YtbjdglopkpigbaaGreatDoor
