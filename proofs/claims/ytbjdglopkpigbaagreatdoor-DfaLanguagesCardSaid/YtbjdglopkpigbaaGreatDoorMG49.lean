import Derived.BigQuiet
import Derived.Test.YtbjdglopkpigbaaGreatDoorMG6
import Derived.Test.YtbjdglopkpigbaaGreatDoorMG45
/-
  NaVr
-/
set_option linter.unusedSimpArgs false
set_option linter.unusedVariables false
namespace Go.Proofs.YtbjdglopkpigbaaGreatDoor.Na
open List (foldr_cons foldr_nil setIfInBounds_toArray set_cons_succ set_cons_zero)
open Go.RowKit
attribute [local go_sem] Oper.semAt_some
theorem below_drew_n (w : World) (n : Nat) : Below w.heap.size w (w.drewN n) := ⟨rfl, rfl, rfl, Nat.le_refl _, fun _ _ => rfl⟩
set_option maxRecDepth 20000 in
set_option maxHeartbeats 20000000 in
theorem refValid_any (d : Nfa) (h : NH) (w : World) (hd : IsNfa w h d) :
  Calls Tryz.prog 15 #[vNf d h] w fun e w' => e = .returned (.bool (vN d)) ∧ Below w.heap.size w w' := by
 obtain ⟨V, hV⟩ : ∃ V, vN d = V := ⟨_, rfl⟩
 have HV := Lib.hid hV
 rw [hV]
 clear hV
 have HD : ∀ x, x = vN d → x = V := fun x e => e.trans HV.out
 obtain ⟨W1, hW1, hs1, hb1, hO0⟩ := boxRN d h w hd
 have hO := fun W hW => (hO0 W hW).1
 obtain ⟨n, s, fin, es⟩ := d
 obtain ⟨sa, sl, sc, fa, fl, fc, aa, al, ac⟩ := h
 obtain ⟨hst0, hf, he⟩ := hd
 simp only at hst0 hf he HV HD hO hW1
 clear hO0
 have hslen := hst0.length
 have hscap := hst0.cap
 unfold maxLen at hscap
 have HSL := Lib.hid hslen
 clear hslen
 have hlen := he.length
 have hflen := hf.length
 have hacap := he.capLe
 have hfcap := hf.capLe
 unfold maxLen at hacap hfcap
 obtain ⟨d1, d2, d3, d4⟩ := hO W1 (Below.refl _ _)
 have HFL := Lib.hid hflen
 clear hflen
 unfold vNf
 by_cases h1 : n < 0
 ·have t1 : decide (n < 0) = true := decide_eq_true h1
  have HN : Hid (false = V) := Lib.hid (HD _ (vN_no (by rintro ⟨v1, v2, v3, v4, v5⟩; simp only at v1 v2 v3; omega)).symm)
  clear HD
  go_enter Tryz.func15, Tryz.ntmps15
  go_wp2
  go_ret
  exact ⟨by rw [← HN.out]; rfl, hb1⟩
 have t1 : decide (n < 0) = false := decide_eq_false h1
 by_cases h2 : 200 < n
 ·have t2 : decide (200 < n) = true := decide_eq_true h2
  have HN : Hid (false = V) := Lib.hid (HD _ (vN_no (by rintro ⟨v1, v2, v3, v4, v5⟩; simp only at v1 v2 v3; omega)).symm)
  clear HD
  go_enter Tryz.func15, Tryz.ntmps15
  go_wp2
  go_ret
  exact ⟨by rw [← HN.out]; rfl, hb1⟩
 have t2 : decide (200 < n) = false := decide_eq_false h2
 by_cases h4 : (fl : Int) = n
 case neg =>
  have t4 : ((fl : Int) != n) = true := by simpa using h4
  have H4 := Lib.hid h4
  clear h4
  have HN : Hid (false = V) := Lib.hid (HD _ (vN_no (by rintro ⟨v1, v2, v3, v4, v5⟩; simp only at v1 v2 v3; rw [HFL.out] at v2; exact H4.out v2)).symm)
  clear HD
  go_enter Tryz.func15, Tryz.ntmps15
  go_wp2
  go_ret
  exact ⟨by rw [← HN.out]; rfl, hb1⟩
 have t4 : ((fl : Int) != n) = false := by simpa using h4
 have H4 := Lib.hid h4
 clear h4
 by_cases h5 : 2000 < al
 ·have t5 : decide (2000 < (al : Int)) = true := decide_eq_true (by omega)
  have HN : Hid (false = V) := Lib.hid (HD _ (vN_no (by rintro ⟨v1, v2, v3, v4, v5⟩; simp only at v1 v2 v3; omega)).symm)
  clear HD
  go_enter Tryz.func15, Tryz.ntmps15
  go_wp2
  go_ret
  exact ⟨by rw [← HN.out]; rfl, hb1⟩
 have t5 : decide (2000 < (al : Int)) = false := decide_eq_false (by omega)
 go_enter Tryz.func15, Tryz.ntmps15
 go_wp2_with (fail)
 have HO := Lib.hid hO
 have HB1 := Lib.hid hb1
 clear hO t1 t2 t4 t5 hb1 hW1
 go_loopw [3] (fun c W => ∃ k : Nat, k ≤ sl ∧ c = .int .i64 (k : Int) ∧ Hid (∀ i, i < k → StartOk n s i) ∧ Below (w.heap.size + 1) W1 W) (fun c _ => sl - (intOf c).toNat)
 case atStart => exact ⟨0, Nat.zero_le _, rfl, Lib.hid (fun i hi => by omega), Below.refl _ _⟩
 case round =>
  obtain ⟨k, hk, rfl, HA, hb⟩ := hrel
  have hbW : Below w.heap.size w wr := HB1.out.trans (hb.mono (by omega))
  obtain ⟨e1, e2, e3, e4⟩ := HO.out wr hb
  have hsz : w.heap.size + 1 ≤ wr.heap.size := by have := hb.size; omega
  clear d1 d2 d3 d4
  rcases Nat.lt_or_ge k sl with hlt | hge
  ·have t1 : decide (k < sl) = true := decide_eq_true hlt
   obtain ⟨bs, os, rfl, hbl, hc⟩ := hst0.at wr hbW k hlt
   obtain ⟨z, hz⟩ : ∃ z, gi s k = z := ⟨_, rfl⟩
   rw [hz] at hc
   have HZ := Lib.hid hz
   clear hz
   have HNO : Hid (¬ StartOk n s k → false = V) := Lib.hid fun hno => HD _ (vN_no (validN_start (a := ⟨n, s, fin, es⟩) (by simp only; rw [HSL.out]; exact hlt) hno)).symm
   obtain ⟨p, hp⟩ : ∃ p, p = k - 1 := ⟨_, rfl⟩
   have hcp : 0 < k → p < sl ∧ (k : Int) - 1 = (p : Int) ∧ wr.cell? ⟨bs, os + p, none⟩ = some (.int .i64 (gi s p)) := fun h0 => by
    obtain ⟨bs', os', eb, hbl', hcp⟩ := hst0.at wr hbW p (by omega)
    injection eb with eb
    injection eb with eb1 eb2
    subst eb1 eb2
    exact ⟨by omega, by omega, hcp⟩
   obtain ⟨y, hy⟩ : ∃ y, gi s p = y := ⟨_, rfl⟩
   rw [hy] at hcp
   have HY : Hid (gi s (k - 1) = y) := Lib.hid (by rw [← hp]; exact hy)
   have HCP := Lib.hid hcp
   have HBW := Lib.hid hbW
   have HB := Lib.hid hb
   clear hy hp hcp hbW hb hst0 hf he HD
   go_upto_region 6 with (fail)
   by_cases h6 : z < 0
   ·have q1 : decide (z < 0) = true := decide_eq_true h6
    have HQ : Hid (¬ StartOk n s k) := Lib.hid fun h => by have := h.1.1; rw [HZ.out] at this; omega
    clear h6
    go_quiet (fail)
    go_wp2_with (fail)
    go_ret
    exact ⟨by rw [← HNO.out HQ.out]; rfl, HBW.out.trans ((below_drew_n wr nq).mono HBW.out.size)⟩
   have q1 : decide (z < 0) = false := decide_eq_false h6
   by_cases h7 : n ≤ z
   ·have q2 : decide (n ≤ z) = true := decide_eq_true h7
    have HQ : Hid (¬ StartOk n s k) := Lib.hid fun h => by have := h.1.2; rw [HZ.out] at this; omega
    clear h6 h7
    go_quiet (fail)
    go_wp2_with (fail)
    go_ret
    exact ⟨by rw [← HNO.out HQ.out]; rfl, HBW.out.trans ((below_drew_n wr nq).mono HBW.out.size)⟩
   have q2 : decide (n ≤ z) = false := decide_eq_false h7
   have H6 : Hid (0 ≤ z ∧ z < n) := Lib.hid (by omega)
   clear h6 h7
   rcases Nat.eq_zero_or_pos k with h0 | h0
   ·have q5 : decide (0 < k) = false := decide_eq_false (by omega)
    have HS : Hid (∀ i, i < k + 1 → StartOk n s i) := Lib.hid fun i hi => by
     rcases Nat.lt_or_ge i k with h1 | h1
     ·exact HA.out i h1
     ·rw [show i = k by omega]; exact ⟨by rw [HZ.out]; exact H6.out, fun h2 => by omega⟩
    clear h0
    go_quiet (fail)
    go_wp2_with (fail)
    go_roundw
    case rel => exact ⟨k + 1, hlt, by go_num, HS, HB.out.trans ((below_drew_n wr nq).mono hsz)⟩
    case measure => simp [intOf]; omega
   ·have q5 : decide (0 < k) = true := decide_eq_true h0
    obtain ⟨hps, hpk, hcp⟩ := HCP.out h0
    by_cases hL : y < z
    ·have q6 : decide (z ≤ y) = false := decide_eq_false (by omega)
     have HS : Hid (∀ i, i < k + 1 → StartOk n s i) := Lib.hid fun i hi => by
      rcases Nat.lt_or_ge i k with h1 | h1
      ·exact HA.out i h1
      ·rw [show i = k by omega]; exact ⟨by rw [HZ.out]; exact H6.out, fun h2 => by rw [HY.out, HZ.out]; exact hL⟩
     clear hL
     go_quiet (fail)
     go_wp2_with (fail)
     go_roundw
     case rel => exact ⟨k + 1, hlt, by go_num, HS, HB.out.trans ((below_drew_n wr nq).mono hsz)⟩
     case measure => simp [intOf]; omega
    ·have q6 : decide (z ≤ y) = true := decide_eq_true (by omega)
     have HQ : Hid (¬ StartOk n s k) := Lib.hid fun h => hL (by have := h.2 h0; rw [HY.out, HZ.out] at this; exact this)
     clear hL
     go_quiet (fail)
     go_wp2_with (fail)
     go_ret
     exact ⟨by rw [← HNO.out HQ.out]; rfl, HBW.out.trans ((below_drew_n wr nq).mono HBW.out.size)⟩
  ·have hkl : sl = k := by omega
   subst hkl
   have t1 : decide (sl < sl) = false := decide_eq_false (by omega)
   have HST : Hid (∀ i, i < s.length → StartOk n s i) := Lib.hid fun i hi => HA.out i (by rw [HSL.out] at hi; exact hi)
   obtain ⟨w2, hw2⟩ : ∃ w2 : World, w2 = wr := ⟨_, rfl⟩
   subst hw2
   have HB2 := Lib.hid hb
   have hsz2 : w.heap.size + 1 ≤ w2.heap.size := by have := hb.size; omega
   clear hk hge hb hst0 HA hbW HSL hscap hsz
   go_wp2_with (fail)
   clear e1 e2 e3 e4
   go_loopw [4] (fun c W => ∃ k : Nat, k ≤ al ∧ c = .int .i64 (k : Int) ∧ Hid (∀ i, i < k → ArcOkN n es i) ∧ Below w2.heap.size w2 W) (fun c _ => al - (intOf c).toNat)
   case atStart => exact ⟨0, Nat.zero_le _, rfl, Lib.hid (fun i hi => by omega), Below.refl _ _⟩
   case round =>
    obtain ⟨k, hk, rfl, HA, hb⟩ := hrel
    have hbW : Below w.heap.size w wr := HB1.out.trans ((HB2.out.trans (hb.mono hsz2)).mono (by omega))
    have hszr : w.heap.size + 1 ≤ wr.heap.size := Nat.le_trans hsz2 hb.size
    obtain ⟨e1, e2, e3, e4⟩ := HO.out wr (HB2.out.trans (hb.mono hsz2))
    rcases Nat.lt_or_ge k al with hlt | hge
    ·obtain ⟨b, off, rfl, hcell⟩ := he.fix (by omega)
     obtain ⟨x1, x2, x3, hx⟩ : ∃ x1 x2 x3, g3 es k = ⟨x1, x2, x3⟩ := ⟨_, _, _, rfl⟩
     obtain ⟨cx1, cx2, cx3⟩ := hcell wr hbW k hlt
     rw [hx] at cx1 cx2 cx3
     have HX := Lib.hid hx
     obtain ⟨Wn, hWn⟩ : ∃ Wn, wr.alloc (.cells #[.int .i64 x1, .int .i64 x2, .int .i64 x3] 50) = Wn := ⟨_, rfl⟩
     have hbn : Below wr.heap.size wr Wn := by rw [← hWn]; exact (Below.refl _ _).alloc (Nat.le_refl _) _
     have hcm : ∀ W, Below Wn.heap.size Wn W → (W.cell? ⟨w.heap.size, 0, none⟩ = some (.int .i64 n) ∧ W.cell? ⟨w.heap.size, 1, none⟩ = some (.slice sa sl sc) ∧ W.cell? ⟨w.heap.size, 2, none⟩ = some (.slice fa fl fc) ∧ W.cell? ⟨w.heap.size, 3, none⟩ = some (.slice (some ⟨b, off, none⟩) al ac)) ∧ W.cell? ⟨wr.heap.size, 0, none⟩ = some (.int .i64 x1) ∧ W.cell? ⟨wr.heap.size, 1, none⟩ = some (.int .i64 x2) ∧ W.cell? ⟨wr.heap.size, 2, none⟩ = some (.int .i64 x3) := fun W h => by
      have h2 := (boxRA ⟨x1, x2, x3⟩ wr).2.2 W (by simp only; rw [hWn]; exact h.mono (by rw [← hWn]; simp))
      exact ⟨HO.out W ((HB2.out.trans (hb.mono hsz2)).trans ((hbn.mono hszr).trans (h.mono (Nat.le_trans hszr hbn.size)))), h2⟩
     have hbWn : Below w2.heap.size w2 Wn := hb.trans (hbn.mono hb.size)
     have HBN := Lib.hid (show Below w.heap.size w Wn from hbW.trans (hbn.mono hbW.size))
     have HBWN := Lib.hid hbWn
     have HNO : Hid (¬ ArcOkN n es k → false = V) := Lib.hid fun hno => HD _ (vN_no (validN_arc (a := ⟨n, s, fin, es⟩) (by simp only; omega) hno)).symm
     obtain ⟨p, hp⟩ : ∃ p, p = k - 1 := ⟨_, rfl⟩
     obtain ⟨y1, y2, y3, hy⟩ : ∃ y1 y2 y3, g3 es p = ⟨y1, y2, y3⟩ := ⟨_, _, _, rfl⟩
     have hcp : 0 < k → (k : Int) - 1 = (p : Int) ∧ p < al ∧ ∀ W, Below Wn.heap.size Wn W → W.cell? ⟨b, off + p * 3, none⟩ = some (.int .i64 y1) ∧ W.cell? ⟨b, off + p * 3 + 1, none⟩ = some (.int .i64 y2) ∧ W.cell? ⟨b, off + p * 3 + 2, none⟩ = some (.int .i64 y3) := fun h0 => ⟨by omega, by omega, fun W h => by
      have := hcell W (HBN.out.trans (h.mono HBN.out.size)) p (by omega)
      rwa [hy] at this⟩
     have HYP : Hid (g3 es (k - 1) = ⟨y1, y2, y3⟩) := Lib.hid (by rw [← hp]; exact hy)
     have HCP := Lib.hid hcp
     obtain ⟨⟨f1, f2, f3, f4⟩, f5, f6, f7⟩ := hcm Wn (Below.refl _ _)
     have HCM := Lib.hid hcm
     have HWN := Lib.hid hWn
     clear hx hcell he hf hbn hb hbW hbWn HD hcm hcp hy hp hWn
     go_upto_region 12 with (fail)
     rw [HWN.out]
     clear e1 e2 e3 e4 cx1 cx2 cx3
     by_cases h21 : x1 < 0
     ·have q21 : decide (x1 < 0) = true := decide_eq_true h21
      have HQ : Hid (¬ ArcOkN n es k) := Lib.hid fun h => by have := h.1.1; rw [HX.out] at this; simp only at this; omega
      clear h21
      go_quiet (fail)
      go_wp2_with (fail)
      go_ret
      exact ⟨by rw [← HNO.out HQ.out]; rfl, HBN.out.trans ((below_drew_n Wn nq).mono HBN.out.size)⟩
     have q21 : decide (x1 < 0) = false := decide_eq_false h21
     by_cases h22 : n ≤ x1
     ·have q22 : decide (n ≤ x1) = true := decide_eq_true h22
      have HQ : Hid (¬ ArcOkN n es k) := Lib.hid fun h => by have := h.1.1; rw [HX.out] at this; simp only at this; omega
      clear h21 h22
      go_quiet (fail)
      go_wp2_with (fail)
      go_ret
      exact ⟨by rw [← HNO.out HQ.out]; rfl, HBN.out.trans ((below_drew_n Wn nq).mono HBN.out.size)⟩
     have q22 : decide (n ≤ x1) = false := decide_eq_false h22
     by_cases h23 : x3 < 0
     ·have q23 : decide (x3 < 0) = true := decide_eq_true h23
      have HQ : Hid (¬ ArcOkN n es k) := Lib.hid fun h => by have := h.1.2; rw [HX.out] at this; simp only at this; omega
      clear h21 h22 h23
      go_quiet (fail)
      go_wp2_with (fail)
      go_ret
      exact ⟨by rw [← HNO.out HQ.out]; rfl, HBN.out.trans ((below_drew_n Wn nq).mono HBN.out.size)⟩
     have q23 : decide (x3 < 0) = false := decide_eq_false h23
     by_cases h24 : n ≤ x3
     ·have q24 : decide (n ≤ x3) = true := decide_eq_true h24
      have HQ : Hid (¬ ArcOkN n es k) := Lib.hid fun h => by have := h.1.2; rw [HX.out] at this; simp only at this; omega
      clear h21 h22 h23 h24
      go_quiet (fail)
      go_wp2_with (fail)
      go_ret
      exact ⟨by rw [← HNO.out HQ.out]; rfl, HBN.out.trans ((below_drew_n Wn nq).mono HBN.out.size)⟩
     have q24 : decide (n ≤ x3) = false := decide_eq_false h24
     by_cases h25 : x2 < 0
     ·have q25 : decide (x2 < 0) = true := decide_eq_true h25
      have HQ : Hid (¬ ArcOkN n es k) := Lib.hid fun h => by have := h.2.1; rw [HX.out] at this; simp only at this; omega
      clear h21 h22 h23 h24 h25
      go_quiet (fail)
      go_wp2_with (fail)
      go_ret
      exact ⟨by rw [← HNO.out HQ.out]; rfl, HBN.out.trans ((below_drew_n Wn nq).mono HBN.out.size)⟩
     have q25 : decide (x2 < 0) = false := decide_eq_false h25
     by_cases h26 : 10000 < x2
     ·have q26 : decide (10000 < x2) = true := decide_eq_true h26
      have HQ : Hid (¬ ArcOkN n es k) := Lib.hid fun h => by have := h.2.1; rw [HX.out] at this; simp only at this; omega
      clear h21 h22 h23 h24 h25 h26
      go_quiet (fail)
      go_wp2_with (fail)
      go_ret
      exact ⟨by rw [← HNO.out HQ.out]; rfl, HBN.out.trans ((below_drew_n Wn nq).mono HBN.out.size)⟩
     have q26 : decide (10000 < x2) = false := decide_eq_false h26
     have H6 : Hid (0 ≤ x1 ∧ x1 < n) := Lib.hid (by omega)
     have H7 : Hid (0 ≤ x3 ∧ x3 < n) := Lib.hid (by omega)
     have H8 : Hid (0 ≤ x2 ∧ x2 ≤ 10000) := Lib.hid (by omega)
     clear h21 h22 h23 h24 h25 h26
     rcases Nat.eq_zero_or_pos k with h0 | h0
     ·have q5 : decide (0 < k) = false := decide_eq_false (by omega)
      have HS : Hid (∀ i, i < k + 1 → ArcOkN n es i) := Lib.hid fun i hi => by
       rcases Nat.lt_or_ge i k with h1 | h1
       ·exact HA.out i h1
       ·rw [show i = k by omega]; unfold ArcOkN; rw [HX.out]; exact ⟨⟨H6.out, H7.out⟩, H8.out, fun h2 => by omega⟩
      clear h0
      go_quiet (fail)
      go_wp2_with (fail)
      go_roundw
      case rel => exact ⟨k + 1, hlt, by go_num, HS, HBWN.out.trans ((below_drew_n Wn nq).mono HBWN.out.size)⟩
      case measure => simp [intOf]; omega
     ·have q5 : decide (0 < k) = true := decide_eq_true h0
      obtain ⟨hpk, hpl, hcp⟩ := HCP.out h0
      obtain ⟨B, hB⟩ : ∃ B, decide (LtN ⟨y1, y2, y3⟩ ⟨x1, x2, x3⟩) = B := ⟨_, rfl⟩
      have HBB := Lib.hid hB
      clear hB f1 f2 f3 f4 f5 f6 f7
      refine wp_region_grow mixed (by kernel_rfl) [[], [(0, 81)], [(1, 82)], [(2, 83)], [(3, 84)], [(4, 85), (3, 84)], [(3, 84)], [(6, 87), (3, 84)], [(5, 86), (7, 88), (3, 84)], [(3, 84), (8, 89)], [(9, 90), (3, 84)], [(10, 91)], [(11, 92), (10, 91)], [(12, 93), (10, 91)], [(10, 91), (13, 94)], [(14, 95), (10, 91)], [(15, 96)], [(16, 97), (15, 96)], [(15, 96)], [(18, 99), (15, 96)], [(17, 98), (19, 100), (15, 96)], [(15, 96), (20, 101)], [(21, 102), (15, 96)], [(22, 103)], [(23, 104), (22, 103)], [(24, 105), (22, 103)], [(22, 103), (25, 106)], [(26, 107), (22, 103)], [(27, 108)], [(28, 109), (27, 108)], [(29, 110), (27, 108)], [(27, 108), (30, 111)], [(31, 112), (27, 108)], [(32, 113)], [(33, 114), (32, 113)], [(34, 115), (32, 113), (32, 113)], [(35, 116)], [(36, 117), (35, 116)], [(35, 116)], [(38, 119), (35, 116)], [(37, 118), (39, 120), (35, 116)], [(40, 121), (35, 116)], [(35, 116)], [(41, 122), (42, 123), (35, 116), (35, 116)], [(43, 124), (35, 116)], [(35, 116), (44, 125), (32, 113)], [(32, 113), (45, 126)]] [(0, 81), (1, 82), (2, 83), (3, 84), (4, 85), (5, 86), (6, 87), (7, 88), (8, 89), (9, 90), (10, 91), (11, 92), (12, 93), (13, 94), (14, 95), (15, 96), (16, 97), (17, 98), (18, 99), (19, 100), (20, 101), (21, 102), (22, 103), (23, 104), (24, 105), (25, 106), (26, 107), (27, 108), (28, 109), (29, 110), (30, 111), (31, 112), (32, 113), (33, 114), (34, 115), (35, 116), (36, 117), (37, 118), (38, 119), (39, 120), (40, 121), (41, 122), (42, 123), (43, 124), (44, 125), (45, 126), (46, 127)] rfl rfl [Ex ?ea0, Ex ?ea1, Ex ?ea2, Ex ?ea3, Ex ?ea4, Ex ?ea5, Ex ?ea6, Ex ?ea7, Ex ?ea8, Ex ?ea9, Ex ?ea10, Ex ?ea11, Ex ?ea12, Ex ?ea13, Ex ?ea14, Ex ?ea15, Ex ?ea16, Ex ?ea17, Ex ?ea18, Ex ?ea19, Ex ?ea20, Ex ?ea21, Ex ?ea22, Ex ?ea23, Ex ?ea24, Ex ?ea25, Ex ?ea26, Ex ?ea27, Ex ?ea28, Ex ?ea29, Ex ?ea30, Ex ?ea31, Ex ?ea32, Ex ?ea33, Ex ?ea34, Ex ?ea35, Ex ?ea36, Ex ?ea37, Ex ?ea38, Ex ?ea39, Ex ?ea40, Ex ?ea41, Ex ?ea42, Ex (.bool B), Ex ?ea44, Ex ?ea45, Ex ?ea46] ⟨stays_ex _, stays_ex _, stays_ex _, stays_ex _, stays_ex _, stays_ex _, stays_ex _, stays_ex _, stays_ex _, stays_ex _, stays_ex _, stays_ex _, stays_ex _, stays_ex _, stays_ex _, stays_ex _, stays_ex _, stays_ex _, stays_ex _, stays_ex _, stays_ex _, stays_ex _, stays_ex _, stays_ex _, stays_ex _, stays_ex _, stays_ex _, stays_ex _, stays_ex _, stays_ex _, stays_ex _, stays_ex _, stays_ex _, stays_ex _, stays_ex _, stays_ex _, stays_ex _, stays_ex _, stays_ex _, stays_ex _, stays_ex _, stays_ex _, stays_ex _, stays_ex _, stays_ex _, stays_ex _, stays_ex _, trivial⟩ ?asteps ?arest
      case asteps =>
       refine ⟨fun f W hC hh => ?_, fun f W hC hh => ?_, fun f W hC hh => ?_, fun f W hC hh => ?_, fun f W hC hh => ?_, fun f W hC hh => ?_, fun f W hC hh => ?_, fun f W hC hh => ?_, fun f W hC hh => ?_, fun f W hC hh => ?_, fun f W hC hh => ?_, fun f W hC hh => ?_, fun f W hC hh => ?_, fun f W hC hh => ?_, fun f W hC hh => ?_, fun f W hC hh => ?_, fun f W hC hh => ?_, fun f W hC hh => ?_, fun f W hC hh => ?_, fun f W hC hh => ?_, fun f W hC hh => ?_, fun f W hC hh => ?_, fun f W hC hh => ?_, fun f W hC hh => ?_, fun f W hC hh => ?_, fun f W hC hh => ?_, fun f W hC hh => ?_, fun f W hC hh => ?_, fun f W hC hh => ?_, fun f W hC hh => ?_, fun f W hC hh => ?_, fun f W hC hh => ?_, fun f W hC hh => ?_, fun f W hC hh => ?_, fun f W hC hh => ?_, fun f W hC hh => ?_, fun f W hC hh => ?_, fun f W hC hh => ?_, fun f W hC hh => ?_, fun f W hC hh => ?_, fun f W hC hh => ?_, fun f W hC hh => ?_, fun f W hC hh => ?_, fun f W hC hh => ?_, fun f W hC hh => ?_, fun f W hC hh => ?_, fun f W hC hh => ?_, trivial⟩
       ·
        refine tab_plain fun K Q hK => ?_;simp only [puts, foldr_nil];go_step;exact fam_e hK rfl rfl (Below.refl _ _) hC
       ·
        obtain ⟨h0, -⟩ := hh;have g0 : f 0=_:=h0;refine tab_plain fun K Q hK => ?_;simp only [puts, Za, Zb, Zc, Zd, Ze, g0]
        obtain ⟨⟨f1, f2, f3, f4⟩, f5, f6, f7⟩ := HCM.out W hC
        obtain ⟨f8, f9, f10⟩ := hcp W hC
        go_step;exact fam_e hK rfl rfl (Below.refl _ _) hC
       ·
        obtain ⟨h1, -⟩ := hh;have g1 : f 1=_:=h1;refine tab_plain fun K Q hK => ?_;simp only [puts, Za, Zb, Zc, Zd, Ze, g1];go_step;exact fam_e hK rfl rfl (Below.refl _ _) hC
       ·
        obtain ⟨h2, -⟩ := hh;have g2 : f 2=_:=h2;refine tab_plain fun K Q hK => ?_;simp only [puts, Za, Zb, Zc, Zd, Ze, g2];go_step;exact fam_e hK rfl rfl (Below.refl _ _) hC
       ·
        obtain ⟨h3, -⟩ := hh;have g3 : f 3=_:=h3;refine tab_yes g3 fun K Q hK => ?_;simp only [puts, Za, Zb, Zc, Zd, Ze, g3];go_step;exact fam_e hK rfl rfl (Below.refl _ _) hC
       ·
        obtain ⟨h4, h3, -⟩ := hh;have g4 : f 4=_:=h4;have g3 : f 3=_:=h3;refine tab_yes g3 fun K Q hK => ?_;simp only [puts, Za, Zb, Zc, Zd, Ze, g4, g3]
        obtain ⟨⟨f1, f2, f3, f4⟩, f5, f6, f7⟩ := HCM.out W hC
        obtain ⟨f8, f9, f10⟩ := hcp W hC
        go_step;exact fam_e hK rfl rfl (Below.refl _ _) hC
       ·
        obtain ⟨h3, -⟩ := hh;have g3 : f 3=_:=h3;refine tab_yes g3 fun K Q hK => ?_;simp only [puts, Za, Zb, Zc, Zd, Ze, g3];go_step;exact fam_e hK rfl rfl (Below.refl _ _) hC
       ·
        obtain ⟨h6, h3, -⟩ := hh;have g6 : f 6=_:=h6;have g3 : f 3=_:=h3;refine tab_yes g3 fun K Q hK => ?_;simp only [puts, Za, Zb, Zc, Zd, Ze, g6, g3]
        obtain ⟨⟨f1, f2, f3, f4⟩, f5, f6, f7⟩ := HCM.out W hC
        obtain ⟨f8, f9, f10⟩ := hcp W hC
        go_step;exact fam_e hK rfl rfl (Below.refl _ _) hC
       ·
        obtain ⟨h5, h7, h3, -⟩ := hh;have g5 : f 5=_:=h5;have g7 : f 7=_:=h7;have g3 : f 3=_:=h3;refine tab_yes g3 fun K Q hK => ?_;simp only [puts, Za, Zb, Zc, Zd, Ze, g5, g7, g3];go_step;exact fam_e hK rfl rfl (Below.refl _ _) hC
       ·
        obtain ⟨h3, h8, -⟩ := hh;have g3 : f 3=_:=h3;have g8 : f 8=_:=h8;refine tab_plain fun K Q hK => ?_;simp only [puts, Za, Zb, Zc, Zd, Ze, g3, g8];go_step;exact fam_e hK rfl rfl (Below.refl _ _) hC
       ·
        obtain ⟨h9, h3, -⟩ := hh;have g9 : f 9=_:=h9;have g3 : f 3=_:=h3;refine tab_plain fun K Q hK => ?_;simp only [puts, Za, Zb, Zc, Zd, Ze, g9, g3];go_step;exact fam_e hK rfl rfl (Below.refl _ _) hC
       ·
        obtain ⟨h10, -⟩ := hh;have g10 : f 10=_:=h10;refine tab_yes g10 fun K Q hK => ?_;simp only [puts, Za, Zb, Zc, Zd, Ze, g10];go_step;exact fam_e hK rfl rfl (Below.refl _ _) hC
       ·
        obtain ⟨h11, h10, -⟩ := hh;have g11 : f 11=_:=h11;have g10 : f 10=_:=h10;refine tab_yes g10 fun K Q hK => ?_;simp only [puts, Za, Zb, Zc, Zd, Ze, g11, g10]
        obtain ⟨⟨f1, f2, f3, f4⟩, f5, f6, f7⟩ := HCM.out W hC
        obtain ⟨f8, f9, f10⟩ := hcp W hC
        go_step;exact fam_e hK rfl rfl (Below.refl _ _) hC
       ·
        obtain ⟨h12, h10, -⟩ := hh;have g12 : f 12=_:=h12;have g10 : f 10=_:=h10;refine tab_yes g10 fun K Q hK => ?_;simp only [puts, Za, Zb, Zc, Zd, Ze, g12, g10];go_step;exact fam_e hK rfl rfl (Below.refl _ _) hC
       ·
        obtain ⟨h10, h13, -⟩ := hh;have g10 : f 10=_:=h10;have g13 : f 13=_:=h13;refine tab_plain fun K Q hK => ?_;simp only [puts, Za, Zb, Zc, Zd, Ze, g10, g13];go_step;exact fam_e hK rfl rfl (Below.refl _ _) hC
       ·
        obtain ⟨h14, h10, -⟩ := hh;have g14 : f 14=_:=h14;have g10 : f 10=_:=h10;refine tab_plain fun K Q hK => ?_;simp only [puts, Za, Zb, Zc, Zd, Ze, g14, g10];go_step;exact fam_e hK rfl rfl (Below.refl _ _) hC
       ·
        obtain ⟨h15, -⟩ := hh;have g15 : f 15=_:=h15;refine tab_yes g15 fun K Q hK => ?_;simp only [puts, Za, Zb, Zc, Zd, Ze, g15];go_step;exact fam_e hK rfl rfl (Below.refl _ _) hC
       ·
        obtain ⟨h16, h15, -⟩ := hh;have g16 : f 16=_:=h16;have g15 : f 15=_:=h15;refine tab_yes g15 fun K Q hK => ?_;simp only [puts, Za, Zb, Zc, Zd, Ze, g16, g15]
        obtain ⟨⟨f1, f2, f3, f4⟩, f5, f6, f7⟩ := HCM.out W hC
        obtain ⟨f8, f9, f10⟩ := hcp W hC
        go_step;exact fam_e hK rfl rfl (Below.refl _ _) hC
       ·
        obtain ⟨h15, -⟩ := hh;have g15 : f 15=_:=h15;refine tab_yes g15 fun K Q hK => ?_;simp only [puts, Za, Zb, Zc, Zd, Ze, g15];go_step;exact fam_e hK rfl rfl (Below.refl _ _) hC
       ·
        obtain ⟨h18, h15, -⟩ := hh;have g18 : f 18=_:=h18;have g15 : f 15=_:=h15;refine tab_yes g15 fun K Q hK => ?_;simp only [puts, Za, Zb, Zc, Zd, Ze, g18, g15]
        obtain ⟨⟨f1, f2, f3, f4⟩, f5, f6, f7⟩ := HCM.out W hC
        obtain ⟨f8, f9, f10⟩ := hcp W hC
        go_step;exact fam_e hK rfl rfl (Below.refl _ _) hC
       ·
        obtain ⟨h17, h19, h15, -⟩ := hh;have g17 : f 17=_:=h17;have g19 : f 19=_:=h19;have g15 : f 15=_:=h15;refine tab_yes g15 fun K Q hK => ?_;simp only [puts, Za, Zb, Zc, Zd, Ze, g17, g19, g15];go_step;exact fam_e hK rfl rfl (Below.refl _ _) hC
       ·
        obtain ⟨h15, h20, -⟩ := hh;have g15 : f 15=_:=h15;have g20 : f 20=_:=h20;refine tab_plain fun K Q hK => ?_;simp only [puts, Za, Zb, Zc, Zd, Ze, g15, g20];go_step;exact fam_e hK rfl rfl (Below.refl _ _) hC
       ·
        obtain ⟨h21, h15, -⟩ := hh;have g21 : f 21=_:=h21;have g15 : f 15=_:=h15;refine tab_plain fun K Q hK => ?_;simp only [puts, Za, Zb, Zc, Zd, Ze, g21, g15];go_step;exact fam_e hK rfl rfl (Below.refl _ _) hC
       ·
        obtain ⟨h22, -⟩ := hh;have g22 : f 22=_:=h22;refine tab_yes g22 fun K Q hK => ?_;simp only [puts, Za, Zb, Zc, Zd, Ze, g22];go_step;exact fam_e hK rfl rfl (Below.refl _ _) hC
       ·
        obtain ⟨h23, h22, -⟩ := hh;have g23 : f 23=_:=h23;have g22 : f 22=_:=h22;refine tab_yes g22 fun K Q hK => ?_;simp only [puts, Za, Zb, Zc, Zd, Ze, g23, g22]
        obtain ⟨⟨f1, f2, f3, f4⟩, f5, f6, f7⟩ := HCM.out W hC
        obtain ⟨f8, f9, f10⟩ := hcp W hC
        go_step;exact fam_e hK rfl rfl (Below.refl _ _) hC
       ·
        obtain ⟨h24, h22, -⟩ := hh;have g24 : f 24=_:=h24;have g22 : f 22=_:=h22;refine tab_yes g22 fun K Q hK => ?_;simp only [puts, Za, Zb, Zc, Zd, Ze, g24, g22];go_step;exact fam_e hK rfl rfl (Below.refl _ _) hC
       ·
        obtain ⟨h22, h25, -⟩ := hh;have g22 : f 22=_:=h22;have g25 : f 25=_:=h25;refine tab_plain fun K Q hK => ?_;simp only [puts, Za, Zb, Zc, Zd, Ze, g22, g25];go_step;exact fam_e hK rfl rfl (Below.refl _ _) hC
       ·
        obtain ⟨h26, h22, -⟩ := hh;have g26 : f 26=_:=h26;have g22 : f 22=_:=h22;refine tab_plain fun K Q hK => ?_;simp only [puts, Za, Zb, Zc, Zd, Ze, g26, g22];go_step;exact fam_e hK rfl rfl (Below.refl _ _) hC
       ·
        obtain ⟨h27, -⟩ := hh;have g27 : f 27=_:=h27;refine tab_yes g27 fun K Q hK => ?_;simp only [puts, Za, Zb, Zc, Zd, Ze, g27];go_step;exact fam_e hK rfl rfl (Below.refl _ _) hC
       ·
        obtain ⟨h28, h27, -⟩ := hh;have g28 : f 28=_:=h28;have g27 : f 27=_:=h27;refine tab_yes g27 fun K Q hK => ?_;simp only [puts, Za, Zb, Zc, Zd, Ze, g28, g27]
        obtain ⟨⟨f1, f2, f3, f4⟩, f5, f6, f7⟩ := HCM.out W hC
        obtain ⟨f8, f9, f10⟩ := hcp W hC
        go_step;exact fam_e hK rfl rfl (Below.refl _ _) hC
       ·
        obtain ⟨h29, h27, -⟩ := hh;have g29 : f 29=_:=h29;have g27 : f 27=_:=h27;refine tab_yes g27 fun K Q hK => ?_;simp only [puts, Za, Zb, Zc, Zd, Ze, g29, g27];go_step;exact fam_e hK rfl rfl (Below.refl _ _) hC
       ·
        obtain ⟨h27, h30, -⟩ := hh;have g27 : f 27=_:=h27;have g30 : f 30=_:=h30;refine tab_plain fun K Q hK => ?_;simp only [puts, Za, Zb, Zc, Zd, Ze, g27, g30];go_step;exact fam_e hK rfl rfl (Below.refl _ _) hC
       ·
        obtain ⟨h31, h27, -⟩ := hh;have g31 : f 31=_:=h31;have g27 : f 27=_:=h27;refine tab_plain fun K Q hK => ?_;simp only [puts, Za, Zb, Zc, Zd, Ze, g31, g27];go_step;exact fam_e hK rfl rfl (Below.refl _ _) hC
       ·
        obtain ⟨h32, -⟩ := hh;have g32 : f 32=_:=h32;refine tab_yes g32 fun K Q hK => ?_;simp only [puts, Za, Zb, Zc, Zd, Ze, g32];go_step;exact fam_e hK rfl rfl (Below.refl _ _) hC
       ·
        obtain ⟨h33, h32, -⟩ := hh;have g33 : f 33=_:=h33;have g32 : f 32=_:=h32;refine tab_yes g32 fun K Q hK => ?_;simp only [puts, Za, Zb, Zc, Zd, Ze, g33, g32];go_step;exact fam_e hK rfl rfl (Below.refl _ _) hC
       ·
        obtain ⟨h34, h32, _, -⟩ := hh;have g34 : f 34=_:=h34;have g32 : f 32=_:=h32;refine tab_yes g32 fun K Q hK => ?_;simp only [puts, Za, Zb, Zc, Zd, Ze, g34, g32];go_step;exact fam_e hK rfl rfl (Below.refl _ _) hC
       ·
        obtain ⟨h35, -⟩ := hh;have g35 : f 35=_:=h35;refine tab_yes g35 fun K Q hK => ?_;simp only [puts, Za, Zb, Zc, Zd, Ze, g35];go_step;exact fam_e hK rfl rfl (Below.refl _ _) hC
       ·
        obtain ⟨h36, h35, -⟩ := hh;have g36 : f 36=_:=h36;have g35 : f 35=_:=h35;refine tab_yes g35 fun K Q hK => ?_;simp only [puts, Za, Zb, Zc, Zd, Ze, g36, g35]
        obtain ⟨⟨f1, f2, f3, f4⟩, f5, f6, f7⟩ := HCM.out W hC
        obtain ⟨f8, f9, f10⟩ := hcp W hC
        go_step;exact fam_e hK rfl rfl (Below.refl _ _) hC
       ·
        obtain ⟨h35, -⟩ := hh;have g35 : f 35=_:=h35;refine tab_yes g35 fun K Q hK => ?_;simp only [puts, Za, Zb, Zc, Zd, Ze, g35];go_step;exact fam_e hK rfl rfl (Below.refl _ _) hC
       ·
        obtain ⟨h38, h35, -⟩ := hh;have g38 : f 38=_:=h38;have g35 : f 35=_:=h35;refine tab_yes g35 fun K Q hK => ?_;simp only [puts, Za, Zb, Zc, Zd, Ze, g38, g35];go_step;exact fam_e hK rfl rfl (Below.refl _ _) hC
       ·
        obtain ⟨h37, h39, h35, -⟩ := hh;have g37 : f 37=_:=h37;have g39 : f 39=_:=h39;have g35 : f 35=_:=h35;refine tab_yes g35 fun K Q hK => ?_;simp only [puts, Za, Zb, Zc, Zd, Ze, g37, g39, g35];go_step;exact fam_e hK rfl rfl (Below.refl _ _) hC
       ·
        obtain ⟨h40, h35, -⟩ := hh;have g40 : f 40=_:=h40;have g35 : f 35=_:=h35;refine tab_yes g35 fun K Q hK => ?_;simp only [puts, Za, Zb, Zc, Zd, Ze, g40, g35]
        obtain ⟨⟨f1, f2, f3, f4⟩, f5, f6, f7⟩ := HCM.out W hC
        obtain ⟨f8, f9, f10⟩ := hcp W hC
        go_step;exact fam_e hK rfl rfl (Below.refl _ _) hC
       ·
        obtain ⟨h35, -⟩ := hh;have g35 : f 35=_:=h35;refine tab_yes g35 fun K Q hK => ?_;simp only [puts, Za, Zb, Zc, Zd, Ze, g35]
        obtain ⟨⟨f1, f2, f3, f4⟩, f5, f6, f7⟩ := HCM.out W hC
        obtain ⟨f8, f9, f10⟩ := hcp W hC
        go_step;exact fam_e hK rfl rfl (Below.refl _ _) hC
       ·
        obtain ⟨h41, h42, h35, _, -⟩ := hh;have g41 : f 41=_:=h41;have g42 : f 42=_:=h42;have g35 : f 35=_:=h35;refine tab_yes g35 fun K Q hK => ?_;simp only [puts, Za, Zb, Zc, Zd, Ze, g41, g42, g35];go_step
        go_at_call 27
        have hbf := before_any ⟨y1, y2, y3⟩ ⟨x1, x2, x3⟩ W
        rw [HBB.out] at hbf
        refine hbf.mono ?_
        rintro e w' ⟨rfl, hb⟩
        exact fam_fin hK rfl rfl hb (hC.trans (hb.mono hC.size))
       ·
        obtain ⟨h43, h35, -⟩ := hh;have g43 : f 43=_:=h43;have g35 : f 35=_:=h35;refine tab_yes g35 fun K Q hK => ?_;simp only [puts, Za, Zb, Zc, Zd, Ze, g43, g35];go_step;exact fam_e hK rfl rfl (Below.refl _ _) hC
       ·
        obtain ⟨h35, h44, h32, -⟩ := hh;have g35 : f 35=_:=h35;have g44 : f 44=_:=h44;have g32 : f 32=_:=h32;refine tab_yes g32 fun K Q hK => ?_;simp only [puts, Za, Zb, Zc, Zd, Ze, g35, g44, g32];go_step;exact fam_e hK rfl rfl (Below.refl _ _) hC
       ·
        obtain ⟨h32, h45, -⟩ := hh;have g32 : f 32=_:=h32;have g45 : f 45=_:=h45;refine tab_plain fun K Q hK => ?_;simp only [puts, Za, Zb, Zc, Zd, Ze, g32, g45];go_step;exact fam_e hK rfl rfl (Below.refl _ _) hC
      case arest =>
       intro f W2 hC hh
       obtain ⟨h0, h1, h2, h3, h4, h5, h6, h7, h8, h9, h10, h11, h12, h13, h14, h15, h16, h17, h18, h19, h20, h21, h22, h23, h24, h25, h26, h27, h28, h29, h30, h31, h32, h33, h34, h35, h36, h37, h38, h39, h40, h41, h42, h43, h44, h45, h46, -⟩ := hh;have g0 : f 0=_:=h0;have g1 : f 1=_:=h1;have g2 : f 2=_:=h2;have g3 : f 3=_:=h3;have g4 : f 4=_:=h4;have g5 : f 5=_:=h5;have g6 : f 6=_:=h6;have g7 : f 7=_:=h7;have g8 : f 8=_:=h8;have g9 : f 9=_:=h9;have g10 : f 10=_:=h10;have g11 : f 11=_:=h11;have g12 : f 12=_:=h12;have g13 : f 13=_:=h13;have g14 : f 14=_:=h14;have g15 : f 15=_:=h15;have g16 : f 16=_:=h16;have g17 : f 17=_:=h17;have g18 : f 18=_:=h18;have g19 : f 19=_:=h19;have g20 : f 20=_:=h20;have g21 : f 21=_:=h21;have g22 : f 22=_:=h22;have g23 : f 23=_:=h23;have g24 : f 24=_:=h24;have g25 : f 25=_:=h25;have g26 : f 26=_:=h26;have g27 : f 27=_:=h27;have g28 : f 28=_:=h28;have g29 : f 29=_:=h29;have g30 : f 30=_:=h30;have g31 : f 31=_:=h31;have g32 : f 32=_:=h32;have g33 : f 33=_:=h33;have g34 : f 34=_:=h34;have g35 : f 35=_:=h35;have g36 : f 36=_:=h36;have g37 : f 37=_:=h37;have g38 : f 38=_:=h38;have g39 : f 39=_:=h39;have g40 : f 40=_:=h40;have g41 : f 41=_:=h41;have g42 : f 42=_:=h42;have g43 : f 43=_:=h43;have g44 : f 44=_:=h44;have g45 : f 45=_:=h45;have g46 : f 46=_:=h46;simp only [puts, Za, Zb, Zc, Zd, Ze, g0, g1, g2, g3, g4, g5, g6, g7, g8, g9, g10, g11, g12, g13, g14, g15, g16, g17, g18, g19, g20, g21, g22, g23, g24, g25, g26, g27, g28, g29, g30, g31, g32, g33, g34, g35, g36, g37, g38, g39, g40, g41, g42, g43, g44, g45, g46]
       clear h0 h1 h2 h3 h4 h5 h6 h7 h8 h9 h10 h11 h12 h13 h14 h15 h16 h17 h18 h19 h20 h21 h22 h23 h24 h25 h26 h27 h28 h29 h30 h31 h32 h33 h34 h35 h36 h37 h38 h39 h40 h41 h42 h43 h44 h45 h46 g0 g1 g2 g3 g4 g5 g6 g7 g8 g9 g10 g11 g12 g13 g14 g15 g16 g17 g18 g19 g20 g21 g22 g23 g24 g25 g26 g27 g28 g29 g30 g31 g32 g33 g34 g35 g36 g37 g38 g39 g40 g41 g42 g43 g44 g45 g46
       cases B
       ·have HQ : Hid (¬ ArcOkN n es k) := Lib.hid fun h => by
         have := h.2.2 h0
         rw [HYP.out, HX.out] at this
         exact absurd (decide_eq_true this) (by rw [HBB.out]; decide)
        go_wp2_with (fail)
        go_ret
        exact ⟨by rw [← HNO.out HQ.out]; rfl, HBN.out.trans (hC.mono HBN.out.size)⟩
       ·have HS : Hid (∀ i, i < k + 1 → ArcOkN n es i) := Lib.hid fun i hi => by
         rcases Nat.lt_or_ge i k with h1 | h1
         ·exact HA.out i h1
         ·rw [show i = k by omega]; unfold ArcOkN; rw [HX.out]; exact ⟨⟨H6.out, H7.out⟩, H8.out, fun h2 => by rw [HYP.out]; exact of_decide_eq_true HBB.out⟩
        go_wp2_with (fail)
        go_roundw
        case rel => exact ⟨k + 1, hlt, by go_num, HS, HBWN.out.trans (hC.mono HBWN.out.size)⟩
        case measure => simp [intOf]; omega
    ·have hkl : k = al := by omega
     subst hkl
     have HYES : Hid (true = V) := Lib.hid (HD _ (vN_yes ⟨⟨by simp only; omega, by simp only; omega⟩, by simp only; rw [HFL.out]; exact H4.out, by simp only; omega, HST.out, fun i hi => HA.out i (by simp only at hi; omega)⟩).symm)
     clear HD
     go_wp2
     go_ret
     exact ⟨by rw [← HYES.out]; rfl, hbW⟩
end Go.Proofs.YtbjdglopkpigbaaGreatDoor.Na
