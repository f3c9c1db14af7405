import Derived.Test.YtbjdglopkpigbaaGreatDoorMG6
import Derived.Test.YtbjdglopkpigbaaGreatDoorMG28
/-
  DfaG
-/
set_option linter.unusedSimpArgs false
set_option linter.unusedVariables false
namespace Go.Proofs.YtbjdglopkpigbaaGreatDoor
open List (foldr_cons foldr_nil setIfInBounds_toArray set_cons_succ set_cons_zero)
open Go.RowKit
attribute [local go_sem] Oper.semAt_some
theorem boxR (n s : Int) (fa : Option Addr) (fl fc : Nat) (aa : Option Addr) (al ac : Nat) (w : World) :
  Below w.heap.size w (w.alloc (.cells #[.int .i64 n, .int .i64 s, .slice fa fl fc, .slice aa al ac] 25)) ∧ (w.alloc (.cells #[.int .i64 n, .int .i64 s, .slice fa fl fc, .slice aa al ac] 25)).heap.size = w.heap.size + 1 ∧
  ∀ W, Below (w.heap.size + 1) (w.alloc (.cells #[.int .i64 n, .int .i64 s, .slice fa fl fc, .slice aa al ac] 25)) W → W.cell? ⟨w.heap.size, 0, none⟩ = some (.int .i64 n) ∧ W.cell? ⟨w.heap.size, 1, none⟩ = some (.int .i64 s) ∧ W.cell? ⟨w.heap.size, 2, none⟩ = some (.slice fa fl fc) ∧ W.cell? ⟨w.heap.size, 3, none⟩ = some (.slice aa al ac) := by
 refine ⟨(Below.refl _ _).alloc (Nat.le_refl _) _, by simp, fun W hb => ?_⟩
 have := hb.block w.heap.size (Nat.lt_succ_self _)
 rw [heap_alloc_new] at this
 exact ⟨cell_of_row W _ 0 _ _ _ this, cell_of_row W _ 1 _ _ _ this, cell_of_row W _ 2 _ _ _ this, cell_of_row W _ 3 _ _ _ this⟩
theorem boxRW (d : Dfa) (h : DH) (w : World) (hd : IsDfa w h d) : ∃ W1, w.alloc (.cells #[.int .i64 d.n, .int .i64 d.s, .slice h.fa h.fl h.fc, .slice h.aa h.al h.ac] 25) = W1 ∧ W1.heap.size = w.heap.size + 1 ∧ Below w.heap.size w W1 ∧
  ∀ W, Below (w.heap.size + 1) W1 W → (W.cell? ⟨w.heap.size, 0, none⟩ = some (.int .i64 d.n) ∧ W.cell? ⟨w.heap.size, 1, none⟩ = some (.int .i64 d.s) ∧ W.cell? ⟨w.heap.size, 2, none⟩ = some (.slice h.fa h.fl h.fc) ∧ W.cell? ⟨w.heap.size, 3, none⟩ = some (.slice h.aa h.al h.ac)) ∧ IsDfa W h d ∧ Below w.heap.size w W := by
 obtain ⟨h1, h2, h3⟩ := boxR d.n d.s h.fa h.fl h.fc h.aa h.al h.ac w
 exact ⟨_, rfl, h2, h1, fun W hb => ⟨h3 W hb, hd.later (h1.trans (hb.mono (by omega))), h1.trans (hb.mono (by omega))⟩⟩
theorem boxRA (x : A3) (w : World) :
  Below w.heap.size w (w.alloc (.cells #[.int .i64 x.f, .int .i64 x.l, .int .i64 x.t] 50)) ∧ (w.alloc (.cells #[.int .i64 x.f, .int .i64 x.l, .int .i64 x.t] 50)).heap.size = w.heap.size + 1 ∧
  ∀ W, Below (w.heap.size + 1) (w.alloc (.cells #[.int .i64 x.f, .int .i64 x.l, .int .i64 x.t] 50)) W → W.cell? ⟨w.heap.size, 0, none⟩ = some (.int .i64 x.f) ∧ W.cell? ⟨w.heap.size, 1, none⟩ = some (.int .i64 x.l) ∧ W.cell? ⟨w.heap.size, 2, none⟩ = some (.int .i64 x.t) := by
 refine ⟨(Below.refl _ _).alloc (Nat.le_refl _) _, by simp, fun W hb => ?_⟩
 have := hb.block w.heap.size (Nat.lt_succ_self _)
 rw [heap_alloc_new] at this
 exact ⟨cell_of_row W _ 0 _ _ _ this, cell_of_row W _ 1 _ _ _ this, cell_of_row W _ 2 _ _ _ this⟩
set_option maxRecDepth 20000 in
set_option maxHeartbeats 4000000 in
theorem refValid_any (d : Dfa) (h : DH) (w : World) (hd : IsDfa w h d) :
  Calls Tryz.prog 6 #[vDf d h] w fun e w' => e = .returned (.bool (vD d)) ∧ Below w.heap.size w w' := by
 obtain ⟨V, hV⟩ : ∃ V, vD d = V := ⟨_, rfl⟩
 have HV := Lib.hid hV
 rw [hV]
 clear hV
 have HD : ∀ x, x = vD d → x = V := fun x e => e.trans HV.out
 obtain ⟨n, s, fin, es⟩ := d
 obtain ⟨fa, fl, fc, aa, al, ac⟩ := h
 obtain ⟨hf, he⟩ := hd
 simp only at hf he HV HD
 have hlen := he.length
 have hflen := hf.length
 have hacap := he.capLe
 have hfcap := hf.capLe
 unfold maxLen at hacap hfcap
 obtain ⟨hb1, hs1, hO⟩ := boxR n s fa fl fc aa al ac w
 obtain ⟨W1, hW1⟩ : ∃ W1, w.alloc (.cells #[.int .i64 n, .int .i64 s, .slice fa fl fc, .slice aa al ac] 25) = W1 := ⟨_, rfl⟩
 rw [hW1] at hb1 hs1 hO
 obtain ⟨d1, d2, d3, d4⟩ := hO W1 (Below.refl _ _)
 have HFL := Lib.hid hflen
 clear hflen
 unfold vDf
 by_cases h1 : n < 1
 ·have t1 : decide (n < 1) = true := decide_eq_true h1
  have HN : Hid (false = V) := Lib.hid (HD _ (vD_no (by rintro ⟨v1, v2, v3, v4, v5⟩; simp only at v1 v2 v3 v4; omega)).symm)
  clear HD
  go_enter Tryz.func6, Tryz.ntmps6
  go_wp2
  go_ret
  exact ⟨by rw [← HN.out]; rfl, hb1⟩
 have t1 : decide (n < 1) = false := decide_eq_false h1
 by_cases h2 : 1000 < n
 ·have t2 : decide (1000 < n) = true := decide_eq_true h2
  have HN : Hid (false = V) := Lib.hid (HD _ (vD_no (by rintro ⟨v1, v2, v3, v4, v5⟩; simp only at v1 v2 v3 v4; omega)).symm)
  clear HD
  go_enter Tryz.func6, Tryz.ntmps6
  go_wp2
  go_ret
  exact ⟨by rw [← HN.out]; rfl, hb1⟩
 have t2 : decide (1000 < n) = false := decide_eq_false h2
 by_cases h3 : s < 0
 ·have t3 : decide (s < 0) = true := decide_eq_true h3
  have HN : Hid (false = V) := Lib.hid (HD _ (vD_no (by rintro ⟨v1, v2, v3, v4, v5⟩; simp only at v1 v2 v3 v4; omega)).symm)
  clear HD
  go_enter Tryz.func6, Tryz.ntmps6
  go_wp2
  go_ret
  exact ⟨by rw [← HN.out]; rfl, hb1⟩
 have t3 : decide (s < 0) = false := decide_eq_false h3
 by_cases h4 : n ≤ s
 ·have t4 : decide (n ≤ s) = true := decide_eq_true h4
  have HN : Hid (false = V) := Lib.hid (HD _ (vD_no (by rintro ⟨v1, v2, v3, v4, v5⟩; simp only at v1 v2 v3 v4; omega)).symm)
  clear HD
  go_enter Tryz.func6, Tryz.ntmps6
  go_wp2
  go_ret
  exact ⟨by rw [← HN.out]; rfl, hb1⟩
 have t4 : decide (n ≤ s) = false := decide_eq_false h4
 by_cases h5 : (fl : Int) ≠ n
 ·have t5 : ((fl : Int) != n) = true := by simpa using h5
  have HN : Hid (false = V) := Lib.hid (HD _ (vD_no (by rintro ⟨v1, v2, v3, v4, v5⟩; simp only at v1 v2 v3 v4; rw [HFL.out] at v3; omega)).symm)
  clear HD
  go_enter Tryz.func6, Tryz.ntmps6
  go_wp2
  go_ret
  exact ⟨by rw [← HN.out]; rfl, hb1⟩
 have t5 : ((fl : Int) != n) = false := by simpa using h5
 have H4 := Lib.hid h5
 clear h5
 by_cases h6 : 20000 < (al : Int)
 ·have t6 : decide (20000 < (al : Int)) = true := decide_eq_true h6
  have HN : Hid (false = V) := Lib.hid (HD _ (vD_no (by rintro ⟨v1, v2, v3, v4, v5⟩; simp only at v1 v2 v3 v4; omega)).symm)
  clear HD
  go_enter Tryz.func6, Tryz.ntmps6
  go_wp2
  go_ret
  exact ⟨by rw [← HN.out]; rfl, hb1⟩
 have t6 : decide (20000 < (al : Int)) = false := decide_eq_false h6
 go_enter Tryz.func6, Tryz.ntmps6
 go_wp2_with (fail)
 have HO := Lib.hid hO
 have HB1 := Lib.hid hb1
 have hsz1 : w.heap.size + 1 ≤ W1.heap.size := by omega
 clear hO hs1 d1 d2 d3 d4 t1 t2 t3 t4 t5 t6 hb1 hW1
 go_loopw [3] (fun c W => ∃ k : Nat, k ≤ al ∧ c = .int .i64 (k : Int) ∧ Hid (∀ i, i < k → ArcOk n es i) ∧ Below (w.heap.size + 1) W1 W) (fun c _ => al - (intOf c).toNat)
 case atStart => exact ⟨0, Nat.zero_le _, rfl, Lib.hid (fun i hi => by omega), Below.refl _ _⟩
 case round =>
  obtain ⟨k, hk, rfl, HA, hb⟩ := hrel
  have hbW : Below w.heap.size w wr := HB1.out.trans (hb.mono (by omega))
  have hszr : w.heap.size + 1 ≤ wr.heap.size := Nat.le_trans hsz1 hb.size
  obtain ⟨e1, e2, e3, e4⟩ := HO.out wr hb
  rcases Nat.lt_or_ge k al with hlt | hge
  ·obtain ⟨b, off, rfl, hcell⟩ := he.fix (by omega)
   obtain ⟨x1, x2, x3, hx⟩ : ∃ x1 x2 x3, g3 es k = ⟨x1, x2, x3⟩ := ⟨_, _, _, rfl⟩
   obtain ⟨cx1, cx2, cx3⟩ := hcell wr hbW k hlt
   rw [hx] at cx1 cx2 cx3
   have HX := Lib.hid hx
   obtain ⟨Wn, hWn⟩ : ∃ Wn, wr.alloc (.cells #[.int .i64 x1, .int .i64 x2, .int .i64 x3] 50) = Wn := ⟨_, rfl⟩
   have hbn : Below wr.heap.size wr Wn := by rw [← hWn]; exact (Below.refl _ _).alloc (Nat.le_refl _) _
   have hcm : ∀ W, Below Wn.heap.size Wn W → (W.cell? ⟨w.heap.size, 0, none⟩ = some (.int .i64 n) ∧ W.cell? ⟨w.heap.size, 1, none⟩ = some (.int .i64 s) ∧ W.cell? ⟨w.heap.size, 2, none⟩ = some (.slice fa fl fc) ∧ W.cell? ⟨w.heap.size, 3, none⟩ = some (.slice (some ⟨b, off, none⟩) al ac)) ∧ W.cell? ⟨wr.heap.size, 0, none⟩ = some (.int .i64 x1) ∧ W.cell? ⟨wr.heap.size, 1, none⟩ = some (.int .i64 x2) ∧ W.cell? ⟨wr.heap.size, 2, none⟩ = some (.int .i64 x3) := fun W h => by
    have h2 := (boxRA ⟨x1, x2, x3⟩ wr).2.2 W (by simp only; rw [hWn]; exact h.mono (by rw [← hWn]; simp))
    exact ⟨HO.out W (hb.trans ((hbn.mono hszr).trans (h.mono (Nat.le_trans hszr hbn.size)))), h2⟩
   obtain ⟨⟨f1, f2, f3, f4⟩, f5, f6, f7⟩ := hcm Wn (Below.refl _ _)
   have hbWn : Below (w.heap.size + 1) W1 Wn := hb.trans (hbn.mono hszr)
   have HBN := Lib.hid (show Below w.heap.size w Wn from hbW.trans (hbn.mono hbW.size))
   have HBWN := Lib.hid hbWn
   have hszn : w.heap.size + 1 ≤ Wn.heap.size := Nat.le_trans hszr hbn.size
   have HNO : Hid (¬ ArcOk n es k → false = V) := Lib.hid fun hno => HD _ (vD_no (validD_no (d := ⟨n, s, fin, es⟩) (by simp only; omega) hno)).symm
   have HCELL := Lib.hid hcell
   clear hx hcell he hf hbn hb hbW hbWn HD
   by_cases h21 : x1 < 0
   ·have q21 : decide (x1 < 0) = true := decide_eq_true h21
    have HQ : Hid (¬ ArcOk n es k) := Lib.hid fun h => by have := h.1.1; rw [HX.out] at this; simp only at this; omega
    go_wp2
    go_ret
    exact ⟨by rw [← HNO.out HQ.out]; rfl, HBN.out⟩
   have q21 : decide (x1 < 0) = false := decide_eq_false h21
   by_cases h22 : n ≤ x1
   ·have q22 : decide (n ≤ x1) = true := decide_eq_true h22
    have HQ : Hid (¬ ArcOk n es k) := Lib.hid fun h => by have := h.1.1; rw [HX.out] at this; simp only at this; omega
    go_wp2
    go_ret
    exact ⟨by rw [← HNO.out HQ.out]; rfl, HBN.out⟩
   have q22 : decide (n ≤ x1) = false := decide_eq_false h22
   by_cases h23 : x3 < 0
   ·have q23 : decide (x3 < 0) = true := decide_eq_true h23
    have HQ : Hid (¬ ArcOk n es k) := Lib.hid fun h => by have := h.1.2; rw [HX.out] at this; simp only at this; omega
    go_wp2
    go_ret
    exact ⟨by rw [← HNO.out HQ.out]; rfl, HBN.out⟩
   have q23 : decide (x3 < 0) = false := decide_eq_false h23
   by_cases h24 : n ≤ x3
   ·have q24 : decide (n ≤ x3) = true := decide_eq_true h24
    have HQ : Hid (¬ ArcOk n es k) := Lib.hid fun h => by have := h.1.2; rw [HX.out] at this; simp only at this; omega
    go_wp2
    go_ret
    exact ⟨by rw [← HNO.out HQ.out]; rfl, HBN.out⟩
   have q24 : decide (n ≤ x3) = false := decide_eq_false h24
   by_cases h25 : x2 < 1
   ·have q25 : decide (x2 < 1) = true := decide_eq_true h25
    have HQ : Hid (¬ ArcOk n es k) := Lib.hid fun h => by have := h.2.1; rw [HX.out] at this; simp only at this; omega
    go_wp2
    go_ret
    exact ⟨by rw [← HNO.out HQ.out]; rfl, HBN.out⟩
   have q25 : decide (x2 < 1) = false := decide_eq_false h25
   by_cases h26 : 10000 < x2
   ·have q26 : decide (10000 < x2) = true := decide_eq_true h26
    have HQ : Hid (¬ ArcOk n es k) := Lib.hid fun h => by have := h.2.1; rw [HX.out] at this; simp only at this; omega
    go_wp2
    go_ret
    exact ⟨by rw [← HNO.out HQ.out]; rfl, HBN.out⟩
   have q26 : decide (10000 < x2) = false := decide_eq_false h26
   have H6 : Hid (0 ≤ x1 ∧ x1 < n) := Lib.hid (by omega)
   have H7 : Hid (0 ≤ x3 ∧ x3 < n) := Lib.hid (by omega)
   have H8 : Hid (1 ≤ x2 ∧ x2 ≤ 10000) := Lib.hid (by omega)
   clear h21 h22 h23 h24 h25 h26
   by_cases h10 : k = 0
   ·have q5 : decide (0 < k) = false := decide_eq_false (by omega)
    have HK0 := Lib.hid h10
    clear h10
    go_wp2_with (fail)
    refine wp_region_grow mixed (by kernel_rfl) [[], [(0, 83)], [(1, 84)], [(2, 85)], [(3, 86), (2, 85)], [(2, 85)], [(5, 88), (2, 85)], [(2, 85)], [(7, 90), (2, 85)], [(6, 89), (8, 91), (2, 85)], [(9, 92), (2, 85)], [(10, 93), (2, 85)], [(4, 87), (11, 94), (2, 85)], [(12, 95), (2, 85), (2, 85)], [(13, 96)], [(14, 97), (13, 96)], [(13, 96)], [(16, 99), (13, 96)], [(13, 96)], [(18, 101), (13, 96)], [(17, 100), (19, 102), (13, 96)], [(20, 103), (13, 96)], [(21, 104), (13, 96)], [(15, 98), (22, 105), (13, 96)], [(23, 106), (13, 96), (13, 96)], [(24, 107)], [(25, 108), (24, 107)], [(24, 107)], [(27, 110), (24, 107)], [(24, 107)], [(29, 112), (24, 107)], [(28, 111), (30, 113), (24, 107)], [(31, 114), (24, 107)], [(32, 115), (24, 107)], [(26, 109), (33, 116), (24, 107)], [(24, 107), (34, 117), (13, 96)], [(13, 96), (35, 118), (2, 85)], [(2, 85), (36, 119)]] [(0, 83), (1, 84), (2, 85), (3, 86), (4, 87), (5, 88), (6, 89), (7, 90), (8, 91), (9, 92), (10, 93), (11, 94), (12, 95), (13, 96), (14, 97), (15, 98), (16, 99), (17, 100), (18, 101), (19, 102), (20, 103), (21, 104), (22, 105), (23, 106), (24, 107), (25, 108), (26, 109), (27, 110), (28, 111), (29, 112), (30, 113), (31, 114), (32, 115), (33, 116), (34, 117), (35, 118), (36, 119), (37, 120)] rfl rfl [Ex ?eb0, Ex ?eb1, Ex ?eb2, Ex undef, Ex undef, Ex undef, Ex undef, Ex undef, Ex undef, Ex undef, Ex undef, Ex undef, Ex undef, Ex undef, Ex undef, Ex undef, Ex undef, Ex undef, Ex undef, Ex undef, Ex undef, Ex undef, Ex undef, Ex undef, Ex undef, Ex undef, Ex undef, Ex undef, Ex undef, Ex undef, Ex undef, Ex undef, Ex undef, Ex undef, Ex undef, Ex undef, Ex undef, Ex ?eb37] ⟨stays_ex _, stays_ex _, stays_ex _, stays_ex _, stays_ex _, stays_ex _, stays_ex _, stays_ex _, stays_ex _, stays_ex _, stays_ex _, stays_ex _, stays_ex _, stays_ex _, stays_ex _, stays_ex _, stays_ex _, stays_ex _, stays_ex _, stays_ex _, stays_ex _, stays_ex _, stays_ex _, stays_ex _, stays_ex _, stays_ex _, stays_ex _, stays_ex _, stays_ex _, stays_ex _, stays_ex _, stays_ex _, stays_ex _, stays_ex _, stays_ex _, stays_ex _, stays_ex _, stays_ex _, trivial⟩ ?bsteps ?brest
    case bsteps =>
     refine ⟨fun f W hC hh => ?_, fun f W hC hh => ?_, fun f W hC hh => ?_, fun f W hC hh => ?_, fun f W hC hh => ?_, fun f W hC hh => ?_, fun f W hC hh => ?_, fun f W hC hh => ?_, fun f W hC hh => ?_, fun f W hC hh => ?_, fun f W hC hh => ?_, fun f W hC hh => ?_, fun f W hC hh => ?_, fun f W hC hh => ?_, fun f W hC hh => ?_, fun f W hC hh => ?_, fun f W hC hh => ?_, fun f W hC hh => ?_, fun f W hC hh => ?_, fun f W hC hh => ?_, fun f W hC hh => ?_, fun f W hC hh => ?_, fun f W hC hh => ?_, fun f W hC hh => ?_, fun f W hC hh => ?_, fun f W hC hh => ?_, fun f W hC hh => ?_, fun f W hC hh => ?_, fun f W hC hh => ?_, fun f W hC hh => ?_, fun f W hC hh => ?_, fun f W hC hh => ?_, fun f W hC hh => ?_, fun f W hC hh => ?_, fun f W hC hh => ?_, fun f W hC hh => ?_, fun f W hC hh => ?_, fun f W hC hh => ?_, trivial⟩
     ·
      refine tab_plain fun K Q hK => ?_;simp only [puts, foldr_nil];go_step;exact fam_e hK rfl rfl (Below.refl _ _) hC
     ·
      obtain ⟨h0, -⟩ := hh;have g0 : f 0=_:=h0;refine tab_plain fun K Q hK => ?_;simp only [puts, Za, Zb, Zc, Zd, Ze, g0];go_step;exact fam_e hK rfl rfl (Below.refl _ _) hC
     ·
      obtain ⟨h1, -⟩ := hh;have g1 : f 1=_:=h1;refine tab_plain fun K Q hK => ?_;simp only [puts, Za, Zb, Zc, Zd, Ze, g1];go_step;exact fam_e hK rfl rfl (Below.refl _ _) hC
     ·
      obtain ⟨h2, -⟩ := hh;have g2 : f 2=_:=h2
      exact tab_no rfl g2 (by decide) rfl
     ·
      obtain ⟨h3, h2, -⟩ := hh;have g3 : f 3=_:=h3;have g2 : f 2=_:=h2
      exact tab_no rfl g2 (by decide) rfl
     ·
      obtain ⟨h2, -⟩ := hh;have g2 : f 2=_:=h2
      exact tab_no rfl g2 (by decide) rfl
     ·
      obtain ⟨h5, h2, -⟩ := hh;have g5 : f 5=_:=h5;have g2 : f 2=_:=h2
      exact tab_no rfl g2 (by decide) rfl
     ·
      obtain ⟨h2, -⟩ := hh;have g2 : f 2=_:=h2
      exact tab_no rfl g2 (by decide) rfl
     ·
      obtain ⟨h7, h2, -⟩ := hh;have g7 : f 7=_:=h7;have g2 : f 2=_:=h2
      exact tab_no rfl g2 (by decide) rfl
     ·
      obtain ⟨h6, h8, h2, -⟩ := hh;have g6 : f 6=_:=h6;have g8 : f 8=_:=h8;have g2 : f 2=_:=h2
      exact tab_no rfl g2 (by decide) rfl
     ·
      obtain ⟨h9, h2, -⟩ := hh;have g9 : f 9=_:=h9;have g2 : f 2=_:=h2
      exact tab_no rfl g2 (by decide) rfl
     ·
      obtain ⟨h10, h2, -⟩ := hh;have g10 : f 10=_:=h10;have g2 : f 2=_:=h2
      exact tab_no rfl g2 (by decide) rfl
     ·
      obtain ⟨h4, h11, h2, -⟩ := hh;have g4 : f 4=_:=h4;have g11 : f 11=_:=h11;have g2 : f 2=_:=h2
      exact tab_no rfl g2 (by decide) rfl
     ·
      obtain ⟨h12, h2, _, -⟩ := hh;have g12 : f 12=_:=h12;have g2 : f 2=_:=h2
      exact tab_no rfl g2 (by decide) rfl
     ·
      obtain ⟨h13, -⟩ := hh;have g13 : f 13=_:=h13
      exact tab_noU rfl g13 rfl
     ·
      obtain ⟨h14, h13, -⟩ := hh;have g14 : f 14=_:=h14;have g13 : f 13=_:=h13
      exact tab_noU rfl g13 rfl
     ·
      obtain ⟨h13, -⟩ := hh;have g13 : f 13=_:=h13
      exact tab_noU rfl g13 rfl
     ·
      obtain ⟨h16, h13, -⟩ := hh;have g16 : f 16=_:=h16;have g13 : f 13=_:=h13
      exact tab_noU rfl g13 rfl
     ·
      obtain ⟨h13, -⟩ := hh;have g13 : f 13=_:=h13
      exact tab_noU rfl g13 rfl
     ·
      obtain ⟨h18, h13, -⟩ := hh;have g18 : f 18=_:=h18;have g13 : f 13=_:=h13
      exact tab_noU rfl g13 rfl
     ·
      obtain ⟨h17, h19, h13, -⟩ := hh;have g17 : f 17=_:=h17;have g19 : f 19=_:=h19;have g13 : f 13=_:=h13
      exact tab_noU rfl g13 rfl
     ·
      obtain ⟨h20, h13, -⟩ := hh;have g20 : f 20=_:=h20;have g13 : f 13=_:=h13
      exact tab_noU rfl g13 rfl
     ·
      obtain ⟨h21, h13, -⟩ := hh;have g21 : f 21=_:=h21;have g13 : f 13=_:=h13
      exact tab_noU rfl g13 rfl
     ·
      obtain ⟨h15, h22, h13, -⟩ := hh;have g15 : f 15=_:=h15;have g22 : f 22=_:=h22;have g13 : f 13=_:=h13
      exact tab_noU rfl g13 rfl
     ·
      obtain ⟨h23, h13, _, -⟩ := hh;have g23 : f 23=_:=h23;have g13 : f 13=_:=h13
      exact tab_noU rfl g13 rfl
     ·
      obtain ⟨h24, -⟩ := hh;have g24 : f 24=_:=h24
      exact tab_noU rfl g24 rfl
     ·
      obtain ⟨h25, h24, -⟩ := hh;have g25 : f 25=_:=h25;have g24 : f 24=_:=h24
      exact tab_noU rfl g24 rfl
     ·
      obtain ⟨h24, -⟩ := hh;have g24 : f 24=_:=h24
      exact tab_noU rfl g24 rfl
     ·
      obtain ⟨h27, h24, -⟩ := hh;have g27 : f 27=_:=h27;have g24 : f 24=_:=h24
      exact tab_noU rfl g24 rfl
     ·
      obtain ⟨h24, -⟩ := hh;have g24 : f 24=_:=h24
      exact tab_noU rfl g24 rfl
     ·
      obtain ⟨h29, h24, -⟩ := hh;have g29 : f 29=_:=h29;have g24 : f 24=_:=h24
      exact tab_noU rfl g24 rfl
     ·
      obtain ⟨h28, h30, h24, -⟩ := hh;have g28 : f 28=_:=h28;have g30 : f 30=_:=h30;have g24 : f 24=_:=h24
      exact tab_noU rfl g24 rfl
     ·
      obtain ⟨h31, h24, -⟩ := hh;have g31 : f 31=_:=h31;have g24 : f 24=_:=h24
      exact tab_noU rfl g24 rfl
     ·
      obtain ⟨h32, h24, -⟩ := hh;have g32 : f 32=_:=h32;have g24 : f 24=_:=h24
      exact tab_noU rfl g24 rfl
     ·
      obtain ⟨h26, h33, h24, -⟩ := hh;have g26 : f 26=_:=h26;have g33 : f 33=_:=h33;have g24 : f 24=_:=h24
      exact tab_noU rfl g24 rfl
     ·
      obtain ⟨h24, h34, h13, -⟩ := hh;have g24 : f 24=_:=h24;have g34 : f 34=_:=h34;have g13 : f 13=_:=h13
      exact tab_noU rfl g13 rfl
     ·
      obtain ⟨h13, h35, h2, -⟩ := hh;have g13 : f 13=_:=h13;have g35 : f 35=_:=h35;have g2 : f 2=_:=h2
      exact tab_no rfl g2 (by decide) rfl
     ·
      obtain ⟨h2, h36, -⟩ := hh;have g2 : f 2=_:=h2;have g36 : f 36=_:=h36;refine tab_plain fun K Q hK => ?_;simp only [puts, Za, Zb, Zc, Zd, Ze, g2, g36];go_step;exact fam_e hK rfl rfl (Below.refl _ _) hC
    case brest =>
     intro f W2 hC hh
     obtain ⟨h0, h1, h2, h3, h4, h5, h6, h7, h8, h9, h10, h11, h12, h13, h14, h15, h16, h17, h18, h19, h20, h21, h22, h23, h24, h25, h26, h27, h28, h29, h30, h31, h32, h33, h34, h35, h36, h37, -⟩ := hh;have g0 : f 0=_:=h0;have g1 : f 1=_:=h1;have g2 : f 2=_:=h2;have g3 : f 3=_:=h3;have g4 : f 4=_:=h4;have g5 : f 5=_:=h5;have g6 : f 6=_:=h6;have g7 : f 7=_:=h7;have g8 : f 8=_:=h8;have g9 : f 9=_:=h9;have g10 : f 10=_:=h10;have g11 : f 11=_:=h11;have g12 : f 12=_:=h12;have g13 : f 13=_:=h13;have g14 : f 14=_:=h14;have g15 : f 15=_:=h15;have g16 : f 16=_:=h16;have g17 : f 17=_:=h17;have g18 : f 18=_:=h18;have g19 : f 19=_:=h19;have g20 : f 20=_:=h20;have g21 : f 21=_:=h21;have g22 : f 22=_:=h22;have g23 : f 23=_:=h23;have g24 : f 24=_:=h24;have g25 : f 25=_:=h25;have g26 : f 26=_:=h26;have g27 : f 27=_:=h27;have g28 : f 28=_:=h28;have g29 : f 29=_:=h29;have g30 : f 30=_:=h30;have g31 : f 31=_:=h31;have g32 : f 32=_:=h32;have g33 : f 33=_:=h33;have g34 : f 34=_:=h34;have g35 : f 35=_:=h35;have g36 : f 36=_:=h36;have g37 : f 37=_:=h37;simp only [puts, Za, Zb, Zc, Zd, Ze, g0, g1, g2, g3, g4, g5, g6, g7, g8, g9, g10, g11, g12, g13, g14, g15, g16, g17, g18, g19, g20, g21, g22, g23, g24, g25, g26, g27, g28, g29, g30, g31, g32, g33, g34, g35, g36, g37]
     clear h0 h1 h2 h3 h4 h5 h6 h7 h8 h9 h10 h11 h12 h13 h14 h15 h16 h17 h18 h19 h20 h21 h22 h23 h24 h25 h26 h27 h28 h29 h30 h31 h32 h33 h34 h35 h36 h37 g0 g1 g2 g3 g4 g5 g6 g7 g8 g9 g10 g11 g12 g13 g14 g15 g16 g17 g18 g19 g20 g21 g22 g23 g24 g25 g26 g27 g28 g29 g30 g31 g32 g33 g34 g35 g36 g37
     go_wp2
     go_roundw
     case rel =>
      refine ⟨k + 1, by omega, by go_num, Lib.hid fun i hi => ?_, HBWN.out.trans (hC.mono hszn)⟩
      rcases Nat.lt_or_ge i k with h | h
      ·exact HA.out i h
      ·rw [show i = k by omega]; unfold ArcOk; rw [HX.out]; exact ⟨⟨H6.out, H7.out⟩, H8.out, fun h => absurd HK0.out (by omega)⟩
     case measure => simp [intOf]; omega
   ·have hk1 : 0 < k := by omega
    have q5 : decide (0 < k) = true := decide_eq_true (by omega)
    obtain ⟨p, hp⟩ : ∃ p, p = k - 1 := ⟨_, rfl⟩
    have hpk : (k : Int) - 1 = (p : Int) := by omega
    obtain ⟨y1, y2, y3, hy⟩ : ∃ y1 y2 y3, g3 es p = ⟨y1, y2, y3⟩ := ⟨_, _, _, rfl⟩
    have HP := Lib.hid hp
    have HY := Lib.hid hy
    have hpl : p < al := by omega
    have hcp : ∀ W, Below Wn.heap.size Wn W → W.cell? ⟨b, off + p * 3, none⟩ = some (.int .i64 y1) ∧ W.cell? ⟨b, off + p * 3 + 1, none⟩ = some (.int .i64 y2) ∧ W.cell? ⟨b, off + p * 3 + 2, none⟩ = some (.int .i64 y3) := fun W h => by
     have := HCELL.out W (HBN.out.trans (h.mono HBN.out.size)) p hpl
     rwa [hy] at this
    have HLT : Hid (ArcOk n es k → LtA ⟨y1, y2, y3⟩ ⟨x1, x2, x3⟩) := Lib.hid fun h => by have := h.2.2 hk1; rwa [← HP.out, HY.out, HX.out] at this
    have HLY : Hid (LtA ⟨y1, y2, y3⟩ ⟨x1, x2, x3⟩ → LtA (g3 es (k - 1)) ⟨x1, x2, x3⟩) := Lib.hid fun h => by rw [← HP.out, HY.out]; exact h
    clear hp hy h10
    by_cases h11 : x1 < y1
    ·have q6 : decide (x1 < y1) = true := decide_eq_true h11
     have HQ : Hid (¬ ArcOk n es k) := Lib.hid fun h => by have := HLT.out h; unfold LtA at this; simp only at this; omega
     clear h11
     go_wp2_with (fail)
     refine wp_region_grow mixed (by kernel_rfl) [[], [(0, 83)], [(1, 84)], [(2, 85)], [(3, 86), (2, 85)], [(2, 85)], [(5, 88), (2, 85)], [(2, 85)], [(7, 90), (2, 85)], [(6, 89), (8, 91), (2, 85)], [(9, 92), (2, 85)], [(10, 93), (2, 85)], [(4, 87), (11, 94), (2, 85)], [(12, 95), (2, 85), (2, 85)], [(13, 96)], [(14, 97), (13, 96)], [(13, 96)], [(16, 99), (13, 96)], [(13, 96)], [(18, 101), (13, 96)], [(17, 100), (19, 102), (13, 96)], [(20, 103), (13, 96)], [(21, 104), (13, 96)], [(15, 98), (22, 105), (13, 96)], [(23, 106), (13, 96), (13, 96)], [(24, 107)], [(25, 108), (24, 107)], [(24, 107)], [(27, 110), (24, 107)], [(24, 107)], [(29, 112), (24, 107)], [(28, 111), (30, 113), (24, 107)], [(31, 114), (24, 107)], [(32, 115), (24, 107)], [(26, 109), (33, 116), (24, 107)], [(24, 107), (34, 117), (13, 96)], [(13, 96), (35, 118), (2, 85)], [(2, 85), (36, 119)]] [(0, 83), (1, 84), (2, 85), (3, 86), (4, 87), (5, 88), (6, 89), (7, 90), (8, 91), (9, 92), (10, 93), (11, 94), (12, 95), (13, 96), (14, 97), (15, 98), (16, 99), (17, 100), (18, 101), (19, 102), (20, 103), (21, 104), (22, 105), (23, 106), (24, 107), (25, 108), (26, 109), (27, 110), (28, 111), (29, 112), (30, 113), (31, 114), (32, 115), (33, 116), (34, 117), (35, 118), (36, 119), (37, 120)] rfl rfl [Ex ?ec0, Ex ?ec1, Ex ?ec2, Ex ?ec3, Ex ?ec4, Ex ?ec5, Ex ?ec6, Ex ?ec7, Ex ?ec8, Ex ?ec9, Ex ?ec10, Ex ?ec11, Ex ?ec12, Ex ?ec13, Ex undef, Ex undef, Ex undef, Ex undef, Ex undef, Ex undef, Ex undef, Ex undef, Ex undef, Ex undef, Ex undef, Ex undef, Ex undef, Ex undef, Ex undef, Ex undef, Ex undef, Ex undef, Ex undef, Ex undef, Ex undef, Ex undef, Ex ?ec36, Ex ?ec37] ⟨stays_ex _, stays_ex _, stays_ex _, stays_ex _, stays_ex _, stays_ex _, stays_ex _, stays_ex _, stays_ex _, stays_ex _, stays_ex _, stays_ex _, stays_ex _, stays_ex _, stays_ex _, stays_ex _, stays_ex _, stays_ex _, stays_ex _, stays_ex _, stays_ex _, stays_ex _, stays_ex _, stays_ex _, stays_ex _, stays_ex _, stays_ex _, stays_ex _, stays_ex _, stays_ex _, stays_ex _, stays_ex _, stays_ex _, stays_ex _, stays_ex _, stays_ex _, stays_ex _, stays_ex _, trivial⟩ ?csteps ?crest
     case csteps =>
      refine ⟨fun f W hC hh => ?_, fun f W hC hh => ?_, fun f W hC hh => ?_, fun f W hC hh => ?_, fun f W hC hh => ?_, fun f W hC hh => ?_, fun f W hC hh => ?_, fun f W hC hh => ?_, fun f W hC hh => ?_, fun f W hC hh => ?_, fun f W hC hh => ?_, fun f W hC hh => ?_, fun f W hC hh => ?_, fun f W hC hh => ?_, fun f W hC hh => ?_, fun f W hC hh => ?_, fun f W hC hh => ?_, fun f W hC hh => ?_, fun f W hC hh => ?_, fun f W hC hh => ?_, fun f W hC hh => ?_, fun f W hC hh => ?_, fun f W hC hh => ?_, fun f W hC hh => ?_, fun f W hC hh => ?_, fun f W hC hh => ?_, fun f W hC hh => ?_, fun f W hC hh => ?_, fun f W hC hh => ?_, fun f W hC hh => ?_, fun f W hC hh => ?_, fun f W hC hh => ?_, fun f W hC hh => ?_, fun f W hC hh => ?_, fun f W hC hh => ?_, fun f W hC hh => ?_, fun f W hC hh => ?_, fun f W hC hh => ?_, trivial⟩
      ·
       refine tab_plain fun K Q hK => ?_;simp only [puts, foldr_nil];go_step;exact fam_e hK rfl rfl (Below.refl _ _) hC
      ·
       obtain ⟨h0, -⟩ := hh;have g0 : f 0=_:=h0;refine tab_plain fun K Q hK => ?_;simp only [puts, Za, Zb, Zc, Zd, Ze, g0];go_step;exact fam_e hK rfl rfl (Below.refl _ _) hC
      ·
       obtain ⟨h1, -⟩ := hh;have g1 : f 1=_:=h1;refine tab_plain fun K Q hK => ?_;simp only [puts, Za, Zb, Zc, Zd, Ze, g1];go_step;exact fam_e hK rfl rfl (Below.refl _ _) hC
      ·
       obtain ⟨h2, -⟩ := hh;have g2 : f 2=_:=h2;refine tab_yes g2 fun K Q hK => ?_;simp only [puts, Za, Zb, Zc, Zd, Ze, g2];go_step;exact fam_e hK rfl rfl (Below.refl _ _) hC
      ·
       obtain ⟨h3, h2, -⟩ := hh;have g3 : f 3=_:=h3;have g2 : f 2=_:=h2;refine tab_yes g2 fun K Q hK => ?_;simp only [puts, Za, Zb, Zc, Zd, Ze, g3, g2]
       obtain ⟨⟨f1, f2, f3, f4⟩, f5, f6, f7⟩ := hcm W hC
       obtain ⟨f8, f9, f10⟩ := hcp W hC
       go_step;exact fam_e hK rfl rfl (Below.refl _ _) hC
      ·
       obtain ⟨h2, -⟩ := hh;have g2 : f 2=_:=h2;refine tab_yes g2 fun K Q hK => ?_;simp only [puts, Za, Zb, Zc, Zd, Ze, g2];go_step;exact fam_e hK rfl rfl (Below.refl _ _) hC
      ·
       obtain ⟨h5, h2, -⟩ := hh;have g5 : f 5=_:=h5;have g2 : f 2=_:=h2;refine tab_yes g2 fun K Q hK => ?_;simp only [puts, Za, Zb, Zc, Zd, Ze, g5, g2]
       obtain ⟨⟨f1, f2, f3, f4⟩, f5, f6, f7⟩ := hcm W hC
       obtain ⟨f8, f9, f10⟩ := hcp W hC
       go_step;exact fam_e hK rfl rfl (Below.refl _ _) hC
      ·
       obtain ⟨h2, -⟩ := hh;have g2 : f 2=_:=h2;refine tab_yes g2 fun K Q hK => ?_;simp only [puts, Za, Zb, Zc, Zd, Ze, g2];go_step;exact fam_e hK rfl rfl (Below.refl _ _) hC
      ·
       obtain ⟨h7, h2, -⟩ := hh;have g7 : f 7=_:=h7;have g2 : f 2=_:=h2;refine tab_yes g2 fun K Q hK => ?_;simp only [puts, Za, Zb, Zc, Zd, Ze, g7, g2];go_step;exact fam_e hK rfl rfl (Below.refl _ _) hC
      ·
       obtain ⟨h6, h8, h2, -⟩ := hh;have g6 : f 6=_:=h6;have g8 : f 8=_:=h8;have g2 : f 2=_:=h2;refine tab_yes g2 fun K Q hK => ?_;simp only [puts, Za, Zb, Zc, Zd, Ze, g6, g8, g2];go_step;exact fam_e hK rfl rfl (Below.refl _ _) hC
      ·
       obtain ⟨h9, h2, -⟩ := hh;have g9 : f 9=_:=h9;have g2 : f 2=_:=h2;refine tab_yes g2 fun K Q hK => ?_;simp only [puts, Za, Zb, Zc, Zd, Ze, g9, g2];go_step;exact fam_e hK rfl rfl (Below.refl _ _) hC
      ·
       obtain ⟨h10, h2, -⟩ := hh;have g10 : f 10=_:=h10;have g2 : f 2=_:=h2;refine tab_yes g2 fun K Q hK => ?_;simp only [puts, Za, Zb, Zc, Zd, Ze, g10, g2]
       obtain ⟨⟨f1, f2, f3, f4⟩, f5, f6, f7⟩ := hcm W hC
       obtain ⟨f8, f9, f10⟩ := hcp W hC
       go_step;exact fam_e hK rfl rfl (Below.refl _ _) hC
      ·
       obtain ⟨h4, h11, h2, -⟩ := hh;have g4 : f 4=_:=h4;have g11 : f 11=_:=h11;have g2 : f 2=_:=h2;refine tab_yes g2 fun K Q hK => ?_;simp only [puts, Za, Zb, Zc, Zd, Ze, g4, g11, g2];go_step;exact fam_e hK rfl rfl (Below.refl _ _) hC
      ·
       obtain ⟨h12, h2, _, -⟩ := hh;have g12 : f 12=_:=h12;have g2 : f 2=_:=h2;refine tab_yes g2 fun K Q hK => ?_;simp only [puts, Za, Zb, Zc, Zd, Ze, g12, g2];go_step;exact fam_e hK rfl rfl (Below.refl _ _) hC
      ·
       obtain ⟨h13, -⟩ := hh;have g13 : f 13=_:=h13
       exact tab_no rfl g13 (by decide) rfl
      ·
       obtain ⟨h14, h13, -⟩ := hh;have g14 : f 14=_:=h14;have g13 : f 13=_:=h13
       exact tab_no rfl g13 (by decide) rfl
      ·
       obtain ⟨h13, -⟩ := hh;have g13 : f 13=_:=h13
       exact tab_no rfl g13 (by decide) rfl
      ·
       obtain ⟨h16, h13, -⟩ := hh;have g16 : f 16=_:=h16;have g13 : f 13=_:=h13
       exact tab_no rfl g13 (by decide) rfl
      ·
       obtain ⟨h13, -⟩ := hh;have g13 : f 13=_:=h13
       exact tab_no rfl g13 (by decide) rfl
      ·
       obtain ⟨h18, h13, -⟩ := hh;have g18 : f 18=_:=h18;have g13 : f 13=_:=h13
       exact tab_no rfl g13 (by decide) rfl
      ·
       obtain ⟨h17, h19, h13, -⟩ := hh;have g17 : f 17=_:=h17;have g19 : f 19=_:=h19;have g13 : f 13=_:=h13
       exact tab_no rfl g13 (by decide) rfl
      ·
       obtain ⟨h20, h13, -⟩ := hh;have g20 : f 20=_:=h20;have g13 : f 13=_:=h13
       exact tab_no rfl g13 (by decide) rfl
      ·
       obtain ⟨h21, h13, -⟩ := hh;have g21 : f 21=_:=h21;have g13 : f 13=_:=h13
       exact tab_no rfl g13 (by decide) rfl
      ·
       obtain ⟨h15, h22, h13, -⟩ := hh;have g15 : f 15=_:=h15;have g22 : f 22=_:=h22;have g13 : f 13=_:=h13
       exact tab_no rfl g13 (by decide) rfl
      ·
       obtain ⟨h23, h13, _, -⟩ := hh;have g23 : f 23=_:=h23;have g13 : f 13=_:=h13
       exact tab_no rfl g13 (by decide) rfl
      ·
       obtain ⟨h24, -⟩ := hh;have g24 : f 24=_:=h24
       exact tab_noU rfl g24 rfl
      ·
       obtain ⟨h25, h24, -⟩ := hh;have g25 : f 25=_:=h25;have g24 : f 24=_:=h24
       exact tab_noU rfl g24 rfl
      ·
       obtain ⟨h24, -⟩ := hh;have g24 : f 24=_:=h24
       exact tab_noU rfl g24 rfl
      ·
       obtain ⟨h27, h24, -⟩ := hh;have g27 : f 27=_:=h27;have g24 : f 24=_:=h24
       exact tab_noU rfl g24 rfl
      ·
       obtain ⟨h24, -⟩ := hh;have g24 : f 24=_:=h24
       exact tab_noU rfl g24 rfl
      ·
       obtain ⟨h29, h24, -⟩ := hh;have g29 : f 29=_:=h29;have g24 : f 24=_:=h24
       exact tab_noU rfl g24 rfl
      ·
       obtain ⟨h28, h30, h24, -⟩ := hh;have g28 : f 28=_:=h28;have g30 : f 30=_:=h30;have g24 : f 24=_:=h24
       exact tab_noU rfl g24 rfl
      ·
       obtain ⟨h31, h24, -⟩ := hh;have g31 : f 31=_:=h31;have g24 : f 24=_:=h24
       exact tab_noU rfl g24 rfl
      ·
       obtain ⟨h32, h24, -⟩ := hh;have g32 : f 32=_:=h32;have g24 : f 24=_:=h24
       exact tab_noU rfl g24 rfl
      ·
       obtain ⟨h26, h33, h24, -⟩ := hh;have g26 : f 26=_:=h26;have g33 : f 33=_:=h33;have g24 : f 24=_:=h24
       exact tab_noU rfl g24 rfl
      ·
       obtain ⟨h24, h34, h13, -⟩ := hh;have g24 : f 24=_:=h24;have g34 : f 34=_:=h34;have g13 : f 13=_:=h13
       exact tab_no rfl g13 (by decide) rfl
      ·
       obtain ⟨h13, h35, h2, -⟩ := hh;have g13 : f 13=_:=h13;have g35 : f 35=_:=h35;have g2 : f 2=_:=h2;refine tab_yes g2 fun K Q hK => ?_;simp only [puts, Za, Zb, Zc, Zd, Ze, g13, g35, g2];go_step;exact fam_e hK rfl rfl (Below.refl _ _) hC
      ·
       obtain ⟨h2, h36, -⟩ := hh;have g2 : f 2=_:=h2;have g36 : f 36=_:=h36;refine tab_plain fun K Q hK => ?_;simp only [puts, Za, Zb, Zc, Zd, Ze, g2, g36];go_step;exact fam_e hK rfl rfl (Below.refl _ _) hC
     case crest =>
      intro f W2 hC hh
      obtain ⟨h0, h1, h2, h3, h4, h5, h6, h7, h8, h9, h10, h11, h12, h13, h14, h15, h16, h17, h18, h19, h20, h21, h22, h23, h24, h25, h26, h27, h28, h29, h30, h31, h32, h33, h34, h35, h36, h37, -⟩ := hh;have g0 : f 0=_:=h0;have g1 : f 1=_:=h1;have g2 : f 2=_:=h2;have g3 : f 3=_:=h3;have g4 : f 4=_:=h4;have g5 : f 5=_:=h5;have g6 : f 6=_:=h6;have g7 : f 7=_:=h7;have g8 : f 8=_:=h8;have g9 : f 9=_:=h9;have g10 : f 10=_:=h10;have g11 : f 11=_:=h11;have g12 : f 12=_:=h12;have g13 : f 13=_:=h13;have g14 : f 14=_:=h14;have g15 : f 15=_:=h15;have g16 : f 16=_:=h16;have g17 : f 17=_:=h17;have g18 : f 18=_:=h18;have g19 : f 19=_:=h19;have g20 : f 20=_:=h20;have g21 : f 21=_:=h21;have g22 : f 22=_:=h22;have g23 : f 23=_:=h23;have g24 : f 24=_:=h24;have g25 : f 25=_:=h25;have g26 : f 26=_:=h26;have g27 : f 27=_:=h27;have g28 : f 28=_:=h28;have g29 : f 29=_:=h29;have g30 : f 30=_:=h30;have g31 : f 31=_:=h31;have g32 : f 32=_:=h32;have g33 : f 33=_:=h33;have g34 : f 34=_:=h34;have g35 : f 35=_:=h35;have g36 : f 36=_:=h36;have g37 : f 37=_:=h37;simp only [puts, Za, Zb, Zc, Zd, Ze, g0, g1, g2, g3, g4, g5, g6, g7, g8, g9, g10, g11, g12, g13, g14, g15, g16, g17, g18, g19, g20, g21, g22, g23, g24, g25, g26, g27, g28, g29, g30, g31, g32, g33, g34, g35, g36, g37]
      clear h0 h1 h2 h3 h4 h5 h6 h7 h8 h9 h10 h11 h12 h13 h14 h15 h16 h17 h18 h19 h20 h21 h22 h23 h24 h25 h26 h27 h28 h29 h30 h31 h32 h33 h34 h35 h36 h37 g0 g1 g2 g3 g4 g5 g6 g7 g8 g9 g10 g11 g12 g13 g14 g15 g16 g17 g18 g19 g20 g21 g22 g23 g24 g25 g26 g27 g28 g29 g30 g31 g32 g33 g34 g35 g36 g37
      go_wp2
      go_ret
      exact ⟨by rw [← HNO.out HQ.out]; rfl, HBN.out.trans (hC.mono HBN.out.size)⟩
    have q6 : decide (x1 < y1) = false := decide_eq_false h11
    by_cases h12 : x1 = y1
    case neg =>
     have q7 : (x1 == y1) = false := by simpa using h12
     have HYY := Lib.hid (HLY.out (show LtA ⟨y1, y2, y3⟩ ⟨x1, x2, x3⟩ by unfold LtA; simp only; omega))
     clear h11 h12
     go_wp2_with (fail)
     refine wp_region_grow mixed (by kernel_rfl) [[], [(0, 83)], [(1, 84)], [(2, 85)], [(3, 86), (2, 85)], [(2, 85)], [(5, 88), (2, 85)], [(2, 85)], [(7, 90), (2, 85)], [(6, 89), (8, 91), (2, 85)], [(9, 92), (2, 85)], [(10, 93), (2, 85)], [(4, 87), (11, 94), (2, 85)], [(12, 95), (2, 85), (2, 85)], [(13, 96)], [(14, 97), (13, 96)], [(13, 96)], [(16, 99), (13, 96)], [(13, 96)], [(18, 101), (13, 96)], [(17, 100), (19, 102), (13, 96)], [(20, 103), (13, 96)], [(21, 104), (13, 96)], [(15, 98), (22, 105), (13, 96)], [(23, 106), (13, 96), (13, 96)], [(24, 107)], [(25, 108), (24, 107)], [(24, 107)], [(27, 110), (24, 107)], [(24, 107)], [(29, 112), (24, 107)], [(28, 111), (30, 113), (24, 107)], [(31, 114), (24, 107)], [(32, 115), (24, 107)], [(26, 109), (33, 116), (24, 107)], [(24, 107), (34, 117), (13, 96)], [(13, 96), (35, 118), (2, 85)], [(2, 85), (36, 119)]] [(0, 83), (1, 84), (2, 85), (3, 86), (4, 87), (5, 88), (6, 89), (7, 90), (8, 91), (9, 92), (10, 93), (11, 94), (12, 95), (13, 96), (14, 97), (15, 98), (16, 99), (17, 100), (18, 101), (19, 102), (20, 103), (21, 104), (22, 105), (23, 106), (24, 107), (25, 108), (26, 109), (27, 110), (28, 111), (29, 112), (30, 113), (31, 114), (32, 115), (33, 116), (34, 117), (35, 118), (36, 119), (37, 120)] rfl rfl [Ex ?ed0, Ex ?ed1, Ex ?ed2, Ex ?ed3, Ex ?ed4, Ex ?ed5, Ex ?ed6, Ex ?ed7, Ex ?ed8, Ex ?ed9, Ex ?ed10, Ex ?ed11, Ex ?ed12, Ex ?ed13, Ex ?ed14, Ex ?ed15, Ex ?ed16, Ex ?ed17, Ex ?ed18, Ex ?ed19, Ex ?ed20, Ex ?ed21, Ex ?ed22, Ex ?ed23, Ex ?ed24, Ex undef, Ex undef, Ex undef, Ex undef, Ex undef, Ex undef, Ex undef, Ex undef, Ex undef, Ex undef, Ex ?ed35, Ex ?ed36, Ex ?ed37] ⟨stays_ex _, stays_ex _, stays_ex _, stays_ex _, stays_ex _, stays_ex _, stays_ex _, stays_ex _, stays_ex _, stays_ex _, stays_ex _, stays_ex _, stays_ex _, stays_ex _, stays_ex _, stays_ex _, stays_ex _, stays_ex _, stays_ex _, stays_ex _, stays_ex _, stays_ex _, stays_ex _, stays_ex _, stays_ex _, stays_ex _, stays_ex _, stays_ex _, stays_ex _, stays_ex _, stays_ex _, stays_ex _, stays_ex _, stays_ex _, stays_ex _, stays_ex _, stays_ex _, stays_ex _, trivial⟩ ?dsteps ?drest
     case dsteps =>
      refine ⟨fun f W hC hh => ?_, fun f W hC hh => ?_, fun f W hC hh => ?_, fun f W hC hh => ?_, fun f W hC hh => ?_, fun f W hC hh => ?_, fun f W hC hh => ?_, fun f W hC hh => ?_, fun f W hC hh => ?_, fun f W hC hh => ?_, fun f W hC hh => ?_, fun f W hC hh => ?_, fun f W hC hh => ?_, fun f W hC hh => ?_, fun f W hC hh => ?_, fun f W hC hh => ?_, fun f W hC hh => ?_, fun f W hC hh => ?_, fun f W hC hh => ?_, fun f W hC hh => ?_, fun f W hC hh => ?_, fun f W hC hh => ?_, fun f W hC hh => ?_, fun f W hC hh => ?_, fun f W hC hh => ?_, fun f W hC hh => ?_, fun f W hC hh => ?_, fun f W hC hh => ?_, fun f W hC hh => ?_, fun f W hC hh => ?_, fun f W hC hh => ?_, fun f W hC hh => ?_, fun f W hC hh => ?_, fun f W hC hh => ?_, fun f W hC hh => ?_, fun f W hC hh => ?_, fun f W hC hh => ?_, fun f W hC hh => ?_, trivial⟩
      ·
       refine tab_plain fun K Q hK => ?_;simp only [puts, foldr_nil];go_step;exact fam_e hK rfl rfl (Below.refl _ _) hC
      ·
       obtain ⟨h0, -⟩ := hh;have g0 : f 0=_:=h0;refine tab_plain fun K Q hK => ?_;simp only [puts, Za, Zb, Zc, Zd, Ze, g0];go_step;exact fam_e hK rfl rfl (Below.refl _ _) hC
      ·
       obtain ⟨h1, -⟩ := hh;have g1 : f 1=_:=h1;refine tab_plain fun K Q hK => ?_;simp only [puts, Za, Zb, Zc, Zd, Ze, g1];go_step;exact fam_e hK rfl rfl (Below.refl _ _) hC
      ·
       obtain ⟨h2, -⟩ := hh;have g2 : f 2=_:=h2;refine tab_yes g2 fun K Q hK => ?_;simp only [puts, Za, Zb, Zc, Zd, Ze, g2];go_step;exact fam_e hK rfl rfl (Below.refl _ _) hC
      ·
       obtain ⟨h3, h2, -⟩ := hh;have g3 : f 3=_:=h3;have g2 : f 2=_:=h2;refine tab_yes g2 fun K Q hK => ?_;simp only [puts, Za, Zb, Zc, Zd, Ze, g3, g2]
       obtain ⟨⟨f1, f2, f3, f4⟩, f5, f6, f7⟩ := hcm W hC
       obtain ⟨f8, f9, f10⟩ := hcp W hC
       go_step;exact fam_e hK rfl rfl (Below.refl _ _) hC
      ·
       obtain ⟨h2, -⟩ := hh;have g2 : f 2=_:=h2;refine tab_yes g2 fun K Q hK => ?_;simp only [puts, Za, Zb, Zc, Zd, Ze, g2];go_step;exact fam_e hK rfl rfl (Below.refl _ _) hC
      ·
       obtain ⟨h5, h2, -⟩ := hh;have g5 : f 5=_:=h5;have g2 : f 2=_:=h2;refine tab_yes g2 fun K Q hK => ?_;simp only [puts, Za, Zb, Zc, Zd, Ze, g5, g2]
       obtain ⟨⟨f1, f2, f3, f4⟩, f5, f6, f7⟩ := hcm W hC
       obtain ⟨f8, f9, f10⟩ := hcp W hC
       go_step;exact fam_e hK rfl rfl (Below.refl _ _) hC
      ·
       obtain ⟨h2, -⟩ := hh;have g2 : f 2=_:=h2;refine tab_yes g2 fun K Q hK => ?_;simp only [puts, Za, Zb, Zc, Zd, Ze, g2];go_step;exact fam_e hK rfl rfl (Below.refl _ _) hC
      ·
       obtain ⟨h7, h2, -⟩ := hh;have g7 : f 7=_:=h7;have g2 : f 2=_:=h2;refine tab_yes g2 fun K Q hK => ?_;simp only [puts, Za, Zb, Zc, Zd, Ze, g7, g2];go_step;exact fam_e hK rfl rfl (Below.refl _ _) hC
      ·
       obtain ⟨h6, h8, h2, -⟩ := hh;have g6 : f 6=_:=h6;have g8 : f 8=_:=h8;have g2 : f 2=_:=h2;refine tab_yes g2 fun K Q hK => ?_;simp only [puts, Za, Zb, Zc, Zd, Ze, g6, g8, g2];go_step;exact fam_e hK rfl rfl (Below.refl _ _) hC
      ·
       obtain ⟨h9, h2, -⟩ := hh;have g9 : f 9=_:=h9;have g2 : f 2=_:=h2;refine tab_yes g2 fun K Q hK => ?_;simp only [puts, Za, Zb, Zc, Zd, Ze, g9, g2];go_step;exact fam_e hK rfl rfl (Below.refl _ _) hC
      ·
       obtain ⟨h10, h2, -⟩ := hh;have g10 : f 10=_:=h10;have g2 : f 2=_:=h2;refine tab_yes g2 fun K Q hK => ?_;simp only [puts, Za, Zb, Zc, Zd, Ze, g10, g2]
       obtain ⟨⟨f1, f2, f3, f4⟩, f5, f6, f7⟩ := hcm W hC
       obtain ⟨f8, f9, f10⟩ := hcp W hC
       go_step;exact fam_e hK rfl rfl (Below.refl _ _) hC
      ·
       obtain ⟨h4, h11, h2, -⟩ := hh;have g4 : f 4=_:=h4;have g11 : f 11=_:=h11;have g2 : f 2=_:=h2;refine tab_yes g2 fun K Q hK => ?_;simp only [puts, Za, Zb, Zc, Zd, Ze, g4, g11, g2];go_step;exact fam_e hK rfl rfl (Below.refl _ _) hC
      ·
       obtain ⟨h12, h2, _, -⟩ := hh;have g12 : f 12=_:=h12;have g2 : f 2=_:=h2;refine tab_yes g2 fun K Q hK => ?_;simp only [puts, Za, Zb, Zc, Zd, Ze, g12, g2];go_step;exact fam_e hK rfl rfl (Below.refl _ _) hC
      ·
       obtain ⟨h13, -⟩ := hh;have g13 : f 13=_:=h13;refine tab_yes g13 fun K Q hK => ?_;simp only [puts, Za, Zb, Zc, Zd, Ze, g13];go_step;exact fam_e hK rfl rfl (Below.refl _ _) hC
      ·
       obtain ⟨h14, h13, -⟩ := hh;have g14 : f 14=_:=h14;have g13 : f 13=_:=h13;refine tab_yes g13 fun K Q hK => ?_;simp only [puts, Za, Zb, Zc, Zd, Ze, g14, g13]
       obtain ⟨⟨f1, f2, f3, f4⟩, f5, f6, f7⟩ := hcm W hC
       obtain ⟨f8, f9, f10⟩ := hcp W hC
       go_step;exact fam_e hK rfl rfl (Below.refl _ _) hC
      ·
       obtain ⟨h13, -⟩ := hh;have g13 : f 13=_:=h13;refine tab_yes g13 fun K Q hK => ?_;simp only [puts, Za, Zb, Zc, Zd, Ze, g13];go_step;exact fam_e hK rfl rfl (Below.refl _ _) hC
      ·
       obtain ⟨h16, h13, -⟩ := hh;have g16 : f 16=_:=h16;have g13 : f 13=_:=h13;refine tab_yes g13 fun K Q hK => ?_;simp only [puts, Za, Zb, Zc, Zd, Ze, g16, g13]
       obtain ⟨⟨f1, f2, f3, f4⟩, f5, f6, f7⟩ := hcm W hC
       obtain ⟨f8, f9, f10⟩ := hcp W hC
       go_step;exact fam_e hK rfl rfl (Below.refl _ _) hC
      ·
       obtain ⟨h13, -⟩ := hh;have g13 : f 13=_:=h13;refine tab_yes g13 fun K Q hK => ?_;simp only [puts, Za, Zb, Zc, Zd, Ze, g13];go_step;exact fam_e hK rfl rfl (Below.refl _ _) hC
      ·
       obtain ⟨h18, h13, -⟩ := hh;have g18 : f 18=_:=h18;have g13 : f 13=_:=h13;refine tab_yes g13 fun K Q hK => ?_;simp only [puts, Za, Zb, Zc, Zd, Ze, g18, g13];go_step;exact fam_e hK rfl rfl (Below.refl _ _) hC
      ·
       obtain ⟨h17, h19, h13, -⟩ := hh;have g17 : f 17=_:=h17;have g19 : f 19=_:=h19;have g13 : f 13=_:=h13;refine tab_yes g13 fun K Q hK => ?_;simp only [puts, Za, Zb, Zc, Zd, Ze, g17, g19, g13];go_step;exact fam_e hK rfl rfl (Below.refl _ _) hC
      ·
       obtain ⟨h20, h13, -⟩ := hh;have g20 : f 20=_:=h20;have g13 : f 13=_:=h13;refine tab_yes g13 fun K Q hK => ?_;simp only [puts, Za, Zb, Zc, Zd, Ze, g20, g13];go_step;exact fam_e hK rfl rfl (Below.refl _ _) hC
      ·
       obtain ⟨h21, h13, -⟩ := hh;have g21 : f 21=_:=h21;have g13 : f 13=_:=h13;refine tab_yes g13 fun K Q hK => ?_;simp only [puts, Za, Zb, Zc, Zd, Ze, g21, g13]
       obtain ⟨⟨f1, f2, f3, f4⟩, f5, f6, f7⟩ := hcm W hC
       obtain ⟨f8, f9, f10⟩ := hcp W hC
       go_step;exact fam_e hK rfl rfl (Below.refl _ _) hC
      ·
       obtain ⟨h15, h22, h13, -⟩ := hh;have g15 : f 15=_:=h15;have g22 : f 22=_:=h22;have g13 : f 13=_:=h13;refine tab_yes g13 fun K Q hK => ?_;simp only [puts, Za, Zb, Zc, Zd, Ze, g15, g22, g13];go_step;exact fam_e hK rfl rfl (Below.refl _ _) hC
      ·
       obtain ⟨h23, h13, _, -⟩ := hh;have g23 : f 23=_:=h23;have g13 : f 13=_:=h13;refine tab_yes g13 fun K Q hK => ?_;simp only [puts, Za, Zb, Zc, Zd, Ze, g23, g13];go_step;exact fam_e hK rfl rfl (Below.refl _ _) hC
      ·
       obtain ⟨h24, -⟩ := hh;have g24 : f 24=_:=h24
       exact tab_no rfl g24 (by decide) rfl
      ·
       obtain ⟨h25, h24, -⟩ := hh;have g25 : f 25=_:=h25;have g24 : f 24=_:=h24
       exact tab_no rfl g24 (by decide) rfl
      ·
       obtain ⟨h24, -⟩ := hh;have g24 : f 24=_:=h24
       exact tab_no rfl g24 (by decide) rfl
      ·
       obtain ⟨h27, h24, -⟩ := hh;have g27 : f 27=_:=h27;have g24 : f 24=_:=h24
       exact tab_no rfl g24 (by decide) rfl
      ·
       obtain ⟨h24, -⟩ := hh;have g24 : f 24=_:=h24
       exact tab_no rfl g24 (by decide) rfl
      ·
       obtain ⟨h29, h24, -⟩ := hh;have g29 : f 29=_:=h29;have g24 : f 24=_:=h24
       exact tab_no rfl g24 (by decide) rfl
      ·
       obtain ⟨h28, h30, h24, -⟩ := hh;have g28 : f 28=_:=h28;have g30 : f 30=_:=h30;have g24 : f 24=_:=h24
       exact tab_no rfl g24 (by decide) rfl
      ·
       obtain ⟨h31, h24, -⟩ := hh;have g31 : f 31=_:=h31;have g24 : f 24=_:=h24
       exact tab_no rfl g24 (by decide) rfl
      ·
       obtain ⟨h32, h24, -⟩ := hh;have g32 : f 32=_:=h32;have g24 : f 24=_:=h24
       exact tab_no rfl g24 (by decide) rfl
      ·
       obtain ⟨h26, h33, h24, -⟩ := hh;have g26 : f 26=_:=h26;have g33 : f 33=_:=h33;have g24 : f 24=_:=h24
       exact tab_no rfl g24 (by decide) rfl
      ·
       obtain ⟨h24, h34, h13, -⟩ := hh;have g24 : f 24=_:=h24;have g34 : f 34=_:=h34;have g13 : f 13=_:=h13;refine tab_yes g13 fun K Q hK => ?_;simp only [puts, Za, Zb, Zc, Zd, Ze, g24, g34, g13];go_step;exact fam_e hK rfl rfl (Below.refl _ _) hC
      ·
       obtain ⟨h13, h35, h2, -⟩ := hh;have g13 : f 13=_:=h13;have g35 : f 35=_:=h35;have g2 : f 2=_:=h2;refine tab_yes g2 fun K Q hK => ?_;simp only [puts, Za, Zb, Zc, Zd, Ze, g13, g35, g2];go_step;exact fam_e hK rfl rfl (Below.refl _ _) hC
      ·
       obtain ⟨h2, h36, -⟩ := hh;have g2 : f 2=_:=h2;have g36 : f 36=_:=h36;refine tab_plain fun K Q hK => ?_;simp only [puts, Za, Zb, Zc, Zd, Ze, g2, g36];go_step;exact fam_e hK rfl rfl (Below.refl _ _) hC
     case drest =>
      intro f W2 hC hh
      obtain ⟨h0, h1, h2, h3, h4, h5, h6, h7, h8, h9, h10, h11, h12, h13, h14, h15, h16, h17, h18, h19, h20, h21, h22, h23, h24, h25, h26, h27, h28, h29, h30, h31, h32, h33, h34, h35, h36, h37, -⟩ := hh;have g0 : f 0=_:=h0;have g1 : f 1=_:=h1;have g2 : f 2=_:=h2;have g3 : f 3=_:=h3;have g4 : f 4=_:=h4;have g5 : f 5=_:=h5;have g6 : f 6=_:=h6;have g7 : f 7=_:=h7;have g8 : f 8=_:=h8;have g9 : f 9=_:=h9;have g10 : f 10=_:=h10;have g11 : f 11=_:=h11;have g12 : f 12=_:=h12;have g13 : f 13=_:=h13;have g14 : f 14=_:=h14;have g15 : f 15=_:=h15;have g16 : f 16=_:=h16;have g17 : f 17=_:=h17;have g18 : f 18=_:=h18;have g19 : f 19=_:=h19;have g20 : f 20=_:=h20;have g21 : f 21=_:=h21;have g22 : f 22=_:=h22;have g23 : f 23=_:=h23;have g24 : f 24=_:=h24;have g25 : f 25=_:=h25;have g26 : f 26=_:=h26;have g27 : f 27=_:=h27;have g28 : f 28=_:=h28;have g29 : f 29=_:=h29;have g30 : f 30=_:=h30;have g31 : f 31=_:=h31;have g32 : f 32=_:=h32;have g33 : f 33=_:=h33;have g34 : f 34=_:=h34;have g35 : f 35=_:=h35;have g36 : f 36=_:=h36;have g37 : f 37=_:=h37;simp only [puts, Za, Zb, Zc, Zd, Ze, g0, g1, g2, g3, g4, g5, g6, g7, g8, g9, g10, g11, g12, g13, g14, g15, g16, g17, g18, g19, g20, g21, g22, g23, g24, g25, g26, g27, g28, g29, g30, g31, g32, g33, g34, g35, g36, g37]
      clear h0 h1 h2 h3 h4 h5 h6 h7 h8 h9 h10 h11 h12 h13 h14 h15 h16 h17 h18 h19 h20 h21 h22 h23 h24 h25 h26 h27 h28 h29 h30 h31 h32 h33 h34 h35 h36 h37 g0 g1 g2 g3 g4 g5 g6 g7 g8 g9 g10 g11 g12 g13 g14 g15 g16 g17 g18 g19 g20 g21 g22 g23 g24 g25 g26 g27 g28 g29 g30 g31 g32 g33 g34 g35 g36 g37
      go_wp2
      go_roundw
      case rel =>
       refine ⟨k + 1, by omega, by go_num, Lib.hid fun i hi => ?_, HBWN.out.trans (hC.mono hszn)⟩
       rcases Nat.lt_or_ge i k with h | h
       ·exact HA.out i h
       ·rw [show i = k by omega]; unfold ArcOk; rw [HX.out]; exact ⟨⟨H6.out, H7.out⟩, H8.out, fun _ => HYY.out⟩
      case measure => simp [intOf]; omega
    have q7 : (x1 == y1) = true := by simpa using h12
    by_cases h13 : x2 ≤ y2
    ·have q8 : decide (x2 ≤ y2) = true := decide_eq_true h13
     have HQ : Hid (¬ ArcOk n es k) := Lib.hid fun h => by have := HLT.out h; unfold LtA at this; simp only at this; omega
     clear h11 h12 h13
     go_wp2_with (fail)
     refine wp_region_grow mixed (by kernel_rfl) [[], [(0, 83)], [(1, 84)], [(2, 85)], [(3, 86), (2, 85)], [(2, 85)], [(5, 88), (2, 85)], [(2, 85)], [(7, 90), (2, 85)], [(6, 89), (8, 91), (2, 85)], [(9, 92), (2, 85)], [(10, 93), (2, 85)], [(4, 87), (11, 94), (2, 85)], [(12, 95), (2, 85), (2, 85)], [(13, 96)], [(14, 97), (13, 96)], [(13, 96)], [(16, 99), (13, 96)], [(13, 96)], [(18, 101), (13, 96)], [(17, 100), (19, 102), (13, 96)], [(20, 103), (13, 96)], [(21, 104), (13, 96)], [(15, 98), (22, 105), (13, 96)], [(23, 106), (13, 96), (13, 96)], [(24, 107)], [(25, 108), (24, 107)], [(24, 107)], [(27, 110), (24, 107)], [(24, 107)], [(29, 112), (24, 107)], [(28, 111), (30, 113), (24, 107)], [(31, 114), (24, 107)], [(32, 115), (24, 107)], [(26, 109), (33, 116), (24, 107)], [(24, 107), (34, 117), (13, 96)], [(13, 96), (35, 118), (2, 85)], [(2, 85), (36, 119)]] [(0, 83), (1, 84), (2, 85), (3, 86), (4, 87), (5, 88), (6, 89), (7, 90), (8, 91), (9, 92), (10, 93), (11, 94), (12, 95), (13, 96), (14, 97), (15, 98), (16, 99), (17, 100), (18, 101), (19, 102), (20, 103), (21, 104), (22, 105), (23, 106), (24, 107), (25, 108), (26, 109), (27, 110), (28, 111), (29, 112), (30, 113), (31, 114), (32, 115), (33, 116), (34, 117), (35, 118), (36, 119), (37, 120)] rfl rfl [Ex ?ee0, Ex ?ee1, Ex ?ee2, Ex ?ee3, Ex ?ee4, Ex ?ee5, Ex ?ee6, Ex ?ee7, Ex ?ee8, Ex ?ee9, Ex ?ee10, Ex ?ee11, Ex ?ee12, Ex ?ee13, Ex ?ee14, Ex ?ee15, Ex ?ee16, Ex ?ee17, Ex ?ee18, Ex ?ee19, Ex ?ee20, Ex ?ee21, Ex ?ee22, Ex ?ee23, Ex ?ee24, Ex ?ee25, Ex ?ee26, Ex ?ee27, Ex ?ee28, Ex ?ee29, Ex ?ee30, Ex ?ee31, Ex ?ee32, Ex ?ee33, Ex ?ee34, Ex ?ee35, Ex ?ee36, Ex ?ee37] ⟨stays_ex _, stays_ex _, stays_ex _, stays_ex _, stays_ex _, stays_ex _, stays_ex _, stays_ex _, stays_ex _, stays_ex _, stays_ex _, stays_ex _, stays_ex _, stays_ex _, stays_ex _, stays_ex _, stays_ex _, stays_ex _, stays_ex _, stays_ex _, stays_ex _, stays_ex _, stays_ex _, stays_ex _, stays_ex _, stays_ex _, stays_ex _, stays_ex _, stays_ex _, stays_ex _, stays_ex _, stays_ex _, stays_ex _, stays_ex _, stays_ex _, stays_ex _, stays_ex _, stays_ex _, trivial⟩ ?esteps ?erest
     case esteps =>
      refine ⟨fun f W hC hh => ?_, fun f W hC hh => ?_, fun f W hC hh => ?_, fun f W hC hh => ?_, fun f W hC hh => ?_, fun f W hC hh => ?_, fun f W hC hh => ?_, fun f W hC hh => ?_, fun f W hC hh => ?_, fun f W hC hh => ?_, fun f W hC hh => ?_, fun f W hC hh => ?_, fun f W hC hh => ?_, fun f W hC hh => ?_, fun f W hC hh => ?_, fun f W hC hh => ?_, fun f W hC hh => ?_, fun f W hC hh => ?_, fun f W hC hh => ?_, fun f W hC hh => ?_, fun f W hC hh => ?_, fun f W hC hh => ?_, fun f W hC hh => ?_, fun f W hC hh => ?_, fun f W hC hh => ?_, fun f W hC hh => ?_, fun f W hC hh => ?_, fun f W hC hh => ?_, fun f W hC hh => ?_, fun f W hC hh => ?_, fun f W hC hh => ?_, fun f W hC hh => ?_, fun f W hC hh => ?_, fun f W hC hh => ?_, fun f W hC hh => ?_, fun f W hC hh => ?_, fun f W hC hh => ?_, fun f W hC hh => ?_, trivial⟩
      ·
       refine tab_plain fun K Q hK => ?_;simp only [puts, foldr_nil];go_step;exact fam_e hK rfl rfl (Below.refl _ _) hC
      ·
       obtain ⟨h0, -⟩ := hh;have g0 : f 0=_:=h0;refine tab_plain fun K Q hK => ?_;simp only [puts, Za, Zb, Zc, Zd, Ze, g0];go_step;exact fam_e hK rfl rfl (Below.refl _ _) hC
      ·
       obtain ⟨h1, -⟩ := hh;have g1 : f 1=_:=h1;refine tab_plain fun K Q hK => ?_;simp only [puts, Za, Zb, Zc, Zd, Ze, g1];go_step;exact fam_e hK rfl rfl (Below.refl _ _) hC
      ·
       obtain ⟨h2, -⟩ := hh;have g2 : f 2=_:=h2;refine tab_yes g2 fun K Q hK => ?_;simp only [puts, Za, Zb, Zc, Zd, Ze, g2];go_step;exact fam_e hK rfl rfl (Below.refl _ _) hC
      ·
       obtain ⟨h3, h2, -⟩ := hh;have g3 : f 3=_:=h3;have g2 : f 2=_:=h2;refine tab_yes g2 fun K Q hK => ?_;simp only [puts, Za, Zb, Zc, Zd, Ze, g3, g2]
       obtain ⟨⟨f1, f2, f3, f4⟩, f5, f6, f7⟩ := hcm W hC
       obtain ⟨f8, f9, f10⟩ := hcp W hC
       go_step;exact fam_e hK rfl rfl (Below.refl _ _) hC
      ·
       obtain ⟨h2, -⟩ := hh;have g2 : f 2=_:=h2;refine tab_yes g2 fun K Q hK => ?_;simp only [puts, Za, Zb, Zc, Zd, Ze, g2];go_step;exact fam_e hK rfl rfl (Below.refl _ _) hC
      ·
       obtain ⟨h5, h2, -⟩ := hh;have g5 : f 5=_:=h5;have g2 : f 2=_:=h2;refine tab_yes g2 fun K Q hK => ?_;simp only [puts, Za, Zb, Zc, Zd, Ze, g5, g2]
       obtain ⟨⟨f1, f2, f3, f4⟩, f5, f6, f7⟩ := hcm W hC
       obtain ⟨f8, f9, f10⟩ := hcp W hC
       go_step;exact fam_e hK rfl rfl (Below.refl _ _) hC
      ·
       obtain ⟨h2, -⟩ := hh;have g2 : f 2=_:=h2;refine tab_yes g2 fun K Q hK => ?_;simp only [puts, Za, Zb, Zc, Zd, Ze, g2];go_step;exact fam_e hK rfl rfl (Below.refl _ _) hC
      ·
       obtain ⟨h7, h2, -⟩ := hh;have g7 : f 7=_:=h7;have g2 : f 2=_:=h2;refine tab_yes g2 fun K Q hK => ?_;simp only [puts, Za, Zb, Zc, Zd, Ze, g7, g2];go_step;exact fam_e hK rfl rfl (Below.refl _ _) hC
      ·
       obtain ⟨h6, h8, h2, -⟩ := hh;have g6 : f 6=_:=h6;have g8 : f 8=_:=h8;have g2 : f 2=_:=h2;refine tab_yes g2 fun K Q hK => ?_;simp only [puts, Za, Zb, Zc, Zd, Ze, g6, g8, g2];go_step;exact fam_e hK rfl rfl (Below.refl _ _) hC
      ·
       obtain ⟨h9, h2, -⟩ := hh;have g9 : f 9=_:=h9;have g2 : f 2=_:=h2;refine tab_yes g2 fun K Q hK => ?_;simp only [puts, Za, Zb, Zc, Zd, Ze, g9, g2];go_step;exact fam_e hK rfl rfl (Below.refl _ _) hC
      ·
       obtain ⟨h10, h2, -⟩ := hh;have g10 : f 10=_:=h10;have g2 : f 2=_:=h2;refine tab_yes g2 fun K Q hK => ?_;simp only [puts, Za, Zb, Zc, Zd, Ze, g10, g2]
       obtain ⟨⟨f1, f2, f3, f4⟩, f5, f6, f7⟩ := hcm W hC
       obtain ⟨f8, f9, f10⟩ := hcp W hC
       go_step;exact fam_e hK rfl rfl (Below.refl _ _) hC
      ·
       obtain ⟨h4, h11, h2, -⟩ := hh;have g4 : f 4=_:=h4;have g11 : f 11=_:=h11;have g2 : f 2=_:=h2;refine tab_yes g2 fun K Q hK => ?_;simp only [puts, Za, Zb, Zc, Zd, Ze, g4, g11, g2];go_step;exact fam_e hK rfl rfl (Below.refl _ _) hC
      ·
       obtain ⟨h12, h2, _, -⟩ := hh;have g12 : f 12=_:=h12;have g2 : f 2=_:=h2;refine tab_yes g2 fun K Q hK => ?_;simp only [puts, Za, Zb, Zc, Zd, Ze, g12, g2];go_step;exact fam_e hK rfl rfl (Below.refl _ _) hC
      ·
       obtain ⟨h13, -⟩ := hh;have g13 : f 13=_:=h13;refine tab_yes g13 fun K Q hK => ?_;simp only [puts, Za, Zb, Zc, Zd, Ze, g13];go_step;exact fam_e hK rfl rfl (Below.refl _ _) hC
      ·
       obtain ⟨h14, h13, -⟩ := hh;have g14 : f 14=_:=h14;have g13 : f 13=_:=h13;refine tab_yes g13 fun K Q hK => ?_;simp only [puts, Za, Zb, Zc, Zd, Ze, g14, g13]
       obtain ⟨⟨f1, f2, f3, f4⟩, f5, f6, f7⟩ := hcm W hC
       obtain ⟨f8, f9, f10⟩ := hcp W hC
       go_step;exact fam_e hK rfl rfl (Below.refl _ _) hC
      ·
       obtain ⟨h13, -⟩ := hh;have g13 : f 13=_:=h13;refine tab_yes g13 fun K Q hK => ?_;simp only [puts, Za, Zb, Zc, Zd, Ze, g13];go_step;exact fam_e hK rfl rfl (Below.refl _ _) hC
      ·
       obtain ⟨h16, h13, -⟩ := hh;have g16 : f 16=_:=h16;have g13 : f 13=_:=h13;refine tab_yes g13 fun K Q hK => ?_;simp only [puts, Za, Zb, Zc, Zd, Ze, g16, g13]
       obtain ⟨⟨f1, f2, f3, f4⟩, f5, f6, f7⟩ := hcm W hC
       obtain ⟨f8, f9, f10⟩ := hcp W hC
       go_step;exact fam_e hK rfl rfl (Below.refl _ _) hC
      ·
       obtain ⟨h13, -⟩ := hh;have g13 : f 13=_:=h13;refine tab_yes g13 fun K Q hK => ?_;simp only [puts, Za, Zb, Zc, Zd, Ze, g13];go_step;exact fam_e hK rfl rfl (Below.refl _ _) hC
      ·
       obtain ⟨h18, h13, -⟩ := hh;have g18 : f 18=_:=h18;have g13 : f 13=_:=h13;refine tab_yes g13 fun K Q hK => ?_;simp only [puts, Za, Zb, Zc, Zd, Ze, g18, g13];go_step;exact fam_e hK rfl rfl (Below.refl _ _) hC
      ·
       obtain ⟨h17, h19, h13, -⟩ := hh;have g17 : f 17=_:=h17;have g19 : f 19=_:=h19;have g13 : f 13=_:=h13;refine tab_yes g13 fun K Q hK => ?_;simp only [puts, Za, Zb, Zc, Zd, Ze, g17, g19, g13];go_step;exact fam_e hK rfl rfl (Below.refl _ _) hC
      ·
       obtain ⟨h20, h13, -⟩ := hh;have g20 : f 20=_:=h20;have g13 : f 13=_:=h13;refine tab_yes g13 fun K Q hK => ?_;simp only [puts, Za, Zb, Zc, Zd, Ze, g20, g13];go_step;exact fam_e hK rfl rfl (Below.refl _ _) hC
      ·
       obtain ⟨h21, h13, -⟩ := hh;have g21 : f 21=_:=h21;have g13 : f 13=_:=h13;refine tab_yes g13 fun K Q hK => ?_;simp only [puts, Za, Zb, Zc, Zd, Ze, g21, g13]
       obtain ⟨⟨f1, f2, f3, f4⟩, f5, f6, f7⟩ := hcm W hC
       obtain ⟨f8, f9, f10⟩ := hcp W hC
       go_step;exact fam_e hK rfl rfl (Below.refl _ _) hC
      ·
       obtain ⟨h15, h22, h13, -⟩ := hh;have g15 : f 15=_:=h15;have g22 : f 22=_:=h22;have g13 : f 13=_:=h13;refine tab_yes g13 fun K Q hK => ?_;simp only [puts, Za, Zb, Zc, Zd, Ze, g15, g22, g13];go_step;exact fam_e hK rfl rfl (Below.refl _ _) hC
      ·
       obtain ⟨h23, h13, _, -⟩ := hh;have g23 : f 23=_:=h23;have g13 : f 13=_:=h13;refine tab_yes g13 fun K Q hK => ?_;simp only [puts, Za, Zb, Zc, Zd, Ze, g23, g13];go_step;exact fam_e hK rfl rfl (Below.refl _ _) hC
      ·
       obtain ⟨h24, -⟩ := hh;have g24 : f 24=_:=h24;refine tab_yes g24 fun K Q hK => ?_;simp only [puts, Za, Zb, Zc, Zd, Ze, g24];go_step;exact fam_e hK rfl rfl (Below.refl _ _) hC
      ·
       obtain ⟨h25, h24, -⟩ := hh;have g25 : f 25=_:=h25;have g24 : f 24=_:=h24;refine tab_yes g24 fun K Q hK => ?_;simp only [puts, Za, Zb, Zc, Zd, Ze, g25, g24]
       obtain ⟨⟨f1, f2, f3, f4⟩, f5, f6, f7⟩ := hcm W hC
       obtain ⟨f8, f9, f10⟩ := hcp W hC
       go_step;exact fam_e hK rfl rfl (Below.refl _ _) hC
      ·
       obtain ⟨h24, -⟩ := hh;have g24 : f 24=_:=h24;refine tab_yes g24 fun K Q hK => ?_;simp only [puts, Za, Zb, Zc, Zd, Ze, g24];go_step;exact fam_e hK rfl rfl (Below.refl _ _) hC
      ·
       obtain ⟨h27, h24, -⟩ := hh;have g27 : f 27=_:=h27;have g24 : f 24=_:=h24;refine tab_yes g24 fun K Q hK => ?_;simp only [puts, Za, Zb, Zc, Zd, Ze, g27, g24]
       obtain ⟨⟨f1, f2, f3, f4⟩, f5, f6, f7⟩ := hcm W hC
       obtain ⟨f8, f9, f10⟩ := hcp W hC
       go_step;exact fam_e hK rfl rfl (Below.refl _ _) hC
      ·
       obtain ⟨h24, -⟩ := hh;have g24 : f 24=_:=h24;refine tab_yes g24 fun K Q hK => ?_;simp only [puts, Za, Zb, Zc, Zd, Ze, g24];go_step;exact fam_e hK rfl rfl (Below.refl _ _) hC
      ·
       obtain ⟨h29, h24, -⟩ := hh;have g29 : f 29=_:=h29;have g24 : f 24=_:=h24;refine tab_yes g24 fun K Q hK => ?_;simp only [puts, Za, Zb, Zc, Zd, Ze, g29, g24];go_step;exact fam_e hK rfl rfl (Below.refl _ _) hC
      ·
       obtain ⟨h28, h30, h24, -⟩ := hh;have g28 : f 28=_:=h28;have g30 : f 30=_:=h30;have g24 : f 24=_:=h24;refine tab_yes g24 fun K Q hK => ?_;simp only [puts, Za, Zb, Zc, Zd, Ze, g28, g30, g24];go_step;exact fam_e hK rfl rfl (Below.refl _ _) hC
      ·
       obtain ⟨h31, h24, -⟩ := hh;have g31 : f 31=_:=h31;have g24 : f 24=_:=h24;refine tab_yes g24 fun K Q hK => ?_;simp only [puts, Za, Zb, Zc, Zd, Ze, g31, g24];go_step;exact fam_e hK rfl rfl (Below.refl _ _) hC
      ·
       obtain ⟨h32, h24, -⟩ := hh;have g32 : f 32=_:=h32;have g24 : f 24=_:=h24;refine tab_yes g24 fun K Q hK => ?_;simp only [puts, Za, Zb, Zc, Zd, Ze, g32, g24]
       obtain ⟨⟨f1, f2, f3, f4⟩, f5, f6, f7⟩ := hcm W hC
       obtain ⟨f8, f9, f10⟩ := hcp W hC
       go_step;exact fam_e hK rfl rfl (Below.refl _ _) hC
      ·
       obtain ⟨h26, h33, h24, -⟩ := hh;have g26 : f 26=_:=h26;have g33 : f 33=_:=h33;have g24 : f 24=_:=h24;refine tab_yes g24 fun K Q hK => ?_;simp only [puts, Za, Zb, Zc, Zd, Ze, g26, g33, g24];go_step;exact fam_e hK rfl rfl (Below.refl _ _) hC
      ·
       obtain ⟨h24, h34, h13, -⟩ := hh;have g24 : f 24=_:=h24;have g34 : f 34=_:=h34;have g13 : f 13=_:=h13;refine tab_yes g13 fun K Q hK => ?_;simp only [puts, Za, Zb, Zc, Zd, Ze, g24, g34, g13];go_step;exact fam_e hK rfl rfl (Below.refl _ _) hC
      ·
       obtain ⟨h13, h35, h2, -⟩ := hh;have g13 : f 13=_:=h13;have g35 : f 35=_:=h35;have g2 : f 2=_:=h2;refine tab_yes g2 fun K Q hK => ?_;simp only [puts, Za, Zb, Zc, Zd, Ze, g13, g35, g2];go_step;exact fam_e hK rfl rfl (Below.refl _ _) hC
      ·
       obtain ⟨h2, h36, -⟩ := hh;have g2 : f 2=_:=h2;have g36 : f 36=_:=h36;refine tab_plain fun K Q hK => ?_;simp only [puts, Za, Zb, Zc, Zd, Ze, g2, g36];go_step;exact fam_e hK rfl rfl (Below.refl _ _) hC
     case erest =>
      intro f W2 hC hh
      obtain ⟨h0, h1, h2, h3, h4, h5, h6, h7, h8, h9, h10, h11, h12, h13, h14, h15, h16, h17, h18, h19, h20, h21, h22, h23, h24, h25, h26, h27, h28, h29, h30, h31, h32, h33, h34, h35, h36, h37, -⟩ := hh;have g0 : f 0=_:=h0;have g1 : f 1=_:=h1;have g2 : f 2=_:=h2;have g3 : f 3=_:=h3;have g4 : f 4=_:=h4;have g5 : f 5=_:=h5;have g6 : f 6=_:=h6;have g7 : f 7=_:=h7;have g8 : f 8=_:=h8;have g9 : f 9=_:=h9;have g10 : f 10=_:=h10;have g11 : f 11=_:=h11;have g12 : f 12=_:=h12;have g13 : f 13=_:=h13;have g14 : f 14=_:=h14;have g15 : f 15=_:=h15;have g16 : f 16=_:=h16;have g17 : f 17=_:=h17;have g18 : f 18=_:=h18;have g19 : f 19=_:=h19;have g20 : f 20=_:=h20;have g21 : f 21=_:=h21;have g22 : f 22=_:=h22;have g23 : f 23=_:=h23;have g24 : f 24=_:=h24;have g25 : f 25=_:=h25;have g26 : f 26=_:=h26;have g27 : f 27=_:=h27;have g28 : f 28=_:=h28;have g29 : f 29=_:=h29;have g30 : f 30=_:=h30;have g31 : f 31=_:=h31;have g32 : f 32=_:=h32;have g33 : f 33=_:=h33;have g34 : f 34=_:=h34;have g35 : f 35=_:=h35;have g36 : f 36=_:=h36;have g37 : f 37=_:=h37;simp only [puts, Za, Zb, Zc, Zd, Ze, g0, g1, g2, g3, g4, g5, g6, g7, g8, g9, g10, g11, g12, g13, g14, g15, g16, g17, g18, g19, g20, g21, g22, g23, g24, g25, g26, g27, g28, g29, g30, g31, g32, g33, g34, g35, g36, g37]
      clear h0 h1 h2 h3 h4 h5 h6 h7 h8 h9 h10 h11 h12 h13 h14 h15 h16 h17 h18 h19 h20 h21 h22 h23 h24 h25 h26 h27 h28 h29 h30 h31 h32 h33 h34 h35 h36 h37 g0 g1 g2 g3 g4 g5 g6 g7 g8 g9 g10 g11 g12 g13 g14 g15 g16 g17 g18 g19 g20 g21 g22 g23 g24 g25 g26 g27 g28 g29 g30 g31 g32 g33 g34 g35 g36 g37
      go_wp2
      go_ret
      exact ⟨by rw [← HNO.out HQ.out]; rfl, HBN.out.trans (hC.mono HBN.out.size)⟩
    ·have q8 : decide (x2 ≤ y2) = false := decide_eq_false h13
     have HYY := Lib.hid (HLY.out (show LtA ⟨y1, y2, y3⟩ ⟨x1, x2, x3⟩ by unfold LtA; simp only; omega))
     clear h11 h12 h13
     go_wp2_with (fail)
     refine wp_region_grow mixed (by kernel_rfl) [[], [(0, 83)], [(1, 84)], [(2, 85)], [(3, 86), (2, 85)], [(2, 85)], [(5, 88), (2, 85)], [(2, 85)], [(7, 90), (2, 85)], [(6, 89), (8, 91), (2, 85)], [(9, 92), (2, 85)], [(10, 93), (2, 85)], [(4, 87), (11, 94), (2, 85)], [(12, 95), (2, 85), (2, 85)], [(13, 96)], [(14, 97), (13, 96)], [(13, 96)], [(16, 99), (13, 96)], [(13, 96)], [(18, 101), (13, 96)], [(17, 100), (19, 102), (13, 96)], [(20, 103), (13, 96)], [(21, 104), (13, 96)], [(15, 98), (22, 105), (13, 96)], [(23, 106), (13, 96), (13, 96)], [(24, 107)], [(25, 108), (24, 107)], [(24, 107)], [(27, 110), (24, 107)], [(24, 107)], [(29, 112), (24, 107)], [(28, 111), (30, 113), (24, 107)], [(31, 114), (24, 107)], [(32, 115), (24, 107)], [(26, 109), (33, 116), (24, 107)], [(24, 107), (34, 117), (13, 96)], [(13, 96), (35, 118), (2, 85)], [(2, 85), (36, 119)]] [(0, 83), (1, 84), (2, 85), (3, 86), (4, 87), (5, 88), (6, 89), (7, 90), (8, 91), (9, 92), (10, 93), (11, 94), (12, 95), (13, 96), (14, 97), (15, 98), (16, 99), (17, 100), (18, 101), (19, 102), (20, 103), (21, 104), (22, 105), (23, 106), (24, 107), (25, 108), (26, 109), (27, 110), (28, 111), (29, 112), (30, 113), (31, 114), (32, 115), (33, 116), (34, 117), (35, 118), (36, 119), (37, 120)] rfl rfl [Ex ?ef0, Ex ?ef1, Ex ?ef2, Ex ?ef3, Ex ?ef4, Ex ?ef5, Ex ?ef6, Ex ?ef7, Ex ?ef8, Ex ?ef9, Ex ?ef10, Ex ?ef11, Ex ?ef12, Ex ?ef13, Ex ?ef14, Ex ?ef15, Ex ?ef16, Ex ?ef17, Ex ?ef18, Ex ?ef19, Ex ?ef20, Ex ?ef21, Ex ?ef22, Ex ?ef23, Ex ?ef24, Ex ?ef25, Ex ?ef26, Ex ?ef27, Ex ?ef28, Ex ?ef29, Ex ?ef30, Ex ?ef31, Ex ?ef32, Ex ?ef33, Ex ?ef34, Ex ?ef35, Ex ?ef36, Ex ?ef37] ⟨stays_ex _, stays_ex _, stays_ex _, stays_ex _, stays_ex _, stays_ex _, stays_ex _, stays_ex _, stays_ex _, stays_ex _, stays_ex _, stays_ex _, stays_ex _, stays_ex _, stays_ex _, stays_ex _, stays_ex _, stays_ex _, stays_ex _, stays_ex _, stays_ex _, stays_ex _, stays_ex _, stays_ex _, stays_ex _, stays_ex _, stays_ex _, stays_ex _, stays_ex _, stays_ex _, stays_ex _, stays_ex _, stays_ex _, stays_ex _, stays_ex _, stays_ex _, stays_ex _, stays_ex _, trivial⟩ ?fsteps ?frest
     case fsteps =>
      refine ⟨fun f W hC hh => ?_, fun f W hC hh => ?_, fun f W hC hh => ?_, fun f W hC hh => ?_, fun f W hC hh => ?_, fun f W hC hh => ?_, fun f W hC hh => ?_, fun f W hC hh => ?_, fun f W hC hh => ?_, fun f W hC hh => ?_, fun f W hC hh => ?_, fun f W hC hh => ?_, fun f W hC hh => ?_, fun f W hC hh => ?_, fun f W hC hh => ?_, fun f W hC hh => ?_, fun f W hC hh => ?_, fun f W hC hh => ?_, fun f W hC hh => ?_, fun f W hC hh => ?_, fun f W hC hh => ?_, fun f W hC hh => ?_, fun f W hC hh => ?_, fun f W hC hh => ?_, fun f W hC hh => ?_, fun f W hC hh => ?_, fun f W hC hh => ?_, fun f W hC hh => ?_, fun f W hC hh => ?_, fun f W hC hh => ?_, fun f W hC hh => ?_, fun f W hC hh => ?_, fun f W hC hh => ?_, fun f W hC hh => ?_, fun f W hC hh => ?_, fun f W hC hh => ?_, fun f W hC hh => ?_, fun f W hC hh => ?_, trivial⟩
      ·
       refine tab_plain fun K Q hK => ?_;simp only [puts, foldr_nil];go_step;exact fam_e hK rfl rfl (Below.refl _ _) hC
      ·
       obtain ⟨h0, -⟩ := hh;have g0 : f 0=_:=h0;refine tab_plain fun K Q hK => ?_;simp only [puts, Za, Zb, Zc, Zd, Ze, g0];go_step;exact fam_e hK rfl rfl (Below.refl _ _) hC
      ·
       obtain ⟨h1, -⟩ := hh;have g1 : f 1=_:=h1;refine tab_plain fun K Q hK => ?_;simp only [puts, Za, Zb, Zc, Zd, Ze, g1];go_step;exact fam_e hK rfl rfl (Below.refl _ _) hC
      ·
       obtain ⟨h2, -⟩ := hh;have g2 : f 2=_:=h2;refine tab_yes g2 fun K Q hK => ?_;simp only [puts, Za, Zb, Zc, Zd, Ze, g2];go_step;exact fam_e hK rfl rfl (Below.refl _ _) hC
      ·
       obtain ⟨h3, h2, -⟩ := hh;have g3 : f 3=_:=h3;have g2 : f 2=_:=h2;refine tab_yes g2 fun K Q hK => ?_;simp only [puts, Za, Zb, Zc, Zd, Ze, g3, g2]
       obtain ⟨⟨f1, f2, f3, f4⟩, f5, f6, f7⟩ := hcm W hC
       obtain ⟨f8, f9, f10⟩ := hcp W hC
       go_step;exact fam_e hK rfl rfl (Below.refl _ _) hC
      ·
       obtain ⟨h2, -⟩ := hh;have g2 : f 2=_:=h2;refine tab_yes g2 fun K Q hK => ?_;simp only [puts, Za, Zb, Zc, Zd, Ze, g2];go_step;exact fam_e hK rfl rfl (Below.refl _ _) hC
      ·
       obtain ⟨h5, h2, -⟩ := hh;have g5 : f 5=_:=h5;have g2 : f 2=_:=h2;refine tab_yes g2 fun K Q hK => ?_;simp only [puts, Za, Zb, Zc, Zd, Ze, g5, g2]
       obtain ⟨⟨f1, f2, f3, f4⟩, f5, f6, f7⟩ := hcm W hC
       obtain ⟨f8, f9, f10⟩ := hcp W hC
       go_step;exact fam_e hK rfl rfl (Below.refl _ _) hC
      ·
       obtain ⟨h2, -⟩ := hh;have g2 : f 2=_:=h2;refine tab_yes g2 fun K Q hK => ?_;simp only [puts, Za, Zb, Zc, Zd, Ze, g2];go_step;exact fam_e hK rfl rfl (Below.refl _ _) hC
      ·
       obtain ⟨h7, h2, -⟩ := hh;have g7 : f 7=_:=h7;have g2 : f 2=_:=h2;refine tab_yes g2 fun K Q hK => ?_;simp only [puts, Za, Zb, Zc, Zd, Ze, g7, g2];go_step;exact fam_e hK rfl rfl (Below.refl _ _) hC
      ·
       obtain ⟨h6, h8, h2, -⟩ := hh;have g6 : f 6=_:=h6;have g8 : f 8=_:=h8;have g2 : f 2=_:=h2;refine tab_yes g2 fun K Q hK => ?_;simp only [puts, Za, Zb, Zc, Zd, Ze, g6, g8, g2];go_step;exact fam_e hK rfl rfl (Below.refl _ _) hC
      ·
       obtain ⟨h9, h2, -⟩ := hh;have g9 : f 9=_:=h9;have g2 : f 2=_:=h2;refine tab_yes g2 fun K Q hK => ?_;simp only [puts, Za, Zb, Zc, Zd, Ze, g9, g2];go_step;exact fam_e hK rfl rfl (Below.refl _ _) hC
      ·
       obtain ⟨h10, h2, -⟩ := hh;have g10 : f 10=_:=h10;have g2 : f 2=_:=h2;refine tab_yes g2 fun K Q hK => ?_;simp only [puts, Za, Zb, Zc, Zd, Ze, g10, g2]
       obtain ⟨⟨f1, f2, f3, f4⟩, f5, f6, f7⟩ := hcm W hC
       obtain ⟨f8, f9, f10⟩ := hcp W hC
       go_step;exact fam_e hK rfl rfl (Below.refl _ _) hC
      ·
       obtain ⟨h4, h11, h2, -⟩ := hh;have g4 : f 4=_:=h4;have g11 : f 11=_:=h11;have g2 : f 2=_:=h2;refine tab_yes g2 fun K Q hK => ?_;simp only [puts, Za, Zb, Zc, Zd, Ze, g4, g11, g2];go_step;exact fam_e hK rfl rfl (Below.refl _ _) hC
      ·
       obtain ⟨h12, h2, _, -⟩ := hh;have g12 : f 12=_:=h12;have g2 : f 2=_:=h2;refine tab_yes g2 fun K Q hK => ?_;simp only [puts, Za, Zb, Zc, Zd, Ze, g12, g2];go_step;exact fam_e hK rfl rfl (Below.refl _ _) hC
      ·
       obtain ⟨h13, -⟩ := hh;have g13 : f 13=_:=h13;refine tab_yes g13 fun K Q hK => ?_;simp only [puts, Za, Zb, Zc, Zd, Ze, g13];go_step;exact fam_e hK rfl rfl (Below.refl _ _) hC
      ·
       obtain ⟨h14, h13, -⟩ := hh;have g14 : f 14=_:=h14;have g13 : f 13=_:=h13;refine tab_yes g13 fun K Q hK => ?_;simp only [puts, Za, Zb, Zc, Zd, Ze, g14, g13]
       obtain ⟨⟨f1, f2, f3, f4⟩, f5, f6, f7⟩ := hcm W hC
       obtain ⟨f8, f9, f10⟩ := hcp W hC
       go_step;exact fam_e hK rfl rfl (Below.refl _ _) hC
      ·
       obtain ⟨h13, -⟩ := hh;have g13 : f 13=_:=h13;refine tab_yes g13 fun K Q hK => ?_;simp only [puts, Za, Zb, Zc, Zd, Ze, g13];go_step;exact fam_e hK rfl rfl (Below.refl _ _) hC
      ·
       obtain ⟨h16, h13, -⟩ := hh;have g16 : f 16=_:=h16;have g13 : f 13=_:=h13;refine tab_yes g13 fun K Q hK => ?_;simp only [puts, Za, Zb, Zc, Zd, Ze, g16, g13]
       obtain ⟨⟨f1, f2, f3, f4⟩, f5, f6, f7⟩ := hcm W hC
       obtain ⟨f8, f9, f10⟩ := hcp W hC
       go_step;exact fam_e hK rfl rfl (Below.refl _ _) hC
      ·
       obtain ⟨h13, -⟩ := hh;have g13 : f 13=_:=h13;refine tab_yes g13 fun K Q hK => ?_;simp only [puts, Za, Zb, Zc, Zd, Ze, g13];go_step;exact fam_e hK rfl rfl (Below.refl _ _) hC
      ·
       obtain ⟨h18, h13, -⟩ := hh;have g18 : f 18=_:=h18;have g13 : f 13=_:=h13;refine tab_yes g13 fun K Q hK => ?_;simp only [puts, Za, Zb, Zc, Zd, Ze, g18, g13];go_step;exact fam_e hK rfl rfl (Below.refl _ _) hC
      ·
       obtain ⟨h17, h19, h13, -⟩ := hh;have g17 : f 17=_:=h17;have g19 : f 19=_:=h19;have g13 : f 13=_:=h13;refine tab_yes g13 fun K Q hK => ?_;simp only [puts, Za, Zb, Zc, Zd, Ze, g17, g19, g13];go_step;exact fam_e hK rfl rfl (Below.refl _ _) hC
      ·
       obtain ⟨h20, h13, -⟩ := hh;have g20 : f 20=_:=h20;have g13 : f 13=_:=h13;refine tab_yes g13 fun K Q hK => ?_;simp only [puts, Za, Zb, Zc, Zd, Ze, g20, g13];go_step;exact fam_e hK rfl rfl (Below.refl _ _) hC
      ·
       obtain ⟨h21, h13, -⟩ := hh;have g21 : f 21=_:=h21;have g13 : f 13=_:=h13;refine tab_yes g13 fun K Q hK => ?_;simp only [puts, Za, Zb, Zc, Zd, Ze, g21, g13]
       obtain ⟨⟨f1, f2, f3, f4⟩, f5, f6, f7⟩ := hcm W hC
       obtain ⟨f8, f9, f10⟩ := hcp W hC
       go_step;exact fam_e hK rfl rfl (Below.refl _ _) hC
      ·
       obtain ⟨h15, h22, h13, -⟩ := hh;have g15 : f 15=_:=h15;have g22 : f 22=_:=h22;have g13 : f 13=_:=h13;refine tab_yes g13 fun K Q hK => ?_;simp only [puts, Za, Zb, Zc, Zd, Ze, g15, g22, g13];go_step;exact fam_e hK rfl rfl (Below.refl _ _) hC
      ·
       obtain ⟨h23, h13, _, -⟩ := hh;have g23 : f 23=_:=h23;have g13 : f 13=_:=h13;refine tab_yes g13 fun K Q hK => ?_;simp only [puts, Za, Zb, Zc, Zd, Ze, g23, g13];go_step;exact fam_e hK rfl rfl (Below.refl _ _) hC
      ·
       obtain ⟨h24, -⟩ := hh;have g24 : f 24=_:=h24;refine tab_yes g24 fun K Q hK => ?_;simp only [puts, Za, Zb, Zc, Zd, Ze, g24];go_step;exact fam_e hK rfl rfl (Below.refl _ _) hC
      ·
       obtain ⟨h25, h24, -⟩ := hh;have g25 : f 25=_:=h25;have g24 : f 24=_:=h24;refine tab_yes g24 fun K Q hK => ?_;simp only [puts, Za, Zb, Zc, Zd, Ze, g25, g24]
       obtain ⟨⟨f1, f2, f3, f4⟩, f5, f6, f7⟩ := hcm W hC
       obtain ⟨f8, f9, f10⟩ := hcp W hC
       go_step;exact fam_e hK rfl rfl (Below.refl _ _) hC
      ·
       obtain ⟨h24, -⟩ := hh;have g24 : f 24=_:=h24;refine tab_yes g24 fun K Q hK => ?_;simp only [puts, Za, Zb, Zc, Zd, Ze, g24];go_step;exact fam_e hK rfl rfl (Below.refl _ _) hC
      ·
       obtain ⟨h27, h24, -⟩ := hh;have g27 : f 27=_:=h27;have g24 : f 24=_:=h24;refine tab_yes g24 fun K Q hK => ?_;simp only [puts, Za, Zb, Zc, Zd, Ze, g27, g24]
       obtain ⟨⟨f1, f2, f3, f4⟩, f5, f6, f7⟩ := hcm W hC
       obtain ⟨f8, f9, f10⟩ := hcp W hC
       go_step;exact fam_e hK rfl rfl (Below.refl _ _) hC
      ·
       obtain ⟨h24, -⟩ := hh;have g24 : f 24=_:=h24;refine tab_yes g24 fun K Q hK => ?_;simp only [puts, Za, Zb, Zc, Zd, Ze, g24];go_step;exact fam_e hK rfl rfl (Below.refl _ _) hC
      ·
       obtain ⟨h29, h24, -⟩ := hh;have g29 : f 29=_:=h29;have g24 : f 24=_:=h24;refine tab_yes g24 fun K Q hK => ?_;simp only [puts, Za, Zb, Zc, Zd, Ze, g29, g24];go_step;exact fam_e hK rfl rfl (Below.refl _ _) hC
      ·
       obtain ⟨h28, h30, h24, -⟩ := hh;have g28 : f 28=_:=h28;have g30 : f 30=_:=h30;have g24 : f 24=_:=h24;refine tab_yes g24 fun K Q hK => ?_;simp only [puts, Za, Zb, Zc, Zd, Ze, g28, g30, g24];go_step;exact fam_e hK rfl rfl (Below.refl _ _) hC
      ·
       obtain ⟨h31, h24, -⟩ := hh;have g31 : f 31=_:=h31;have g24 : f 24=_:=h24;refine tab_yes g24 fun K Q hK => ?_;simp only [puts, Za, Zb, Zc, Zd, Ze, g31, g24];go_step;exact fam_e hK rfl rfl (Below.refl _ _) hC
      ·
       obtain ⟨h32, h24, -⟩ := hh;have g32 : f 32=_:=h32;have g24 : f 24=_:=h24;refine tab_yes g24 fun K Q hK => ?_;simp only [puts, Za, Zb, Zc, Zd, Ze, g32, g24]
       obtain ⟨⟨f1, f2, f3, f4⟩, f5, f6, f7⟩ := hcm W hC
       obtain ⟨f8, f9, f10⟩ := hcp W hC
       go_step;exact fam_e hK rfl rfl (Below.refl _ _) hC
      ·
       obtain ⟨h26, h33, h24, -⟩ := hh;have g26 : f 26=_:=h26;have g33 : f 33=_:=h33;have g24 : f 24=_:=h24;refine tab_yes g24 fun K Q hK => ?_;simp only [puts, Za, Zb, Zc, Zd, Ze, g26, g33, g24];go_step;exact fam_e hK rfl rfl (Below.refl _ _) hC
      ·
       obtain ⟨h24, h34, h13, -⟩ := hh;have g24 : f 24=_:=h24;have g34 : f 34=_:=h34;have g13 : f 13=_:=h13;refine tab_yes g13 fun K Q hK => ?_;simp only [puts, Za, Zb, Zc, Zd, Ze, g24, g34, g13];go_step;exact fam_e hK rfl rfl (Below.refl _ _) hC
      ·
       obtain ⟨h13, h35, h2, -⟩ := hh;have g13 : f 13=_:=h13;have g35 : f 35=_:=h35;have g2 : f 2=_:=h2;refine tab_yes g2 fun K Q hK => ?_;simp only [puts, Za, Zb, Zc, Zd, Ze, g13, g35, g2];go_step;exact fam_e hK rfl rfl (Below.refl _ _) hC
      ·
       obtain ⟨h2, h36, -⟩ := hh;have g2 : f 2=_:=h2;have g36 : f 36=_:=h36;refine tab_plain fun K Q hK => ?_;simp only [puts, Za, Zb, Zc, Zd, Ze, g2, g36];go_step;exact fam_e hK rfl rfl (Below.refl _ _) hC
     case frest =>
      intro f W2 hC hh
      obtain ⟨h0, h1, h2, h3, h4, h5, h6, h7, h8, h9, h10, h11, h12, h13, h14, h15, h16, h17, h18, h19, h20, h21, h22, h23, h24, h25, h26, h27, h28, h29, h30, h31, h32, h33, h34, h35, h36, h37, -⟩ := hh;have g0 : f 0=_:=h0;have g1 : f 1=_:=h1;have g2 : f 2=_:=h2;have g3 : f 3=_:=h3;have g4 : f 4=_:=h4;have g5 : f 5=_:=h5;have g6 : f 6=_:=h6;have g7 : f 7=_:=h7;have g8 : f 8=_:=h8;have g9 : f 9=_:=h9;have g10 : f 10=_:=h10;have g11 : f 11=_:=h11;have g12 : f 12=_:=h12;have g13 : f 13=_:=h13;have g14 : f 14=_:=h14;have g15 : f 15=_:=h15;have g16 : f 16=_:=h16;have g17 : f 17=_:=h17;have g18 : f 18=_:=h18;have g19 : f 19=_:=h19;have g20 : f 20=_:=h20;have g21 : f 21=_:=h21;have g22 : f 22=_:=h22;have g23 : f 23=_:=h23;have g24 : f 24=_:=h24;have g25 : f 25=_:=h25;have g26 : f 26=_:=h26;have g27 : f 27=_:=h27;have g28 : f 28=_:=h28;have g29 : f 29=_:=h29;have g30 : f 30=_:=h30;have g31 : f 31=_:=h31;have g32 : f 32=_:=h32;have g33 : f 33=_:=h33;have g34 : f 34=_:=h34;have g35 : f 35=_:=h35;have g36 : f 36=_:=h36;have g37 : f 37=_:=h37;simp only [puts, Za, Zb, Zc, Zd, Ze, g0, g1, g2, g3, g4, g5, g6, g7, g8, g9, g10, g11, g12, g13, g14, g15, g16, g17, g18, g19, g20, g21, g22, g23, g24, g25, g26, g27, g28, g29, g30, g31, g32, g33, g34, g35, g36, g37]
      clear h0 h1 h2 h3 h4 h5 h6 h7 h8 h9 h10 h11 h12 h13 h14 h15 h16 h17 h18 h19 h20 h21 h22 h23 h24 h25 h26 h27 h28 h29 h30 h31 h32 h33 h34 h35 h36 h37 g0 g1 g2 g3 g4 g5 g6 g7 g8 g9 g10 g11 g12 g13 g14 g15 g16 g17 g18 g19 g20 g21 g22 g23 g24 g25 g26 g27 g28 g29 g30 g31 g32 g33 g34 g35 g36 g37
      go_wp2
      go_roundw
      case rel =>
       refine ⟨k + 1, by omega, by go_num, Lib.hid fun i hi => ?_, HBWN.out.trans (hC.mono hszn)⟩
       rcases Nat.lt_or_ge i k with h | h
       ·exact HA.out i h
       ·rw [show i = k by omega]; unfold ArcOk; rw [HX.out]; exact ⟨⟨H6.out, H7.out⟩, H8.out, fun _ => HYY.out⟩
      case measure => simp [intOf]; omega
  ·have hkl : k = al := by omega
   subst hkl
   have HYES : Hid (true = V) := Lib.hid (HD _ (vD_yes ⟨⟨by simp only; omega, by simp only; omega⟩, ⟨by simp only; omega, by simp only; omega⟩, by simp only; rw [HFL.out]; have := H4.out; omega, by simp only; omega, fun i hi => HA.out i (by simp only at hi; omega)⟩).symm)
   clear HD
   go_wp2
   go_ret
   exact ⟨by rw [← HYES.out]; rfl, hbW⟩
end Go.Proofs.YtbjdglopkpigbaaGreatDoor
