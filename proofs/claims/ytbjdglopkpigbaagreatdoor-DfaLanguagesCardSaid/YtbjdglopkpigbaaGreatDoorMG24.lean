import Derived.Test.YtbjdglopkpigbaaGreatDoorShelf
import Derived.Lib.Small
import Derived.Deep.QuietTactic
import Derived.BigQuiet
import Derived.Test.YtbjdglopkpigbaaGreatDoorMG2
import Derived.Test.YtbjdglopkpigbaaGreatDoorMG22
/-
  DfaA, DfaB
-/
set_option linter.unusedSimpArgs false
set_option linter.unusedVariables false
namespace Go.Proofs.YtbjdglopkpigbaaGreatDoor
open List (foldr_cons foldr_nil setIfInBounds_toArray set_cons_succ set_cons_zero)
open Go.RowKit
theorem mixed : Tryz.prog.follows .mixedOrders = true := by kernel_rfl
def vA (x : A3) : Value := .agg #[.int .i64 x.f, .int .i64 x.l, .int .i64 x.t]
def orI (x y : Int) : Int := if x = 0 then y else x
theorem or_any (b off cap : Nat) (x y : Int) (w : World) (hx : w.cell? ⟨b, off, none⟩ = some (.int .i64 x)) (hy : w.cell? ⟨b, off + 1, none⟩ = some (.int .i64 y)) :
  Calls Tryz.prog 39 #[.slice (some ⟨b, off, none⟩) 2 cap] w fun e w' => e = .returned (.int .i64 (orI x y)) ∧ w = w' := by
 unfold orI
 by_cases h0 : x = 0
 ·subst h0
  have hq : ((0 : Int) != 0) = false := rfl
  by_cases h1 : y = 0
  ·subst h1
   go_enter Tryz.func39, Tryz.ntmps39
   go_wp2
   go_loop [8] (fun c => ∃ k : Nat, k ≤ 2 ∧ c = .int .i64 (k : Int)) (fun c => 2 - (intOf c).toNat)
   case atStart => exact ⟨0, by omega, rfl⟩
   case round =>
    obtain ⟨k, hk, rfl⟩ := hrel
    have : k = 0 ∨ k = 1 ∨ k = 2 := by omega
    rcases this with rfl | rfl | rfl
    ·go_wp2
     go_round
     case rel => exact ⟨1, by omega, by go_num⟩
     case measure => simp [intOf]
    ·go_wp2
     go_round
     case rel => exact ⟨2, by omega, by go_num⟩
     case measure => simp [intOf]
    ·go_wp2
     go_ret
     exact ⟨rfl, rfl⟩
  ·have hq1 : (y != 0) = true := by simpa using h1
   go_enter Tryz.func39, Tryz.ntmps39
   go_wp2
   go_loop [8] (fun c => ∃ k : Nat, k ≤ 1 ∧ c = .int .i64 (k : Int)) (fun c => 2 - (intOf c).toNat)
   case atStart => exact ⟨0, by omega, rfl⟩
   case round =>
    obtain ⟨k, hk, rfl⟩ := hrel
    have : k = 0 ∨ k = 1 := by omega
    rcases this with rfl | rfl
    ·go_wp2
     go_round
     case rel => exact ⟨1, by omega, by go_num⟩
     case measure => simp [intOf]
    ·go_wp2
     go_ret
     exact ⟨rfl, rfl⟩
 ·have hq0 : (x != 0) = true := by simpa using h0
  rw [if_neg h0]
  go_enter Tryz.func39, Tryz.ntmps39
  go_wp2
  go_loop [8] (fun c => c = .int .i64 (0 : Int)) (fun c => 2 - (intOf c).toNat)
  case atStart => rfl
  case round =>
   subst hrel
   go_wp2
   go_ret
   exact ⟨rfl, rfl⟩
def ordA (x y : A3) : Int := orI (Lib.compareInt x.f y.f) (Lib.compareInt x.l y.l)
theorem cmpI_lt {x y : Int} : Lib.compareInt x y < 0 ↔ x < y := by unfold Lib.compareInt; split <;> (try split) <;> omega
theorem cmpI_zero {x y : Int} : Lib.compareInt x y = 0 ↔ x = y := by unfold Lib.compareInt; split <;> (try split) <;> omega
theorem ordA_lt {x y : A3} : ordA x y < 0 ↔ LtA x y := by
 unfold ordA orI LtA
 have h1 := @cmpI_lt x.f y.f
 have h2 := @cmpI_lt x.l y.l
 have h3 := @cmpI_zero x.f y.f
 split <;> omega
theorem ordA_zero {x y : A3} : ordA x y = 0 ↔ x.f = y.f ∧ x.l = y.l := by
 unfold ordA orI
 have h2 := @cmpI_zero x.l y.l
 have h3 := @cmpI_zero x.f y.f
 split <;> omega
theorem ordA_ge {x y : A3} : 0 ≤ ordA x y ↔ ¬ LtA x y := by rw [← ordA_lt]; omega
theorem boxA (x : A3) (w : World) :
  Below w.heap.size w (w.alloc (.cells #[.int .i64 x.f, .int .i64 x.l, .int .i64 x.t] 49)) ∧ (w.alloc (.cells #[.int .i64 x.f, .int .i64 x.l, .int .i64 x.t] 49)).heap.size = w.heap.size + 1 ∧
  ∀ W, Below (w.heap.size + 1) (w.alloc (.cells #[.int .i64 x.f, .int .i64 x.l, .int .i64 x.t] 49)) W → W.cell? ⟨w.heap.size, 0, none⟩ = some (.int .i64 x.f) ∧ W.cell? ⟨w.heap.size, 1, none⟩ = some (.int .i64 x.l) ∧ W.cell? ⟨w.heap.size, 2, none⟩ = some (.int .i64 x.t) := by
 refine ⟨(Below.refl _ _).alloc (Nat.le_refl _) _, by simp, fun W hb => ?_⟩
 have := hb.block w.heap.size (Nat.lt_succ_self _)
 rw [heap_alloc_new] at this
 exact ⟨cell_of_row W _ 0 _ _ _ this, cell_of_row W _ 1 _ _ _ this, cell_of_row W _ 2 _ _ _ this⟩
def TwoP (x y : Int) : Value → World → Prop := fun v W => ∃ b c, v = .slice (some ⟨b, 0, none⟩) 2 c ∧ W.cell? ⟨b, 0, none⟩ = some (.int .i64 x) ∧ W.cell? ⟨b, 0 + 1, none⟩ = some (.int .i64 y)
theorem stays_two (x y : Int) : Stays (TwoP x y) := fun v W W' hb ⟨b, c, e, h1, h2⟩ => ⟨b, c, e, (hb.cell (p := ⟨b, 0, none⟩) (lt_of_cell h1)).trans h1, (hb.cell (p := ⟨b, 0 + 1, none⟩) (lt_of_cell h2)).trans h2⟩
theorem two_made (x y : Int) (T : TypeId) (W : World) : TwoP x y (.slice (some ⟨W.heap.size, 0, none⟩) 2 2) (W.alloc (.cells #[.int .i64 x, .int .i64 y] T)) :=
 ⟨_, _, rfl, cell_of_row _ _ 0 _ _ _ (heap_alloc_new W _), cell_of_row _ _ 1 _ _ _ (heap_alloc_new W _)⟩
set_option maxRecDepth 20000 in
theorem order_any (x y : A3) (w : World) : Calls Tryz.prog 25 #[vA x, vA y] w fun e w' => e = .returned (.int .i64 (ordA x y)) ∧ Below w.heap.size w w' := by
 obtain ⟨x1, x2, x3⟩ := x
 obtain ⟨y1, y2, y3⟩ := y
 obtain ⟨hb1, hs1, hX⟩ := boxA ⟨x1, x2, x3⟩ w
 obtain ⟨W1, hW1⟩ : ∃ W1, w.alloc (.cells #[.int .i64 x1, .int .i64 x2, .int .i64 x3] 49) = W1 := ⟨_, rfl⟩
 simp only at hb1 hs1 hX
 rw [hW1] at hb1 hs1 hX
 obtain ⟨hb2, hs2, hY⟩ := boxA ⟨y1, y2, y3⟩ W1
 obtain ⟨W2, hW2⟩ : ∃ W2, W1.alloc (.cells #[.int .i64 y1, .int .i64 y2, .int .i64 y3] 49) = W2 := ⟨_, rfl⟩
 simp only at hb2 hs2 hY
 rw [hW2] at hb2 hs2 hY
 have hB : Below w.heap.size w W2 := hb1.trans (hb2.mono (by omega))
 have hXc : ∀ W, Below W2.heap.size W2 W → (W.cell? ⟨w.heap.size, 0, none⟩ = some (.int .i64 x1) ∧ W.cell? ⟨w.heap.size, 1, none⟩ = some (.int .i64 x2)) ∧ W.cell? ⟨w.heap.size + 1, 0, none⟩ = some (.int .i64 y1) ∧ W.cell? ⟨w.heap.size + 1, 1, none⟩ = some (.int .i64 y2) := fun W hb => by
  have h1 := hX W ((hb2.mono (by omega)).trans (hb.mono (by omega)))
  have h2 := hY W (hb.mono (by omega))
  rw [hs1] at h2
  exact ⟨⟨h1.1, h1.2.1⟩, h2.1, h2.2.1⟩
 unfold vA
 go_enter Tryz.func25, Tryz.ntmps25
 go_wp2_with (fail)
 clear hW1 hW2 hX hY hb1 hb2
 refine wp_region_grow mixed (by kernel_rfl) [[], [(0, 5)], [], [(2, 7)], [(1, 6), (3, 8)], [], [(5, 10)], [], [(7, 12)], [(6, 11), (8, 13), (4, 9)], [(4, 9), (9, 14)], [(10, 15), (9, 14)], [(11, 16), (11, 16), (0, 5), (1, 6), (2, 7), (3, 8), (4, 9), (5, 10), (6, 11), (7, 12), (8, 13), (9, 14), (10, 15), (11, 16)]] [(0, 5), (1, 6), (2, 7), (3, 8), (4, 9), (5, 10), (6, 11), (7, 12), (8, 13), (9, 14), (10, 15), (11, 16), (12, 4)] rfl rfl [Ex ?e0, Ex ?e1, Ex ?e2, Ex ?e3, Ex (.int .i64 (Lib.compareInt x1 y1)), Ex ?e5, Ex ?e6, Ex ?e7, Ex ?e8, Ex (.int .i64 (Lib.compareInt x2 y2)), TwoP (Lib.compareInt x1 y1) (Lib.compareInt x2 y2), Ex (.int .i64 (orI (Lib.compareInt x1 y1) (Lib.compareInt x2 y2))), Ex ?e12] ⟨stays_ex _, stays_ex _, stays_ex _, stays_ex _, stays_ex _, stays_ex _, stays_ex _, stays_ex _, stays_ex _, stays_ex _, stays_two _ _, stays_ex _, stays_ex _, trivial⟩ ?steps ?rest
 case steps =>
  refine ⟨fun f W hC hh => ?_, fun f W hC hh => ?_, fun f W hC hh => ?_, fun f W hC hh => ?_, fun f W hC hh => ?_, fun f W hC hh => ?_, fun f W hC hh => ?_, fun f W hC hh => ?_, fun f W hC hh => ?_, fun f W hC hh => ?_, fun f W hC hh => ?_, fun f W hC hh => ?_, fun f W hC hh => ?_, trivial⟩
  ·
   refine tab_plain fun K Q hK => ?_;simp only [puts, foldr_nil];go_step;exact fam_e hK rfl rfl (Below.refl _ _) hC
  ·
   obtain ⟨h0, -⟩ := hh;have g0 : f 0=_:=h0;refine tab_plain fun K Q hK => ?_;simp only [puts, Za, Zb, Zc, Zd, Ze, g0]
   obtain ⟨⟨cx1, cx2⟩, cy1, cy2⟩ := hXc W hC
   go_step;exact fam_e hK rfl rfl (Below.refl _ _) hC
  ·
   refine tab_plain fun K Q hK => ?_;simp only [puts, foldr_nil];go_step;exact fam_e hK rfl rfl (Below.refl _ _) hC
  ·
   obtain ⟨h2, -⟩ := hh;have g2 : f 2=_:=h2;refine tab_plain fun K Q hK => ?_;simp only [puts, Za, Zb, Zc, Zd, Ze, g2]
   obtain ⟨⟨cx1, cx2⟩, cy1, cy2⟩ := hXc W hC
   go_step;exact fam_e hK rfl rfl (Below.refl _ _) hC
  ·
   obtain ⟨h1, h3, -⟩ := hh;have g1 : f 1=_:=h1;have g3 : f 3=_:=h3;refine tab_plain fun K Q hK => ?_;simp only [puts, Za, Zb, Zc, Zd, Ze, g1, g3];go_step
   go_at_call 40
   refine (Tryz.cmp_Compare_int x1 y1 W).mono ?_
   rintro e w' ⟨rfl, rfl⟩
   exact fam_fin hK rfl rfl (Below.refl _ _) hC
  ·
   refine tab_plain fun K Q hK => ?_;simp only [puts, foldr_nil];go_step;exact fam_e hK rfl rfl (Below.refl _ _) hC
  ·
   obtain ⟨h5, -⟩ := hh;have g5 : f 5=_:=h5;refine tab_plain fun K Q hK => ?_;simp only [puts, Za, Zb, Zc, Zd, Ze, g5]
   obtain ⟨⟨cx1, cx2⟩, cy1, cy2⟩ := hXc W hC
   go_step;exact fam_e hK rfl rfl (Below.refl _ _) hC
  ·
   refine tab_plain fun K Q hK => ?_;simp only [puts, foldr_nil];go_step;exact fam_e hK rfl rfl (Below.refl _ _) hC
  ·
   obtain ⟨h7, -⟩ := hh;have g7 : f 7=_:=h7;refine tab_plain fun K Q hK => ?_;simp only [puts, Za, Zb, Zc, Zd, Ze, g7]
   obtain ⟨⟨cx1, cx2⟩, cy1, cy2⟩ := hXc W hC
   go_step;exact fam_e hK rfl rfl (Below.refl _ _) hC
  ·
   obtain ⟨h6, h8, h4, -⟩ := hh;have g6 : f 6=_:=h6;have g8 : f 8=_:=h8;have g4 : f 4=_:=h4;refine tab_plain fun K Q hK => ?_;simp only [puts, Za, Zb, Zc, Zd, Ze, g6, g8, g4];go_step
   go_at_call 40
   refine (Tryz.cmp_Compare_int x2 y2 W).mono ?_
   rintro e w' ⟨rfl, rfl⟩
   exact fam_fin hK rfl rfl (Below.refl _ _) hC
  ·
   obtain ⟨h4, h9, -⟩ := hh;have g4 : f 4=_:=h4;have g9 : f 9=_:=h9;refine tab_plain fun K Q hK => ?_;simp only [puts, Za, Zb, Zc, Zd, Ze, g4, g9];go_step
   exact fam_fin hK rfl (two_made _ _ _ _) ((Below.refl _ _).alloc (Nat.le_refl _) _) (hC.trans (((Below.refl _ _).alloc (Nat.le_refl _) _).mono hC.size))
  ·
   obtain ⟨h10, h9, -⟩ := hh
   obtain ⟨a10, c10, g10, s10⟩ := h10
   have g9 : f 9=_:=h9;refine tab_plain fun K Q hK => ?_;simp only [puts, Za, Zb, Zc, Zd, Ze, g10, g9];go_step
   go_at_call 39
   refine (or_any a10 0 c10 _ _ W s10.1 s10.2).mono ?_
   rintro e w' ⟨rfl, rfl⟩
   exact fam_fin hK rfl rfl (Below.refl _ _) hC
  ·
   obtain ⟨h11, _, h0, h1, h2, h3, h4, h5, h6, h7, h8, h9, h10, _, -⟩ := hh;have g11 : f 11=_:=h11;have g0 : f 0=_:=h0;have g1 : f 1=_:=h1;have g2 : f 2=_:=h2;have g3 : f 3=_:=h3;have g4 : f 4=_:=h4;have g5 : f 5=_:=h5;have g6 : f 6=_:=h6;have g7 : f 7=_:=h7;have g8 : f 8=_:=h8;have g9 : f 9=_:=h9
   obtain ⟨a10, c10, g10, s10⟩ := h10
   refine tab_plain fun K Q hK => ?_;simp only [puts, Za, Zb, Zc, Zd, Ze, g11, g0, g1, g2, g3, g4, g5, g6, g7, g8, g9, g10];go_step;exact fam_e hK rfl rfl (Below.refl _ _) hC
 case rest =>
  intro f W2 hC hh
  obtain ⟨h0, h1, h2, h3, h4, h5, h6, h7, h8, h9, h10, h11, h12, -⟩ := hh;have g0 : f 0=_:=h0;have g1 : f 1=_:=h1;have g2 : f 2=_:=h2;have g3 : f 3=_:=h3;have g4 : f 4=_:=h4;have g5 : f 5=_:=h5;have g6 : f 6=_:=h6;have g7 : f 7=_:=h7;have g8 : f 8=_:=h8;have g9 : f 9=_:=h9
  obtain ⟨a10, c10, g10, s10⟩ := h10
  have g11 : f 11=_:=h11;have g12 : f 12=_:=h12;simp only [puts, Za, Zb, Zc, Zd, Ze, g0, g1, g2, g3, g4, g5, g6, g7, g8, g9, g10, g11, g12]
  clear h0 h1 h2 h3 h4 h5 h6 h7 h8 h9 h11 h12 g0 g1 g2 g3 g4 g5 g6 g7 g8 g9 g11 g12
  go_wp2
  go_ret
  exact ⟨rfl, hB.trans (hC.mono hB.size)⟩
end Go.Proofs.YtbjdglopkpigbaaGreatDoor
namespace Go.Proofs.YtbjdglopkpigbaaGreatDoor
open List (foldr_cons foldr_nil setIfInBounds_toArray set_cons_succ set_cons_zero)
open Go.RowKit
attribute [local go_sem] Oper.semAt_some
structure DH where
 fa : Option Addr
 fl : Nat
 fc : Nat
 aa : Option Addr
 al : Nat
 ac : Nat
def vDf (d : Dfa) (h : DH) : Value := .agg #[.int .i64 d.n, .int .i64 d.s, .slice h.fa h.fl h.fc, .slice h.aa h.al h.ac]
structure IsDfa (w : World) (h : DH) (d : Dfa) : Prop where
 fin : IsBools w h.fa h.fl h.fc d.fin
 arcs : IsArcs w h.aa h.al h.ac d.arcs
theorem IsDfa.later {w w' : World} {h : DH} {d : Dfa} (hd : IsDfa w h d) (hb : Below w.heap.size w w') : IsDfa w' h d := ⟨hd.fin.later hb, hd.arcs.later hb⟩
theorem boxD (n s : Int) (fa : Option Addr) (fl fc : Nat) (aa : Option Addr) (al ac : Nat) (w : World) :
  Below w.heap.size w (w.alloc (.cells #[.int .i64 n, .int .i64 s, .slice fa fl fc, .slice aa al ac] 37)) ∧ (w.alloc (.cells #[.int .i64 n, .int .i64 s, .slice fa fl fc, .slice aa al ac] 37)).heap.size = w.heap.size + 1 ∧
  ∀ W, Below (w.heap.size + 1) (w.alloc (.cells #[.int .i64 n, .int .i64 s, .slice fa fl fc, .slice aa al ac] 37)) W → W.cell? ⟨w.heap.size, 0, none⟩ = some (.int .i64 n) ∧ W.cell? ⟨w.heap.size, 1, none⟩ = some (.int .i64 s) ∧ W.cell? ⟨w.heap.size, 2, none⟩ = some (.slice fa fl fc) ∧ W.cell? ⟨w.heap.size, 3, none⟩ = some (.slice aa al ac) := by
 refine ⟨(Below.refl _ _).alloc (Nat.le_refl _) _, by simp, fun W hb => ?_⟩
 have := hb.block w.heap.size (Nat.lt_succ_self _)
 rw [heap_alloc_new] at this
 exact ⟨cell_of_row W _ 0 _ _ _ this, cell_of_row W _ 1 _ _ _ this, cell_of_row W _ 2 _ _ _ this, cell_of_row W _ 3 _ _ _ this⟩
theorem state_any (d : Dfa) (h : DH) (m : Int) (w : World) : Calls Tryz.prog 32 #[vDf d h, .int .i64 m] w fun e w' => e = .returned (.bool (decide (0 ≤ m ∧ m < d.n))) ∧ Below w.heap.size w w' := by
 obtain ⟨n, s, fin, arcs⟩ := d
 obtain ⟨fa, fl, fc, aa, al, ac⟩ := h
 obtain ⟨hb1, hs1, hO⟩ := boxD n s fa fl fc aa al ac w
 unfold vDf
 by_cases h0 : 0 ≤ m
 ·have t0 : decide (0 ≤ m) = true := decide_eq_true h0
  by_cases h1 : m < n
  ·have t1 : decide (m < n) = true := decide_eq_true h1
   have t2 : Hid (decide (0 ≤ m ∧ m < n) = true) := Lib.hid (decide_eq_true ⟨h0, h1⟩)
   go_enter Tryz.func32, Tryz.ntmps32
   go_wp2
   go_ret
   exact ⟨by first | rfl | (rw [t2.out]; rfl), hb1⟩
  ·have t1 : decide (m < n) = false := decide_eq_false h1
   have t2 : Hid (decide (0 ≤ m ∧ m < n) = false) := Lib.hid (decide_eq_false fun h => h1 h.2)
   go_enter Tryz.func32, Tryz.ntmps32
   go_wp2
   go_ret
   exact ⟨by first | rfl | (rw [t2.out]; rfl), hb1⟩
 ·have t0 : decide (0 ≤ m) = false := decide_eq_false h0
  have t2 : Hid (decide (0 ≤ m ∧ m < n) = false) := Lib.hid (decide_eq_false fun h => h0 h.1)
  go_enter Tryz.func32, Tryz.ntmps32
  go_wp2
  go_ret
  exact ⟨by first | rfl | (rw [t2.out]; rfl), hb1⟩
set_option maxRecDepth 20000 in
set_option maxHeartbeats 2000000 in
theorem search_any (a : Option Addr) (len cap : Nat) (es : List A3) (q c : Int) (w : World) (he : IsArcs w a len cap es) (hS : SortedA es) (hl : len ≤ 1000000) :
  Calls Tryz.prog 33 #[.slice a len cap, vA ⟨q, c, 0⟩, .func (.func 25) #[] #[]] w fun e w' => (∃ b, e = .returned (.tuple #[.int .i64 (loP es ⟨q, c, 0⟩ : Nat), .bool b]) ∧ (b = true ↔ hasAt es q c)) ∧ Below w.heap.size w w' := by
 have hlen := he.length
 obtain ⟨hb1, hs1, hX⟩ := boxA ⟨q, c, 0⟩ w
 obtain ⟨W1, hW1⟩ : ∃ W1, w.alloc (.cells #[.int .i64 q, .int .i64 c, .int .i64 0] 49) = W1 := ⟨_, rfl⟩
 simp only at hb1 hs1 hX
 rw [hW1] at hb1 hs1 hX
 unfold vA
 go_enter Tryz.func33, Tryz.ntmps33
 go_wp2
 clear hW1
 go_loopw [9, 10] (fun x y W => ∃ i j : Nat, x = .int .i64 (i : Int) ∧ y = .int .i64 (j : Int) ∧ i ≤ j ∧ j ≤ len ∧ (∀ p, p < i → LtA (g3 es p) ⟨q, c, 0⟩) ∧ (∀ p, j ≤ p → p < len → ¬ LtA (g3 es p) ⟨q, c, 0⟩) ∧ Below (w.heap.size + 1) W1 W) (fun x y _ => (intOf y).toNat - (intOf x).toNat)
 case atStart => exact ⟨0, len, rfl, rfl, Nat.zero_le _, Nat.le_refl _, (fun p hp => by omega), (fun p hp hp2 => by omega), Below.refl _ _⟩
 case round =>
  obtain ⟨i, j, rfl, rfl, hij, hj, hlo, hhi, hb⟩ := hrel
  obtain ⟨cq, cc, c0⟩ := hX wr hb
  have hbw : Below w.heap.size w wr := hb1.trans (hb.mono (by omega))
  rcases Nat.lt_or_ge i j with hlt | hge
  ·obtain ⟨b, off, rfl, hcell⟩ := he.fix (by omega)
   obtain ⟨m, hm⟩ : ∃ m, m = (i + j) / 2 := ⟨_, rfl⟩
   have hm1 : i ≤ m := by omega
   have hm2 : m < j := by omega
   have hmm : ((i : Int) + (j : Int)) / 2 = (m : Int) := by omega
   obtain ⟨x1, x2, x3, hx⟩ : ∃ x1 x2 x3, g3 es m = ⟨x1, x2, x3⟩ := ⟨_, _, _, rfl⟩
   have hcm : ∀ W, Below wr.heap.size wr W → (W.cell? ⟨b, off + m * 3, none⟩ = some (.int .i64 x1) ∧ W.cell? ⟨b, off + m * 3 + 1, none⟩ = some (.int .i64 x2) ∧ W.cell? ⟨b, off + m * 3 + 2, none⟩ = some (.int .i64 x3)) ∧ W.cell? ⟨w.heap.size, 0, none⟩ = some (.int .i64 q) ∧ W.cell? ⟨w.heap.size, 1, none⟩ = some (.int .i64 c) ∧ W.cell? ⟨w.heap.size, 2, none⟩ = some (.int .i64 0) := fun W h => by
    have h1 := hcell W (hbw.trans (h.mono hbw.size)) m (by omega)
    rw [hx] at h1
    exact ⟨h1, hX W (hb.trans (h.mono (by have := hb.size; omega)))⟩
   have HLO := Lib.hid hlo
   have HHI := Lib.hid hhi
   have HX := Lib.hid hx
   have HB := Lib.hid hb
   have hmL : m < len := by omega
   have hsz : w.heap.size + 1 ≤ wr.heap.size := by have := hb.size; omega
   clear hm hlo hhi hx hX hcell he cq cc c0 hb hb1 hs1
   go_wp2_with (fail)
   clear hmm
   refine wp_region_grow mixed (by kernel_rfl) [[], [], [], [(1, 25), (2, 26)], [(3, 27)], [], [(0, 24), (4, 28), (5, 29)], [(6, 30)]] [(0, 24), (1, 25), (2, 26), (3, 27), (4, 28), (5, 29), (6, 30), (7, 31)] rfl rfl [Ex ?eb0, Ex ?eb1, Ex ?eb2, Ex ?eb3, Ex ?eb4, Ex ?eb5, Ex (.int .i64 (ordA ⟨x1, x2, x3⟩ ⟨q, c, 0⟩)), Ex ?eb7] ⟨stays_ex _, stays_ex _, stays_ex _, stays_ex _, stays_ex _, stays_ex _, stays_ex _, stays_ex _, trivial⟩ ?bsteps ?brest
   case bsteps =>
    refine ⟨fun f W hC hh => ?_, fun f W hC hh => ?_, fun f W hC hh => ?_, fun f W hC hh => ?_, fun f W hC hh => ?_, fun f W hC hh => ?_, fun f W hC hh => ?_, fun f W hC hh => ?_, trivial⟩
    ·
     refine tab_plain fun K Q hK => ?_;simp only [puts, foldr_nil];go_step;exact fam_e hK rfl rfl (Below.refl _ _) hC
    ·
     refine tab_plain fun K Q hK => ?_;simp only [puts, foldr_nil];go_step;exact fam_e hK rfl rfl (Below.refl _ _) hC
    ·
     refine tab_plain fun K Q hK => ?_;simp only [puts, foldr_nil];go_step;exact fam_e hK rfl rfl (Below.refl _ _) hC
    ·
     obtain ⟨h1, h2, -⟩ := hh;have g1 : f 1=_:=h1;have g2 : f 2=_:=h2;refine tab_plain fun K Q hK => ?_;simp only [puts, Za, Zb, Zc, Zd, Ze, g1, g2];go_step;exact fam_e hK rfl rfl (Below.refl _ _) hC
    ·
     obtain ⟨h3, -⟩ := hh;have g3 : f 3=_:=h3;refine tab_plain fun K Q hK => ?_;simp only [puts, Za, Zb, Zc, Zd, Ze, g3]
     obtain ⟨⟨cx1, cx2, cx3⟩, cy1, cy2, cy3⟩ := hcm W hC
     go_step;exact fam_e hK rfl rfl (Below.refl _ _) hC
    ·
     refine tab_plain fun K Q hK => ?_;simp only [puts, foldr_nil]
     obtain ⟨⟨cx1, cx2, cx3⟩, cy1, cy2, cy3⟩ := hcm W hC
     go_step;exact fam_e hK rfl rfl (Below.refl _ _) hC
    ·
     obtain ⟨h0, h4, h5, -⟩ := hh;have g0 : f 0=_:=h0;have g4 : f 4=_:=h4;have g5 : f 5=_:=h5;refine tab_plain fun K Q hK => ?_;simp only [puts, Za, Zb, Zc, Zd, Ze, g0, g4, g5];go_step
     first | go_at_call 25 | go_at_fn 25
     refine (order_any ⟨x1, x2, x3⟩ ⟨q, c, 0⟩ W).mono ?_
     rintro e w' ⟨rfl, hb⟩
     exact fam_fin hK rfl rfl hb (hC.trans (hb.mono hC.size))
    ·
     obtain ⟨h6, -⟩ := hh;have g6 : f 6=_:=h6;refine tab_plain fun K Q hK => ?_;simp only [puts, Za, Zb, Zc, Zd, Ze, g6];go_step;exact fam_e hK rfl rfl (Below.refl _ _) hC
   case brest =>
    intro f W2 hC hh
    obtain ⟨h0, h1, h2, h3, h4, h5, h6, h7, -⟩ := hh;have g0 : f 0=_:=h0;have g1 : f 1=_:=h1;have g2 : f 2=_:=h2;have g3 : f 3=_:=h3;have g4 : f 4=_:=h4;have g5 : f 5=_:=h5;have g6 : f 6=_:=h6;have g7 : f 7=_:=h7;simp only [puts, Za, Zb, Zc, Zd, Ze, g0, g1, g2, g3, g4, g5, g6, g7]
    clear h0 h1 h2 h3 h4 h5 h6 h7 g0 g1 g2 g3 g4 g5 g6 g7
    have hbel : Below (w.heap.size + 1) W1 W2 := HB.out.trans (hC.mono hsz)
    by_cases hL : LtA ⟨x1, x2, x3⟩ ⟨q, c, 0⟩
    ·rw [show decide (ordA ⟨x1, x2, x3⟩ ⟨q, c, 0⟩ < 0) = true from decide_eq_true (ordA_lt.2 hL)]
     have HLT := Lib.hid hL
     clear hL hcm
     go_wp2
     go_roundw
     case rel =>
      refine ⟨m + 1, j, by go_num, rfl, by omega, hj, fun p hp => ?_, HHI.out, hbel⟩
      rcases Nat.lt_or_ge p m with h1 | h1
      ·exact (hS.lt h1 (by omega)).trans (by rw [HX.out]; exact HLT.out)
      ·rw [show p = m by omega, HX.out]; exact HLT.out
     case measure => simp [intOf]; omega
    ·rw [show decide (ordA ⟨x1, x2, x3⟩ ⟨q, c, 0⟩ < 0) = false from decide_eq_false (fun h => hL (ordA_lt.1 h))]
     have HLT := Lib.hid hL
     clear hL hcm
     go_wp2
     go_roundw
     case rel =>
      refine ⟨i, m, rfl, by go_num, hm1, by omega, HLO.out, fun p hp hpl hq => ?_, hbel⟩
      rcases Nat.lt_or_ge m p with h1 | h1
      ·exact HLT.out (by rw [← HX.out]; exact (hS.lt h1 (by omega)).trans hq)
      ·rw [show p = m by omega, HX.out] at hq; exact HLT.out hq
     case measure => simp [intOf]; omega
  ·have hEq : i = loP es ⟨q, c, 0⟩ := loP_eq hS ⟨q, c, 0⟩ (by omega) hlo (fun p hp hpl => hhi p (by omega) (by omega))
   have hij' : j = i := by omega
   subst hij'
   clear hlo hhi hge hij
   have HE := Lib.hid hEq
   clear hEq
   rcases Nat.lt_or_ge j len with hlt | hge
   ·obtain ⟨b, off, rfl, hcell⟩ := he.fix (by omega)
    have t0 : decide ((j : Int) < len) = true := decide_eq_true (by omega)
    obtain ⟨x1, x2, x3, hx⟩ : ∃ x1 x2 x3, g3 es j = ⟨x1, x2, x3⟩ := ⟨_, _, _, rfl⟩
    have hcm : ∀ W, Below wr.heap.size wr W → (W.cell? ⟨b, off + j * 3, none⟩ = some (.int .i64 x1) ∧ W.cell? ⟨b, off + j * 3 + 1, none⟩ = some (.int .i64 x2) ∧ W.cell? ⟨b, off + j * 3 + 2, none⟩ = some (.int .i64 x3)) ∧ W.cell? ⟨w.heap.size, 0, none⟩ = some (.int .i64 q) ∧ W.cell? ⟨w.heap.size, 1, none⟩ = some (.int .i64 c) ∧ W.cell? ⟨w.heap.size, 2, none⟩ = some (.int .i64 0) := fun W h => by
     have h1 := hcell W (hbw.trans (h.mono hbw.size)) j (by omega)
     rw [hx] at h1
     exact ⟨h1, hX W (hb.trans (h.mono (by have := hb.size; omega)))⟩
    have HX := Lib.hid hx
    have HBW := Lib.hid hbw
    clear hx hX hcell he cq cc c0 hb hb1 hs1 hbw
    go_wp2_with (fail)
    refine wp_region_grow mixed (by kernel_rfl) [[], [], [], [(1, 36), (2, 37)], [(3, 38)], [(4, 39)], [(4, 39)], [(4, 39)], [(6, 41), (7, 42), (4, 39)], [(8, 43), (4, 39)], [(4, 39)], [(5, 40), (9, 44), (10, 45), (4, 39), (4, 39)], [(11, 46), (4, 39)], [(4, 39), (12, 47)], [(0, 35), (11, 46), (0, 35)], [(13, 48), (14, 6), (0, 35), (1, 36), (2, 37), (3, 38), (4, 39), (5, 40), (6, 41), (7, 42), (8, 43), (9, 44), (10, 45), (11, 46), (12, 47), (13, 48), (14, 6)]] [(0, 35), (1, 36), (2, 37), (3, 38), (4, 39), (5, 40), (6, 41), (7, 42), (8, 43), (9, 44), (10, 45), (11, 46), (12, 47), (13, 48), (14, 6), (15, 7)] rfl rfl [Ex ?ec0, Ex ?ec1, Ex ?ec2, Ex ?ec3, Ex ?ec4, Ex ?ec5, Ex ?ec6, Ex ?ec7, Ex ?ec8, Ex ?ec9, Ex ?ec10, Ex (.int .i64 (ordA ⟨x1, x2, x3⟩ ⟨q, c, 0⟩)), Ex ?ec12, Ex ?ec13, Ex ?ec14, Ex ?ec15] ⟨stays_ex _, stays_ex _, stays_ex _, stays_ex _, stays_ex _, stays_ex _, stays_ex _, stays_ex _, stays_ex _, stays_ex _, stays_ex _, stays_ex _, stays_ex _, stays_ex _, stays_ex _, stays_ex _, trivial⟩ ?csteps ?crest
    case csteps =>
     refine ⟨fun f W hC hh => ?_, fun f W hC hh => ?_, fun f W hC hh => ?_, fun f W hC hh => ?_, fun f W hC hh => ?_, fun f W hC hh => ?_, fun f W hC hh => ?_, fun f W hC hh => ?_, fun f W hC hh => ?_, fun f W hC hh => ?_, fun f W hC hh => ?_, fun f W hC hh => ?_, fun f W hC hh => ?_, fun f W hC hh => ?_, fun f W hC hh => ?_, fun f W hC hh => ?_, trivial⟩
     ·
      refine tab_plain fun K Q hK => ?_;simp only [puts, foldr_nil];go_step;exact fam_e hK rfl rfl (Below.refl _ _) hC
     ·
      refine tab_plain fun K Q hK => ?_;simp only [puts, foldr_nil];go_step;exact fam_e hK rfl rfl (Below.refl _ _) hC
     ·
      refine tab_plain fun K Q hK => ?_;simp only [puts, foldr_nil];go_step;exact fam_e hK rfl rfl (Below.refl _ _) hC
     ·
      obtain ⟨h1, h2, -⟩ := hh;have g1 : f 1=_:=h1;have g2 : f 2=_:=h2;refine tab_plain fun K Q hK => ?_;simp only [puts, Za, Zb, Zc, Zd, Ze, g1, g2];go_step;exact fam_e hK rfl rfl (Below.refl _ _) hC
     ·
      obtain ⟨h3, -⟩ := hh;have g3 : f 3=_:=h3;refine tab_plain fun K Q hK => ?_;simp only [puts, Za, Zb, Zc, Zd, Ze, g3];go_step;exact fam_e hK rfl rfl (Below.refl _ _) hC
     ·
      obtain ⟨h4, -⟩ := hh;have g4 : f 4=_:=h4;refine tab_yes g4 fun K Q hK => ?_;simp only [puts, Za, Zb, Zc, Zd, Ze, g4];go_step;exact fam_e hK rfl rfl (Below.refl _ _) hC
     ·
      obtain ⟨h4, -⟩ := hh;have g4 : f 4=_:=h4;refine tab_yes g4 fun K Q hK => ?_;simp only [puts, Za, Zb, Zc, Zd, Ze, g4];go_step;exact fam_e hK rfl rfl (Below.refl _ _) hC
     ·
      obtain ⟨h4, -⟩ := hh;have g4 : f 4=_:=h4;refine tab_yes g4 fun K Q hK => ?_;simp only [puts, Za, Zb, Zc, Zd, Ze, g4];go_step;exact fam_e hK rfl rfl (Below.refl _ _) hC
     ·
      obtain ⟨h6, h7, h4, -⟩ := hh;have g6 : f 6=_:=h6;have g7 : f 7=_:=h7;have g4 : f 4=_:=h4;refine tab_yes g4 fun K Q hK => ?_;simp only [puts, Za, Zb, Zc, Zd, Ze, g6, g7, g4];go_step;exact fam_e hK rfl rfl (Below.refl _ _) hC
     ·
      obtain ⟨h8, h4, -⟩ := hh;have g8 : f 8=_:=h8;have g4 : f 4=_:=h4;refine tab_yes g4 fun K Q hK => ?_;simp only [puts, Za, Zb, Zc, Zd, Ze, g8, g4]
      obtain ⟨⟨cx1, cx2, cx3⟩, cy1, cy2, cy3⟩ := hcm W hC
      go_step;exact fam_e hK rfl rfl (Below.refl _ _) hC
     ·
      obtain ⟨h4, -⟩ := hh;have g4 : f 4=_:=h4;refine tab_yes g4 fun K Q hK => ?_;simp only [puts, Za, Zb, Zc, Zd, Ze, g4]
      obtain ⟨⟨cx1, cx2, cx3⟩, cy1, cy2, cy3⟩ := hcm W hC
      go_step;exact fam_e hK rfl rfl (Below.refl _ _) hC
     ·
      obtain ⟨h5, h9, h10, h4, _, -⟩ := hh;have g5 : f 5=_:=h5;have g9 : f 9=_:=h9;have g10 : f 10=_:=h10;have g4 : f 4=_:=h4;refine tab_yes g4 fun K Q hK => ?_;simp only [puts, Za, Zb, Zc, Zd, Ze, g5, g9, g10, g4];go_step
      first | go_at_call 25 | go_at_fn 25
      refine (order_any ⟨x1, x2, x3⟩ ⟨q, c, 0⟩ W).mono ?_
      rintro e w' ⟨rfl, hb⟩
      exact fam_fin hK rfl rfl hb (hC.trans (hb.mono hC.size))
     ·
      obtain ⟨h11, h4, -⟩ := hh;have g11 : f 11=_:=h11;have g4 : f 4=_:=h4;refine tab_yes g4 fun K Q hK => ?_;simp only [puts, Za, Zb, Zc, Zd, Ze, g11, g4];go_step;exact fam_e hK rfl rfl (Below.refl _ _) hC
     ·
      obtain ⟨h4, h12, -⟩ := hh;have g4 : f 4=_:=h4;have g12 : f 12=_:=h12;refine tab_plain fun K Q hK => ?_;simp only [puts, Za, Zb, Zc, Zd, Ze, g4, g12];go_step;exact fam_e hK rfl rfl (Below.refl _ _) hC
     ·
      obtain ⟨h0, h11, _, -⟩ := hh;have g0 : f 0=_:=h0;have g11 : f 11=_:=h11;refine tab_plain fun K Q hK => ?_;simp only [puts, Za, Zb, Zc, Zd, Ze, g0, g11];go_step;exact fam_e hK rfl rfl (Below.refl _ _) hC
     ·
      obtain ⟨h13, h14, h0, h1, h2, h3, h4, h5, h6, h7, h8, h9, h10, h11, h12, _, _, -⟩ := hh;have g13 : f 13=_:=h13;have g14 : f 14=_:=h14;have g0 : f 0=_:=h0;have g1 : f 1=_:=h1;have g2 : f 2=_:=h2;have g3 : f 3=_:=h3;have g4 : f 4=_:=h4;have g5 : f 5=_:=h5;have g6 : f 6=_:=h6;have g7 : f 7=_:=h7;have g8 : f 8=_:=h8;have g9 : f 9=_:=h9;have g10 : f 10=_:=h10;have g11 : f 11=_:=h11;have g12 : f 12=_:=h12;refine tab_plain fun K Q hK => ?_;simp only [puts, Za, Zb, Zc, Zd, Ze, g13, g14, g0, g1, g2, g3, g4, g5, g6, g7, g8, g9, g10, g11, g12];go_step;exact fam_e hK rfl rfl (Below.refl _ _) hC
    case crest =>
     intro f W2 hC hh
     obtain ⟨h0, h1, h2, h3, h4, h5, h6, h7, h8, h9, h10, h11, h12, h13, h14, h15, -⟩ := hh;have g0 : f 0=_:=h0;have g1 : f 1=_:=h1;have g2 : f 2=_:=h2;have g3 : f 3=_:=h3;have g4 : f 4=_:=h4;have g5 : f 5=_:=h5;have g6 : f 6=_:=h6;have g7 : f 7=_:=h7;have g8 : f 8=_:=h8;have g9 : f 9=_:=h9;have g10 : f 10=_:=h10;have g11 : f 11=_:=h11;have g12 : f 12=_:=h12;have g13 : f 13=_:=h13;have g14 : f 14=_:=h14;have g15 : f 15=_:=h15;simp only [puts, Za, Zb, Zc, Zd, Ze, g0, g1, g2, g3, g4, g5, g6, g7, g8, g9, g10, g11, g12, g13, g14, g15]
     clear h0 h1 h2 h3 h4 h5 h6 h7 h8 h9 h10 h11 h12 h13 h14 h15 g0 g1 g2 g3 g4 g5 g6 g7 g8 g9 g10 g11 g12 g13 g14 g15
     clear hcm
     go_wp2
     go_ret2
     refine ⟨⟨_, by rw [← HE.out]; rfl, ?_⟩, HBW.out.trans (hC.mono HBW.out.size)⟩
     unfold hasAt
     rw [← HE.out, HX.out]
     simp only [beq_iff_eq, ordA_zero, decide_eq_true_eq]
     exact ⟨fun h => ⟨by omega, h⟩, fun h => h.2⟩
   ·have hjl : j = len := by omega
    have t0 : decide ((j : Int) < len) = false := decide_eq_false (by omega)
    have HBW := Lib.hid hbw
    clear hX he cq cc c0 hb hb1 hs1 hbw
    go_wp2_with (fail)
    refine wp_region_grow mixed (by kernel_rfl) [[], [], [], [(1, 36), (2, 37)], [(3, 38)], [(4, 39)], [(4, 39)], [(4, 39)], [(6, 41), (7, 42), (4, 39)], [(8, 43), (4, 39)], [(4, 39)], [(5, 40), (9, 44), (10, 45), (4, 39), (4, 39)], [(11, 46), (4, 39)], [(4, 39), (12, 47)], [(0, 35), (11, 46), (0, 35)], [(13, 48), (14, 6), (0, 35), (1, 36), (2, 37), (3, 38), (4, 39), (5, 40), (6, 41), (7, 42), (8, 43), (9, 44), (10, 45), (11, 46), (12, 47), (13, 48), (14, 6)]] [(0, 35), (1, 36), (2, 37), (3, 38), (4, 39), (5, 40), (6, 41), (7, 42), (8, 43), (9, 44), (10, 45), (11, 46), (12, 47), (13, 48), (14, 6), (15, 7)] rfl rfl [Ex ?ed0, Ex ?ed1, Ex ?ed2, Ex ?ed3, Ex ?ed4, Ex undef, Ex undef, Ex undef, Ex undef, Ex undef, Ex undef, Ex undef, Ex undef, Ex ?ed13, Ex ?ed14, Ex ?ed15] ⟨stays_ex _, stays_ex _, stays_ex _, stays_ex _, stays_ex _, stays_ex _, stays_ex _, stays_ex _, stays_ex _, stays_ex _, stays_ex _, stays_ex _, stays_ex _, stays_ex _, stays_ex _, stays_ex _, trivial⟩ ?dsteps ?drest
    case dsteps =>
     refine ⟨fun f W hC hh => ?_, fun f W hC hh => ?_, fun f W hC hh => ?_, fun f W hC hh => ?_, fun f W hC hh => ?_, fun f W hC hh => ?_, fun f W hC hh => ?_, fun f W hC hh => ?_, fun f W hC hh => ?_, fun f W hC hh => ?_, fun f W hC hh => ?_, fun f W hC hh => ?_, fun f W hC hh => ?_, fun f W hC hh => ?_, fun f W hC hh => ?_, fun f W hC hh => ?_, trivial⟩
     ·
      refine tab_plain fun K Q hK => ?_;simp only [puts, foldr_nil];go_step;exact fam_e hK rfl rfl (Below.refl _ _) hC
     ·
      refine tab_plain fun K Q hK => ?_;simp only [puts, foldr_nil];go_step;exact fam_e hK rfl rfl (Below.refl _ _) hC
     ·
      refine tab_plain fun K Q hK => ?_;simp only [puts, foldr_nil];go_step;exact fam_e hK rfl rfl (Below.refl _ _) hC
     ·
      obtain ⟨h1, h2, -⟩ := hh;have g1 : f 1=_:=h1;have g2 : f 2=_:=h2;refine tab_plain fun K Q hK => ?_;simp only [puts, Za, Zb, Zc, Zd, Ze, g1, g2];go_step;exact fam_e hK rfl rfl (Below.refl _ _) hC
     ·
      obtain ⟨h3, -⟩ := hh;have g3 : f 3=_:=h3;refine tab_plain fun K Q hK => ?_;simp only [puts, Za, Zb, Zc, Zd, Ze, g3];go_step;exact fam_e hK rfl rfl (Below.refl _ _) hC
     ·
      obtain ⟨h4, -⟩ := hh;have g4 : f 4=_:=h4
      exact tab_no rfl g4 (by decide) rfl
     ·
      obtain ⟨h4, -⟩ := hh;have g4 : f 4=_:=h4
      exact tab_no rfl g4 (by decide) rfl
     ·
      obtain ⟨h4, -⟩ := hh;have g4 : f 4=_:=h4
      exact tab_no rfl g4 (by decide) rfl
     ·
      obtain ⟨h6, h7, h4, -⟩ := hh;have g6 : f 6=_:=h6;have g7 : f 7=_:=h7;have g4 : f 4=_:=h4
      exact tab_no rfl g4 (by decide) rfl
     ·
      obtain ⟨h8, h4, -⟩ := hh;have g8 : f 8=_:=h8;have g4 : f 4=_:=h4
      exact tab_no rfl g4 (by decide) rfl
     ·
      obtain ⟨h4, -⟩ := hh;have g4 : f 4=_:=h4
      exact tab_no rfl g4 (by decide) rfl
     ·
      obtain ⟨h5, h9, h10, h4, _, -⟩ := hh;have g5 : f 5=_:=h5;have g9 : f 9=_:=h9;have g10 : f 10=_:=h10;have g4 : f 4=_:=h4
      exact tab_no rfl g4 (by decide) rfl
     ·
      obtain ⟨h11, h4, -⟩ := hh;have g11 : f 11=_:=h11;have g4 : f 4=_:=h4
      exact tab_no rfl g4 (by decide) rfl
     ·
      obtain ⟨h4, h12, -⟩ := hh;have g4 : f 4=_:=h4;have g12 : f 12=_:=h12;refine tab_plain fun K Q hK => ?_;simp only [puts, Za, Zb, Zc, Zd, Ze, g4, g12];go_step;exact fam_e hK rfl rfl (Below.refl _ _) hC
     ·
      obtain ⟨h0, h11, _, -⟩ := hh;have g0 : f 0=_:=h0;have g11 : f 11=_:=h11;refine tab_plain fun K Q hK => ?_;simp only [puts, Za, Zb, Zc, Zd, Ze, g0, g11];go_step;exact fam_e hK rfl rfl (Below.refl _ _) hC
     ·
      obtain ⟨h13, h14, h0, h1, h2, h3, h4, h5, h6, h7, h8, h9, h10, h11, h12, _, _, -⟩ := hh;have g13 : f 13=_:=h13;have g14 : f 14=_:=h14;have g0 : f 0=_:=h0;have g1 : f 1=_:=h1;have g2 : f 2=_:=h2;have g3 : f 3=_:=h3;have g4 : f 4=_:=h4;have g5 : f 5=_:=h5;have g6 : f 6=_:=h6;have g7 : f 7=_:=h7;have g8 : f 8=_:=h8;have g9 : f 9=_:=h9;have g10 : f 10=_:=h10;have g11 : f 11=_:=h11;have g12 : f 12=_:=h12;refine tab_plain fun K Q hK => ?_;simp only [puts, Za, Zb, Zc, Zd, Ze, g13, g14, g0, g1, g2, g3, g4, g5, g6, g7, g8, g9, g10, g11, g12];go_step;exact fam_e hK rfl rfl (Below.refl _ _) hC
    case drest =>
     intro f W2 hC hh
     obtain ⟨h0, h1, h2, h3, h4, h5, h6, h7, h8, h9, h10, h11, h12, h13, h14, h15, -⟩ := hh;have g0 : f 0=_:=h0;have g1 : f 1=_:=h1;have g2 : f 2=_:=h2;have g3 : f 3=_:=h3;have g4 : f 4=_:=h4;have g5 : f 5=_:=h5;have g6 : f 6=_:=h6;have g7 : f 7=_:=h7;have g8 : f 8=_:=h8;have g9 : f 9=_:=h9;have g10 : f 10=_:=h10;have g11 : f 11=_:=h11;have g12 : f 12=_:=h12;have g13 : f 13=_:=h13;have g14 : f 14=_:=h14;have g15 : f 15=_:=h15;simp only [puts, Za, Zb, Zc, Zd, Ze, g0, g1, g2, g3, g4, g5, g6, g7, g8, g9, g10, g11, g12, g13, g14, g15]
     clear h0 h1 h2 h3 h4 h5 h6 h7 h8 h9 h10 h11 h12 h13 h14 h15 g0 g1 g2 g3 g4 g5 g6 g7 g8 g9 g10 g11 g12 g13 g14 g15
     go_wp2
     go_ret2
     refine ⟨⟨_, by rw [← HE.out]; rfl, ?_⟩, HBW.out.trans (hC.mono HBW.out.size)⟩
     unfold hasAt
     rw [← HE.out]
     exact ⟨fun h => (by cases h), fun h => (by omega)⟩
end Go.Proofs.YtbjdglopkpigbaaGreatDoor
