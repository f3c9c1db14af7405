import Derived.Deep.QuietTactic
import Derived.BigQuiet
import Derived.Test.YtofaifeadhimjaaGreatDoorMG5
/-
  NfaB, NfaC
-/
set_option linter.unusedSimpArgs false
set_option linter.unusedVariables false
namespace Go.Proofs.YtofaifeadhimjaaGreatDoor
open List (foldr_cons foldr_nil setIfInBounds_toArray set_cons_succ set_cons_zero)
open Go.RowKit
attribute [local go_sem] Oper.semAt_some

structure NH where
 sa : Option Addr
 sl : Nat
 sc : Nat
 fa : Option Addr
 fl : Nat
 fc : Nat
 aa : Option Addr
 al : Nat
 ac : Nat
def vNf (d : Nfa) (h : NH) : Value := .agg #[.int .i64 d.n, .slice h.sa h.sl h.sc, .slice h.fa h.fl h.fc, .slice h.aa h.al h.ac]
structure IsNfa (w : World) (h : NH) (d : Nfa) : Prop where
 start : IsInts .i64 w h.sa h.sl h.sc d.s
 fin : IsBools w h.fa h.fl h.fc d.fin
 arcs : IsArcs w h.aa h.al h.ac d.arcs
theorem IsNfa.later {w w' : World} {h : NH} {d : Nfa} (hd : IsNfa w h d) (hb : Below w.heap.size w w') : IsNfa w' h d := ⟨hd.start.later hb, hd.fin.later hb, hd.arcs.later hb⟩
theorem boxN (n : Int) (sa : Option Addr) (sl sc : Nat) (fa : Option Addr) (fl fc : Nat) (aa : Option Addr) (al ac : Nat) (w : World) :
  Below w.heap.size w (w.alloc (.cells #[.int .i64 n, .slice sa sl sc, .slice fa fl fc, .slice aa al ac] 31)) ∧ (w.alloc (.cells #[.int .i64 n, .slice sa sl sc, .slice fa fl fc, .slice aa al ac] 31)).heap.size = w.heap.size + 1 ∧
  ∀ W, Below (w.heap.size + 1) (w.alloc (.cells #[.int .i64 n, .slice sa sl sc, .slice fa fl fc, .slice aa al ac] 31)) W → W.cell? ⟨w.heap.size, 0, none⟩ = some (.int .i64 n) ∧ W.cell? ⟨w.heap.size, 1, none⟩ = some (.slice sa sl sc) ∧ W.cell? ⟨w.heap.size, 2, none⟩ = some (.slice fa fl fc) ∧ W.cell? ⟨w.heap.size, 3, none⟩ = some (.slice aa al ac) := by
 refine ⟨(Below.refl _ _).alloc (Nat.le_refl _) _, by simp, fun W hb => ?_⟩
 have := hb.block w.heap.size (Nat.lt_succ_self _)
 rw [heap_alloc_new] at this
 exact ⟨cell_of_row W _ 0 _ _ _ this, cell_of_row W _ 1 _ _ _ this, cell_of_row W _ 2 _ _ _ this, cell_of_row W _ 3 _ _ _ this⟩
theorem state_any (d : Nfa) (h : NH) (m : Int) (w : World) : Calls Tryz.prog 42 #[vNf d h, .int .i64 m] w fun e w' => e = .returned (.bool (decide (0 ≤ m ∧ m < d.n))) ∧ Below w.heap.size w w' := by
 obtain ⟨n, s, fin, arcs⟩ := d
 obtain ⟨sa, sl, sc, fa, fl, fc, aa, al, ac⟩ := h
 obtain ⟨hb1, hs1, hO⟩ := boxN n sa sl sc fa fl fc aa al ac w
 unfold vNf
 by_cases h0 : 0 ≤ m
 ·have t0 : decide (0 ≤ m) = true := decide_eq_true h0
  by_cases h1 : m < n
  ·have t1 : decide (m < n) = true := decide_eq_true h1
   have t2 : Hid (decide (0 ≤ m ∧ m < n) = true) := Lib.hid (decide_eq_true ⟨h0, h1⟩)
   go_enter Tryz.func42, Tryz.ntmps42
   go_wp2
   go_ret
   exact ⟨by first | rfl | (rw [t2.out]; rfl), hb1⟩
  ·have t1 : decide (m < n) = false := decide_eq_false h1
   have t2 : Hid (decide (0 ≤ m ∧ m < n) = false) := Lib.hid (decide_eq_false fun h => h1 h.2)
   go_enter Tryz.func42, Tryz.ntmps42
   go_wp2
   go_ret
   exact ⟨by first | rfl | (rw [t2.out]; rfl), hb1⟩
 ·have t0 : decide (0 ≤ m) = false := decide_eq_false h0
  have t2 : Hid (decide (0 ≤ m ∧ m < n) = false) := Lib.hid (decide_eq_false fun h => h0 h.1)
  go_enter Tryz.func42, Tryz.ntmps42
  go_wp2
  go_ret
  exact ⟨by first | rfl | (rw [t2.out]; rfl), hb1⟩
set_option maxRecDepth 20000 in
set_option maxHeartbeats 2000000 in
theorem search_any (a : Option Addr) (len cap : Nat) (es : List A3) (q c : Int) (w : World) (he : IsArcs w a len cap es) (hS : SortedN es) (hl : len ≤ 1000000) :
  Calls Tryz.prog 53 #[.slice a len cap, vA ⟨q, c, -1⟩, .func (.func 33) #[] #[]] w fun e w' => (∃ b, e = .returned (.tuple #[.int .i64 (loN es ⟨q, c, -1⟩ : Nat), .bool b])) ∧ Below w.heap.size w w' := by
 have hlen := he.length
 obtain ⟨hb1, hs1, hX⟩ := boxA ⟨q, c, -1⟩ w
 obtain ⟨W1, hW1⟩ : ∃ W1, w.alloc (.cells #[.int .i64 q, .int .i64 c, .int .i64 (-1)] 50) = W1 := ⟨_, rfl⟩
 simp only at hb1 hs1 hX
 rw [hW1] at hb1 hs1 hX
 unfold vA
 go_enter Tryz.func53, Tryz.ntmps53
 go_wp2
 clear hW1
 go_loopw [9, 10] (fun x y W => ∃ i j : Nat, x = .int .i64 (i : Int) ∧ y = .int .i64 (j : Int) ∧ i ≤ j ∧ j ≤ len ∧ (∀ p, p < i → LtN (g3 es p) ⟨q, c, -1⟩) ∧ (∀ p, j ≤ p → p < len → ¬ LtN (g3 es p) ⟨q, c, -1⟩) ∧ Below (w.heap.size + 1) W1 W) (fun x y _ => (intOf y).toNat - (intOf x).toNat)
 case atStart => exact ⟨0, len, rfl, rfl, Nat.zero_le _, Nat.le_refl _, (fun p hp => by omega), (fun p hp hp2 => by omega), Below.refl _ _⟩
 case round =>
  obtain ⟨i, j, rfl, rfl, hij, hj, hlo, hhi, hb⟩ := hrel
  obtain ⟨cq, cc, c0⟩ := hX wr hb
  have hbw : Below w.heap.size w wr := hb1.trans (hb.mono (by omega))
  rcases Nat.lt_or_ge i j with hlt | hge
  ·obtain ⟨b, off, rfl, hcell⟩ := he.fix (by omega)
   obtain ⟨m, hm⟩ : ∃ m, m = (i + j) / 2 := ⟨_, rfl⟩
   have hm1 : i ≤ m := by omega
   have hm2 : m < j := by omega
   have hmm : ((i : Int) + (j : Int)) / 2 = (m : Int) := by omega
   obtain ⟨x1, x2, x3, hx⟩ : ∃ x1 x2 x3, g3 es m = ⟨x1, x2, x3⟩ := ⟨_, _, _, rfl⟩
   have hcm : ∀ W, Below wr.heap.size wr W → (W.cell? ⟨b, off + m * 3, none⟩ = some (.int .i64 x1) ∧ W.cell? ⟨b, off + m * 3 + 1, none⟩ = some (.int .i64 x2) ∧ W.cell? ⟨b, off + m * 3 + 2, none⟩ = some (.int .i64 x3)) ∧ W.cell? ⟨w.heap.size, 0, none⟩ = some (.int .i64 q) ∧ W.cell? ⟨w.heap.size, 1, none⟩ = some (.int .i64 c) ∧ W.cell? ⟨w.heap.size, 2, none⟩ = some (.int .i64 (-1)) := fun W h => by
    have h1 := hcell W (hbw.trans (h.mono hbw.size)) m (by omega)
    rw [hx] at h1
    exact ⟨h1, hX W (hb.trans (h.mono (by have := hb.size; omega)))⟩
   have HLO := Lib.hid hlo
   have HHI := Lib.hid hhi
   have HX := Lib.hid hx
   have HB := Lib.hid hb
   have hmL : m < len := by omega
   have hsz : w.heap.size + 1 ≤ wr.heap.size := by have := hb.size; omega
   clear hm hlo hhi hx hX hcell he cq cc c0 hb hb1 hs1
   go_wp2_with (fail)
   clear hmm
   refine wp_region_grow mixed (by kernel_rfl) [[], [], [], [(1, 25), (2, 26)], [(3, 27)], [], [(0, 24), (4, 28), (5, 29)], [(6, 30)]] [(0, 24), (1, 25), (2, 26), (3, 27), (4, 28), (5, 29), (6, 30), (7, 31)] rfl rfl [Ex ?eb0, Ex ?eb1, Ex ?eb2, Ex ?eb3, Ex ?eb4, Ex ?eb5, Ex (.int .i64 (ordN ⟨x1, x2, x3⟩ ⟨q, c, -1⟩)), Ex ?eb7] ⟨stays_ex _, stays_ex _, stays_ex _, stays_ex _, stays_ex _, stays_ex _, stays_ex _, stays_ex _, trivial⟩ ?bsteps ?brest
   case bsteps =>
    refine ⟨fun f W hC hh => ?_, fun f W hC hh => ?_, fun f W hC hh => ?_, fun f W hC hh => ?_, fun f W hC hh => ?_, fun f W hC hh => ?_, fun f W hC hh => ?_, fun f W hC hh => ?_, trivial⟩
    ·
     refine tab_plain fun K Q hK => ?_
     simp only [puts, foldr_nil]
     go_step
     exact fam_e hK rfl rfl (Below.refl _ _) hC
    ·
     refine tab_plain fun K Q hK => ?_
     simp only [puts, foldr_nil]
     go_step
     exact fam_e hK rfl rfl (Below.refl _ _) hC
    ·
     refine tab_plain fun K Q hK => ?_
     simp only [puts, foldr_nil]
     go_step
     exact fam_e hK rfl rfl (Below.refl _ _) hC
    ·
     obtain ⟨h1, h2, -⟩ := hh
     have g1 : f 1 = _ := h1
     have g2 : f 2 = _ := h2
     refine tab_plain fun K Q hK => ?_
     simp only [puts, Za, Zb, Zc, Zd, Ze, g1, g2]
     go_step
     exact fam_e hK rfl rfl (Below.refl _ _) hC
    ·
     obtain ⟨h3, -⟩ := hh
     have g3 : f 3 = _ := h3
     refine tab_plain fun K Q hK => ?_
     simp only [puts, Za, Zb, Zc, Zd, Ze, g3]
     obtain ⟨⟨cx1, cx2, cx3⟩, cy1, cy2, cy3⟩ := hcm W hC
     go_step
     exact fam_e hK rfl rfl (Below.refl _ _) hC
    ·
     refine tab_plain fun K Q hK => ?_
     simp only [puts, foldr_nil]
     obtain ⟨⟨cx1, cx2, cx3⟩, cy1, cy2, cy3⟩ := hcm W hC
     go_step
     exact fam_e hK rfl rfl (Below.refl _ _) hC
    ·
     obtain ⟨h0, h4, h5, -⟩ := hh
     have g0 : f 0 = _ := h0
     have g4 : f 4 = _ := h4
     have g5 : f 5 = _ := h5
     refine tab_plain fun K Q hK => ?_
     simp only [puts, Za, Zb, Zc, Zd, Ze, g0, g4, g5]
     go_step
     first | go_at_call 33 | go_at_fn 33
     refine (order_any ⟨x1, x2, x3⟩ ⟨q, c, -1⟩ W).mono ?_
     rintro e w' ⟨rfl, hb⟩
     exact fam_fin hK rfl rfl hb (hC.trans (hb.mono hC.size))
    ·
     obtain ⟨h6, -⟩ := hh
     have g6 : f 6 = _ := h6
     refine tab_plain fun K Q hK => ?_
     simp only [puts, Za, Zb, Zc, Zd, Ze, g6]
     go_step
     exact fam_e hK rfl rfl (Below.refl _ _) hC
   case brest =>
    intro f W2 hC hh
    obtain ⟨h0, h1, h2, h3, h4, h5, h6, h7, -⟩ := hh
    have g0 : f 0 = _ := h0
    have g1 : f 1 = _ := h1
    have g2 : f 2 = _ := h2
    have g3 : f 3 = _ := h3
    have g4 : f 4 = _ := h4
    have g5 : f 5 = _ := h5
    have g6 : f 6 = _ := h6
    have g7 : f 7 = _ := h7
    simp only [puts, Za, Zb, Zc, Zd, Ze, g0, g1, g2, g3, g4, g5, g6, g7]
    clear h0 h1 h2 h3 h4 h5 h6 h7 g0 g1 g2 g3 g4 g5 g6 g7
    have hbel : Below (w.heap.size + 1) W1 W2 := HB.out.trans (hC.mono hsz)
    by_cases hL : LtN ⟨x1, x2, x3⟩ ⟨q, c, -1⟩
    ·rw [show decide (ordN ⟨x1, x2, x3⟩ ⟨q, c, -1⟩ < 0) = true from decide_eq_true (ordN_lt.2 hL)]
     have HLT := Lib.hid hL
     clear hL hcm
     go_wp2
     go_roundw
     case rel =>
      refine ⟨m + 1, j, by go_num, rfl, by omega, hj, fun p hp => ?_, HHI.out, hbel⟩
      rcases Nat.lt_or_ge p m with h1 | h1
      ·exact (hS.lt h1 (by omega)).trans (by rw [HX.out]; exact HLT.out)
      ·rw [show p = m by omega, HX.out]; exact HLT.out
     case measure => simp [intOf]; omega
    ·rw [show decide (ordN ⟨x1, x2, x3⟩ ⟨q, c, -1⟩ < 0) = false from decide_eq_false (fun h => hL (ordN_lt.1 h))]
     have HLT := Lib.hid hL
     clear hL hcm
     go_wp2
     go_roundw
     case rel =>
      refine ⟨i, m, rfl, by go_num, hm1, by omega, HLO.out, fun p hp hpl hq => ?_, hbel⟩
      rcases Nat.lt_or_ge m p with h1 | h1
      ·exact HLT.out (by rw [← HX.out]; exact (hS.lt h1 (by omega)).trans hq)
      ·rw [show p = m by omega, HX.out] at hq; exact HLT.out hq
     case measure => simp [intOf]; omega
  ·have hEq : i = loN es ⟨q, c, -1⟩ := loN_eq hS ⟨q, c, -1⟩ (by omega) hlo (fun p hp hpl => hhi p (by omega) (by omega))
   have hij' : j = i := by omega
   subst hij'
   clear hlo hhi hge hij
   have HE := Lib.hid hEq
   clear hEq
   rcases Nat.lt_or_ge j len with hlt | hge
   ·obtain ⟨b, off, rfl, hcell⟩ := he.fix (by omega)
    have t0 : decide ((j : Int) < len) = true := decide_eq_true (by omega)
    obtain ⟨x1, x2, x3, hx⟩ : ∃ x1 x2 x3, g3 es j = ⟨x1, x2, x3⟩ := ⟨_, _, _, rfl⟩
    have hcm : ∀ W, Below wr.heap.size wr W → (W.cell? ⟨b, off + j * 3, none⟩ = some (.int .i64 x1) ∧ W.cell? ⟨b, off + j * 3 + 1, none⟩ = some (.int .i64 x2) ∧ W.cell? ⟨b, off + j * 3 + 2, none⟩ = some (.int .i64 x3)) ∧ W.cell? ⟨w.heap.size, 0, none⟩ = some (.int .i64 q) ∧ W.cell? ⟨w.heap.size, 1, none⟩ = some (.int .i64 c) ∧ W.cell? ⟨w.heap.size, 2, none⟩ = some (.int .i64 (-1)) := fun W h => by
     have h1 := hcell W (hbw.trans (h.mono hbw.size)) j (by omega)
     rw [hx] at h1
     exact ⟨h1, hX W (hb.trans (h.mono (by have := hb.size; omega)))⟩
    have HX := Lib.hid hx
    have HBW := Lib.hid hbw
    clear hx hX hcell he cq cc c0 hb hb1 hs1 hbw
    go_wp2_with (fail)
    refine wp_region_grow mixed (by kernel_rfl) [[], [], [], [(1, 36), (2, 37)], [(3, 38)], [(4, 39)], [(4, 39)], [(4, 39)], [(6, 41), (7, 42), (4, 39)], [(8, 43), (4, 39)], [(4, 39)], [(5, 40), (9, 44), (10, 45), (4, 39), (4, 39)], [(11, 46), (4, 39)], [(4, 39), (12, 47)], [(0, 35), (11, 46), (0, 35)], [(13, 48), (14, 6), (0, 35), (1, 36), (2, 37), (3, 38), (4, 39), (5, 40), (6, 41), (7, 42), (8, 43), (9, 44), (10, 45), (11, 46), (12, 47), (13, 48), (14, 6)]] [(0, 35), (1, 36), (2, 37), (3, 38), (4, 39), (5, 40), (6, 41), (7, 42), (8, 43), (9, 44), (10, 45), (11, 46), (12, 47), (13, 48), (14, 6), (15, 7)] rfl rfl [Ex ?ec0, Ex ?ec1, Ex ?ec2, Ex ?ec3, Ex ?ec4, Ex ?ec5, Ex ?ec6, Ex ?ec7, Ex ?ec8, Ex ?ec9, Ex ?ec10, Ex (.int .i64 (ordN ⟨x1, x2, x3⟩ ⟨q, c, -1⟩)), Ex ?ec12, Ex ?ec13, Ex ?ec14, Ex ?ec15] ⟨stays_ex _, stays_ex _, stays_ex _, stays_ex _, stays_ex _, stays_ex _, stays_ex _, stays_ex _, stays_ex _, stays_ex _, stays_ex _, stays_ex _, stays_ex _, stays_ex _, stays_ex _, stays_ex _, trivial⟩ ?csteps ?crest
    case csteps =>
     refine ⟨fun f W hC hh => ?_, fun f W hC hh => ?_, fun f W hC hh => ?_, fun f W hC hh => ?_, fun f W hC hh => ?_, fun f W hC hh => ?_, fun f W hC hh => ?_, fun f W hC hh => ?_, fun f W hC hh => ?_, fun f W hC hh => ?_, fun f W hC hh => ?_, fun f W hC hh => ?_, fun f W hC hh => ?_, fun f W hC hh => ?_, fun f W hC hh => ?_, fun f W hC hh => ?_, trivial⟩
     ·
      refine tab_plain fun K Q hK => ?_
      simp only [puts, foldr_nil]
      go_step
      exact fam_e hK rfl rfl (Below.refl _ _) hC
     ·
      refine tab_plain fun K Q hK => ?_
      simp only [puts, foldr_nil]
      go_step
      exact fam_e hK rfl rfl (Below.refl _ _) hC
     ·
      refine tab_plain fun K Q hK => ?_
      simp only [puts, foldr_nil]
      go_step
      exact fam_e hK rfl rfl (Below.refl _ _) hC
     ·
      obtain ⟨h1, h2, -⟩ := hh
      have g1 : f 1 = _ := h1
      have g2 : f 2 = _ := h2
      refine tab_plain fun K Q hK => ?_
      simp only [puts, Za, Zb, Zc, Zd, Ze, g1, g2]
      go_step
      exact fam_e hK rfl rfl (Below.refl _ _) hC
     ·
      obtain ⟨h3, -⟩ := hh
      have g3 : f 3 = _ := h3
      refine tab_plain fun K Q hK => ?_
      simp only [puts, Za, Zb, Zc, Zd, Ze, g3]
      go_step
      exact fam_e hK rfl rfl (Below.refl _ _) hC
     ·
      obtain ⟨h4, -⟩ := hh
      have g4 : f 4 = _ := h4
      refine tab_yes g4 fun K Q hK => ?_
      simp only [puts, Za, Zb, Zc, Zd, Ze, g4]
      go_step
      exact fam_e hK rfl rfl (Below.refl _ _) hC
     ·
      obtain ⟨h4, -⟩ := hh
      have g4 : f 4 = _ := h4
      refine tab_yes g4 fun K Q hK => ?_
      simp only [puts, Za, Zb, Zc, Zd, Ze, g4]
      go_step
      exact fam_e hK rfl rfl (Below.refl _ _) hC
     ·
      obtain ⟨h4, -⟩ := hh
      have g4 : f 4 = _ := h4
      refine tab_yes g4 fun K Q hK => ?_
      simp only [puts, Za, Zb, Zc, Zd, Ze, g4]
      go_step
      exact fam_e hK rfl rfl (Below.refl _ _) hC
     ·
      obtain ⟨h6, h7, h4, -⟩ := hh
      have g6 : f 6 = _ := h6
      have g7 : f 7 = _ := h7
      have g4 : f 4 = _ := h4
      refine tab_yes g4 fun K Q hK => ?_
      simp only [puts, Za, Zb, Zc, Zd, Ze, g6, g7, g4]
      go_step
      exact fam_e hK rfl rfl (Below.refl _ _) hC
     ·
      obtain ⟨h8, h4, -⟩ := hh
      have g8 : f 8 = _ := h8
      have g4 : f 4 = _ := h4
      refine tab_yes g4 fun K Q hK => ?_
      simp only [puts, Za, Zb, Zc, Zd, Ze, g8, g4]
      obtain ⟨⟨cx1, cx2, cx3⟩, cy1, cy2, cy3⟩ := hcm W hC
      go_step
      exact fam_e hK rfl rfl (Below.refl _ _) hC
     ·
      obtain ⟨h4, -⟩ := hh
      have g4 : f 4 = _ := h4
      refine tab_yes g4 fun K Q hK => ?_
      simp only [puts, Za, Zb, Zc, Zd, Ze, g4]
      obtain ⟨⟨cx1, cx2, cx3⟩, cy1, cy2, cy3⟩ := hcm W hC
      go_step
      exact fam_e hK rfl rfl (Below.refl _ _) hC
     ·
      obtain ⟨h5, h9, h10, h4, _, -⟩ := hh
      have g5 : f 5 = _ := h5
      have g9 : f 9 = _ := h9
      have g10 : f 10 = _ := h10
      have g4 : f 4 = _ := h4
      refine tab_yes g4 fun K Q hK => ?_
      simp only [puts, Za, Zb, Zc, Zd, Ze, g5, g9, g10, g4]
      go_step
      first | go_at_call 33 | go_at_fn 33
      refine (order_any ⟨x1, x2, x3⟩ ⟨q, c, -1⟩ W).mono ?_
      rintro e w' ⟨rfl, hb⟩
      exact fam_fin hK rfl rfl hb (hC.trans (hb.mono hC.size))
     ·
      obtain ⟨h11, h4, -⟩ := hh
      have g11 : f 11 = _ := h11
      have g4 : f 4 = _ := h4
      refine tab_yes g4 fun K Q hK => ?_
      simp only [puts, Za, Zb, Zc, Zd, Ze, g11, g4]
      go_step
      exact fam_e hK rfl rfl (Below.refl _ _) hC
     ·
      obtain ⟨h4, h12, -⟩ := hh
      have g4 : f 4 = _ := h4
      have g12 : f 12 = _ := h12
      refine tab_plain fun K Q hK => ?_
      simp only [puts, Za, Zb, Zc, Zd, Ze, g4, g12]
      go_step
      exact fam_e hK rfl rfl (Below.refl _ _) hC
     ·
      obtain ⟨h0, h11, _, -⟩ := hh
      have g0 : f 0 = _ := h0
      have g11 : f 11 = _ := h11
      refine tab_plain fun K Q hK => ?_
      simp only [puts, Za, Zb, Zc, Zd, Ze, g0, g11]
      go_step
      exact fam_e hK rfl rfl (Below.refl _ _) hC
     ·
      obtain ⟨h13, h14, h0, h1, h2, h3, h4, h5, h6, h7, h8, h9, h10, h11, h12, _, _, -⟩ := hh
      have g13 : f 13 = _ := h13
      have g14 : f 14 = _ := h14
      have g0 : f 0 = _ := h0
      have g1 : f 1 = _ := h1
      have g2 : f 2 = _ := h2
      have g3 : f 3 = _ := h3
      have g4 : f 4 = _ := h4
      have g5 : f 5 = _ := h5
      have g6 : f 6 = _ := h6
      have g7 : f 7 = _ := h7
      have g8 : f 8 = _ := h8
      have g9 : f 9 = _ := h9
      have g10 : f 10 = _ := h10
      have g11 : f 11 = _ := h11
      have g12 : f 12 = _ := h12
      refine tab_plain fun K Q hK => ?_
      simp only [puts, Za, Zb, Zc, Zd, Ze, g13, g14, g0, g1, g2, g3, g4, g5, g6, g7, g8, g9, g10, g11, g12]
      go_step
      exact fam_e hK rfl rfl (Below.refl _ _) hC
    case crest =>
     intro f W2 hC hh
     obtain ⟨h0, h1, h2, h3, h4, h5, h6, h7, h8, h9, h10, h11, h12, h13, h14, h15, -⟩ := hh
     have g0 : f 0 = _ := h0
     have g1 : f 1 = _ := h1
     have g2 : f 2 = _ := h2
     have g3 : f 3 = _ := h3
     have g4 : f 4 = _ := h4
     have g5 : f 5 = _ := h5
     have g6 : f 6 = _ := h6
     have g7 : f 7 = _ := h7
     have g8 : f 8 = _ := h8
     have g9 : f 9 = _ := h9
     have g10 : f 10 = _ := h10
     have g11 : f 11 = _ := h11
     have g12 : f 12 = _ := h12
     have g13 : f 13 = _ := h13
     have g14 : f 14 = _ := h14
     have g15 : f 15 = _ := h15
     simp only [puts, Za, Zb, Zc, Zd, Ze, g0, g1, g2, g3, g4, g5, g6, g7, g8, g9, g10, g11, g12, g13, g14, g15]
     clear h0 h1 h2 h3 h4 h5 h6 h7 h8 h9 h10 h11 h12 h13 h14 h15 g0 g1 g2 g3 g4 g5 g6 g7 g8 g9 g10 g11 g12 g13 g14 g15
     clear hcm
     go_wp2
     go_ret2
     exact ⟨⟨_, by rw [← HE.out]; rfl⟩, HBW.out.trans (hC.mono HBW.out.size)⟩
   ·have hjl : j = len := by omega
    have t0 : decide ((j : Int) < len) = false := decide_eq_false (by omega)
    have HBW := Lib.hid hbw
    clear hX he cq cc c0 hb hb1 hs1 hbw
    go_wp2_with (fail)
    refine wp_region_grow mixed (by kernel_rfl) [[], [], [], [(1, 36), (2, 37)], [(3, 38)], [(4, 39)], [(4, 39)], [(4, 39)], [(6, 41), (7, 42), (4, 39)], [(8, 43), (4, 39)], [(4, 39)], [(5, 40), (9, 44), (10, 45), (4, 39), (4, 39)], [(11, 46), (4, 39)], [(4, 39), (12, 47)], [(0, 35), (11, 46), (0, 35)], [(13, 48), (14, 6), (0, 35), (1, 36), (2, 37), (3, 38), (4, 39), (5, 40), (6, 41), (7, 42), (8, 43), (9, 44), (10, 45), (11, 46), (12, 47), (13, 48), (14, 6)]] [(0, 35), (1, 36), (2, 37), (3, 38), (4, 39), (5, 40), (6, 41), (7, 42), (8, 43), (9, 44), (10, 45), (11, 46), (12, 47), (13, 48), (14, 6), (15, 7)] rfl rfl [Ex ?ed0, Ex ?ed1, Ex ?ed2, Ex ?ed3, Ex ?ed4, Ex undef, Ex undef, Ex undef, Ex undef, Ex undef, Ex undef, Ex undef, Ex undef, Ex ?ed13, Ex ?ed14, Ex ?ed15] ⟨stays_ex _, stays_ex _, stays_ex _, stays_ex _, stays_ex _, stays_ex _, stays_ex _, stays_ex _, stays_ex _, stays_ex _, stays_ex _, stays_ex _, stays_ex _, stays_ex _, stays_ex _, stays_ex _, trivial⟩ ?dsteps ?drest
    case dsteps =>
     refine ⟨fun f W hC hh => ?_, fun f W hC hh => ?_, fun f W hC hh => ?_, fun f W hC hh => ?_, fun f W hC hh => ?_, fun f W hC hh => ?_, fun f W hC hh => ?_, fun f W hC hh => ?_, fun f W hC hh => ?_, fun f W hC hh => ?_, fun f W hC hh => ?_, fun f W hC hh => ?_, fun f W hC hh => ?_, fun f W hC hh => ?_, fun f W hC hh => ?_, fun f W hC hh => ?_, trivial⟩
     ·
      refine tab_plain fun K Q hK => ?_
      simp only [puts, foldr_nil]
      go_step
      exact fam_e hK rfl rfl (Below.refl _ _) hC
     ·
      refine tab_plain fun K Q hK => ?_
      simp only [puts, foldr_nil]
      go_step
      exact fam_e hK rfl rfl (Below.refl _ _) hC
     ·
      refine tab_plain fun K Q hK => ?_
      simp only [puts, foldr_nil]
      go_step
      exact fam_e hK rfl rfl (Below.refl _ _) hC
     ·
      obtain ⟨h1, h2, -⟩ := hh
      have g1 : f 1 = _ := h1
      have g2 : f 2 = _ := h2
      refine tab_plain fun K Q hK => ?_
      simp only [puts, Za, Zb, Zc, Zd, Ze, g1, g2]
      go_step
      exact fam_e hK rfl rfl (Below.refl _ _) hC
     ·
      obtain ⟨h3, -⟩ := hh
      have g3 : f 3 = _ := h3
      refine tab_plain fun K Q hK => ?_
      simp only [puts, Za, Zb, Zc, Zd, Ze, g3]
      go_step
      exact fam_e hK rfl rfl (Below.refl _ _) hC
     ·
      obtain ⟨h4, -⟩ := hh
      have g4 : f 4 = _ := h4
      exact tab_no rfl g4 (by decide) rfl
     ·
      obtain ⟨h4, -⟩ := hh
      have g4 : f 4 = _ := h4
      exact tab_no rfl g4 (by decide) rfl
     ·
      obtain ⟨h4, -⟩ := hh
      have g4 : f 4 = _ := h4
      exact tab_no rfl g4 (by decide) rfl
     ·
      obtain ⟨h6, h7, h4, -⟩ := hh
      have g6 : f 6 = _ := h6
      have g7 : f 7 = _ := h7
      have g4 : f 4 = _ := h4
      exact tab_no rfl g4 (by decide) rfl
     ·
      obtain ⟨h8, h4, -⟩ := hh
      have g8 : f 8 = _ := h8
      have g4 : f 4 = _ := h4
      exact tab_no rfl g4 (by decide) rfl
     ·
      obtain ⟨h4, -⟩ := hh
      have g4 : f 4 = _ := h4
      exact tab_no rfl g4 (by decide) rfl
     ·
      obtain ⟨h5, h9, h10, h4, _, -⟩ := hh
      have g5 : f 5 = _ := h5
      have g9 : f 9 = _ := h9
      have g10 : f 10 = _ := h10
      have g4 : f 4 = _ := h4
      exact tab_no rfl g4 (by decide) rfl
     ·
      obtain ⟨h11, h4, -⟩ := hh
      have g11 : f 11 = _ := h11
      have g4 : f 4 = _ := h4
      exact tab_no rfl g4 (by decide) rfl
     ·
      obtain ⟨h4, h12, -⟩ := hh
      have g4 : f 4 = _ := h4
      have g12 : f 12 = _ := h12
      refine tab_plain fun K Q hK => ?_
      simp only [puts, Za, Zb, Zc, Zd, Ze, g4, g12]
      go_step
      exact fam_e hK rfl rfl (Below.refl _ _) hC
     ·
      obtain ⟨h0, h11, _, -⟩ := hh
      have g0 : f 0 = _ := h0
      have g11 : f 11 = _ := h11
      refine tab_plain fun K Q hK => ?_
      simp only [puts, Za, Zb, Zc, Zd, Ze, g0, g11]
      go_step
      exact fam_e hK rfl rfl (Below.refl _ _) hC
     ·
      obtain ⟨h13, h14, h0, h1, h2, h3, h4, h5, h6, h7, h8, h9, h10, h11, h12, _, _, -⟩ := hh
      have g13 : f 13 = _ := h13
      have g14 : f 14 = _ := h14
      have g0 : f 0 = _ := h0
      have g1 : f 1 = _ := h1
      have g2 : f 2 = _ := h2
      have g3 : f 3 = _ := h3
      have g4 : f 4 = _ := h4
      have g5 : f 5 = _ := h5
      have g6 : f 6 = _ := h6
      have g7 : f 7 = _ := h7
      have g8 : f 8 = _ := h8
      have g9 : f 9 = _ := h9
      have g10 : f 10 = _ := h10
      have g11 : f 11 = _ := h11
      have g12 : f 12 = _ := h12
      refine tab_plain fun K Q hK => ?_
      simp only [puts, Za, Zb, Zc, Zd, Ze, g13, g14, g0, g1, g2, g3, g4, g5, g6, g7, g8, g9, g10, g11, g12]
      go_step
      exact fam_e hK rfl rfl (Below.refl _ _) hC
    case drest =>
     intro f W2 hC hh
     obtain ⟨h0, h1, h2, h3, h4, h5, h6, h7, h8, h9, h10, h11, h12, h13, h14, h15, -⟩ := hh
     have g0 : f 0 = _ := h0
     have g1 : f 1 = _ := h1
     have g2 : f 2 = _ := h2
     have g3 : f 3 = _ := h3
     have g4 : f 4 = _ := h4
     have g5 : f 5 = _ := h5
     have g6 : f 6 = _ := h6
     have g7 : f 7 = _ := h7
     have g8 : f 8 = _ := h8
     have g9 : f 9 = _ := h9
     have g10 : f 10 = _ := h10
     have g11 : f 11 = _ := h11
     have g12 : f 12 = _ := h12
     have g13 : f 13 = _ := h13
     have g14 : f 14 = _ := h14
     have g15 : f 15 = _ := h15
     simp only [puts, Za, Zb, Zc, Zd, Ze, g0, g1, g2, g3, g4, g5, g6, g7, g8, g9, g10, g11, g12, g13, g14, g15]
     clear h0 h1 h2 h3 h4 h5 h6 h7 h8 h9 h10 h11 h12 h13 h14 h15 g0 g1 g2 g3 g4 g5 g6 g7 g8 g9 g10 g11 g12 g13 g14 g15
     go_wp2
     go_ret2
     exact ⟨⟨_, by rw [← HE.out]; rfl⟩, HBW.out.trans (hC.mono HBW.out.size)⟩
end Go.Proofs.YtofaifeadhimjaaGreatDoor

set_option linter.unusedSimpArgs false
set_option linter.unusedVariables false
namespace Go.Proofs.YtofaifeadhimjaaGreatDoor
open Go.RowKit
attribute [local go_sem] Oper.semAt_some

theorem IsArcs.part {w : World} {b off al ac : Nat} {es : List A3} (h : IsArcs w (some ⟨b, off, none⟩) al ac es) {i k c : Nat} (hik : i ≤ k) (hk : k ≤ al) (hc : k - i ≤ c) (hcm : c ≤ maxLen) : IsArcs w (some ⟨b, off + i * 3, none⟩) (k - i) c ((es.drop i).take (k - i)) := by
 have hl := h.length
 refine .inr ⟨b, off + i * 3, rfl, hc, hcm, by rw [List.length_take, List.length_drop]; omega, fun j hj => ?_⟩
 have e : g3 ((es.drop i).take (k - i)) j = g3 es (i + j) := by
  unfold g3
  rw [List.getD_eq_getElem?_getD, List.getD_eq_getElem?_getD, List.getElem?_take_of_lt (by omega), List.getElem?_drop]
 rw [e]
 have := h.get (i + j) (by omega)
 rwa [show off + (i + j) * 3 = off + i * 3 + j * 3 by omega] at this
set_option maxRecDepth 20000 in
theorem arcs_in (d : Nfa) (h : NH) (q c : Int) (w : World) (hd : IsNfa w h d) (hS : SortedN d.arcs) (hL : ∀ x ∈ d.arcs, 0 ≤ x.t) (hl : d.arcs.length ≤ 20000) (hq : 0 ≤ c ∧ c < 1000000) :
  Calls Tryz.prog 44 #[vNf d h, .int .i64 q, .int .i64 c] w fun e w' => (∃ a' c', e = .returned (.slice a' (arcsN d.arcs q c).length c') ∧ ∀ W0, IsNfa W0 h d → IsArcs W0 a' (arcsN d.arcs q c).length c' (arcsN d.arcs q c)) ∧ Below w.heap.size w w' := by
 obtain ⟨n, s, fin, es⟩ := d
 obtain ⟨sa, sl, sc, fa, fl, fc, aa, al, ac⟩ := h
 obtain ⟨-, -, he⟩ := hd
 simp only at he hS hl hL ⊢
 have hlen := he.length
 have hcap := he.capLe
 unfold maxLen at hcap
 rw [hlen] at hl
 obtain ⟨hb1, hs1, hO⟩ := boxN n sa sl sc fa fl fc aa al ac w
 obtain ⟨W1, hW1⟩ : ∃ W1, w.alloc (.cells #[.int .i64 n, .slice sa sl sc, .slice fa fl fc, .slice aa al ac] 31) = W1 := ⟨_, rfl⟩
 rw [hW1] at hb1 hs1 hO
 obtain ⟨-, -, -, co⟩ := hO W1 (Below.refl _ _)
 have hcall := fun W (hb : Below w.heap.size w W) (c : Int) => search_any _ al ac es q c W (he.later hb) hS (by omega)
 obtain ⟨hik, hpart⟩ := arcsN_part hS hL q c
 have hk := loN_le es ⟨q, c + 1, -1⟩
 rw [hlen] at hk
 have hc0 := hcall W1 hb1 c
 have hc1 := fun W hb => hcall W hb (c + 1)
 obtain ⟨i, hi⟩ : ∃ i, loN es ⟨q, c, -1⟩ = i := ⟨_, rfl⟩
 obtain ⟨k, hk'⟩ : ∃ k, loN es ⟨q, c + 1, -1⟩ = k := ⟨_, rfl⟩
 rw [hi] at hc0 hik hpart
 rw [hk'] at hc1 hik hpart hk
 simp only [vA] at hc0 hc1
 have HC := Lib.hid hc1
 have hol : (arcsN es q c).length = k - i := by rw [← hpart, List.length_take, List.length_drop]; omega
 have HP := Lib.hid hpart
 have HE := Lib.hid he
 unfold vNf
 rw [hol]
 clear hcall hi hk' hpart hc1 he hol
 have hi64 : ((i : Int) ≤ k) := by omega
 have hk64 : ((k : Int) ≤ ac) := by omega
 go_enter Tryz.func44, Tryz.ntmps44
 go_wp2_with (first | (go_at_call 53; with_reducible refine hc0.mono ?_; rintro e w2 ⟨⟨u, rfl⟩, hb2⟩; have HB2 : Hid (Below w.heap.size w w2) := Lib.hid (hb1.trans (hb2.mono hb1.size)); obtain ⟨-, -, -, co2⟩ := hO w2 (hb2.mono (by omega)); have hc2 := HC.out w2 HB2.out) | (go_at_call 53; with_reducible refine hc2.mono ?_; rintro e w3 ⟨⟨u3, rfl⟩, hb3⟩; obtain ⟨-, -, -, co3⟩ := hO w3 ((hb2.trans (hb3.mono hb2.size)).mono (by omega))))
 all_goals (
  have hB3 : Below w.heap.size w w3 := HB2.out.trans (hb3.mono HB2.out.size)
  rw [← HP.out])
 ·go_ret
  have h0 : k - i = 0 := by omega
  exact ⟨⟨aa, 0, by rw [h0]; rfl, fun W0 _ => .inl ⟨h0, rfl, by rw [h0]; rfl⟩⟩, hB3⟩
 ·rcases HE.out with ⟨h1, h2, h3⟩ | ⟨b, off, rfl, h4⟩
  ·go_ret
   have h0 : k - i = 0 := by omega
   exact ⟨⟨_, ac - i, by rw [h0]; rfl, fun W0 _ => .inl ⟨h0, by omega, by rw [h0]; rfl⟩⟩, hB3⟩
  ·go_ret
   exact ⟨⟨some ⟨b, off + i * 3, none⟩, ac - i, by rw [← addr_add]; rfl, fun W0 hW0 => IsArcs.part hW0.arcs hik hk (by omega) (by unfold maxLen; omega)⟩, hB3⟩
end Go.Proofs.YtofaifeadhimjaaGreatDoor
