/-
  Package bits: Union, Inter and Minus make the trimmed words of the operation.
-/
import Derived.Test.YtmeldbddbinnbaaDoorBitB
set_option linter.unusedSimpArgs false
set_option linter.unusedVariables false
namespace Go.Proofs.YtmeldbddbinnbaaDoor
open Go.RowKit Go.Shelf

/-- The words of an operation. -/
def opW (op : BinOp) (xs ys : List Int) (i : Nat) : Int := bits op .u64 (wd xs i) (wd ys i)

theorem union1_any (a : Option Addr) (len cap : Nat) (xs : List Int) (a' : Option Addr) (len' cap' : Nat) (ys : List Int) (i x y : Nat) (w : World) (hi : i < 64) (hs : IsInts .u64 w a len cap xs) (hs' : IsInts .u64 w a' len' cap' ys)
    (hx : w.cell? ⟨x, 0, none⟩ = some (.slice a len cap)) (hy : w.cell? ⟨y, 0, none⟩ = some (.slice a' len' cap')) :
    Calls Tryd.prog 44 #[.int .i64 (i : Int), .pointer (some ⟨x, 0, none⟩), .pointer (some ⟨y, 0, none⟩)] w fun e w' => e = .returned (.int .u64 (opW .or xs ys i)) ∧ Below w.heap.size w w' := by
  have hx' := lt_of_cell hx
  have hy' := lt_of_cell hy
  go_enter Tryd.func44, Tryd.ntmps44
  go_wp2
  refine wp_region_grow mixed (by kernel_rfl) [[], [], [(0, 5), (1, 6)], [], [], [(3, 8), (4, 9), (2, 7)], [(2, 7), (5, 10)], [(6, 11), (5, 10), (0, 5), (1, 6), (2, 7), (3, 8), (4, 9), (5, 10), (6, 11)]] [(0, 5), (1, 6), (2, 7), (3, 8), (4, 9), (5, 10), (6, 11), (7, 4)] rfl rfl [Ex ?e0, Ex ?e1, Ex ?e2, Ex ?e3, Ex ?e4, Ex ?e5, Ex ?e6, Ex ?e7] ⟨stays_ex _, stays_ex _, stays_ex _, stays_ex _, stays_ex _, stays_ex _, stays_ex _, stays_ex _, trivial⟩ ?steps ?rest
  case steps =>
    refine ⟨fun f W hC hh => ?_, fun f W hC hh => ?_, fun f W hC hh => ?_, fun f W hC hh => ?_, fun f W hC hh => ?_, fun f W hC hh => ?_, fun f W hC hh => ?_, fun f W hC hh => ?_, trivial⟩
    · -- 0: Op.load 26 (Operand.tmp 1)
      refine tab_plain fun K Q hK => ?_
      simp only [puts, List.foldr_nil]
      have hc := (hC.cell (p := ⟨x, 0, none⟩) hx').trans hx
      go_step
      refine fam_ex hK rfl rfl (by simp only [Act.put, List.setIfInBounds_toArray, List.set_cons_succ, List.set_cons_zero, Array.getD_eq_getD_getElem?, List.getElem?_toArray, List.getElem?_cons_succ, List.getElem?_cons_zero, Option.getD_some] <;> rfl) rfl (Below.refl _ _) hC
    · -- 1: Op.move (Operand.tmp 0)
      refine tab_plain fun K Q hK => ?_
      simp only [puts, List.foldr_nil]
      go_step
      refine fam_ex hK rfl rfl (by simp only [Act.put, List.setIfInBounds_toArray, List.set_cons_succ, List.set_cons_zero, Array.getD_eq_getD_getElem?, List.getElem?_toArray, List.getElem?_cons_succ, List.getElem?_cons_zero, Option.getD_some] <;> rfl) rfl (Below.refl _ _) hC
    · -- 2: Op.call { callee := Callee.value (Operand.func 45), args := #[Operand.tmp 5, Operand.tmp 6
      obtain ⟨h0, h1, -⟩ := hh
      have g0 : f 0 = _ := h0
      have g1 : f 1 = _ := h1
      refine tab_plain fun K Q hK => ?_
      simp only [puts, List.foldr_cons, List.foldr_nil, List.setIfInBounds_toArray, List.set_cons_succ, List.set_cons_zero, g0, g1]
      go_step
      go_at_call 45
      refine (word_any a len cap xs i W (hs.later hC) (by omega)).mono ?_
      rintro e w' ⟨rfl, rfl⟩
      refine fam_ex hK rfl rfl (by simp only [Act.put, List.setIfInBounds_toArray, List.set_cons_succ, List.set_cons_zero, Array.getD_eq_getD_getElem?, List.getElem?_toArray, List.getElem?_cons_succ, List.getElem?_cons_zero, Option.getD_some] <;> rfl) rfl (Below.refl _ _) hC
    · -- 3: Op.load 26 (Operand.tmp 2)
      refine tab_plain fun K Q hK => ?_
      simp only [puts, List.foldr_nil]
      have hc := (hC.cell (p := ⟨y, 0, none⟩) hy').trans hy
      go_step
      refine fam_ex hK rfl rfl (by simp only [Act.put, List.setIfInBounds_toArray, List.set_cons_succ, List.set_cons_zero, Array.getD_eq_getD_getElem?, List.getElem?_toArray, List.getElem?_cons_succ, List.getElem?_cons_zero, Option.getD_some] <;> rfl) rfl (Below.refl _ _) hC
    · -- 4: Op.move (Operand.tmp 0)
      refine tab_plain fun K Q hK => ?_
      simp only [puts, List.foldr_nil]
      go_step
      refine fam_ex hK rfl rfl (by simp only [Act.put, List.setIfInBounds_toArray, List.set_cons_succ, List.set_cons_zero, Array.getD_eq_getD_getElem?, List.getElem?_toArray, List.getElem?_cons_succ, List.getElem?_cons_zero, Option.getD_some] <;> rfl) rfl (Below.refl _ _) hC
    · -- 5: Op.call { callee := Callee.value (Operand.func 45), args := #[Operand.tmp 8, Operand.tmp 9
      obtain ⟨h3, h4, h2, -⟩ := hh
      have g3 : f 3 = _ := h3
      have g4 : f 4 = _ := h4
      have g2 : f 2 = _ := h2
      refine tab_plain fun K Q hK => ?_
      simp only [puts, List.foldr_cons, List.foldr_nil, List.setIfInBounds_toArray, List.set_cons_succ, List.set_cons_zero, g3, g4, g2]
      go_step
      go_at_call 45
      refine (word_any a' len' cap' ys i W (hs'.later hC) (by omega)).mono ?_
      rintro e w' ⟨rfl, rfl⟩
      refine fam_ex hK rfl rfl (by simp only [Act.put, List.setIfInBounds_toArray, List.set_cons_succ, List.set_cons_zero, Array.getD_eq_getD_getElem?, List.getElem?_toArray, List.getElem?_cons_succ, List.getElem?_cons_zero, Option.getD_some] <;> rfl) rfl (Below.refl _ _) hC
    · -- 6: Op.binOp BinOp.or 39 (Operand.tmp 7) (Operand.tmp 10) 39
      obtain ⟨h2, h5, -⟩ := hh
      have g2 : f 2 = _ := h2
      have g5 : f 5 = _ := h5
      refine tab_plain fun K Q hK => ?_
      simp only [puts, List.foldr_cons, List.foldr_nil, List.setIfInBounds_toArray, List.set_cons_succ, List.set_cons_zero, g2, g5]
      go_step
      refine fam_ex hK rfl rfl (by simp only [Act.put, List.setIfInBounds_toArray, List.set_cons_succ, List.set_cons_zero, Array.getD_eq_getD_getElem?, List.getElem?_toArray, List.getElem?_cons_succ, List.getElem?_cons_zero, Option.getD_some] <;> rfl) rfl (Below.refl _ _) hC
    · -- 7: Op.assign (Operand.tmp 11)
      obtain ⟨h6, h5, h0, h1, h2, h3, h4, _, _, -⟩ := hh
      have g6 : f 6 = _ := h6
      have g5 : f 5 = _ := h5
      have g0 : f 0 = _ := h0
      have g1 : f 1 = _ := h1
      have g2 : f 2 = _ := h2
      have g3 : f 3 = _ := h3
      have g4 : f 4 = _ := h4
      refine tab_plain fun K Q hK => ?_
      simp only [puts, List.foldr_cons, List.foldr_nil, List.setIfInBounds_toArray, List.set_cons_succ, List.set_cons_zero, g6, g5, g0, g1, g2, g3, g4]
      go_step
      refine fam_ex hK rfl rfl (by simp only [Act.put, List.setIfInBounds_toArray, List.set_cons_succ, List.set_cons_zero, Array.getD_eq_getD_getElem?, List.getElem?_toArray, List.getElem?_cons_succ, List.getElem?_cons_zero, Option.getD_some] <;> rfl) rfl (Below.refl _ _) hC
  case rest =>
    intro f W2 hC hh
    obtain ⟨h0, h1, h2, h3, h4, h5, h6, h7, -⟩ := hh
    have g0 : f 0 = _ := h0
    have g1 : f 1 = _ := h1
    have g2 : f 2 = _ := h2
    have g3 : f 3 = _ := h3
    have g4 : f 4 = _ := h4
    have g5 : f 5 = _ := h5
    have g6 : f 6 = _ := h6
    have g7 : f 7 = _ := h7
    simp only [puts, List.foldr_cons, List.foldr_nil, List.setIfInBounds_toArray, List.set_cons_succ, List.set_cons_zero, g0, g1, g2, g3, g4, g5, g6, g7]
    clear h0 h1 h2 h3 h4 h5 h6 h7 g0 g1 g2 g3 g4 g5 g6 g7
    go_wp2
    go_ret
    exact ⟨rfl, hC⟩

theorem union_any (a : Option Addr) (len cap : Nat) (xs : List Int) (a' : Option Addr) (len' cap' : Nat) (ys : List Int) (w : World) (hs : IsInts .u64 w a len cap xs) (hs' : IsInts .u64 w a' len' cap' ys) (hl : len ≤ 140737488351232) (hl' : len' ≤ 140737488351232) :
    Calls Tryd.prog 22 #[.slice a len cap, .slice a' len' cap'] w fun e w' => ∃ g t, e = .returned (.slice (some ⟨g, 0, none⟩) t t) ∧ PartOf .u64 39 w' w.heap.size g t (bw (opW .or xs ys) (min (max len len') 64)) ∧ Below w.heap.size w w' := by
  obtain ⟨W0, hW0⟩ : ∃ W0, (w.alloc (.cells #[.slice a len cap] 26)).alloc (.cells #[.slice a' len' cap'] 26) = W0 := ⟨_, rfl⟩
  obtain ⟨hz0, hb0, hcA, hcB⟩ := box2 _ _ _ _ _ _ hW0
  have hA0 := hcA 0
  have hB0 := hcB 0
  simp only [List.getElem?_toArray, List.getElem?_cons_zero, List.getElem?_cons_succ] at hA0 hB0
  clear hcA hcB
  have hs0 := hs.later hb0
  have hs0' := hs'.later hb0
  have hbd := fun (n : Nat) (hn : n < 140737488355328) => build_any 44 #[.pointer (some ⟨w.heap.size, 0, none⟩), .pointer (some ⟨w.heap.size + 1, 0, none⟩)] (fun i => #[.int .i64 (i : Int), .pointer (some ⟨w.heap.size, 0, none⟩), .pointer (some ⟨w.heap.size + 1, 0, none⟩)]) (fun i => rfl) (opW .or xs ys) n W0 (enters_of Tryd.func44 (by kernel_rfl) rfl) hn
    (fun i W hi hb => union1_any a len cap xs a' len' cap' ys i w.heap.size (w.heap.size + 1) W hi (hs0.later hb) (hs0'.later hb) ((hb.cell (p := ⟨w.heap.size, 0, none⟩) (show w.heap.size < _ by omega)).trans hA0) ((hb.cell (p := ⟨w.heap.size + 1, 0, none⟩) (show w.heap.size + 1 < _ by omega)).trans hB0))
  have hmf : ∀ (fn : Fn) (first cap : Array Value) (w : World), (Instr.makeFunc fn first cap).run Tryd.prog w = .ok (.func fn first cap) w := fun _ _ _ _ => rfl
  go_enter Tryd.func22, Tryd.ntmps22
  go_wp2_with (go_at_call 40; with_reducible refine (hbd _ (by omega)).mono ?_; rintro e w1 ⟨g, t, rfl, hp, hb1⟩)
  all_goals go_ret
  all_goals refine ⟨g, t, rfl, ?_, hb0.trans (hb1.mono hb0.size)⟩
  all_goals have hp' := hp.from_mono hb0.size
  all_goals first | exact hp' | (rw [show max len len' = len by omega]; exact hp') | (rw [show max len len' = len' by omega]; exact hp')

theorem inter1_any (a : Option Addr) (len cap : Nat) (xs : List Int) (a' : Option Addr) (len' cap' : Nat) (ys : List Int) (i x y : Nat) (w : World) (hi : i < 64) (hs : IsInts .u64 w a len cap xs) (hs' : IsInts .u64 w a' len' cap' ys)
    (hx : w.cell? ⟨x, 0, none⟩ = some (.slice a len cap)) (hy : w.cell? ⟨y, 0, none⟩ = some (.slice a' len' cap')) :
    Calls Tryd.prog 47 #[.int .i64 (i : Int), .pointer (some ⟨x, 0, none⟩), .pointer (some ⟨y, 0, none⟩)] w fun e w' => e = .returned (.int .u64 (opW .and xs ys i)) ∧ Below w.heap.size w w' := by
  have hx' := lt_of_cell hx
  have hy' := lt_of_cell hy
  go_enter Tryd.func47, Tryd.ntmps47
  go_wp2
  refine wp_region_grow mixed (by kernel_rfl) [[], [], [(0, 5), (1, 6)], [], [], [(3, 8), (4, 9), (2, 7)], [(2, 7), (5, 10)], [(6, 11), (5, 10), (0, 5), (1, 6), (2, 7), (3, 8), (4, 9), (5, 10), (6, 11)]] [(0, 5), (1, 6), (2, 7), (3, 8), (4, 9), (5, 10), (6, 11), (7, 4)] rfl rfl [Ex ?e0, Ex ?e1, Ex ?e2, Ex ?e3, Ex ?e4, Ex ?e5, Ex ?e6, Ex ?e7] ⟨stays_ex _, stays_ex _, stays_ex _, stays_ex _, stays_ex _, stays_ex _, stays_ex _, stays_ex _, trivial⟩ ?steps ?rest
  case steps =>
    refine ⟨fun f W hC hh => ?_, fun f W hC hh => ?_, fun f W hC hh => ?_, fun f W hC hh => ?_, fun f W hC hh => ?_, fun f W hC hh => ?_, fun f W hC hh => ?_, fun f W hC hh => ?_, trivial⟩
    · -- 0: Op.load 26 (Operand.tmp 1)
      refine tab_plain fun K Q hK => ?_
      simp only [puts, List.foldr_nil]
      have hc := (hC.cell (p := ⟨x, 0, none⟩) hx').trans hx
      go_step
      refine fam_ex hK rfl rfl (by simp only [Act.put, List.setIfInBounds_toArray, List.set_cons_succ, List.set_cons_zero, Array.getD_eq_getD_getElem?, List.getElem?_toArray, List.getElem?_cons_succ, List.getElem?_cons_zero, Option.getD_some] <;> rfl) rfl (Below.refl _ _) hC
    · -- 1: Op.move (Operand.tmp 0)
      refine tab_plain fun K Q hK => ?_
      simp only [puts, List.foldr_nil]
      go_step
      refine fam_ex hK rfl rfl (by simp only [Act.put, List.setIfInBounds_toArray, List.set_cons_succ, List.set_cons_zero, Array.getD_eq_getD_getElem?, List.getElem?_toArray, List.getElem?_cons_succ, List.getElem?_cons_zero, Option.getD_some] <;> rfl) rfl (Below.refl _ _) hC
    · -- 2: Op.call { callee := Callee.value (Operand.func 45), args := #[Operand.tmp 5, Operand.tmp 6
      obtain ⟨h0, h1, -⟩ := hh
      have g0 : f 0 = _ := h0
      have g1 : f 1 = _ := h1
      refine tab_plain fun K Q hK => ?_
      simp only [puts, List.foldr_cons, List.foldr_nil, List.setIfInBounds_toArray, List.set_cons_succ, List.set_cons_zero, g0, g1]
      go_step
      go_at_call 45
      refine (word_any a len cap xs i W (hs.later hC) (by omega)).mono ?_
      rintro e w' ⟨rfl, rfl⟩
      refine fam_ex hK rfl rfl (by simp only [Act.put, List.setIfInBounds_toArray, List.set_cons_succ, List.set_cons_zero, Array.getD_eq_getD_getElem?, List.getElem?_toArray, List.getElem?_cons_succ, List.getElem?_cons_zero, Option.getD_some] <;> rfl) rfl (Below.refl _ _) hC
    · -- 3: Op.load 26 (Operand.tmp 2)
      refine tab_plain fun K Q hK => ?_
      simp only [puts, List.foldr_nil]
      have hc := (hC.cell (p := ⟨y, 0, none⟩) hy').trans hy
      go_step
      refine fam_ex hK rfl rfl (by simp only [Act.put, List.setIfInBounds_toArray, List.set_cons_succ, List.set_cons_zero, Array.getD_eq_getD_getElem?, List.getElem?_toArray, List.getElem?_cons_succ, List.getElem?_cons_zero, Option.getD_some] <;> rfl) rfl (Below.refl _ _) hC
    · -- 4: Op.move (Operand.tmp 0)
      refine tab_plain fun K Q hK => ?_
      simp only [puts, List.foldr_nil]
      go_step
      refine fam_ex hK rfl rfl (by simp only [Act.put, List.setIfInBounds_toArray, List.set_cons_succ, List.set_cons_zero, Array.getD_eq_getD_getElem?, List.getElem?_toArray, List.getElem?_cons_succ, List.getElem?_cons_zero, Option.getD_some] <;> rfl) rfl (Below.refl _ _) hC
    · -- 5: Op.call { callee := Callee.value (Operand.func 45), args := #[Operand.tmp 8, Operand.tmp 9
      obtain ⟨h3, h4, h2, -⟩ := hh
      have g3 : f 3 = _ := h3
      have g4 : f 4 = _ := h4
      have g2 : f 2 = _ := h2
      refine tab_plain fun K Q hK => ?_
      simp only [puts, List.foldr_cons, List.foldr_nil, List.setIfInBounds_toArray, List.set_cons_succ, List.set_cons_zero, g3, g4, g2]
      go_step
      go_at_call 45
      refine (word_any a' len' cap' ys i W (hs'.later hC) (by omega)).mono ?_
      rintro e w' ⟨rfl, rfl⟩
      refine fam_ex hK rfl rfl (by simp only [Act.put, List.setIfInBounds_toArray, List.set_cons_succ, List.set_cons_zero, Array.getD_eq_getD_getElem?, List.getElem?_toArray, List.getElem?_cons_succ, List.getElem?_cons_zero, Option.getD_some] <;> rfl) rfl (Below.refl _ _) hC
    · -- 6: Op.binOp BinOp.and 39 (Operand.tmp 7) (Operand.tmp 10) 39
      obtain ⟨h2, h5, -⟩ := hh
      have g2 : f 2 = _ := h2
      have g5 : f 5 = _ := h5
      refine tab_plain fun K Q hK => ?_
      simp only [puts, List.foldr_cons, List.foldr_nil, List.setIfInBounds_toArray, List.set_cons_succ, List.set_cons_zero, g2, g5]
      go_step
      refine fam_ex hK rfl rfl (by simp only [Act.put, List.setIfInBounds_toArray, List.set_cons_succ, List.set_cons_zero, Array.getD_eq_getD_getElem?, List.getElem?_toArray, List.getElem?_cons_succ, List.getElem?_cons_zero, Option.getD_some] <;> rfl) rfl (Below.refl _ _) hC
    · -- 7: Op.assign (Operand.tmp 11)
      obtain ⟨h6, h5, h0, h1, h2, h3, h4, _, _, -⟩ := hh
      have g6 : f 6 = _ := h6
      have g5 : f 5 = _ := h5
      have g0 : f 0 = _ := h0
      have g1 : f 1 = _ := h1
      have g2 : f 2 = _ := h2
      have g3 : f 3 = _ := h3
      have g4 : f 4 = _ := h4
      refine tab_plain fun K Q hK => ?_
      simp only [puts, List.foldr_cons, List.foldr_nil, List.setIfInBounds_toArray, List.set_cons_succ, List.set_cons_zero, g6, g5, g0, g1, g2, g3, g4]
      go_step
      refine fam_ex hK rfl rfl (by simp only [Act.put, List.setIfInBounds_toArray, List.set_cons_succ, List.set_cons_zero, Array.getD_eq_getD_getElem?, List.getElem?_toArray, List.getElem?_cons_succ, List.getElem?_cons_zero, Option.getD_some] <;> rfl) rfl (Below.refl _ _) hC
  case rest =>
    intro f W2 hC hh
    obtain ⟨h0, h1, h2, h3, h4, h5, h6, h7, -⟩ := hh
    have g0 : f 0 = _ := h0
    have g1 : f 1 = _ := h1
    have g2 : f 2 = _ := h2
    have g3 : f 3 = _ := h3
    have g4 : f 4 = _ := h4
    have g5 : f 5 = _ := h5
    have g6 : f 6 = _ := h6
    have g7 : f 7 = _ := h7
    simp only [puts, List.foldr_cons, List.foldr_nil, List.setIfInBounds_toArray, List.set_cons_succ, List.set_cons_zero, g0, g1, g2, g3, g4, g5, g6, g7]
    clear h0 h1 h2 h3 h4 h5 h6 h7 g0 g1 g2 g3 g4 g5 g6 g7
    go_wp2
    go_ret
    exact ⟨rfl, hC⟩

theorem inter_any (a : Option Addr) (len cap : Nat) (xs : List Int) (a' : Option Addr) (len' cap' : Nat) (ys : List Int) (w : World) (hs : IsInts .u64 w a len cap xs) (hs' : IsInts .u64 w a' len' cap' ys) (hl : len ≤ 140737488351232) (hl' : len' ≤ 140737488351232) :
    Calls Tryd.prog 24 #[.slice a len cap, .slice a' len' cap'] w fun e w' => ∃ g t, e = .returned (.slice (some ⟨g, 0, none⟩) t t) ∧ PartOf .u64 39 w' w.heap.size g t (bw (opW .and xs ys) (min (min len len') 64)) ∧ Below w.heap.size w w' := by
  obtain ⟨W0, hW0⟩ : ∃ W0, (w.alloc (.cells #[.slice a len cap] 26)).alloc (.cells #[.slice a' len' cap'] 26) = W0 := ⟨_, rfl⟩
  obtain ⟨hz0, hb0, hcA, hcB⟩ := box2 _ _ _ _ _ _ hW0
  have hA0 := hcA 0
  have hB0 := hcB 0
  simp only [List.getElem?_toArray, List.getElem?_cons_zero, List.getElem?_cons_succ] at hA0 hB0
  clear hcA hcB
  have hs0 := hs.later hb0
  have hs0' := hs'.later hb0
  have hbd := fun (n : Nat) (hn : n < 140737488355328) => build_any 47 #[.pointer (some ⟨w.heap.size, 0, none⟩), .pointer (some ⟨w.heap.size + 1, 0, none⟩)] (fun i => #[.int .i64 (i : Int), .pointer (some ⟨w.heap.size, 0, none⟩), .pointer (some ⟨w.heap.size + 1, 0, none⟩)]) (fun i => rfl) (opW .and xs ys) n W0 (enters_of Tryd.func47 (by kernel_rfl) rfl) hn
    (fun i W hi hb => inter1_any a len cap xs a' len' cap' ys i w.heap.size (w.heap.size + 1) W hi (hs0.later hb) (hs0'.later hb) ((hb.cell (p := ⟨w.heap.size, 0, none⟩) (show w.heap.size < _ by omega)).trans hA0) ((hb.cell (p := ⟨w.heap.size + 1, 0, none⟩) (show w.heap.size + 1 < _ by omega)).trans hB0))
  have hmf : ∀ (fn : Fn) (first cap : Array Value) (w : World), (Instr.makeFunc fn first cap).run Tryd.prog w = .ok (.func fn first cap) w := fun _ _ _ _ => rfl
  go_enter Tryd.func24, Tryd.ntmps24
  go_wp2_with (go_at_call 40; with_reducible refine (hbd _ (by omega)).mono ?_; rintro e w1 ⟨g, t, rfl, hp, hb1⟩)
  all_goals go_ret
  all_goals refine ⟨g, t, rfl, ?_, hb0.trans (hb1.mono hb0.size)⟩
  all_goals have hp' := hp.from_mono hb0.size
  all_goals first | exact hp' | (rw [show min len len' = len by omega]; exact hp') | (rw [show min len len' = len' by omega]; exact hp')

theorem minus1_any (a : Option Addr) (len cap : Nat) (xs : List Int) (a' : Option Addr) (len' cap' : Nat) (ys : List Int) (i x y : Nat) (w : World) (hi : i < 64) (hs : IsInts .u64 w a len cap xs) (hs' : IsInts .u64 w a' len' cap' ys)
    (hx : w.cell? ⟨x, 0, none⟩ = some (.slice a len cap)) (hy : w.cell? ⟨y, 0, none⟩ = some (.slice a' len' cap')) :
    Calls Tryd.prog 46 #[.int .i64 (i : Int), .pointer (some ⟨x, 0, none⟩), .pointer (some ⟨y, 0, none⟩)] w fun e w' => e = .returned (.int .u64 (opW .andNot xs ys i)) ∧ Below w.heap.size w w' := by
  have hx' := lt_of_cell hx
  have hy' := lt_of_cell hy
  go_enter Tryd.func46, Tryd.ntmps46
  go_wp2
  refine wp_region_grow mixed (by kernel_rfl) [[], [], [(0, 5), (1, 6)], [], [], [(3, 8), (4, 9), (2, 7)], [(2, 7), (5, 10)], [(6, 11), (5, 10), (0, 5), (1, 6), (2, 7), (3, 8), (4, 9), (5, 10), (6, 11)]] [(0, 5), (1, 6), (2, 7), (3, 8), (4, 9), (5, 10), (6, 11), (7, 4)] rfl rfl [Ex ?e0, Ex ?e1, Ex ?e2, Ex ?e3, Ex ?e4, Ex ?e5, Ex ?e6, Ex ?e7] ⟨stays_ex _, stays_ex _, stays_ex _, stays_ex _, stays_ex _, stays_ex _, stays_ex _, stays_ex _, trivial⟩ ?steps ?rest
  case steps =>
    refine ⟨fun f W hC hh => ?_, fun f W hC hh => ?_, fun f W hC hh => ?_, fun f W hC hh => ?_, fun f W hC hh => ?_, fun f W hC hh => ?_, fun f W hC hh => ?_, fun f W hC hh => ?_, trivial⟩
    · -- 0: Op.load 26 (Operand.tmp 1)
      refine tab_plain fun K Q hK => ?_
      simp only [puts, List.foldr_nil]
      have hc := (hC.cell (p := ⟨x, 0, none⟩) hx').trans hx
      go_step
      refine fam_ex hK rfl rfl (by simp only [Act.put, List.setIfInBounds_toArray, List.set_cons_succ, List.set_cons_zero, Array.getD_eq_getD_getElem?, List.getElem?_toArray, List.getElem?_cons_succ, List.getElem?_cons_zero, Option.getD_some] <;> rfl) rfl (Below.refl _ _) hC
    · -- 1: Op.move (Operand.tmp 0)
      refine tab_plain fun K Q hK => ?_
      simp only [puts, List.foldr_nil]
      go_step
      refine fam_ex hK rfl rfl (by simp only [Act.put, List.setIfInBounds_toArray, List.set_cons_succ, List.set_cons_zero, Array.getD_eq_getD_getElem?, List.getElem?_toArray, List.getElem?_cons_succ, List.getElem?_cons_zero, Option.getD_some] <;> rfl) rfl (Below.refl _ _) hC
    · -- 2: Op.call { callee := Callee.value (Operand.func 45), args := #[Operand.tmp 5, Operand.tmp 6
      obtain ⟨h0, h1, -⟩ := hh
      have g0 : f 0 = _ := h0
      have g1 : f 1 = _ := h1
      refine tab_plain fun K Q hK => ?_
      simp only [puts, List.foldr_cons, List.foldr_nil, List.setIfInBounds_toArray, List.set_cons_succ, List.set_cons_zero, g0, g1]
      go_step
      go_at_call 45
      refine (word_any a len cap xs i W (hs.later hC) (by omega)).mono ?_
      rintro e w' ⟨rfl, rfl⟩
      refine fam_ex hK rfl rfl (by simp only [Act.put, List.setIfInBounds_toArray, List.set_cons_succ, List.set_cons_zero, Array.getD_eq_getD_getElem?, List.getElem?_toArray, List.getElem?_cons_succ, List.getElem?_cons_zero, Option.getD_some] <;> rfl) rfl (Below.refl _ _) hC
    · -- 3: Op.load 26 (Operand.tmp 2)
      refine tab_plain fun K Q hK => ?_
      simp only [puts, List.foldr_nil]
      have hc := (hC.cell (p := ⟨y, 0, none⟩) hy').trans hy
      go_step
      refine fam_ex hK rfl rfl (by simp only [Act.put, List.setIfInBounds_toArray, List.set_cons_succ, List.set_cons_zero, Array.getD_eq_getD_getElem?, List.getElem?_toArray, List.getElem?_cons_succ, List.getElem?_cons_zero, Option.getD_some] <;> rfl) rfl (Below.refl _ _) hC
    · -- 4: Op.move (Operand.tmp 0)
      refine tab_plain fun K Q hK => ?_
      simp only [puts, List.foldr_nil]
      go_step
      refine fam_ex hK rfl rfl (by simp only [Act.put, List.setIfInBounds_toArray, List.set_cons_succ, List.set_cons_zero, Array.getD_eq_getD_getElem?, List.getElem?_toArray, List.getElem?_cons_succ, List.getElem?_cons_zero, Option.getD_some] <;> rfl) rfl (Below.refl _ _) hC
    · -- 5: Op.call { callee := Callee.value (Operand.func 45), args := #[Operand.tmp 8, Operand.tmp 9
      obtain ⟨h3, h4, h2, -⟩ := hh
      have g3 : f 3 = _ := h3
      have g4 : f 4 = _ := h4
      have g2 : f 2 = _ := h2
      refine tab_plain fun K Q hK => ?_
      simp only [puts, List.foldr_cons, List.foldr_nil, List.setIfInBounds_toArray, List.set_cons_succ, List.set_cons_zero, g3, g4, g2]
      go_step
      go_at_call 45
      refine (word_any a' len' cap' ys i W (hs'.later hC) (by omega)).mono ?_
      rintro e w' ⟨rfl, rfl⟩
      refine fam_ex hK rfl rfl (by simp only [Act.put, List.setIfInBounds_toArray, List.set_cons_succ, List.set_cons_zero, Array.getD_eq_getD_getElem?, List.getElem?_toArray, List.getElem?_cons_succ, List.getElem?_cons_zero, Option.getD_some] <;> rfl) rfl (Below.refl _ _) hC
    · -- 6: Op.binOp BinOp.andNot 39 (Operand.tmp 7) (Operand.tmp 10) 39
      obtain ⟨h2, h5, -⟩ := hh
      have g2 : f 2 = _ := h2
      have g5 : f 5 = _ := h5
      refine tab_plain fun K Q hK => ?_
      simp only [puts, List.foldr_cons, List.foldr_nil, List.setIfInBounds_toArray, List.set_cons_succ, List.set_cons_zero, g2, g5]
      go_step
      refine fam_ex hK rfl rfl (by simp only [Act.put, List.setIfInBounds_toArray, List.set_cons_succ, List.set_cons_zero, Array.getD_eq_getD_getElem?, List.getElem?_toArray, List.getElem?_cons_succ, List.getElem?_cons_zero, Option.getD_some] <;> rfl) rfl (Below.refl _ _) hC
    · -- 7: Op.assign (Operand.tmp 11)
      obtain ⟨h6, h5, h0, h1, h2, h3, h4, _, _, -⟩ := hh
      have g6 : f 6 = _ := h6
      have g5 : f 5 = _ := h5
      have g0 : f 0 = _ := h0
      have g1 : f 1 = _ := h1
      have g2 : f 2 = _ := h2
      have g3 : f 3 = _ := h3
      have g4 : f 4 = _ := h4
      refine tab_plain fun K Q hK => ?_
      simp only [puts, List.foldr_cons, List.foldr_nil, List.setIfInBounds_toArray, List.set_cons_succ, List.set_cons_zero, g6, g5, g0, g1, g2, g3, g4]
      go_step
      refine fam_ex hK rfl rfl (by simp only [Act.put, List.setIfInBounds_toArray, List.set_cons_succ, List.set_cons_zero, Array.getD_eq_getD_getElem?, List.getElem?_toArray, List.getElem?_cons_succ, List.getElem?_cons_zero, Option.getD_some] <;> rfl) rfl (Below.refl _ _) hC
  case rest =>
    intro f W2 hC hh
    obtain ⟨h0, h1, h2, h3, h4, h5, h6, h7, -⟩ := hh
    have g0 : f 0 = _ := h0
    have g1 : f 1 = _ := h1
    have g2 : f 2 = _ := h2
    have g3 : f 3 = _ := h3
    have g4 : f 4 = _ := h4
    have g5 : f 5 = _ := h5
    have g6 : f 6 = _ := h6
    have g7 : f 7 = _ := h7
    simp only [puts, List.foldr_cons, List.foldr_nil, List.setIfInBounds_toArray, List.set_cons_succ, List.set_cons_zero, g0, g1, g2, g3, g4, g5, g6, g7]
    clear h0 h1 h2 h3 h4 h5 h6 h7 g0 g1 g2 g3 g4 g5 g6 g7
    go_wp2
    go_ret
    exact ⟨rfl, hC⟩

theorem minus_any (a : Option Addr) (len cap : Nat) (xs : List Int) (a' : Option Addr) (len' cap' : Nat) (ys : List Int) (w : World) (hs : IsInts .u64 w a len cap xs) (hs' : IsInts .u64 w a' len' cap' ys) (hl : len ≤ 140737488351232) (hl' : len' ≤ 140737488351232) :
    Calls Tryd.prog 23 #[.slice a len cap, .slice a' len' cap'] w fun e w' => ∃ g t, e = .returned (.slice (some ⟨g, 0, none⟩) t t) ∧ PartOf .u64 39 w' w.heap.size g t (bw (opW .andNot xs ys) (min (len) 64)) ∧ Below w.heap.size w w' := by
  obtain ⟨W0, hW0⟩ : ∃ W0, (w.alloc (.cells #[.slice a len cap] 26)).alloc (.cells #[.slice a' len' cap'] 26) = W0 := ⟨_, rfl⟩
  obtain ⟨hz0, hb0, hcA, hcB⟩ := box2 _ _ _ _ _ _ hW0
  have hA0 := hcA 0
  have hB0 := hcB 0
  simp only [List.getElem?_toArray, List.getElem?_cons_zero, List.getElem?_cons_succ] at hA0 hB0
  clear hcA hcB
  have hs0 := hs.later hb0
  have hs0' := hs'.later hb0
  have hbd := fun (n : Nat) (hn : n < 140737488355328) => build_any 46 #[.pointer (some ⟨w.heap.size, 0, none⟩), .pointer (some ⟨w.heap.size + 1, 0, none⟩)] (fun i => #[.int .i64 (i : Int), .pointer (some ⟨w.heap.size, 0, none⟩), .pointer (some ⟨w.heap.size + 1, 0, none⟩)]) (fun i => rfl) (opW .andNot xs ys) n W0 (enters_of Tryd.func46 (by kernel_rfl) rfl) hn
    (fun i W hi hb => minus1_any a len cap xs a' len' cap' ys i w.heap.size (w.heap.size + 1) W hi (hs0.later hb) (hs0'.later hb) ((hb.cell (p := ⟨w.heap.size, 0, none⟩) (show w.heap.size < _ by omega)).trans hA0) ((hb.cell (p := ⟨w.heap.size + 1, 0, none⟩) (show w.heap.size + 1 < _ by omega)).trans hB0))
  have hmf : ∀ (fn : Fn) (first cap : Array Value) (w : World), (Instr.makeFunc fn first cap).run Tryd.prog w = .ok (.func fn first cap) w := fun _ _ _ _ => rfl
  go_enter Tryd.func23, Tryd.ntmps23
  go_wp2_with (go_at_call 40; with_reducible refine (hbd _ (by omega)).mono ?_; rintro e w1 ⟨g, t, rfl, hp, hb1⟩)
  all_goals go_ret
  all_goals refine ⟨g, t, rfl, ?_, hb0.trans (hb1.mono hb0.size)⟩
  all_goals have hp' := hp.from_mono hb0.size
  all_goals first | exact hp' | (rw [show len = len by omega]; exact hp') | (rw [show len = len' by omega]; exact hp')
end Go.Proofs.YtmeldbddbinnbaaDoor
