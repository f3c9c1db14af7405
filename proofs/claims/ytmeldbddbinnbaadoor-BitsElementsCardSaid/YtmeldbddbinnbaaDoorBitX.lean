/-
  Package bits: Least; the law's small functions.
-/
import Derived.Test.YtmeldbddbinnbaaDoorBitW
import Derived.Test.YtmeldbddbinnbaaDoorBitK
import Derived.Test.YtmeldbddbinnbaaDoorBitF
import Derived.Test.YtmeldbddbinnbaaDoorBitR
set_option linter.unusedSimpArgs false
set_option linter.unusedVariables false
namespace Go.Proofs.YtmeldbddbinnbaaDoor
open Go.RowKit Go.Shelf
attribute [local go_sem] Oper.semAt_some

theorem few_any (a : Option Addr) (len cap : Nat) (a' : Option Addr) (len' cap' : Nat) (w : World) :
    Calls Tryd.prog 12 #[.slice a len cap, .slice a' len' cap'] w fun e w' => e = .returned (.bool (decide (len ≤ 70) && decide (len' ≤ 70))) ∧ w' = w := by
  by_cases h1 : len ≤ 70
  · have h1' : decide ((len : Int) ≤ 70) = true := decide_eq_true (by omega)
    have e1 : decide (len ≤ 70) = true := decide_eq_true h1
    by_cases h2 : len' ≤ 70
    · have h2' : decide ((len' : Int) ≤ 70) = true := decide_eq_true (by omega)
      have e2 : decide (len' ≤ 70) = true := decide_eq_true h2
      rw [e1, e2]
      clear e1 e2
      go_enter Tryd.func12, Tryd.ntmps12
      go_wp2
      go_ret
      exact ⟨rfl, rfl⟩
    · have h2' : decide ((len' : Int) ≤ 70) = false := decide_eq_false (by omega)
      have e2 : decide (len' ≤ 70) = false := decide_eq_false h2
      rw [e1, e2]
      clear e1 e2
      go_enter Tryd.func12, Tryd.ntmps12
      go_wp2
      go_ret
      exact ⟨rfl, rfl⟩
  · have h1' : decide ((len : Int) ≤ 70) = false := decide_eq_false (by omega)
    have e1 : decide (len ≤ 70) = false := decide_eq_false h1
    rw [e1]
    clear e1
    go_enter Tryd.func12, Tryd.ntmps12
    go_wp2
    go_ret
    exact ⟨rfl, rfl⟩

theorem same_law (a : Option Addr) (len cap : Nat) (xs : List Int) (a' : Option Addr) (len' cap' : Nat) (ys : List Int) (w : World) (hs : IsInts .u64 w a len cap xs) (hs' : IsInts .i64 w a' len' cap' ys) (hl : len ≤ 1000000) (hl' : len' ≤ 1000000) :
    Calls Tryd.prog 16 #[.slice a len cap, .slice a' len' cap'] w fun e w' => e = .returned (.bool (decide (xs = wordsL ys))) ∧ Below w.heap.size w w' := by
  go_enter Tryd.func16, Tryd.ntmps16
  go_wp2_with (first | (go_at_call 43; refine (words_any _ _ _ ys _ hs' hl').mono ?_; rintro e w1 ⟨a1, n1, c1, rfl, ho1, hb1⟩; have hi1 := (IsInts.of_owns ho1).1; have hs1 := hs.later hb1) | (go_at_call 25; refine (sameWords_any _ _ _ xs _ _ _ (wordsL ys) _ hs1 hi1 (by omega)).mono ?_; rintro e w2 ⟨rfl, hb2⟩))
  go_ret
  exact ⟨rfl, hb1.trans (hb2.mono hb1.size)⟩

theorem awake_mk : bw (gi (mkW [5, 64, 5, -1])) 64 = [32, 1] := by decide +kernel
theorem awake_ls : setL (bt [32, 1]) = [5, 64] := by decide +kernel

theorem awake_any (w : World) (hT : TabAt 0 Lib.deBruijn64tab w) :
    Calls Tryd.prog 11 #[] w fun e w' => e = .returned (.bool true) ∧ Below w.heap.size w w' := by
  have hi := new_ints .i64 w 3 [5, 64, 5, -1] 4 rfl (by decide)
  have hb0 : Below w.heap.size w (w.alloc (.cells #[.int .i64 5, .int .i64 64, .int .i64 5, .int .i64 (-1)] 3)) := (Below.refl _ _).alloc (Nat.le_refl _) _
  have hmk := make_any _ _ _ [5, 64, 5, -1] _ hi (by decide)
  rw [awake_mk] at hmk
  go_enter Tryd.func11, Tryd.ntmps11
  go_wp2_with (go_at_call 13; refine hmk.mono ?_; rintro e w1 ⟨g1, t1, rfl, hp1, hb1⟩)
  have hb1' := hb0.trans (hb1.mono hb0.size)
  have hx : W64 [32, 1] := by
    intro z hz
    rcases List.mem_cons.1 hz with rfl | h
    · decide
    · rw [List.mem_singleton.1 h]; decide
  have ht1 := hp1.length
  have hi1 := hp1.ints
  have hi2 := new_ints .u64 w1 39 [32, 1] 2 rfl (by decide)
  have hb2 : Below w1.heap.size w1 (w1.alloc (.cells #[.int .u64 32, .int .u64 1] 39)) := (Below.refl _ _).alloc (Nat.le_refl _) _
  have hsw := sameWords_any _ _ _ [32, 1] _ _ _ [32, 1] _ (hi1.later hb2) hi2 (by rw [← ht1]; decide)
  have hd : decide (([32, 1] : List Int) = [32, 1]) = true := rfl
  rw [hd] at hsw
  refine hsw.mono ?_
  clear hsw
  rintro e w2 ⟨rfl, hb3⟩
  have hb3' := hb2.trans (hb3.mono hb2.size)
  have hls := list_any _ _ _ [32, 1] w2 (hi1.later hb3') hx (TabAt.later hT (hb1'.trans (hb3'.mono hb1'.size)))
  rw [awake_ls] at hls
  go_wp2_with (go_at_call 15; refine hls.mono ?_; rintro e w3 ⟨a3, n3, c3, rfl, ho3, hb4⟩)
  have hi3 := new_ints .i64 w3 3 [5, 64] 2 rfl (by decide)
  have hb5 : Below w3.heap.size w3 (w3.alloc (.cells #[.int .i64 5, .int .i64 64] 3)) := (Below.refl _ _).alloc (Nat.le_refl _) _
  have hsm := same_any _ _ _ [5, 64] _ _ _ [5, 64] _ ((IsInts.of_owns ho3).1.later hb5) hi3 (by rw [owns_len ho3]; decide)
  have hd' : decide (([5, 64] : List Int) = [5, 64]) = true := rfl
  rw [hd'] at hsm
  refine hsm.mono ?_
  clear hsm
  rintro e w4 ⟨rfl, hb6⟩
  go_wp2
  go_ret
  exact ⟨rfl, hb1'.trans ((hb3'.trans ((hb4.trans ((hb5.trans (hb6.mono hb5.size)).mono hb4.size)).mono hb3'.size)).mono hb1'.size)⟩
end Go.Proofs.YtmeldbddbinnbaaDoor
