/-
  SumOf and SumParts: the walks.
-/
import Derived.Test.YtoicaacndkjjoaaSumL
set_option linter.unusedSimpArgs false
set_option linter.unusedVariables false
namespace Go.Proofs.Ytoicaacndkjjoaa
open Go.RowKit

theorem sumOf_walk (seed : Int) (a : Option Addr) (len cap : Nat) (zs : List Int) (w : World) (_ : (Lit.int .u64 seed).wf = true) (hs : IsInts .u8 w a len cap zs) (_ : ∀ n ∈ zs, (Lit.int .u8 n).wf = true) :
    Calls Try.prog 3 #[.int .u64 seed, .slice a len cap] w fun e w' => e = .returned (.bool true) ∧ Below w.heap.size w w' := by
  by_cases h : len ≤ 600
  · have hd : decide (600 < (len : Int)) = false := decide_eq_false (by omega)
    go_enter Try.func3, Try.ntmps3
    go_wp2_with (go_at_call 10; refine (awake_any w).mono ?_; rintro e w1 ⟨rfl, hb1⟩)
    have hs1 := hs.later hb1
    go_wp2_with (first | (go_at_call 11; refine (of_any _ _ _ _ _ hs1).mono ?_; rintro e w' ⟨rfl, rfl⟩) | (go_at_call 12; refine (refOf_any _ _ _ _ _ hs1).mono ?_; rintro e w' ⟨rfl, rfl⟩) | (go_at_call 13; refine (from_any _ _ _ _ _ _ hs1).mono ?_; rintro e w' ⟨rfl, rfl⟩) | (go_at_call 14; refine (refFrom_any _ _ _ _ _ _ hs1).mono ?_; rintro e w' ⟨rfl, rfl⟩))
    go_ret
    exact ⟨rfl, hb1⟩
  · have hd : decide (600 < (len : Int)) = true := decide_eq_true (by omega)
    go_enter Try.func3, Try.ntmps3
    go_wp2_with (go_at_call 10; refine (awake_any w).mono ?_; rintro e w1 ⟨rfl, hb1⟩)
    go_ret
    exact ⟨rfl, hb1⟩
end Go.Proofs.Ytoicaacndkjjoaa
