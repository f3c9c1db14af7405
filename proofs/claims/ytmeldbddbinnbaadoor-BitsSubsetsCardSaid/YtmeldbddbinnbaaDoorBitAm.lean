/-
  Package bits: small facts for the laws' walks.
-/
import Derived.Test.YtmeldbddbinnbaaDoorBitAl
set_option linter.unusedVariables false
namespace Go.Proofs.YtmeldbddbinnbaaDoor
open Go.RowKit Go.Shelf

theorem few_yes (a a' : Option Addr) {len cap len' cap' : Nat} {w : World} (h : len ≤ 70) (h' : len' ≤ 70) :
    Calls Tryd.prog 12 #[.slice a len cap, .slice a' len' cap'] w fun e w' => e = .returned (.bool true) ∧ w' = w := by
  have := few_any a len cap a' len' cap' w
  rw [decide_eq_true h, decide_eq_true h'] at this
  exact this
theorem few_no (a a' : Option Addr) {len cap len' cap' : Nat} {w : World} (h : ¬ (len ≤ 70 ∧ len' ≤ 70)) :
    Calls Tryd.prog 12 #[.slice a len cap, .slice a' len' cap'] w fun e w' => e = .returned (.bool false) ∧ w' = w := by
  have := few_any a len cap a' len' cap' w
  rw [show (decide (len ≤ 70) && decide (len' ≤ 70)) = false by rw [← Bool.decide_and]; exact decide_eq_false h] at this
  exact this
theorem w64_of_wf {zs : List Int} (h : ∀ n ∈ zs, (Lit.int .u64 n).wf = true) : W64 zs := by
  intro z hz
  have := h z hz
  simp only [Lit.wf, IntKind.min, IntKind.max, IntKind.signed, IntKind.bits, Bool.and_eq_true, decide_eq_true_eq] at this
  have h2 : (2 : Int) ^ 64 = 18446744073709551616 := by decide
  simp at this
  omega
theorem not_sub {p q : Nat → Bool} (h : ¬ ∀ n, n < 4096 → p n = true → q n = true) : ∃ n, n < 4096 ∧ p n = true ∧ q n = false := by
  refine Classical.byContradiction fun hc => h fun n hn h1 => ?_
  cases h2 : q n with
  | true => rfl
  | false => exact absurd ⟨n, hn, h1, h2⟩ hc
theorem cnt_ne {p : Nat → Bool} {n : Nat} (hn : n < 4096) (h : p n = true) : (((cnt p : Nat) : Int) == 0) = false := by
  rw [beq_eq_false_iff_ne]
  intro h0
  have := cnt_zero.1 (Int.ofNat_eq_zero.1 h0) n hn
  rw [h] at this
  cases this
end Go.Proofs.YtmeldbddbinnbaaDoor
