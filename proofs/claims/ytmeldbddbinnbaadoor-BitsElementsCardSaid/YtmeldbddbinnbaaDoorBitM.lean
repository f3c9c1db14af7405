/-
  Bits of words, in plain numbers.
-/
import Derived.Test.YtmeldbddbinnbaaDoorBitL
import Derived.Test.YtmeldbddbinnbaaDoorBitK
set_option linter.unusedSimpArgs false
set_option linter.unusedVariables false
namespace Go.Proofs.YtmeldbddbinnbaaDoor
open Go.RowKit

/-- The bits of a number, ascending, from a place on. -/
def upB : Nat → Nat → Nat → List Nat
  | 0, _, _ => []
  | n + 1, p, z => if z % 2 = 1 then p :: upB n (p + 1) (z / 2) else upB n (p + 1) (z / 2)

theorem upB_low : ∀ (n p z : Nat), z ≠ 0 → z < 2 ^ n → upB n p z = (p + Lib.ctzFrom n z) :: upB n p (z &&& (z - 1))
  | 0, p, z, h0, h1 => by simp at h1; omega
  | n + 1, p, z, h0, h1 => by
    by_cases h : z % 2 = 1
    · have h2 : z &&& (z - 1) = 2 * (z / 2) := by
        apply Nat.eq_of_testBit_eq
        intro i
        rw [Nat.testBit_and]
        cases i with
        | zero => simp [Nat.testBit_zero]; omega
        | succ i =>
          rw [Nat.testBit_succ, Nat.testBit_succ, Nat.testBit_succ, show (z - 1) / 2 = z / 2 by omega, show 2 * (z / 2) / 2 = z / 2 by omega, Bool.and_self]
      have h3 : Lib.ctzFrom (n + 1) z = 0 := by simp [Lib.ctzFrom, h]
      rw [h2, h3]
      simp only [upB, if_pos h]
      rw [if_neg (by omega), show 2 * (z / 2) / 2 = z / 2 by omega]
      rfl
    · have hz2 : z / 2 ≠ 0 := by omega
      have ih := upB_low n (p + 1) (z / 2) hz2 (by rw [Nat.pow_succ] at h1; omega)
      have h2 : z &&& (z - 1) = 2 * (z / 2 &&& (z / 2 - 1)) := by
        apply Nat.eq_of_testBit_eq
        intro i
        rw [Nat.testBit_and]
        cases i with
        | zero => simp [Nat.testBit_zero]; omega
        | succ i =>
          rw [Nat.testBit_succ, Nat.testBit_succ, Nat.testBit_succ, show (z - 1) / 2 = z / 2 - 1 by omega, show 2 * (z / 2 &&& (z / 2 - 1)) / 2 = (z / 2 &&& (z / 2 - 1)) by omega, Nat.testBit_and]
      have h3 : Lib.ctzFrom (n + 1) z = 1 + Lib.ctzFrom n (z / 2) := by simp [Lib.ctzFrom, h]
      rw [h2, h3]
      simp only [upB, if_neg h]
      rw [if_neg (by omega), show 2 * (z / 2 &&& (z / 2 - 1)) / 2 = (z / 2 &&& (z / 2 - 1)) by omega, ih]
      congr 1
      omega

theorem upB_ctz (z : Nat) (h0 : z ≠ 0) (h1 : z < 18446744073709551616) : upB 64 0 z = Lib.ctz 64 z :: upB 64 0 (z &&& (z - 1)) := by
  rw [upB_low 64 0 z h0 h1, Nat.zero_add]
  unfold Lib.ctz
  rw [if_neg h0]
theorem upB_zero : ∀ (n p : Nat), upB n p 0 = []
  | 0, _ => rfl
  | n + 1, p => by simp [upB, upB_zero n]

theorem upB_filter : ∀ (n p z : Nat), upB n p z = ((List.range n).filter fun i => z.testBit i).map fun i => p + i
  | 0, _, _ => rfl
  | n + 1, p, z => by
    have ih := upB_filter n (p + 1) (z / 2)
    rw [List.range_succ_eq_map, List.filter_cons, List.filter_map]
    have e : ((fun i => z.testBit i) ∘ Nat.succ) = fun i => (z / 2).testBit i := by
      funext i; simp [Nat.testBit_succ]
    rw [e, upB, ih]
    have e2 : ((List.map Nat.succ ((List.range n).filter fun i => (z / 2).testBit i)).map fun i => p + i) = ((List.range n).filter fun i => (z / 2).testBit i).map fun i => p + 1 + i := by
      rw [List.map_map]
      apply List.map_congr_left
      intro i _
      simp only [Function.comp]; omega
    by_cases h : z % 2 = 1
    · have h0 : z.testBit 0 = true := by simp [Nat.testBit_zero, h]
      rw [if_pos h, if_pos h0, List.map_cons, e2]; rfl
    · have h0 : z.testBit 0 = false := by simp [Nat.testBit_zero]; omega
      rw [if_neg h, if_neg (by rw [h0]; simp), e2]
end Go.Proofs.YtmeldbddbinnbaaDoor
