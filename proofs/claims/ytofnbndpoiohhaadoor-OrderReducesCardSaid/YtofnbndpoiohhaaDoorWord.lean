/-
  Words of 64 bits: their bits; rows of words.
-/
import Derived.Test.YtofnbndpoiohhaaDoorLib
import Derived.Laws.BitsAllLaws
import Derived.Shelf.Spec.TrailingZeros
import Derived.Shelf.Abstract
set_option linter.unusedSimpArgs false
set_option linter.unusedVariables false
namespace Go.Proofs.YtofnbndpoiohhaaDoor
open Go.RowKit

/-- The bits of a number, ascending, from a place on. -/
def upB : Nat → Nat → Nat → List Nat
  | 0, _, _ => []
  | n + 1, p, z => if z % 2 = 1 then p :: upB n (p + 1) (z / 2) else upB n (p + 1) (z / 2)

theorem upB_low : ∀ (n p z : Nat), z ≠ 0 → z < 2 ^ n → upB n p z = (p + Lib.ctzFrom n z) :: upB n p (z &&& (z - 1))
  | 0, p, z, h0, h1 => by simp at h1; omega
  | n + 1, p, z, h0, h1 => by
    by_cases h : z % 2 = 1
    · have h2 : z &&& (z - 1) = 2 * (z / 2) := by
        apply Nat.eq_of_testBit_eq
        intro i
        rw [Nat.testBit_and]
        cases i with
        | zero => simp [Nat.testBit_zero]; omega
        | succ i =>
          rw [Nat.testBit_succ, Nat.testBit_succ, Nat.testBit_succ, show (z - 1) / 2 = z / 2 by omega, show 2 * (z / 2) / 2 = z / 2 by omega, Bool.and_self]
      have h3 : Lib.ctzFrom (n + 1) z = 0 := by simp [Lib.ctzFrom, h]
      rw [h2, h3]
      simp only [upB, if_pos h]
      rw [if_neg (by omega), show 2 * (z / 2) / 2 = z / 2 by omega]
      rfl
    · have hz2 : z / 2 ≠ 0 := by omega
      have ih := upB_low n (p + 1) (z / 2) hz2 (by rw [Nat.pow_succ] at h1; omega)
      have h2 : z &&& (z - 1) = 2 * (z / 2 &&& (z / 2 - 1)) := by
        apply Nat.eq_of_testBit_eq
        intro i
        rw [Nat.testBit_and]
        cases i with
        | zero => simp [Nat.testBit_zero]; omega
        | succ i =>
          rw [Nat.testBit_succ, Nat.testBit_succ, Nat.testBit_succ, show (z - 1) / 2 = z / 2 - 1 by omega, show 2 * (z / 2 &&& (z / 2 - 1)) / 2 = (z / 2 &&& (z / 2 - 1)) by omega, Nat.testBit_and]
      have h3 : Lib.ctzFrom (n + 1) z = 1 + Lib.ctzFrom n (z / 2) := by simp [Lib.ctzFrom, h]
      rw [h2, h3]
      simp only [upB, if_neg h]
      rw [if_neg (by omega), show 2 * (z / 2 &&& (z / 2 - 1)) / 2 = (z / 2 &&& (z / 2 - 1)) by omega, ih]
      congr 1
      omega

theorem upB_ctz (z : Nat) (h0 : z ≠ 0) (h1 : z < 18446744073709551616) : upB 64 0 z = Lib.ctz 64 z :: upB 64 0 (z &&& (z - 1)) := by
  rw [upB_low 64 0 z h0 h1, Nat.zero_add]
  unfold Lib.ctz
  rw [if_neg h0]
theorem upB_zero : ∀ (n p : Nat), upB n p 0 = []
  | 0, _ => rfl
  | n + 1, p => by simp [upB, upB_zero n]

theorem upB_filter : ∀ (n p z : Nat), upB n p z = ((List.range n).filter fun i => z.testBit i).map fun i => p + i
  | 0, _, _ => rfl
  | n + 1, p, z => by
    have ih := upB_filter n (p + 1) (z / 2)
    rw [List.range_succ_eq_map, List.filter_cons, List.filter_map]
    have e : ((fun i => z.testBit i) ∘ Nat.succ) = fun i => (z / 2).testBit i := by
      funext i; simp [Nat.testBit_succ]
    rw [e, upB, ih]
    have e2 : ((List.map Nat.succ ((List.range n).filter fun i => (z / 2).testBit i)).map fun i => p + i) = ((List.range n).filter fun i => (z / 2).testBit i).map fun i => p + 1 + i := by
      rw [List.map_map]
      apply List.map_congr_left
      intro i _
      simp only [Function.comp]; omega
    by_cases h : z % 2 = 1
    · have h0 : z.testBit 0 = true := by simp [Nat.testBit_zero, h]
      rw [if_pos h, if_pos h0, List.map_cons, e2]; rfl
    · have h0 : z.testBit 0 = false := by simp [Nat.testBit_zero]; omega
      rw [if_neg h, if_neg (by rw [h0]; simp), e2]
theorem gi_over {zs : List Int} {i : Nat} (h : zs.length ≤ i) : gi zs i = 0 := by
  simp [gi, List.getD, List.getElem?_eq_none h]
def bitI (z : Int) (r : Nat) : Bool := bits .and .u64 (z / 2 ^ r) 1 == 1
def tb (z : Int) (r : Nat) : Bool := z.toNat.testBit r
def W64 (ws : List Int) : Prop := ∀ z ∈ ws, 0 ≤ z ∧ z < 18446744073709551616
theorem W64.gi {ws : List Int} (h : W64 ws) (i : Nat) : 0 ≤ gi ws i ∧ gi ws i < 18446744073709551616 := by
  by_cases hi : i < ws.length
  · exact h _ (gi_mem ws i hi)
  · rw [gi_over (by omega)]; decide
theorem bitI_tb {z : Int} (h0 : 0 ≤ z) (h1 : z < 18446744073709551616) (r : Nat) : bitI z r = tb z r := by
  obtain ⟨n, rfl⟩ := Int.eq_ofNat_of_zero_le h0
  unfold bitI tb
  have e : ((n : Int) / 2 ^ r) = ((n / 2 ^ r : Nat) : Int) := by simp
  have hlt : n / 2 ^ r < 18446744073709551616 := Nat.lt_of_le_of_lt (Nat.div_le_self _ _) (by omega)
  rw [e, show (1 : Int) = ((1 : Nat) : Int) from rfl, bits_and_u64_nat _ _ hlt (by decide), Int.toNat_natCast]
  have h1 : n / 2 ^ r &&& 1 = (n / 2 ^ r) % 2 := by rw [Nat.and_one_is_mod]
  rw [h1, Nat.testBit_eq_decide_div_mod_eq, Bool.eq_iff_iff, beq_iff_eq, decide_eq_true_iff]
  exact Int.ofNat_inj

/-- A word is fixed by its bits. -/
theorem tb_ext {x y : Int} (hx : 0 ≤ x ∧ x < 18446744073709551616) (hy : 0 ≤ y ∧ y < 18446744073709551616) (h : ∀ r, r < 64 → tb x r = tb y r) : x = y := by
  have : x.toNat = y.toNat := by
    apply Nat.eq_of_testBit_eq
    intro r
    by_cases hr : r < 64
    · exact h r hr
    · rw [Nat.testBit_lt_two_pow (Nat.lt_of_lt_of_le (show x.toNat < 2 ^ 64 by omega) (Nat.pow_le_pow_right (by decide) (by omega))), Nat.testBit_lt_two_pow (Nat.lt_of_lt_of_le (show y.toNat < 2 ^ 64 by omega) (Nat.pow_le_pow_right (by decide) (by omega)))]
  omega

theorem gi_set (ws : List Int) (q i : Nat) (v : Int) (hq : q < ws.length) : gi (ws.set q v) i = if i = q then v else gi ws i := by
  by_cases h : i = q
  · subst h
    rw [if_pos rfl, gi_eq _ _ (by rw [List.length_set]; exact hq), List.getElem_set_self]
  · rw [if_neg h]
    simp only [gi, List.getD, List.getElem?_set]
    rw [if_neg (show ¬ q = i from fun e => h e.symm)]
theorem orBit (x : Int) (r : Nat) (hx : 0 ≤ x ∧ x < 18446744073709551616) (hr : r < 64) : bits .or .u64 x (IntKind.u64.wrap (2 ^ r)) = ((x.toNat ||| 2 ^ r : Nat) : Int) ∧ x.toNat ||| 2 ^ r < 18446744073709551616 := by
  have h2 : (2 : Nat) ^ r < 18446744073709551616 := by
    have := Nat.pow_lt_pow_right (a := 2) (by decide) hr
    omega
  have hw : IntKind.u64.wrap ((2 : Int) ^ r) = ((2 ^ r : Nat) : Int) := by
    rw [show ((2 : Int) ^ r) = ((2 ^ r : Nat) : Int) by simp]
    generalize 2 ^ r = K at h2
    exact IntWalk.u64_in _ (by omega)
  rw [hw]
  have := bits_or_u64_nat x.toNat (2 ^ r) (by omega) h2
  rw [Int.toNat_of_nonneg hx.1] at this
  exact ⟨this, Nat.or_lt_two_pow (n := 64) (by omega) h2⟩
theorem tb_or (x : Int) (r k : Nat) : tb ((x.toNat ||| 2 ^ r : Nat) : Int) k = (tb x k || decide (k = r)) := by
  unfold tb
  rw [Int.toNat_natCast, Nat.testBit_or, Nat.testBit_two_pow]
  congr 1
  rw [Bool.eq_iff_iff]; simp; omega

end Go.Proofs.YtofnbndpoiohhaaDoor
