import Derived.Laws.BitsAllLaws
import Derived.Test.YtbjdglopkpigbaaGreatDoorMG8
import Derived.Test.YtbjdglopkpigbaaGreatDoorMG13
/-
  BtM, BtN
-/
set_option linter.unusedSimpArgs false
set_option linter.unusedVariables false
namespace Go.Proofs.YtbjdglopkpigbaaGreatDoor.Bt
open Go.RowKit
def upB : Nat → Nat → Nat → List Nat
 | 0, _, _ => []
 | n + 1, p, z => if z % 2 = 1 then p :: upB n (p + 1) (z / 2) else upB n (p + 1) (z / 2)
theorem upB_low : ∀ (n p z : Nat), z ≠ 0 → z < 2 ^ n → upB n p z = (p + Lib.ctzFrom n z) :: upB n p (z &&& (z - 1))
 | 0, p, z, h0, h1 => by simp at h1; omega
 | n + 1, p, z, h0, h1 => by
  by_cases h : z % 2 = 1
  ·have h2 : z &&& (z - 1) = 2 * (z / 2) := by
    apply Nat.eq_of_testBit_eq
    intro i
    rw [Nat.testBit_and]
    cases i with
    | zero => simp [Nat.testBit_zero]; omega
    | succ i =>
     rw [Nat.testBit_succ, Nat.testBit_succ, Nat.testBit_succ, show (z - 1) / 2 = z / 2 by omega, show 2 * (z / 2) / 2 = z / 2 by omega, Bool.and_self]
   have h3 : Lib.ctzFrom (n + 1) z = 0 := by simp [Lib.ctzFrom, h]
   rw [h2, h3]
   simp only [upB, if_pos h]
   rw [if_neg (by omega), show 2 * (z / 2) / 2 = z / 2 by omega]
   rfl
  ·have hz2 : z / 2 ≠ 0 := by omega
   have ih := upB_low n (p + 1) (z / 2) hz2 (by rw [Nat.pow_succ] at h1; omega)
   have h2 : z &&& (z - 1) = 2 * (z / 2 &&& (z / 2 - 1)) := by
    apply Nat.eq_of_testBit_eq
    intro i
    rw [Nat.testBit_and]
    cases i with
    | zero => simp [Nat.testBit_zero]; omega
    | succ i =>
     rw [Nat.testBit_succ, Nat.testBit_succ, Nat.testBit_succ, show (z - 1) / 2 = z / 2 - 1 by omega, show 2 * (z / 2 &&& (z / 2 - 1)) / 2 = (z / 2 &&& (z / 2 - 1)) by omega, Nat.testBit_and]
   have h3 : Lib.ctzFrom (n + 1) z = 1 + Lib.ctzFrom n (z / 2) := by simp [Lib.ctzFrom, h]
   rw [h2, h3]
   simp only [upB, if_neg h]
   rw [if_neg (by omega), show 2 * (z / 2 &&& (z / 2 - 1)) / 2 = (z / 2 &&& (z / 2 - 1)) by omega, ih]
   congr 1
   omega
theorem upB_ctz (z : Nat) (h0 : z ≠ 0) (h1 : z < 18446744073709551616) : upB 64 0 z = Lib.ctz 64 z :: upB 64 0 (z &&& (z - 1)) := by
 rw [upB_low 64 0 z h0 h1, Nat.zero_add]
 unfold Lib.ctz
 rw [if_neg h0]
theorem upB_zero : ∀ (n p : Nat), upB n p 0 = []
 | 0, _ => rfl
 | n + 1, p => by simp [upB, upB_zero n]
theorem upB_filter : ∀ (n p z : Nat), upB n p z = ((List.range n).filter fun i => z.testBit i).map fun i => p + i
 | 0, _, _ => rfl
 | n + 1, p, z => by
  have ih := upB_filter n (p + 1) (z / 2)
  rw [List.range_succ_eq_map, List.filter_cons, List.filter_map]
  have e : ((fun i => z.testBit i) ∘ Nat.succ) = fun i => (z / 2).testBit i := by
   funext i; simp [Nat.testBit_succ]
  rw [e, upB, ih]
  have e2 : ((List.map Nat.succ ((List.range n).filter fun i => (z / 2).testBit i)).map fun i => p + i) = ((List.range n).filter fun i => (z / 2).testBit i).map fun i => p + 1 + i := by
   rw [List.map_map]
   apply List.map_congr_left
   intro i _
   simp only [Function.comp]; omega
  by_cases h : z % 2 = 1
  ·have h0 : z.testBit 0 = true := by simp [Nat.testBit_zero, h]
   rw [if_pos h, if_pos h0, List.map_cons, e2]; rfl
  ·have h0 : z.testBit 0 = false := by simp [Nat.testBit_zero]; omega
   rw [if_neg h, if_neg (by rw [h0]; simp), e2]
end Go.Proofs.YtbjdglopkpigbaaGreatDoor.Bt
namespace Go.Proofs.YtbjdglopkpigbaaGreatDoor.Bt
open Go.RowKit
def tb (z : Int) (r : Nat) : Bool := z.toNat.testBit r
def W64 (ws : List Int) : Prop := ∀ z ∈ ws, 0 ≤ z ∧ z < 18446744073709551616
theorem W64.gi {ws : List Int} (h : W64 ws) (i : Nat) : 0 ≤ gi ws i ∧ gi ws i < 18446744073709551616 := by
 by_cases hi : i < ws.length
 ·exact h _ (gi_mem ws i hi)
 ·rw [gi_over (by omega)]; decide
theorem W64.wd {ws : List Int} (h : W64 ws) (i : Nat) : 0 ≤ wd ws i ∧ wd ws i < 18446744073709551616 := by
 unfold Proofs.YtbjdglopkpigbaaGreatDoor.Bt.wd
 split
 ·exact h.gi i
 ·decide
theorem bitI_tb {z : Int} (h0 : 0 ≤ z) (h1 : z < 18446744073709551616) (r : Nat) : bitI z r = tb z r := by
 obtain ⟨n, rfl⟩ := Int.eq_ofNat_of_zero_le h0
 unfold bitI tb
 have e : ((n : Int) / 2 ^ r) = ((n / 2 ^ r : Nat) : Int) := by simp
 have hlt : n / 2 ^ r < 18446744073709551616 := Nat.lt_of_le_of_lt (Nat.div_le_self _ _) (by omega)
 rw [e, show (1 : Int) = ((1 : Nat) : Int) from rfl, bits_and_u64_nat _ _ hlt (by decide), Int.toNat_natCast]
 have h1 : n / 2 ^ r &&& 1 = (n / 2 ^ r) % 2 := by rw [Nat.and_one_is_mod]
 rw [h1, Nat.testBit_eq_decide_div_mod_eq, Bool.eq_iff_iff, beq_iff_eq, decide_eq_true_iff]
 exact Int.ofNat_inj
theorem tb_ext {x y : Int} (hx : 0 ≤ x ∧ x < 18446744073709551616) (hy : 0 ≤ y ∧ y < 18446744073709551616) (h : ∀ r, r < 64 → tb x r = tb y r) : x = y := by
 have : x.toNat = y.toNat := by
  apply Nat.eq_of_testBit_eq
  intro r
  by_cases hr : r < 64
  ·exact h r hr
  ·rw [Nat.testBit_lt_two_pow (Nat.lt_of_lt_of_le (show x.toNat < 2 ^ 64 by omega) (Nat.pow_le_pow_right (by decide) (by omega))), Nat.testBit_lt_two_pow (Nat.lt_of_lt_of_le (show y.toNat < 2 ^ 64 by omega) (Nat.pow_le_pow_right (by decide) (by omega)))]
 omega
def bt (ws : List Int) (n : Nat) : Bool := tb (wd ws (n / 64)) (n % 64)
def Canon (ws : List Int) : Prop := ws.length ≤ 64 ∧ (ws = [] ∨ gi ws (ws.length - 1) ≠ 0)
theorem wd_of_bt {xs ys : List Int} (hx : W64 xs) (hy : W64 ys) (h : ∀ n, n < 4096 → bt xs n = bt ys n) (i : Nat) : wd xs i = wd ys i := by
 by_cases hi : i < 64
 ·refine tb_ext (hx.wd i) (hy.wd i) fun r hr => ?_
  have := h (64 * i + r) (by omega)
  unfold bt at this
  rw [show (64 * i + r) / 64 = i by omega, show (64 * i + r) % 64 = r by omega] at this
  exact this
 ·simp [wd, hi]
theorem canon_len {xs ys : List Int} (hx : Canon xs) (hy : Canon ys) (h : ∀ i, wd xs i = wd ys i) : ¬ xs.length < ys.length := by
 intro hlt
 rcases hy.2 with e | e
 ·rw [e] at hlt; simp at hlt
 ·refine e ?_
  have h1 := h (ys.length - 1)
  have hy1 := hy.1
  unfold wd at h1
  rw [if_pos (by omega), if_pos (by omega)] at h1
  rw [← h1, gi_over (by omega)]
theorem canon_ext {xs ys : List Int} (hx : W64 xs) (hy : W64 ys) (cx : Canon xs) (cy : Canon ys) (h : ∀ n, n < 4096 → bt xs n = bt ys n) : xs = ys := by
 have hw := wd_of_bt hx hy h
 have h1 := canon_len cx cy hw
 have h2 := canon_len cy cx fun i => (hw i).symm
 refine gi_ext (by omega) fun i hi => ?_
 have := hw i
 have hx1 := cx.1
 unfold wd at this
 rw [if_pos (by omega), if_pos (by omega)] at this
 exact this
theorem gi_bw (F : Nat → Int) (m i : Nat) : gi (bw F m) i = if i < trimN F m then F i else 0 := by
 by_cases h : i < trimN F m
 ·rw [if_pos h, gi_eq _ _ (by rw [bw_length]; exact h)]
  simp [bw]
 ·rw [if_neg h, gi_over (by rw [bw_length]; omega)]
theorem trimN_zero (F : Nat → Int) : ∀ (m i : Nat), trimN F m ≤ i → i < m → F i = 0
 | 0, i, _, h => by omega
 | m + 1, i, h1, h2 => by
  unfold trimN at h1
  split at h1
  ·rename_i h0
   rcases Nat.lt_or_ge i m with h | h
   ·exact trimN_zero F m i h1 h
   ·rw [show i = m by omega]; exact h0
  ·omega
theorem gi_bw_lt {F : Nat → Int} {m i : Nat} (h : i < m) : gi (bw F m) i = F i := by
 rw [gi_bw]
 split
 ·rfl
 ·rename_i h1; exact (trimN_zero F m i (by omega) h).symm
theorem trimN_last (F : Nat → Int) : ∀ m, trimN F m = 0 ∨ F (trimN F m - 1) ≠ 0
 | 0 => .inl rfl
 | m + 1 => by
  unfold trimN
  split
  ·exact trimN_last F m
  ·rename_i h; exact .inr (by simpa using h)
theorem canon_bw (F : Nat → Int) (m : Nat) (hm : m ≤ 64) : Canon (bw F m) := by
 have := trimN_le F m
 refine ⟨by rw [bw_length]; omega, ?_⟩
 rcases trimN_last F m with h | h
 ·left; apply List.eq_nil_of_length_eq_zero; rw [bw_length]; exact h
 ·by_cases h0 : trimN F m = 0
  ·left; apply List.eq_nil_of_length_eq_zero; rw [bw_length]; exact h0
  ·right; rw [bw_length, gi_bw, if_pos (by omega)]; exact h
theorem w64_bw {F : Nat → Int} (m : Nat) (h : ∀ i, 0 ≤ F i ∧ F i < 18446744073709551616) : W64 (bw F m) := by
 intro z hz
 obtain ⟨i, _, rfl⟩ := List.mem_map.1 hz
 exact h i
end Go.Proofs.YtbjdglopkpigbaaGreatDoor.Bt
