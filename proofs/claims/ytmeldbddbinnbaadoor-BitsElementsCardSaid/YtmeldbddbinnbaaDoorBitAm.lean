/-
  Package bits: small facts for the laws' walks.
-/
import Derived.Test.YtmeldbddbinnbaaDoorBitAl
set_option linter.unusedVariables false
namespace Go.Proofs.YtmeldbddbinnbaaDoor
open Go.RowKit Go.Shelf

theorem few_yes (a a' : Option Addr) {len cap len' cap' : Nat} {w : World} (h : len ≤ 70) (h' : len' ≤ 70) :
    Calls Tryd.prog 12 #[.slice a len cap, .slice a' len' cap'] w fun e w' => e = .returned (.bool true) ∧ w' = w := by
  have := few_any a len cap a' len' cap' w
  rw [decide_eq_true h, decide_eq_true h'] at this
  exact this
theorem few_no (a a' : Option Addr) {len cap len' cap' : Nat} {w : World} (h : ¬ (len ≤ 70 ∧ len' ≤ 70)) :
    Calls Tryd.prog 12 #[.slice a len cap, .slice a' len' cap'] w fun e w' => e = .returned (.bool false) ∧ w' = w := by
  have := few_any a len cap a' len' cap' w
  rw [show (decide (len ≤ 70) && decide (len' ≤ 70)) = false by rw [← Bool.decide_and]; exact decide_eq_false h] at this
  exact this
theorem w64_of_wf {zs : List Int} (h : ∀ n ∈ zs, (Lit.int .u64 n).wf = true) : W64 zs := by
  intro z hz
  have := h z hz
  simp only [Lit.wf, IntKind.min, IntKind.max, IntKind.signed, IntKind.bits, Bool.and_eq_true, decide_eq_true_eq] at this
  have h2 : (2 : Int) ^ 64 = 18446744073709551616 := by decide
  simp at this
  omega
theorem not_sub {p q : Nat → Bool} (h : ¬ ∀ n, n < 4096 → p n = true → q n = true) : ∃ n, n < 4096 ∧ p n = true ∧ q n = false := by
  refine Classical.byContradiction fun hc => h fun n hn h1 => ?_
  cases h2 : q n with
  | true => rfl
  | false => exact absurd ⟨n, hn, h1, h2⟩ hc
theorem cnt_ne {p : Nat → Bool} {n : Nat} (hn : n < 4096) (h : p n = true) : (((cnt p : Nat) : Int) == 0) = false := by
  rw [beq_eq_false_iff_ne]
  intro h0
  have := cnt_zero.1 (Int.ofNat_eq_zero.1 h0) n hn
  rw [h] at this
  cases this
theorem u16_rem {n : Int} (h : (Lit.int .u16 n).wf = true) : ∃ m : Nat, n = (m : Int) ∧ m < 65536 := by
  simp only [Lit.wf, IntKind.min, IntKind.max, IntKind.signed, IntKind.bits, Bool.and_eq_true, decide_eq_true_eq] at h
  simp at h
  exact ⟨n.toNat, by omega, by omega⟩
theorem wf_small {n : Nat} (h : n < 1000000) : (Lit.int .i64 (n : Int)).wf = true := by
  simp only [Lit.wf, IntKind.min, IntKind.max, IntKind.signed, IntKind.bits, Bool.and_eq_true, decide_eq_true_eq, if_true]
  constructor
  · simp
  · have : (n : Int) ≤ 9223372036854775807 := by omega
    simpa using this
theorem mem_iff_bt {zs : List Int} {k : Nat} {b : Bool} (hk : k < 4096) (h : bt zs k = b) : decide ((k : Int) ∈ setL (bt zs)) = b := by
  rw [← h, Bool.eq_iff_iff, decide_eq_true_iff, mem_setL_nat hk]
theorem cnt_pos {p : Nat → Bool} {k : Nat} (hk : k < 4096) (h : p k = true) : 0 < cnt p := by
  refine Nat.pos_of_ne_zero fun h0 => ?_
  have := cnt_zero.1 h0 k hk
  rw [h] at this
  cases this
variable {a : Option Addr} {len cap : Nat} {xs : List Int} {a' : Option Addr} {len' cap' : Nat} {ys : List Int} {w : World} {p q : Nat → Bool}
theorem least_nil (hs : IsInts .u64 w a len cap xs) (hx : W64 xs) (hT : TabAt 0 Lib.deBruijn64tab w) (h : setL (bt xs) = []) :
    Calls Tryd.prog 30 #[.slice a len cap] w fun e w' => e = .returned (.tuple #[.int .i64 0, .bool false]) ∧ Below w.heap.size w w' := by
  have := least_any _ _ _ xs _ hs hx hT
  rw [h] at this
  exact this
theorem least_cons {y : Int} {l : List Int} (hs : IsInts .u64 w a len cap xs) (hx : W64 xs) (hT : TabAt 0 Lib.deBruijn64tab w) (h : setL (bt xs) = y :: l) :
    Calls Tryd.prog 30 #[.slice a len cap] w fun e w' => e = .returned (.tuple #[.int .i64 y, .bool true]) ∧ Below w.heap.size w w' := by
  have := least_any _ _ _ xs _ hs hx hT
  rw [h] at this
  exact this
theorem has_v {k : Int} {b : Bool} (hs : IsInts .u64 w a len cap xs) (hx : W64 xs) (h : decide (k ∈ setL (bt xs)) = b) :
    Calls Tryd.prog 26 #[.slice a len cap, .int .i64 k] w fun e w' => e = .returned (.bool b) ∧ Below w.heap.size w w' := by
  have := has_s (k := k) hs hx
  rw [h] at this
  exact this
theorem len_n {N : Nat} (hs : IsInts .u64 w a len cap xs) (hx : W64 xs) (h : cnt (bt xs) = N) :
    Calls Tryd.prog 27 #[.slice a len cap] w fun e w' => e = .returned (.int .i64 (N : Int)) ∧ Below w.heap.size w w' := by
  have := len_s hs hx
  rw [h] at this
  exact this
theorem with_eq {p : Nat → Bool} (k : Nat) : ∀ n, n < 4096 → (p n || decide ((n : Int) = (k : Int))) = (p n || n == k) := by
  intro n _
  congr 1
  rw [Bool.eq_iff_iff, decide_eq_true_iff, beq_iff_eq]
  exact Int.ofNat_inj
theorem cnt_one {k : Nat} (hk : k < 4096) : cnt (fun n => decide ((n : Int) = (k : Int))) = 1 := by
  rw [cnt_eq]
  have h : (fun n : Nat => decide ((n : Int) = (k : Int))) = fun n => n == k := by
    funext n
    rw [Bool.eq_iff_iff, decide_eq_true_iff, beq_iff_eq]
    exact Int.ofNat_inj
  rw [h]
  have : (List.range 4096).countP (fun n => n == k) = (List.range 4096).count k := rfl
  rw [this, List.count_range, if_pos hk]
theorem cnt_with_yes {p q : Nat → Bool} {k : Nat} (hk : k < 4096) (hp : p k = true) (h : ∀ n, n < 4096 → q n = (p n || decide ((n : Int) = (k : Int)))) : cnt q = cnt p :=
  cnt_congr fun n hn => by
    rw [h n hn]
    by_cases e : (n : Int) = (k : Int)
    · rw [Int.ofNat_inj.1 e, hp]; rfl
    · rw [decide_eq_false e, Bool.or_false]
theorem cnt_with_no {p q : Nat → Bool} {k : Nat} (hk : k < 4096) (hp : p k = false) (h : ∀ n, n < 4096 → q n = (p n || decide ((n : Int) = (k : Int)))) : cnt q = cnt p + 1 := by
  have h1 := cnt_or_and p (fun n => decide ((n : Int) = (k : Int)))
  have h2 : cnt (fun n => p n && decide ((n : Int) = (k : Int))) = 0 := cnt_zero.2 fun n hn => by
    by_cases e : (n : Int) = (k : Int)
    · rw [Int.ofNat_inj.1 e, hp]; rfl
    · rw [decide_eq_false e, Bool.and_false]
  rw [cnt_congr h]
  have h3 := cnt_one hk
  omega
theorem cnt_without_no {p q : Nat → Bool} {k : Nat} (hk : k < 4096) (hp : p k = false) (h : ∀ n, n < 4096 → q n = (p n && !decide ((n : Int) = (k : Int)))) : cnt q = cnt p :=
  cnt_congr fun n hn => by
    rw [h n hn]
    by_cases e : (n : Int) = (k : Int)
    · rw [Int.ofNat_inj.1 e, hp]; rfl
    · rw [decide_eq_false e]; cases p n <;> rfl
theorem cnt_without_yes {p q : Nat → Bool} {k : Nat} (hk : k < 4096) (hp : p k = true) (h : ∀ n, n < 4096 → q n = (p n && !decide ((n : Int) = (k : Int)))) : cnt q = cnt p - 1 := by
  have h1 := cnt_with_no (p := q) (q := p) hk (by rw [h k hk, decide_eq_true rfl]; cases p k <;> rfl) fun n hn => by
    rw [h n hn]
    by_cases e : (n : Int) = (k : Int)
    · rw [Int.ofNat_inj.1 e, hp, decide_eq_true rfl]; rfl
    · rw [decide_eq_false e]; cases p n <;> rfl
  omega
end Go.Proofs.YtmeldbddbinnbaaDoor
