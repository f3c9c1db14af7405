/-
  Package bits: the order of lists.
-/
import Derived.Test.YtmeldbddbinnbaaDoorBitAm
set_option linter.unusedVariables false
namespace Go.Proofs.YtmeldbddbinnbaaDoor
open Go.RowKit Go.Shelf

theorem cmpL_cons (x y : Int) (xs ys : List Int) : cmpL (x :: xs) (y :: ys) = if x < y then -1 else if y < x then 1 else cmpL xs ys := rfl
theorem cmpL_range : ∀ xs ys : List Int, cmpL xs ys = -1 ∨ cmpL xs ys = 0 ∨ cmpL xs ys = 1
  | [], [] => .inr (.inl rfl)
  | [], _ :: _ => .inl rfl
  | _ :: _, [] => .inr (.inr rfl)
  | x :: xs, y :: ys => by
    have := cmpL_range xs ys
    rw [cmpL_cons]
    split
    · exact .inl rfl
    · split
      · exact .inr (.inr rfl)
      · exact this
theorem cmpL_anti : ∀ xs ys : List Int, cmpL ys xs = -cmpL xs ys
  | [], [] => rfl
  | [], _ :: _ => rfl
  | _ :: _, [] => rfl
  | x :: xs, y :: ys => by
    have := cmpL_anti xs ys
    rw [cmpL_cons, cmpL_cons]
    rcases Int.lt_trichotomy x y with h | h | h
    · rw [if_neg (by omega : ¬ y < x), if_pos h, if_pos h]; rfl
    · rw [if_neg (by omega : ¬ y < x), if_neg (by omega : ¬ x < y), if_neg (by omega : ¬ x < y), if_neg (by omega : ¬ y < x)]; exact this
    · rw [if_pos h, if_neg (by omega : ¬ x < y), if_pos h]
theorem cmpL_zero : ∀ xs ys : List Int, cmpL xs ys = 0 ↔ xs = ys
  | [], [] => by simp [cmpL]
  | [], _ :: _ => by simp [cmpL]
  | _ :: _, [] => by simp [cmpL]
  | x :: xs, y :: ys => by
    have := cmpL_zero xs ys
    rw [cmpL_cons]
    split
    · rename_i h
      constructor
      · intro h0; cases h0
      · intro e; injection e; omega
    · split
      · constructor
        · intro h0; cases h0
        · intro e; injection e; omega
      · rw [this, List.cons.injEq]
        constructor
        · intro e; exact ⟨by omega, e⟩
        · intro e; exact e.2
theorem cmpL_trans : ∀ xs ys zs : List Int, cmpL xs ys ≤ 0 → cmpL ys zs ≤ 0 → cmpL xs zs ≤ 0
  | [], _, [], _, _ => by decide
  | [], _, _ :: _, _, _ => by show (-1 : Int) ≤ 0; decide
  | x :: xs, [], _, h, _ => by exact absurd h (by show ¬ (1 : Int) ≤ 0; decide)
  | x :: xs, y :: ys, [], _, h => by exact absurd h (by show ¬ (1 : Int) ≤ 0; decide)
  | x :: xs, y :: ys, z :: zs, h1, h2 => by
    have ih := cmpL_trans xs ys zs
    rw [cmpL_cons] at h1 h2 ⊢
    split
    · decide
    · rename_i ha
      split
      · rename_i hb
        split at h1
        · split at h2
          · omega
          · split at h2
            · omega
            · omega
        · split at h1
          · omega
          · split at h2
            · omega
            · split at h2
              · omega
              · omega
      · rename_i hb
        split at h1
        · split at h2
          · omega
          · split at h2
            · omega
            · omega
        · split at h1
          · omega
          · split at h2
            · omega
            · split at h2
              · omega
              · exact ih h1 h2
theorem cmpL_nil (ys : List Int) : cmpL [] ys ≤ 0 := by
  cases ys
  · decide
  · show (-1 : Int) ≤ 0; decide
theorem setL_false {p : Nat → Bool} (h : ∀ n, n < 4096 → p n = false) : setL p = [] := by
  have h1 : cnt p = 0 := cnt_zero.2 h
  unfold cnt at h1
  exact List.length_eq_zero_iff.1 h1

variable {a : Option Addr} {len cap : Nat} {xs : List Int} {a' : Option Addr} {len' cap' : Nat} {ys : List Int} {w : World} {p q : Nat → Bool}
theorem compare_v {v : Int} (hs : IsInts .u64 w a len cap xs) (hs' : IsInts .u64 w a' len' cap' ys) (hx : W64 xs) (hy : W64 ys) (hT : TabAt 0 Lib.deBruijn64tab w) (hv : Hid (cmpL (setL (bt xs)) (setL (bt ys)) = v)) :
    Calls Tryd.prog 28 #[.slice a len cap, .slice a' len' cap'] w fun e w' => e = .returned (.int .i64 v) ∧ Below w.heap.size w w' := by
  have := compare_s hs hs' hx hy hT
  rw [hv.out] at this
  exact this
theorem equal_v {v : Bool} (hs : IsInts .u64 w a len cap xs) (hs' : IsInts .u64 w a' len' cap' ys) (hv : Hid (eqB xs ys = v)) :
    Calls Tryd.prog 19 #[.slice a len cap, .slice a' len' cap'] w fun e w' => e = .returned (.bool v) ∧ Below w.heap.size w w' := by
  have := equal_s hs hs'
  rw [hv.out] at this
  exact this
theorem bt_nil' (n : Nat) : bt [] n = false := bt_nil n

theorem order_cases {xs ys zs : List Int} (hx : W64 xs) (hy : W64 ys) (hz : W64 zs) : ∃ (x x' y z : Int) (b : Bool), Hid (cmpL (setL (bt xs)) (setL (bt ys)) = x) ∧ Hid (cmpL (setL (bt ys)) (setL (bt xs)) = x') ∧ Hid (cmpL (setL (bt ys)) (setL (bt zs)) = y) ∧ Hid (cmpL (setL (bt xs)) (setL (bt zs)) = z) ∧ Hid (eqB xs ys = b) ∧
    ((x = 0 ∧ x' = 0 ∧ b = true ∧ (y = -1 ∨ y = 0 ∨ y = 1) ∧ z = y) ∨ (x = -1 ∧ x' = 1 ∧ b = false ∧ ((y = -1 ∧ z = -1) ∨ (y = 0 ∧ z = -1) ∨ (y = 1 ∧ (z = -1 ∨ z = 0 ∨ z = 1)))) ∨ (x = 1 ∧ x' = -1 ∧ b = false ∧ (y = -1 ∨ y = 0 ∨ y = 1) ∧ (z = -1 ∨ z = 0 ∨ z = 1))) := by
  refine ⟨_, _, _, _, _, Lib.hid rfl, Lib.hid rfl, Lib.hid rfl, Lib.hid rfl, Lib.hid rfl, ?_⟩
  rw [eqB_set hx hy]
  generalize setL (bt xs) = X
  generalize setL (bt ys) = Y
  generalize setL (bt zs) = Z
  have r1 := cmpL_range X Y
  have r2 := cmpL_range Y Z
  have r3 := cmpL_range X Z
  have an := cmpL_anti X Y
  have z0 := cmpL_zero X Y
  rcases r1 with h | h | h
  · refine .inr (.inl ⟨h, by omega, decide_eq_false (fun e => by have := z0.2 e; omega), ?_⟩)
    rcases r2 with g | g | g
    · have t := cmpL_trans X Y Z (by omega) (by omega)
      rcases r3 with k | k | k
      · exact .inl ⟨g, k⟩
      · have e := (cmpL_zero X Z).1 k
        subst e
        omega
      · omega
    · have e := (cmpL_zero Y Z).1 g
      subst e
      exact .inr (.inl ⟨g, h⟩)
    · exact .inr (.inr ⟨g, r3⟩)
  · have e := z0.1 h
    subst e
    exact .inl ⟨h, h, decide_eq_true rfl, r2, rfl⟩
  · exact .inr (.inr ⟨h, by omega, decide_eq_false (fun e => by have := z0.2 e; omega), r2, r3⟩)
theorem setL_step {l : List Int} {k : Nat} (hk : k < l.length) :
    (∀ m : Nat, m < 4096 → gi l k = (m : Int) → (setL fun n : Nat => decide ((n : Int) ∈ l.take (k + 1))) = setL fun n : Nat => decide ((n : Int) ∈ l.take k) || n == m) ∧
    (¬ (0 ≤ gi l k ∧ gi l k < 4096) → (setL fun n : Nat => decide ((n : Int) ∈ l.take (k + 1))) = setL fun n : Nat => decide ((n : Int) ∈ l.take k)) := by
  rw [take_succ_gi l k hk]
  refine ⟨fun m hm he => setL_congr fun n hn => ?_, fun h => setL_congr fun n hn => ?_⟩
  · rw [he, Bool.eq_iff_iff, decide_eq_true_iff, Bool.or_eq_true, decide_eq_true_iff, beq_iff_eq, List.mem_append, List.mem_singleton, Int.ofNat_inj]
  · rw [Bool.eq_iff_iff, decide_eq_true_iff, decide_eq_true_iff, List.mem_append, List.mem_singleton]
    constructor
    · intro h1
      rcases h1 with h1 | h1
      · exact h1
      · exact absurd ⟨by omega, by omega⟩ h
    · exact .inl
theorem setL_wf (p : Nat → Bool) : ∀ n ∈ setL p, (Lit.int .i64 n).wf = true := by
  intro z hz
  obtain ⟨n, hn, _, rfl⟩ := mem_setL.1 hz
  exact wf_small (by omega)
end Go.Proofs.YtmeldbddbinnbaaDoor
