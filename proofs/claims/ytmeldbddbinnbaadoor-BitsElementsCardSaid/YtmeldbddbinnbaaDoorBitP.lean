/-
  What the reference's functions make of ascending lists.
-/
import Derived.Test.YtmeldbddbinnbaaDoorBitO
set_option linter.unusedSimpArgs false
set_option linter.unusedVariables false
namespace Go.Proofs.YtmeldbddbinnbaaDoor
open Go.RowKit

theorem unionL_nil (xs : List Int) : unionL xs [] = xs := rfl
theorem unionL_cons (xs : List Int) (y : Int) (ys : List Int) : unionL xs (y :: ys) = unionL (withL xs y) ys := rfl
theorem unionL_list : ∀ (ys : List Int) (p : Nat → Bool), (∀ y ∈ ys, 0 ≤ y ∧ y < 4096) → unionL (setL p) ys = setL fun n => p n || decide ((n : Int) ∈ ys)
  | [], p, _ => by
    rw [unionL_nil]
    exact setL_congr fun n _ => by simp
  | y :: ys, p, h => by
    have hy := h y List.mem_cons_self
    obtain ⟨m, rfl⟩ := Int.eq_ofNat_of_zero_le hy.1
    rw [unionL_cons, withL_setL p m (by omega), unionL_list ys _ fun z hz => h z (List.mem_cons_of_mem _ hz)]
    refine setL_congr fun n _ => ?_
    rw [Bool.eq_iff_iff]
    simp only [Bool.or_eq_true, beq_iff_eq, decide_eq_true_eq, List.mem_cons]
    constructor
    · rintro ((h | h) | h)
      · exact .inl h
      · exact .inr (.inl (by omega))
      · exact .inr (.inr h)
    · rintro (h | h | h)
      · exact .inl (.inl h)
      · exact .inl (.inr (by omega))
      · exact .inr h
theorem mem_setL_nat {q : Nat → Bool} {n : Nat} (hn : n < 4096) : (n : Int) ∈ setL q ↔ q n = true := by
  rw [mem_setL]
  constructor
  · rintro ⟨m, _, h, e⟩
    rw [show n = m by omega]; exact h
  · intro h; exact ⟨n, hn, h, rfl⟩
theorem unionL_setL (p q : Nat → Bool) : unionL (setL p) (setL q) = setL fun n => p n || q n := by
  rw [unionL_list _ _ setL_bd]
  refine setL_congr fun n hn => ?_
  rw [Bool.eq_iff_iff]
  simp [mem_setL_nat hn]
theorem interL_setL (p q : Nat → Bool) : (setL p).filter (fun x => decide (x ∈ setL q)) = setL fun n => p n && q n := by
  rw [setL_filter]
  refine setL_congr fun n hn => ?_
  rw [Bool.eq_iff_iff]
  simp [mem_setL_nat hn]
theorem minusL_setL (p q : Nat → Bool) : (setL p).filter (fun x => !decide (x ∈ setL q)) = setL fun n => p n && !q n := by
  rw [setL_filter]
  refine setL_congr fun n hn => ?_
  have : decide ((n : Int) ∈ setL q) = q n := by rw [Bool.eq_iff_iff]; simp [mem_setL_nat hn]
  simp only [this]
theorem withoutL_setL (p : Nat → Bool) (k : Nat) : (setL p).filter (fun x => x != (k : Int)) = setL fun n => p n && n != k := by
  rw [setL_filter]
  refine setL_congr fun n hn => ?_
  congr 1
  rw [Bool.eq_iff_iff]
  simp; omega

theorem elsTo_setL {ws : List Int} {len : Nat} (hw : W64 ws) (hl : ws.length = len) : elsTo ws (64 * min len 64) = setL (bt ws) := by
  have asc : Asc (elsTo ws (64 * min len 64)) := by
    unfold Asc elsTo
    rw [List.pairwise_map]
    refine List.Pairwise.filter _ ?_
    refine List.Pairwise.imp ?_ List.pairwise_lt_range
    intro a b h; omega
  refine asc_ext asc (asc_setL _) fun z => ?_
  rw [mem_setL]
  unfold elsTo
  rw [List.mem_map]
  constructor
  · rintro ⟨n, hn, rfl⟩
    obtain ⟨h1, h2⟩ := List.mem_filter.1 hn
    have h1 := List.mem_range.1 h1
    refine ⟨n, by omega, ?_, rfl⟩
    unfold bt wd
    rw [if_pos (by omega), ← bitI_tb (hw.gi _).1 (hw.gi _).2]
    exact h2
  · rintro ⟨n, h1, h2, rfl⟩
    refine ⟨n, List.mem_filter.2 ⟨List.mem_range.2 ?_, ?_⟩, rfl⟩
    · by_cases h : n < 64 * min len 64
      · exact h
      · exfalso
        unfold bt wd at h2
        rw [if_pos (by omega), gi_over (by omega)] at h2
        simp [tb] at h2
    · unfold bt wd at h2
      rw [if_pos (by omega), ← bitI_tb (hw.gi _).1 (hw.gi _).2] at h2
      exact h2
end Go.Proofs.YtmeldbddbinnbaaDoor
