/-
  slices.Sort, slices.Compact, slices.Index, slices.Reverse on rows; what Compact of a sorted row is.
-/
import Derived.Test.YtlogmgkjikamaaaGraC
import Derived.Test.YtlogmgkjikamaaaShelf
import Derived.Sort.OwnSortedInts
set_option linter.unusedVariables false
namespace Go.Proofs.Ytlogmgkjikamaaa
open Go.RowKit Go.Sort Go.Lib

theorem sort_own {w : World} {B : Nat} {v : Value} {zs : List Int} (h : w.ownsRow B 3 1 v zs.length (ivs .i64 zs)) (hn : zs.length < 4611686018427387904) :
    Calls Try.prog 51 #[v] w fun e w' => e = .returned (.tuple #[]) ∧ w'.ownsRow B 3 1 v zs.length (ivs .i64 (zs.mergeSort fun x y => decide (x ≤ y))) ∧ w.grownBy w' v.ownBlock := by
  have hl : (zs.mergeSort fun x y => decide (x ≤ y)).length = zs.length := List.length_mergeSort zs
  rcases h.2 with ⟨rfl, h0⟩ | ⟨g, cap, cur, rfl, hB, hg, h1, h2, h3, h4⟩
  · have hz : zs = [] := List.eq_nil_of_length_eq_zero h0
    subst hz
    refine (Try.slices_Sort_int_none none 0 w).mono ?_
    rintro e w' ⟨rfl, rfl⟩
    exact ⟨rfl, by simpa using h, World.grownBy.refl _ _⟩
  · rw [Nat.mul_one] at h4
    refine (Try.slices_Sort_int g 0 cap zs w (holds_of_blockI hg (by rw [h4]; rfl)) (Array.getElem?_eq_some_iff.1 hg).1 hn).mono ?_
    rintro e w' ⟨rfl, n, os, rfl⟩
    exact ⟨rfl, ownsRow_sortedI hl hB hg h1 h2 h3, grownBy_sortedI _⟩
theorem owns_cut {w : World} {B e n cap m : Nat} {ao : Option Addr} {xs : List Value} (h : w.ownsRow B e 1 (.slice ao n cap) n xs) (hm : m ≤ n) (h0 : ao = none → m = n) : w.ownsRow B e 1 (.slice ao m cap) m (xs.take m) := by
  have hx := h.1
  rcases h.2 with ⟨e1, h0'⟩ | ⟨g, c, cur, e1, hB, hg, h1, h2, h3, h4⟩
  · injection e1 with e1 e2 e3
    subst e1 e3
    have := h0 rfl
    subst this
    subst h0'
    have : xs = [] := List.eq_nil_of_length_eq_zero (by simpa using hx)
    subst this
    exact World.ownsRow_nil _ _ _ _
  · injection e1 with e1 e2 e3
    subst e1 e3
    refine ⟨by simp; omega, .inr ⟨g, cap, cur, rfl, hB, hg, by omega, h2, h3, ?_⟩⟩
    rw [← h4, List.take_take, Nat.mul_one, Nat.mul_one, Nat.min_eq_left hm]
theorem compact_own {w : World} {B : Nat} {v : Value} {zs : List Int} (h : w.ownsRow B 3 1 v zs.length (ivs .i64 zs)) (hn : zs.length ≤ 9223372036854775807) :
    Calls Try.prog 52 #[v] w fun e w' => ∃ v', e = .returned v' ∧ w'.ownsRow B 3 1 v' (compact zs).length (ivs .i64 (compact zs)) ∧ w.grownBy w' v.ownBlock ∧ v'.ownBlock = v.ownBlock := by
  have hle := compact_length_le zs
  rcases h.2 with ⟨rfl, h0⟩ | ⟨g, cap, cur, rfl, hB, hg, h1, h2, h3, h4⟩
  · have hz : zs = [] := List.eq_nil_of_length_eq_zero h0
    subst hz
    refine (Try.slices_Compact_int_empty none 0 w).mono ?_
    rintro e w' ⟨rfl, rfl⟩
    exact ⟨_, rfl, World.ownsRow_nil _ _ _ _, World.grownBy.refl _ _, rfl⟩
  · rw [Nat.mul_one] at h4
    refine (Try.slices_Compact_int g 0 cap zs w (holds_of_blockI hg (by rw [h4]; rfl)) hn h1).mono ?_
    rintro e w' ⟨rfl, q, rfl⟩
    have hl : (compact zs ++ List.replicate (zs.length - (compact zs).length) 0).length = zs.length := by simp; omega
    have ho := ownsRow_sortedI (n := q) (os := #[]) hl hB hg h1 h2 h3
    have hgr := grownBy_sortedI (w := w) (g := g) (n := q) (os := #[]) (compact zs ++ List.replicate (zs.length - (compact zs).length) 0).toArray
    rw [grow_empty] at ho hgr
    have hc := owns_cut ho hle (fun e => by cases e)
    refine ⟨_, rfl, ?_, hgr, rfl⟩
    have : ((compact zs ++ List.replicate (zs.length - (compact zs).length) 0).map (Value.int .i64)).take (compact zs).length = ivs .i64 (compact zs) := by
      rw [← List.map_take, List.take_left]; rfl
    rw [this] at hc
    exact hc

/-- Compact of an ascending row. -/
theorem compact_spec (l : List Int) (hs : l.Pairwise (· ≤ ·)) : ∀ m, m ≤ l.length → Asc (compactUpTo l.toArray m) ∧ (∀ z, z ∈ compactUpTo l.toArray m ↔ z ∈ l.take m) := by
  have get : ∀ j, j < l.length → l.toArray[j]! = gi l j := fun j hj => by simp [gi, List.getD, hj]
  intro m
  induction m with
  | zero => intro _; simp [compactUpTo, Asc]
  | succ m ih =>
    intro hm
    obtain ⟨h1, h2⟩ := ih (by omega)
    have hle : ∀ i, i ≤ m → gi l i ≤ gi l m := fun i hi => by
      rcases Nat.lt_or_ge i m with h | h
      · rw [gi_eq l i (by omega), gi_eq l m (by omega)]
        exact List.pairwise_iff_getElem.1 hs i m (by omega) (by omega) h
      · rw [show i = m by omega]; exact Int.le_refl _
    rw [compactUpTo_succ, get m (by omega)]
    cases hk : keeps l.toArray m with
    | true =>
      rw [if_pos rfl]
      refine ⟨?_, fun z => by rw [List.mem_append, h2, take_succ_gi l m (by omega), List.mem_append]⟩
      refine List.pairwise_append.2 ⟨h1, List.pairwise_singleton _ _, fun x hx y hy => ?_⟩
      rw [List.mem_singleton.1 hy]
      obtain ⟨i, hi, e⟩ := List.getElem_of_mem ((h2 x).1 hx)
      rw [List.length_take] at hi
      rw [List.getElem_take, ← gi_eq l i (by omega)] at e
      unfold keeps at hk
      have hk := of_decide_eq_true hk
      rcases hk with h0 | h0
      · omega
      · rw [get m (by omega), get (m - 1) (by omega)] at h0
        have a1 := hle (m - 1) (by omega)
        have a2 : gi l i ≤ gi l (m - 1) := by
          rcases Nat.lt_or_ge i (m - 1) with h | h
          · rw [gi_eq l i (by omega), gi_eq l (m - 1) (by omega)]
            exact List.pairwise_iff_getElem.1 hs i (m - 1) (by omega) (by omega) h
          · rw [show i = m - 1 by omega]; exact Int.le_refl _
        omega
    | false =>
      rw [if_neg (by simp), List.append_nil]
      refine ⟨h1, fun z => ?_⟩
      rw [h2, take_succ_gi l m (by omega), List.mem_append, List.mem_singleton]
      constructor
      · exact .inl
      · rintro (h | rfl)
        · exact h
        · unfold keeps at hk
          have hk := of_decide_eq_false hk
          have hm0 : m ≠ 0 := fun h => hk (.inl h)
          have : l.toArray[m]! = l.toArray[m - 1]! := Classical.byContradiction fun h => hk (.inr h)
          rw [get m (by omega), get (m - 1) (by omega)] at this
          rw [this]
          exact List.mem_iff_getElem.2 ⟨m - 1, by rw [List.length_take]; omega, by rw [List.getElem_take, ← gi_eq l _ (by omega)]⟩
theorem compact_sorted (zs : List Int) : Asc (compact (zs.mergeSort fun x y => decide (x ≤ y))) ∧ ∀ z, z ∈ compact (zs.mergeSort fun x y => decide (x ≤ y)) ↔ z ∈ zs := by
  obtain ⟨h1, h2⟩ := compact_spec _ (mergeSort_asc zs) _ (Nat.le_refl _)
  refine ⟨h1, fun z => ?_⟩
  unfold compact
  rw [h2, List.take_of_length_le (Nat.le_refl _), List.mem_mergeSort]
end Go.Proofs.Ytlogmgkjikamaaa
