/-
  What a least topological order says of its places. No walk.
-/
import Derived.Test.YtlogmgkjikamaaaGraX
set_option linter.unusedVariables false
namespace Go.Proofs.Ytlogmgkjikamaaa

variable {g : List (List Int)} {N : Nat}
theorem OrdB.place {out : List Nat} (h : OrdB g N out) : ∀ j, j < out.length → OrdB g N (out.take j) ∧ Free g N (out.take j) (nq out j) ∧ ∀ k, k < nq out j → ¬ Free g N (out.take j) k := by
  induction h with
  | nil => intro j hj; exact absurd hj (Nat.not_lt_zero _)
  | @snoc out i h1 h2 h3 h4 ih =>
    intro j hj
    rw [List.length_append, List.length_singleton] at hj
    rcases Nat.lt_or_ge j out.length with h | h
    · rw [List.take_append_of_le_length (Nat.le_of_lt h), nq_left h]
      exact ih j h
    · obtain rfl : j = out.length := by omega
      rw [List.take_left, nq_last]
      exact ⟨h1, h3, h4⟩
theorem nodup_nq {l : List Nat} (h : l.Nodup) {i j : Nat} (hi : i < l.length) (hj : j < l.length) (e : nq l i = nq l j) : i = j := by
  rw [nq_eq l i hi, nq_eq l j hj] at e
  exact (List.getElem_inj h).1 e
theorem mem_take_nq {l : List Nat} {x j : Nat} (h : x ∈ l.take j) : ∃ i, i < j ∧ i < l.length ∧ nq l i = x := by
  obtain ⟨i, hi, e⟩ := List.getElem_of_mem h
  rw [List.length_take] at hi
  rw [List.getElem_take] at e
  exact ⟨i, by omega, by omega, by rw [nq_eq l i (by omega)]; exact e⟩
/-- An edge leads to a later place. -/
theorem OrdB.edge {out : List Nat} (h : OrdB g N out) {i j : Nat} (hi : i < out.length) (hj : j < out.length) (he : GE g (nq out i) (nq out j)) : i < j := by
  obtain ⟨-, hf, -⟩ := h.place j hj
  obtain ⟨k, h1, h2, h3⟩ := mem_take_nq (hf.2 _ (h.mem.2 _ (nq_mem hi)) he)
  have := nodup_nq h.mem.1 h2 hi h3
  omega
theorem take_succ_nq {l : List Nat} {i : Nat} (h : i < l.length) : l.take (i + 1) = l.take i ++ [nq l i] := by
  rw [List.take_succ_eq_append_getElem h, nq_eq l i h]
/-- Neighbours of which the greater one is first have an edge. -/
theorem OrdB.nbr {out : List Nat} (h : OrdB g N out) {i : Nat} (hi : i + 1 < out.length) (hlt : nq out (i + 1) < nq out i) : GE g (nq out i) (nq out (i + 1)) := by
  obtain ⟨-, -, h3⟩ := h.place i (by omega)
  obtain ⟨-, h5, -⟩ := h.place (i + 1) hi
  refine Classical.byContradiction fun hn => h3 _ hlt ?_
  rw [take_succ_nq (by omega)] at h5
  refine ⟨fun hm => h5.1 (List.mem_append_left _ hm), fun m hm e => ?_⟩
  rcases List.mem_append.1 (h5.2 m hm e) with h6 | h6
  · exact h6
  · rw [List.mem_singleton.1 h6] at e
    exact absurd e hn
/-- The table of places while the list is gone through. -/
def AtTo (out : List Nat) (N k : Nat) (d : Nat → Int) : Prop := ∀ n, n < N → (n ∉ out.take k → d n = -1) ∧ ∀ i, i < k → nq out i = n → d n = (i : Int)
theorem AtTo.start {out : List Nat} {d : Nat → Int} (h : ∀ n, n < N → d n = -1) : AtTo out N 0 d := fun n hn => ⟨fun _ => h n hn, fun i hi => absurd hi (Nat.not_lt_zero _)⟩
theorem AtTo.fresh {out : List Nat} {k : Nat} {d : Nat → Int} (h : AtTo out N k d) (hd : out.Nodup) (hk : k < out.length) (hN : nq out k < N) : d (nq out k) = -1 := (h _ hN).1 fun hm => by
  obtain ⟨i, h1, h2, h3⟩ := mem_take_nq hm
  have := nodup_nq hd h2 hk h3
  omega
theorem AtTo.step {out : List Nat} {k : Nat} {d d' : Nat → Int} (h : AtTo out N k d) (hd : out.Nodup) (hk : k < out.length) (hd' : ∀ n, n < N → d' n = if n = nq out k then (k : Int) else d n) : AtTo out N (k + 1) d' := fun n hn => by
  rw [hd' n hn, take_succ_nq hk, List.mem_append, List.mem_singleton]
  by_cases e : n = nq out k
  · rw [if_pos e]
    refine ⟨fun h => absurd (.inr e) h, fun i hi ei => ?_⟩
    have := nodup_nq hd (i := i) (j := k) (by omega) hk (by rw [ei, e])
    rw [this]
  · rw [if_neg e]
    refine ⟨fun h' => (h n hn).1 fun hm => h' (.inl hm), fun i hi ei => ?_⟩
    rcases Nat.lt_or_ge i k with h1 | h1
    · exact (h n hn).2 i h1 ei
    · obtain rfl : i = k := by omega
      exact absurd ei.symm e
/-- The whole table: every node's place. -/
theorem AtTo.full {out : List Nat} {d : Nat → Int} (h : AtTo out N out.length d) (ho : OrdB g N out) (hl : out.length = N) {n : Nat} (hn : n < N) : ∃ i, i < N ∧ nq out i = n ∧ d n = (i : Int) := by
  obtain ⟨i, hi, e⟩ := mem_nq (ho.all hl n hn)
  exact ⟨i, by omega, e, (h n hn).2 i hi e⟩
theorem AtTo.edge {out : List Nat} {d : Nat → Int} (h : AtTo out N out.length d) (ho : OrdB g N out) (hl : out.length = N) {a b : Nat} (ha : a < N) (hb : b < N) (he : GE g a b) : d a < d b := by
  obtain ⟨i, h1, h2, h3⟩ := h.full ho hl ha
  obtain ⟨j, h4, h5, h6⟩ := h.full ho hl hb
  have := ho.edge (i := i) (j := j) (by omega) (by omega) (by rw [h2, h5]; exact he)
  omega
end Go.Proofs.Ytlogmgkjikamaaa
