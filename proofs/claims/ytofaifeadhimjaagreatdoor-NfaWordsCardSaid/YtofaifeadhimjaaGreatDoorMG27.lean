import Derived.Test.YtofaifeadhimjaaGreatDoorMG2
/-
  DfaM, DfaN
-/
set_option linter.unusedVariables false
namespace Go.Proofs.YtofaifeadhimjaaGreatDoor

structure Dfa where
 n : Int
 s : Int
 fin : List Bool
 arcs : List A3
def LtA (x y : A3) : Prop := x.f < y.f ∨ (x.f = y.f ∧ x.l < y.l)
instance (x y : A3) : Decidable (LtA x y) := by unfold LtA; infer_instance
theorem LtA.trans {x y z : A3} (h : LtA x y) (h' : LtA y z) : LtA x z := by unfold LtA at *; omega
theorem LtA.irrefl {x : A3} : ¬ LtA x x := by unfold LtA; omega
def ArcOk (n : Int) (ar : List A3) (i : Nat) : Prop := ((0 ≤ (g3 ar i).f ∧ (g3 ar i).f < n) ∧ (0 ≤ (g3 ar i).t ∧ (g3 ar i).t < n)) ∧ (1 ≤ (g3 ar i).l ∧ (g3 ar i).l ≤ 10000) ∧ (0 < i → LtA (g3 ar (i - 1)) (g3 ar i))
def ValidD (d : Dfa) : Prop := (1 ≤ d.n ∧ d.n ≤ 1000) ∧ (0 ≤ d.s ∧ d.s < d.n) ∧ (d.fin.length : Int) = d.n ∧ d.arcs.length ≤ 20000 ∧ ∀ i, i < d.arcs.length → ArcOk d.n d.arcs i
def SortedA (ar : List A3) : Prop := ar.Pairwise LtA
theorem sorted_of_steps {ar : List A3} (h : ∀ i, 0 < i → i < ar.length → LtA (g3 ar (i - 1)) (g3 ar i)) : SortedA ar := by
 have up : ∀ d i, i + (d + 1) < ar.length → LtA (g3 ar i) (g3 ar (i + (d + 1))) := by
  intro d
  induction d with
  | zero => intro i hi; have := h (i + 1) (by omega) hi; simpa using this
  | succ d ih =>
   intro i hi
   have h1 := ih i (by omega)
   have h2 := h (i + (d + 1) + 1) (by omega) hi
   rw [show i + (d + 1) + 1 - 1 = i + (d + 1) by omega] at h2
   rw [show i + (d + 1 + 1) = i + (d + 1) + 1 by omega]
   exact h1.trans h2
 refine List.pairwise_iff_getElem.2 fun i j hi hj hij => ?_
 have := up (j - i - 1) i (by omega)
 rw [show i + (j - i - 1 + 1) = j by omega, g3_eq _ i hi, g3_eq _ j hj] at this
 exact this
theorem ValidD.sorted {d : Dfa} (h : ValidD d) : SortedA d.arcs := sorted_of_steps fun i h0 hi => (h.2.2.2.2 i hi).2.2 h0
theorem SortedA.lt {ar : List A3} (h : SortedA ar) {i j : Nat} (hij : i < j) (hj : j < ar.length) : LtA (g3 ar i) (g3 ar j) := by
 rw [g3_eq _ _ (by omega), g3_eq _ _ hj]
 exact List.pairwise_iff_getElem.1 h i j (by omega) hj hij
theorem ValidD.arc {d : Dfa} (h : ValidD d) {x : A3} (hx : x ∈ d.arcs) : ((0 ≤ x.f ∧ x.f < d.n) ∧ (0 ≤ x.t ∧ x.t < d.n)) ∧ (1 ≤ x.l ∧ x.l ≤ 10000) := by
 obtain ⟨i, hi, e⟩ := List.getElem_of_mem hx
 have := h.2.2.2.2 i hi
 unfold ArcOk at this
 rw [g3_eq _ i hi, e] at this
 exact ⟨this.1, this.2.1⟩
end Go.Proofs.YtofaifeadhimjaaGreatDoor

set_option linter.unusedVariables false
set_option linter.unusedSectionVars false
namespace Go.Proofs.YtofaifeadhimjaaGreatDoor

structure Bq (α : Type) where
 q : List α
 w : List (List Int)
 a : List A3
section
variable {α : Type} [DecidableEq α]
def bq1 (h : Nat) (st : Bq α) (x : Int × α) : Bq α :=
 ⟨if x.2 ∈ st.q then st.q else st.q ++ [x.2], if x.2 ∈ st.q then st.w else st.w ++ [st.w.getD h [] ++ [x.1]], st.a ++ [⟨h, x.1, (st.q.idxOf x.2 : Nat)⟩]⟩
def bqs (h : Nat) (st : Bq α) (l : List (Int × α)) : Bq α := l.foldl (bq1 h) st
def bqh (o : α → List (Int × α)) (h : Nat) (st : Bq α) : Bq α :=
 match st.q[h]? with
 | some q => bqs h st (o q)
 | none => st
def bq (o : α → List (Int × α)) (s : α) : Nat → Bq α
 | 0 => ⟨[s], [[]], []⟩
 | k + 1 => bqh o k (bq o s k)
theorem bqs_nil (h : Nat) (st : Bq α) : bqs h st [] = st := rfl
theorem bqs_cons (h : Nat) (st : Bq α) (x : Int × α) (l : List (Int × α)) : bqs h st (x :: l) = bqs h (bq1 h st x) l := rfl
theorem bqs_snoc (h : Nat) (st : Bq α) (x : Int × α) (l : List (Int × α)) : bqs h st (l ++ [x]) = bq1 h (bqs h st l) x := by unfold bqs; rw [List.foldl_append]; rfl
theorem bqh_at {o : α → List (Int × α)} {h : Nat} {st : Bq α} (hh : h < st.q.length) : bqh o h st = bqs h st (o st.q[h]) := by
 unfold bqh; rw [List.getElem?_eq_getElem hh]
theorem bqh_over {o : α → List (Int × α)} {h : Nat} {st : Bq α} (hh : st.q.length ≤ h) : bqh o h st = st := by
 unfold bqh; rw [List.getElem?_eq_none hh]
theorem bq1_pre (h : Nat) (st : Bq α) (x : Int × α) : st.q <+: (bq1 h st x).q := by
 unfold bq1
 by_cases hx : x.2 ∈ st.q
 ·simp only [if_pos hx]; exact List.prefix_refl _
 ·simp only [if_neg hx]; exact List.prefix_append _ _
theorem bqs_pre (h : Nat) : ∀ (l : List (Int × α)) (st : Bq α), st.q <+: (bqs h st l).q
 | [], st => List.prefix_refl _
 | x :: l, st => (bq1_pre h st x).trans (bqs_pre h l (bq1 h st x))
theorem bqh_pre (o : α → List (Int × α)) (h : Nat) (st : Bq α) : st.q <+: (bqh o h st).q := by
 unfold bqh
 split
 ·exact bqs_pre h _ st
 ·exact List.prefix_refl _
theorem bq_pre (o : α → List (Int × α)) (s : α) {j k : Nat} (h : j ≤ k) : (bq o s j).q <+: (bq o s k).q := by
 induction k with
 | zero => rw [show j = 0 by omega]; exact List.prefix_refl _
 | succ k ih =>
  rcases Nat.lt_or_ge k j with h1 | h1
  ·rw [show j = k + 1 by omega]; exact List.prefix_refl _
  ·exact (ih h1).trans (bqh_pre o k (bq o s k))
theorem idx_pre {xs ys : List α} (h : xs <+: ys) {x : α} (hx : x ∈ xs) : ys.idxOf x = xs.idxOf x := by
 obtain ⟨t, rfl⟩ := h
 rw [List.idxOf_append, if_pos hx]
theorem bq1_mem (h : Nat) (st : Bq α) (x : Int × α) : x.2 ∈ (bq1 h st x).q := by
 unfold bq1
 by_cases hx : x.2 ∈ st.q
 ·simp only [if_pos hx]; exact hx
 ·simp only [if_neg hx]; simp
theorem bq1_all {P : α → Prop} (h : Nat) (st : Bq α) (x : Int × α) (hP : ∀ y ∈ st.q, P y) (hx : P x.2) : ∀ y ∈ (bq1 h st x).q, P y := by
 unfold bq1
 by_cases hm : x.2 ∈ st.q
 ·simp only [if_pos hm]; exact hP
 ·simp only [if_neg hm]
  intro y hy
  rcases List.mem_append.1 hy with hy | hy
  ·exact hP y hy
  ·rw [List.mem_singleton.1 hy]; exact hx
theorem bqs_all {P : α → Prop} (h : Nat) : ∀ (l : List (Int × α)) (st : Bq α), (∀ y ∈ st.q, P y) → (∀ x ∈ l, P x.2) → ∀ y ∈ (bqs h st l).q, P y
 | [], st, hP, hl => hP
 | x :: l, st, hP, hl => bqs_all h l _ (bq1_all h st x hP (hl x List.mem_cons_self)) fun z hz => hl z (List.mem_cons_of_mem _ hz)
theorem bq_all {P : α → Prop} {o : α → List (Int × α)} {s : α} (hs : P s) (ho : ∀ y, P y → ∀ x ∈ o y, P x.2) : ∀ k, ∀ y ∈ (bq o s k).q, P y
 | 0 => by intro y hy; have hy : y ∈ [s] := hy; rw [List.mem_singleton.1 hy]; exact hs
 | k + 1 => by
  have ih := bq_all hs ho k
  show ∀ y ∈ (bqh o k (bq o s k)).q, P y
  unfold bqh
  split
  ·rename_i y e
   exact bqs_all k _ _ ih (ho y (ih y (List.mem_of_getElem? e)))
  ·exact ih
theorem bqs_arcs (h : Nat) : ∀ (l : List (Int × α)) (st : Bq α), (bqs h st l).a = st.a ++ l.map fun x => ⟨h, x.1, ((bqs h st l).q.idxOf x.2 : Nat)⟩
 | [], st => by simp [bqs_nil]
 | x :: l, st => by
  rw [bqs_cons, bqs_arcs h l, List.map_cons, show (bq1 h st x).a = st.a ++ [⟨h, x.1, (st.q.idxOf x.2 : Nat)⟩] from rfl, List.append_assoc, List.singleton_append]
  congr 3
  have e1 := idx_pre (bqs_pre h l (bq1 h st x)) (bq1_mem h st x)
  rw [e1]
  by_cases hx : x.2 ∈ st.q
  ·rw [idx_pre (bq1_pre h st x) hx]
  ·have : (bq1 h st x).q = st.q ++ [x.2] := by unfold bq1; simp only [if_neg hx]
   rw [this, List.idxOf_append, if_neg hx, List.idxOf_eq_length hx]
   simp
theorem bq_stay (o : α → List (Int × α)) (s : α) {k : Nat} (h : (bq o s k).q.length ≤ k) : ∀ d, bq o s (k + d) = bq o s k
 | 0 => rfl
 | d + 1 => by
  have ih := bq_stay o s h d
  show bqh o (k + d) (bq o s (k + d)) = bq o s k
  rw [ih]
  exact bqh_over (by omega)
theorem bq_fin (o : α → List (Int × α)) (s : α) {k n : Nat} (h : (bq o s k).q.length ≤ k) (hn : (bq o s n).q.length ≤ n) : bq o s k = bq o s n := by
 rcases Nat.le_total k n with h1 | h1
 ·have := bq_stay o s h (n - k)
  rw [show k + (n - k) = n by omega] at this
  exact this.symm
 ·have := bq_stay o s hn (k - n)
  rwa [show n + (k - n) = k by omega] at this
end
end Go.Proofs.YtofaifeadhimjaaGreatDoor
