import Derived.Test.YtofaifeadhimjaaDoorMG2
/-
  DfaM, DfaN
-/
set_option linter.unusedVariables false
namespace Go.Proofs.YtofaifeadhimjaaDoor

structure Dfa where
 n : Int
 s : Int
 fin : List Bool
 arcs : List A3
def LtA (x y : A3) : Prop := x.f < y.f ∨ (x.f = y.f ∧ x.l < y.l)
instance (x y : A3) : Decidable (LtA x y) := by unfold LtA; infer_instance
theorem LtA.trans {x y z : A3} (h : LtA x y) (h' : LtA y z) : LtA x z := by unfold LtA at *; omega
theorem LtA.irrefl {x : A3} : ¬ LtA x x := by unfold LtA; omega
def ArcOk (n : Int) (ar : List A3) (i : Nat) : Prop := ((0 ≤ (g3 ar i).f ∧ (g3 ar i).f < n) ∧ (0 ≤ (g3 ar i).t ∧ (g3 ar i).t < n)) ∧ (1 ≤ (g3 ar i).l ∧ (g3 ar i).l ≤ 10000) ∧ (0 < i → LtA (g3 ar (i - 1)) (g3 ar i))
def ValidD (d : Dfa) : Prop := (1 ≤ d.n ∧ d.n ≤ 1000) ∧ (0 ≤ d.s ∧ d.s < d.n) ∧ (d.fin.length : Int) = d.n ∧ d.arcs.length ≤ 20000 ∧ ∀ i, i < d.arcs.length → ArcOk d.n d.arcs i
theorem validD_no {d : Dfa} {i : Nat} (hi : i < d.arcs.length) (h : ¬ ArcOk d.n d.arcs i) : ¬ ValidD d := fun hv => h (hv.2.2.2.2 i hi)
open Classical in
noncomputable def vD (d : Dfa) : Bool := decide (ValidD d)
open Classical in
theorem vD_yes {d : Dfa} (h : ValidD d) : vD d = true := by unfold vD; exact decide_eq_true h
open Classical in
theorem vD_no {d : Dfa} (h : ¬ ValidD d) : vD d = false := by unfold vD; exact decide_eq_false h
open Classical in
theorem vD_iff {d : Dfa} : vD d = true ↔ ValidD d := by unfold vD; exact decide_eq_true_iff
def SortedA (ar : List A3) : Prop := ar.Pairwise LtA
theorem sorted_of_steps {ar : List A3} (h : ∀ i, 0 < i → i < ar.length → LtA (g3 ar (i - 1)) (g3 ar i)) : SortedA ar := by
 have up : ∀ d i, i + (d + 1) < ar.length → LtA (g3 ar i) (g3 ar (i + (d + 1))) := by
  intro d
  induction d with
  | zero => intro i hi; have := h (i + 1) (by omega) hi; simpa using this
  | succ d ih =>
   intro i hi
   have h1 := ih i (by omega)
   have h2 := h (i + (d + 1) + 1) (by omega) hi
   rw [show i + (d + 1) + 1 - 1 = i + (d + 1) by omega] at h2
   rw [show i + (d + 1 + 1) = i + (d + 1) + 1 by omega]
   exact h1.trans h2
 refine List.pairwise_iff_getElem.2 fun i j hi hj hij => ?_
 have := up (j - i - 1) i (by omega)
 rw [show i + (j - i - 1 + 1) = j by omega, g3_eq _ i hi, g3_eq _ j hj] at this
 exact this
theorem ValidD.sorted {d : Dfa} (h : ValidD d) : SortedA d.arcs := sorted_of_steps fun i h0 hi => (h.2.2.2.2 i hi).2.2 h0
theorem SortedA.lt {ar : List A3} (h : SortedA ar) {i j : Nat} (hij : i < j) (hj : j < ar.length) : LtA (g3 ar i) (g3 ar j) := by
 rw [g3_eq _ _ (by omega), g3_eq _ _ hj]
 exact List.pairwise_iff_getElem.1 h i j (by omega) hj hij
theorem ValidD.arc {d : Dfa} (h : ValidD d) {x : A3} (hx : x ∈ d.arcs) : ((0 ≤ x.f ∧ x.f < d.n) ∧ (0 ≤ x.t ∧ x.t < d.n)) ∧ (1 ≤ x.l ∧ x.l ≤ 10000) := by
 obtain ⟨i, hi, e⟩ := List.getElem_of_mem hx
 have := h.2.2.2.2 i hi
 unfold ArcOk at this
 rw [g3_eq _ i hi, e] at this
 exact ⟨this.1, this.2.1⟩
def loP (ar : List A3) (y : A3) : Nat := (ar.filter fun x => decide (LtA x y)).length
theorem loP_le (ar : List A3) (y : A3) : loP ar y ≤ ar.length := List.length_filter_le _ _
theorem loP_iff {ar : List A3} (h : SortedA ar) (y : A3) : ∀ i, i < ar.length → (i < loP ar y ↔ LtA (g3 ar i) y) := by
 induction ar with
 | nil => intro i hi; exact absurd hi (Nat.not_lt_zero _)
 | cons x l ih =>
  intro i hi
  have h' := List.pairwise_cons.1 h
  by_cases hx : LtA x y
  ·have e : loP (x :: l) y = loP l y + 1 := by unfold loP; rw [List.filter_cons_of_pos (by exact decide_eq_true hx)]; rfl
   rw [e]
   cases i with
   | zero => exact ⟨fun _ => hx, fun _ => by omega⟩
   | succ i =>
    have := ih h'.2 i (by simpa using hi)
    rw [show g3 (x :: l) (i + 1) = g3 l i from rfl, ← this]
    omega
  ·have hall : ∀ z ∈ l, ¬ LtA z y := fun z hz hzy => hx ((h'.1 z hz).trans hzy)
   have e : loP (x :: l) y = 0 := by
    unfold loP
    rw [List.filter_cons_of_neg (by simpa using hx), List.length_eq_zero_iff, List.filter_eq_nil_iff]
    intro z hz
    simpa using hall z hz
   rw [e]
   refine ⟨fun h => absurd h (Nat.not_lt_zero _), fun hl => ?_⟩
   cases i with
   | zero => exact absurd hl hx
   | succ i =>
    have hi' : i < l.length := by simpa using hi
    exact absurd hl (hall _ (g3_mem l i hi'))
theorem loP_eq {ar : List A3} (h : SortedA ar) (y : A3) {p : Nat} (hp : p ≤ ar.length) (h1 : ∀ i, i < p → LtA (g3 ar i) y) (h2 : ∀ i, p ≤ i → i < ar.length → ¬ LtA (g3 ar i) y) : p = loP ar y := by
 have hl := loP_le ar y
 rcases Nat.lt_trichotomy p (loP ar y) with h3 | h3 | h3
 ·exact absurd ((loP_iff h y p (by omega)).1 h3) (h2 p (Nat.le_refl _) (by omega))
 ·exact h3
 ·have := (loP_iff h y (loP ar y) (by omega)).2 (h1 _ h3)
  omega
def nxtD (ar : List A3) (q c : Int) : Option A3 := ar.find? fun x => decide (x.f = q) && decide (x.l = c)
def hasAt (ar : List A3) (q c : Int) : Prop := loP ar ⟨q, c, 0⟩ < ar.length ∧ (g3 ar (loP ar ⟨q, c, 0⟩)).f = q ∧ (g3 ar (loP ar ⟨q, c, 0⟩)).l = c
theorem nxtD_some {ar : List A3} (h : SortedA ar) {q c : Int} (hh : hasAt ar q c) : nxtD ar q c = some (g3 ar (loP ar ⟨q, c, 0⟩)) := by
 unfold nxtD
 obtain ⟨h1, h2, h3⟩ := hh
 rw [List.find?_eq_some_iff_append]
 refine ⟨by simp [h2, h3], ar.take (loP ar ⟨q, c, 0⟩), ar.drop (loP ar ⟨q, c, 0⟩ + 1), ?_, fun x hx => ?_⟩
 ·rw [g3_eq _ _ h1, ← List.drop_eq_getElem_cons h1, List.take_append_drop]
 ·obtain ⟨i, hi, e⟩ := List.getElem_of_mem hx
  rw [List.length_take] at hi
  rw [List.getElem_take] at e
  have := (loP_iff h ⟨q, c, 0⟩ i (by omega)).1 (by omega)
  rw [g3_eq _ i (by omega), e] at this
  unfold LtA at this
  simp at this ⊢
  omega
theorem nxtD_none {ar : List A3} (h : SortedA ar) {q c : Int} (hh : ¬ hasAt ar q c) : nxtD ar q c = none := by
 unfold nxtD
 rw [List.find?_eq_none]
 intro x hx hc
 simp at hc
 obtain ⟨i, hi, e⟩ := List.getElem_of_mem hx
 have e' : g3 ar i = x := by rw [g3_eq _ i hi]; exact e
 refine hh ?_
 have : loP ar ⟨q, c, 0⟩ = i := by
  refine (loP_eq h ⟨q, c, 0⟩ (p := i) (by omega) (fun j hj => ?_) (fun j hj hjl => ?_)).symm
  ·have := h.lt hj hi
   rw [e'] at this
   unfold LtA at this ⊢
   simp
   omega
  ·intro hl
   rcases Nat.lt_or_ge i j with h2 | h2
   ·have := h.lt h2 hjl
    rw [e'] at this
    unfold LtA at this hl
    simp at hl
    omega
   ·rw [show j = i by omega, e'] at hl
    unfold LtA at hl
    simp at hl
    omega
 unfold hasAt
 rw [this, e']
 exact ⟨hi, hc⟩
def outsD (ar : List A3) (q : Int) : List A3 := ar.filter fun x => decide (x.f = q)
theorem outsD_part {ar : List A3} (h : SortedA ar) (hl : ∀ x ∈ ar, 1 ≤ x.l) (q : Int) : loP ar ⟨q, 0, 0⟩ ≤ loP ar ⟨q + 1, 0, 0⟩ ∧ (ar.drop (loP ar ⟨q, 0, 0⟩)).take (loP ar ⟨q + 1, 0, 0⟩ - loP ar ⟨q, 0, 0⟩) = outsD ar q := by
 have lt0 : ∀ x ∈ ar, (LtA x ⟨q, 0, 0⟩ ↔ x.f < q) := fun x hx => by
  have := hl x hx
  unfold LtA
  simp
  omega
 have lt1 : ∀ x ∈ ar, (LtA x ⟨q + 1, 0, 0⟩ ↔ x.f < q + 1) := fun x hx => by
  have := hl x hx
  unfold LtA
  simp
  omega
 have hle : loP ar ⟨q, 0, 0⟩ ≤ loP ar ⟨q + 1, 0, 0⟩ := by
  refine Nat.le_of_not_lt fun hlt => ?_
  have h1 := loP_le ar ⟨q, 0, 0⟩
  have hi : loP ar ⟨q + 1, 0, 0⟩ < ar.length := by omega
  have h2 := (lt0 _ (g3_mem ar _ hi)).1 ((loP_iff h ⟨q, 0, 0⟩ _ hi).1 hlt)
  have h3 := (loP_iff h ⟨q + 1, 0, 0⟩ _ hi).2 ((lt1 _ (g3_mem ar _ hi)).2 (by omega))
  omega
 refine ⟨hle, ?_⟩
 have h1 := loP_le ar ⟨q + 1, 0, 0⟩
 have split : ar = ar.take (loP ar ⟨q, 0, 0⟩) ++ ((ar.drop (loP ar ⟨q, 0, 0⟩)).take (loP ar ⟨q + 1, 0, 0⟩ - loP ar ⟨q, 0, 0⟩) ++ ar.drop (loP ar ⟨q + 1, 0, 0⟩)) := by
  have e : (ar.drop (loP ar ⟨q, 0, 0⟩)).drop (loP ar ⟨q + 1, 0, 0⟩ - loP ar ⟨q, 0, 0⟩) = ar.drop (loP ar ⟨q + 1, 0, 0⟩) := by rw [List.drop_drop]; congr 1; omega
  rw [← e, List.take_append_drop, List.take_append_drop]
 have key : ∀ i, i < ar.length → ((g3 ar i).f = q ↔ loP ar ⟨q, 0, 0⟩ ≤ i ∧ i < loP ar ⟨q + 1, 0, 0⟩) := fun i hi => by
  have e0 := (loP_iff h ⟨q, 0, 0⟩ i hi).trans (lt0 _ (g3_mem ar i hi))
  have e1 := (loP_iff h ⟨q + 1, 0, 0⟩ i hi).trans (lt1 _ (g3_mem ar i hi))
  omega
 unfold outsD
 conv => rhs; rw [split]
 rw [List.filter_append, List.filter_append]
 have f1 : (ar.take (loP ar ⟨q, 0, 0⟩)).filter (fun x => decide (x.f = q)) = [] := by
  rw [List.filter_eq_nil_iff]
  intro x hx
  obtain ⟨i, hi, e⟩ := List.getElem_of_mem hx
  rw [List.length_take] at hi
  rw [List.getElem_take] at e
  have := key i (by omega)
  rw [g3_eq _ i (by omega), e] at this
  simp
  omega
 have f3 : (ar.drop (loP ar ⟨q + 1, 0, 0⟩)).filter (fun x => decide (x.f = q)) = [] := by
  rw [List.filter_eq_nil_iff]
  intro x hx
  obtain ⟨i, hi, e⟩ := List.getElem_of_mem hx
  rw [List.length_drop] at hi
  rw [List.getElem_drop] at e
  have := key (loP ar ⟨q + 1, 0, 0⟩ + i) (by omega)
  rw [g3_eq _ _ (by omega), e] at this
  simp
  omega
 have f2 : ((ar.drop (loP ar ⟨q, 0, 0⟩)).take (loP ar ⟨q + 1, 0, 0⟩ - loP ar ⟨q, 0, 0⟩)).filter (fun x => decide (x.f = q)) = (ar.drop (loP ar ⟨q, 0, 0⟩)).take (loP ar ⟨q + 1, 0, 0⟩ - loP ar ⟨q, 0, 0⟩) := by
  rw [List.filter_eq_self]
  intro x hx
  obtain ⟨i, hi, e⟩ := List.getElem_of_mem hx
  rw [List.length_take, List.length_drop] at hi
  rw [List.getElem_take, List.getElem_drop] at e
  have := key (loP ar ⟨q, 0, 0⟩ + i) (by omega)
  rw [g3_eq _ _ (by omega), e] at this
  simp
  omega
 rw [f1, f2, f3]
 simp
end Go.Proofs.YtofaifeadhimjaaDoor

set_option linter.unusedVariables false
set_option linter.unusedSectionVars false
namespace Go.Proofs.YtofaifeadhimjaaDoor

structure Bq (α : Type) where
 q : List α
 w : List (List Int)
 a : List A3
section
variable {α : Type} [DecidableEq α]
def bq1 (h : Nat) (st : Bq α) (x : Int × α) : Bq α :=
 ⟨if x.2 ∈ st.q then st.q else st.q ++ [x.2], if x.2 ∈ st.q then st.w else st.w ++ [st.w.getD h [] ++ [x.1]], st.a ++ [⟨h, x.1, (st.q.idxOf x.2 : Nat)⟩]⟩
def bqs (h : Nat) (st : Bq α) (l : List (Int × α)) : Bq α := l.foldl (bq1 h) st
def bqh (o : α → List (Int × α)) (h : Nat) (st : Bq α) : Bq α :=
 match st.q[h]? with
 | some q => bqs h st (o q)
 | none => st
def bq (o : α → List (Int × α)) (s : α) : Nat → Bq α
 | 0 => ⟨[s], [[]], []⟩
 | k + 1 => bqh o k (bq o s k)
theorem bqs_nil (h : Nat) (st : Bq α) : bqs h st [] = st := rfl
theorem bqs_cons (h : Nat) (st : Bq α) (x : Int × α) (l : List (Int × α)) : bqs h st (x :: l) = bqs h (bq1 h st x) l := rfl
theorem bqs_snoc (h : Nat) (st : Bq α) (x : Int × α) (l : List (Int × α)) : bqs h st (l ++ [x]) = bq1 h (bqs h st l) x := by unfold bqs; rw [List.foldl_append]; rfl
theorem bqh_at {o : α → List (Int × α)} {h : Nat} {st : Bq α} (hh : h < st.q.length) : bqh o h st = bqs h st (o st.q[h]) := by
 unfold bqh; rw [List.getElem?_eq_getElem hh]
theorem bqh_over {o : α → List (Int × α)} {h : Nat} {st : Bq α} (hh : st.q.length ≤ h) : bqh o h st = st := by
 unfold bqh; rw [List.getElem?_eq_none hh]
theorem bq1_pre (h : Nat) (st : Bq α) (x : Int × α) : st.q <+: (bq1 h st x).q := by
 unfold bq1
 by_cases hx : x.2 ∈ st.q
 ·simp only [if_pos hx]; exact List.prefix_refl _
 ·simp only [if_neg hx]; exact List.prefix_append _ _
theorem bqs_pre (h : Nat) : ∀ (l : List (Int × α)) (st : Bq α), st.q <+: (bqs h st l).q
 | [], st => List.prefix_refl _
 | x :: l, st => (bq1_pre h st x).trans (bqs_pre h l (bq1 h st x))
theorem bqh_pre (o : α → List (Int × α)) (h : Nat) (st : Bq α) : st.q <+: (bqh o h st).q := by
 unfold bqh
 split
 ·exact bqs_pre h _ st
 ·exact List.prefix_refl _
theorem bq_pre (o : α → List (Int × α)) (s : α) {j k : Nat} (h : j ≤ k) : (bq o s j).q <+: (bq o s k).q := by
 induction k with
 | zero => rw [show j = 0 by omega]; exact List.prefix_refl _
 | succ k ih =>
  rcases Nat.lt_or_ge k j with h1 | h1
  ·rw [show j = k + 1 by omega]; exact List.prefix_refl _
  ·exact (ih h1).trans (bqh_pre o k (bq o s k))
theorem idx_pre {xs ys : List α} (h : xs <+: ys) {x : α} (hx : x ∈ xs) : ys.idxOf x = xs.idxOf x := by
 obtain ⟨t, rfl⟩ := h
 rw [List.idxOf_append, if_pos hx]
theorem get_pre {xs ys : List α} (h : xs <+: ys) {i : Nat} (hi : i < xs.length) : ∃ h', ys[i]'h' = xs[i] := by
 obtain ⟨t, rfl⟩ := h
 exact ⟨by rw [List.length_append]; omega, List.getElem_append_left hi⟩
theorem bq1_mem (h : Nat) (st : Bq α) (x : Int × α) : x.2 ∈ (bq1 h st x).q := by
 unfold bq1
 by_cases hx : x.2 ∈ st.q
 ·simp only [if_pos hx]; exact hx
 ·simp only [if_neg hx]; simp
theorem bqs_mem (h : Nat) : ∀ (l : List (Int × α)) (st : Bq α), ∀ x ∈ l, x.2 ∈ (bqs h st l).q
 | [], st, x, hx => absurd hx List.not_mem_nil
 | y :: l, st, x, hx => by
  rcases List.mem_cons.1 hx with rfl | hx
  ·exact (bqs_pre h l _).subset (bq1_mem h st x)
  ·exact bqs_mem h l _ x hx
theorem bq1_nodup (h : Nat) (st : Bq α) (x : Int × α) (hn : st.q.Nodup) : (bq1 h st x).q.Nodup := by
 unfold bq1
 by_cases hx : x.2 ∈ st.q
 ·simp only [if_pos hx]; exact hn
 ·simp only [if_neg hx]
  rw [List.nodup_append]
  refine ⟨hn, by simp, fun a ha b hb => ?_⟩
  rw [List.mem_singleton.1 hb]
  rintro rfl
  exact hx ha
theorem bqs_nodup (h : Nat) : ∀ (l : List (Int × α)) (st : Bq α), st.q.Nodup → (bqs h st l).q.Nodup
 | [], st, hn => hn
 | x :: l, st, hn => bqs_nodup h l _ (bq1_nodup h st x hn)
theorem bqh_nodup (o : α → List (Int × α)) (h : Nat) (st : Bq α) (hn : st.q.Nodup) : (bqh o h st).q.Nodup := by
 unfold bqh
 split
 ·exact bqs_nodup h _ st hn
 ·exact hn
theorem bq_nodup (o : α → List (Int × α)) (s : α) : ∀ k, (bq o s k).q.Nodup
 | 0 => by simp [bq]
 | k + 1 => bqh_nodup o k _ (bq_nodup o s k)
theorem bq1_all {P : α → Prop} (h : Nat) (st : Bq α) (x : Int × α) (hP : ∀ y ∈ st.q, P y) (hx : P x.2) : ∀ y ∈ (bq1 h st x).q, P y := by
 unfold bq1
 by_cases hm : x.2 ∈ st.q
 ·simp only [if_pos hm]; exact hP
 ·simp only [if_neg hm]
  intro y hy
  rcases List.mem_append.1 hy with hy | hy
  ·exact hP y hy
  ·rw [List.mem_singleton.1 hy]; exact hx
theorem bqs_all {P : α → Prop} (h : Nat) : ∀ (l : List (Int × α)) (st : Bq α), (∀ y ∈ st.q, P y) → (∀ x ∈ l, P x.2) → ∀ y ∈ (bqs h st l).q, P y
 | [], st, hP, hl => hP
 | x :: l, st, hP, hl => bqs_all h l _ (bq1_all h st x hP (hl x List.mem_cons_self)) fun z hz => hl z (List.mem_cons_of_mem _ hz)
theorem bq_all {P : α → Prop} {o : α → List (Int × α)} {s : α} (hs : P s) (ho : ∀ y, P y → ∀ x ∈ o y, P x.2) : ∀ k, ∀ y ∈ (bq o s k).q, P y
 | 0 => by intro y hy; have hy : y ∈ [s] := hy; rw [List.mem_singleton.1 hy]; exact hs
 | k + 1 => by
  have ih := bq_all hs ho k
  show ∀ y ∈ (bqh o k (bq o s k)).q, P y
  unfold bqh
  split
  ·rename_i y e
   exact bqs_all k _ _ ih (ho y (ih y (List.mem_of_getElem? e)))
  ·exact ih
theorem bq1_wlen (h : Nat) (st : Bq α) (x : Int × α) (hl : st.w.length = st.q.length) : (bq1 h st x).w.length = (bq1 h st x).q.length := by
 unfold bq1
 by_cases hm : x.2 ∈ st.q
 ·simp only [if_pos hm]; exact hl
 ·simp only [if_neg hm, List.length_append, List.length_singleton, hl]
theorem bqs_wlen (h : Nat) : ∀ (l : List (Int × α)) (st : Bq α), st.w.length = st.q.length → (bqs h st l).w.length = (bqs h st l).q.length
 | [], st, hl => hl
 | x :: l, st, hl => bqs_wlen h l _ (bq1_wlen h st x hl)
theorem bq_wlen (o : α → List (Int × α)) (s : α) : ∀ k, (bq o s k).w.length = (bq o s k).q.length
 | 0 => rfl
 | k + 1 => by
  show (bqh o k (bq o s k)).w.length = (bqh o k (bq o s k)).q.length
  unfold bqh
  split
  ·exact bqs_wlen k _ _ (bq_wlen o s k)
  ·exact bq_wlen o s k
theorem bqs_arcs (h : Nat) : ∀ (l : List (Int × α)) (st : Bq α), (bqs h st l).a = st.a ++ l.map fun x => ⟨h, x.1, ((bqs h st l).q.idxOf x.2 : Nat)⟩
 | [], st => by simp [bqs_nil]
 | x :: l, st => by
  rw [bqs_cons, bqs_arcs h l, List.map_cons, show (bq1 h st x).a = st.a ++ [⟨h, x.1, (st.q.idxOf x.2 : Nat)⟩] from rfl, List.append_assoc, List.singleton_append]
  congr 3
  have e1 := idx_pre (bqs_pre h l (bq1 h st x)) (bq1_mem h st x)
  rw [e1]
  by_cases hx : x.2 ∈ st.q
  ·rw [idx_pre (bq1_pre h st x) hx]
  ·have : (bq1 h st x).q = st.q ++ [x.2] := by unfold bq1; simp only [if_neg hx]
   rw [this, List.idxOf_append, if_neg hx, List.idxOf_eq_length hx]
   simp
def headArcs (o : α → List (Int × α)) (Q : List α) (i : Nat) : List A3 :=
 match Q[i]? with
 | some y => (o y).map fun x => ⟨i, x.1, (Q.idxOf x.2 : Nat)⟩
 | none => []
theorem bq_succ_arcs (o : α → List (Int × α)) (s : α) (k : Nat) : (bq o s (k + 1)).a = (bq o s k).a ++ headArcs o (bq o s (k + 1)).q k := by
 show (bqh o k (bq o s k)).a = _
 rcases Nat.lt_or_ge k (bq o s k).q.length with hk | hk
 ·have e : bq o s (k + 1) = bqs k (bq o s k) (o (bq o s k).q[k]) := bqh_at hk
  rw [bqh_at hk, bqs_arcs]
  obtain ⟨h', hg⟩ := get_pre (bq_pre o s (Nat.le_succ k)) hk
  unfold headArcs
  rw [List.getElem?_eq_getElem h', hg, e]
 ·have e : bq o s (k + 1) = bq o s k := bqh_over hk
  rw [bqh_over hk]
  unfold headArcs
  rw [e, List.getElem?_eq_none hk]
  simp
theorem bq_closed (o : α → List (Int × α)) (s : α) : ∀ k i, i < k → ∀ y, (bq o s k).q[i]? = some y → ∀ x ∈ o y, x.2 ∈ (bq o s k).q := by
 intro k
 induction k with
 | zero => intro i hi; omega
 | succ k ih =>
  intro i hi y hy x hx
  rcases Nat.lt_or_ge k (bq o s k).q.length with hk | hk
  ·have e : bq o s (k + 1) = bqs k (bq o s k) (o (bq o s k).q[k]) := bqh_at hk
   have hil : i < (bq o s k).q.length := by omega
   obtain ⟨h', hg⟩ := get_pre (bq_pre o s (Nat.le_succ k)) hil
   rw [List.getElem?_eq_getElem h', hg] at hy
   injection hy with hy
   rcases Nat.lt_or_ge i k with h1 | h1
   ·exact (bq_pre o s (Nat.le_succ k)).subset (ih i h1 y (by rw [List.getElem?_eq_getElem hil, hy]) x hx)
   ·have : i = k := by omega
    subst this
    rw [e]
    rw [← hy] at hx
    exact bqs_mem _ _ _ x hx
  ·have e : bq o s (k + 1) = bq o s k := bqh_over hk
   rw [e] at hy ⊢
   have hil := (List.getElem?_eq_some_iff.1 hy).1
   exact ih i (by omega) y hy x hx
theorem headArcs_pre {o : α → List (Int × α)} {Q Q' : List α} (h : Q <+: Q') {i : Nat} (hi : i < Q.length) (hc : ∀ y, Q[i]? = some y → ∀ x ∈ o y, x.2 ∈ Q) : headArcs o Q' i = headArcs o Q i := by
 obtain ⟨h', hg⟩ := get_pre h hi
 have hc := hc Q[i] (List.getElem?_eq_getElem hi)
 unfold headArcs
 rw [List.getElem?_eq_getElem h', List.getElem?_eq_getElem hi, hg]
 exact List.map_congr_left fun x hx => by rw [idx_pre h (hc x hx)]
theorem bq_arcs (o : α → List (Int × α)) (s : α) : ∀ k, (bq o s k).a = (List.range k).flatMap (headArcs o (bq o s k).q) := by
 intro k
 induction k with
 | zero => rfl
 | succ k ih =>
  rw [bq_succ_arcs, ih, List.range_succ, List.flatMap_append]
  congr 1
  ·have : ∀ i ∈ List.range k, headArcs o (bq o s k).q i = headArcs o (bq o s (k + 1)).q i := fun i hi => by
    have hi := List.mem_range.1 hi
    rcases Nat.lt_or_ge i (bq o s k).q.length with h1 | h1
    ·exact (headArcs_pre (bq_pre o s (Nat.le_succ k)) h1 (bq_closed o s k i hi)).symm
    ·have e : bq o s (k + 1) = bq o s k := bqh_over (by omega)
     rw [e]
   simp only [List.flatMap]
   rw [List.map_congr_left this]
  ·simp [List.flatMap]
theorem bq_stay (o : α → List (Int × α)) (s : α) {k : Nat} (h : (bq o s k).q.length ≤ k) : ∀ d, bq o s (k + d) = bq o s k
 | 0 => rfl
 | d + 1 => by
  have ih := bq_stay o s h d
  show bqh o (k + d) (bq o s (k + d)) = bq o s k
  rw [ih]
  exact bqh_over (by omega)
theorem bq_fin (o : α → List (Int × α)) (s : α) {k n : Nat} (h : (bq o s k).q.length ≤ k) (hn : (bq o s n).q.length ≤ n) : bq o s k = bq o s n := by
 rcases Nat.le_total k n with h1 | h1
 ·have := bq_stay o s h (n - k)
  rw [show k + (n - k) = n by omega] at this
  exact this.symm
 ·have := bq_stay o s hn (k - n)
  rwa [show n + (k - n) = k by omega] at this
end
theorem bq_map {α β : Type} [DecidableEq α] [DecidableEq β] {o : α → List (Int × α)} {o' : β → List (Int × β)} {s : α} (g : α → β) (P : α → Prop) (hs : P s) (ho : ∀ y, P y → ∀ x ∈ o y, P x.2) (hg : ∀ x y, P x → P y → g x = g y → x = y) (he : ∀ y, P y → o' (g y) = (o y).map fun x => (x.1, g x.2)) : ∀ k, bq o' (g s) k = ⟨(bq o s k).q.map g, (bq o s k).w, (bq o s k).a⟩ := by
 have mem_map : ∀ (Q : List α) (x : α), (∀ y ∈ Q, P y) → P x → (g x ∈ Q.map g ↔ x ∈ Q) := fun Q x hQ hx => by
  rw [List.mem_map]
  exact ⟨fun ⟨y, hy, e⟩ => hg y x (hQ y hy) hx e ▸ hy, fun h => ⟨x, h, rfl⟩⟩
 have idx_map : ∀ (Q : List α) (x : α), (∀ y ∈ Q, P y) → P x → (Q.map g).idxOf (g x) = Q.idxOf x := by
  intro Q x hQ hx
  induction Q with
  | nil => rfl
  | cons y Q ih =>
   have ih := ih fun z hz => hQ z (List.mem_cons_of_mem _ hz)
   rw [List.map_cons, List.idxOf_cons, List.idxOf_cons, ih]
   by_cases e : y = x
   ·subst e; simp
   ·have e' : g y ≠ g x := fun h => e (hg y x (hQ y List.mem_cons_self) hx h)
    have b1 : (y == x) = false := by simpa using e
    have b2 : (g y == g x) = false := by simpa using e'
    rw [b1, b2]
 have one : ∀ (h : Nat) (st : Bq α) (x : Int × α), (∀ y ∈ st.q, P y) → P x.2 → bq1 h (⟨st.q.map g, st.w, st.a⟩ : Bq β) (x.1, g x.2) = ⟨(bq1 h st x).q.map g, (bq1 h st x).w, (bq1 h st x).a⟩ := by
  intro h st x hQ hx
  unfold bq1
  simp only [mem_map st.q x.2 hQ hx, idx_map st.q x.2 hQ hx]
  by_cases hm : x.2 ∈ st.q
  ·simp only [if_pos hm]
  ·simp only [if_neg hm, List.map_append, List.map_cons, List.map_nil]
 have all : ∀ (h : Nat) (l : List (Int × α)) (st : Bq α), (∀ y ∈ st.q, P y) → (∀ x ∈ l, P x.2) → bqs h (⟨st.q.map g, st.w, st.a⟩ : Bq β) (l.map fun x => (x.1, g x.2)) = ⟨(bqs h st l).q.map g, (bqs h st l).w, (bqs h st l).a⟩ := by
  intro h l
  induction l with
  | nil => intro st _ _; rfl
  | cons x l ih =>
   intro st hQ hl
   rw [List.map_cons, bqs_cons, bqs_cons, one h st x hQ (hl x List.mem_cons_self)]
   exact ih _ (bq1_all h st x hQ (hl x List.mem_cons_self)) fun z hz => hl z (List.mem_cons_of_mem _ hz)
 intro k
 induction k with
 | zero => rfl
 | succ k ih =>
  show bqh o' k (bq o' (g s) k) = _
  rw [ih]
  have hQ := bq_all (o := o) hs ho k
  rcases Nat.lt_or_ge k (bq o s k).q.length with hk | hk
  ·have e : bq o s (k + 1) = bqs k (bq o s k) (o (bq o s k).q[k]) := bqh_at hk
   have hp := hQ _ (List.getElem_mem hk)
   rw [bqh_at (by simpa using hk), e]
   simp only [List.getElem_map]
   rw [he _ hp]
   exact all k _ _ hQ (ho _ hp)
  ·have e : bq o s (k + 1) = bq o s k := bqh_over hk
   rw [bqh_over (by simpa using hk), e]
end Go.Proofs.YtofaifeadhimjaaDoor
