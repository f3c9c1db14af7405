/-
  Valid graphs, rows as sets, the graph of a set of edges. No walk.
-/
import Derived.Test.YtlogmgkjikamaaaRef03
set_option linter.unusedVariables false
namespace Go.Proofs.Ytlogmgkjikamaaa

theorem asc_of_steps {l : List Int} (h : ∀ j, 0 < j → j < l.length → gi l (j - 1) < gi l j) : Asc l := by
  have up : ∀ d i, i + (d + 1) < l.length → gi l i < gi l (i + (d + 1)) := by
    intro d
    induction d with
    | zero => intro i hi; have := h (i + 1) (by omega) hi; simpa using this
    | succ d ih =>
      intro i hi
      have h1 := ih i (by omega)
      have h2 := h (i + (d + 1) + 1) (by omega) hi
      rw [show i + (d + 1) + 1 - 1 = i + (d + 1) by omega] at h2
      rw [show i + (d + 1 + 1) = i + (d + 1) + 1 by omega]
      omega
  refine List.pairwise_iff_getElem.2 fun i j hi hj hij => ?_
  have := up (j - i - 1) i (by omega)
  rw [show i + (j - i - 1 + 1) = j by omega, gi_eq _ i hi, gi_eq _ j hj] at this
  exact this
theorem Asc.gi_lt {l : List Int} (h : Asc l) {i j : Nat} (hij : i < j) (hj : j < l.length) : gi l i < gi l j := by
  rw [gi_eq _ _ (by omega), gi_eq _ _ hj]
  exact List.pairwise_iff_getElem.1 h i j (by omega) hj hij
theorem Asc.nodup {l : List Int} (h : Asc l) : l.Nodup := List.Pairwise.imp (fun hlt => by omega) h
/-- What Valid asks of the j-th number of a row. -/
def GoodAt (N : Nat) (l : List Int) (j : Nat) : Prop := (0 ≤ gi l j ∧ gi l j < (N : Int)) ∧ (0 < j → gi l (j - 1) < gi l j)
def Good (N : Nat) (l : List Int) : Prop := ∀ j, j < l.length → GoodAt N l j
theorem good_iff {N : Nat} {l : List Int} : Good N l ↔ Asc l ∧ ∀ z ∈ l, 0 ≤ z ∧ z < (N : Int) := by
  constructor
  · intro h
    refine ⟨asc_of_steps fun j h0 hj => (h j hj).2 h0, fun z hz => ?_⟩
    obtain ⟨i, hi, e⟩ := List.getElem_of_mem hz
    have := (h i hi).1
    rw [gi_eq _ i hi, e] at this
    exact this
  · rintro ⟨h1, h2⟩ j hj
    exact ⟨h2 _ (gi_mem _ j hj), fun h0 => h1.gi_lt (by omega) hj⟩
theorem validG_iff {g : List (List Int)} : ValidG g ↔ g.length ≤ 400 ∧ ∀ i, i < g.length → Good g.length (gr g i) := by
  unfold ValidG
  refine and_congr_right fun _ => ⟨fun h i hi => good_iff.2 (h _ (gr_mem hi)), fun h l hl => ?_⟩
  obtain ⟨i, hi, e⟩ := List.getElem_of_mem hl
  have := good_iff.1 (h i hi)
  rw [gr_eq g i hi, e] at this
  exact this
theorem validG_no {g : List (List Int)} {i j : Nat} (hi : i < g.length) (hj : j < (gr g i).length) (h : ¬ GoodAt g.length (gr g i) j) : ¬ ValidG g := fun hv => h ((validG_iff.1 hv).2 i hi j hj)
open Classical in
noncomputable def validGB (g : List (List Int)) : Bool := decide (ValidG g)
open Classical in
theorem validGB_yes {g : List (List Int)} (h : ValidG g) : validGB g = true := by unfold validGB; exact decide_eq_true h
open Classical in
theorem validGB_no {g : List (List Int)} (h : ¬ ValidG g) : validGB g = false := by unfold validGB; exact decide_eq_false h
open Classical in
theorem validGB_iff {g : List (List Int)} : validGB g = true ↔ ValidG g := by unfold validGB; exact decide_eq_true_iff

theorem rows_ext {g h : List (List Int)} (hl : g.length = h.length) (e : ∀ i, i < g.length → gr g i = gr h i) : g = h := by
  apply List.ext_getElem hl
  intro i h1 h2
  have := e i h1
  rwa [gr_eq _ _ h1, gr_eq _ _ h2] at this
theorem gr_set {g : List (List Int)} {i : Nat} (hi : i < g.length) (l : List Int) (j : Nat) : gr (g.set i l) j = if j = i then l else gr g j := by
  by_cases e : j = i
  · subst e; rw [if_pos rfl]; simp [gr, List.getD, hi]
  · rw [if_neg e]; simp [gr, List.getD, List.getElem?_set_ne (Ne.symm e)]
theorem gr_replicate (N i : Nat) : gr (List.replicate N ([] : List Int)) i = [] := by
  by_cases h : i < N
  · simp [gr, List.getD, h]
  · exact gr_over (by simp; omega)

/-! The graph of a set of edges. -/
def rowE (N : Nat) (p : Nat → Bool) : List Int := ((List.range N).filter p).map Int.ofNat
theorem mem_rowE {N : Nat} {p : Nat → Bool} {z : Int} : z ∈ rowE N p ↔ ∃ i, i < N ∧ p i = true ∧ z = (i : Int) := by
  unfold rowE
  rw [List.mem_map]
  constructor
  · rintro ⟨i, hi, rfl⟩
    rw [List.mem_filter, List.mem_range] at hi
    exact ⟨i, hi.1, hi.2, rfl⟩
  · rintro ⟨i, h1, h2, rfl⟩
    exact ⟨i, List.mem_filter.2 ⟨List.mem_range.2 h1, h2⟩, rfl⟩
theorem asc_rowE (N : Nat) (p : Nat → Bool) : Asc (rowE N p) := by
  unfold rowE Asc
  rw [List.pairwise_map]
  refine (List.Pairwise.filter _ List.pairwise_lt_range).imp ?_
  intro a b h
  show (a : Int) < b
  omega
theorem rowE_len (N : Nat) (p : Nat → Bool) : (rowE N p).length ≤ N := by
  unfold rowE
  rw [List.length_map]
  have := List.length_filter_le p (List.range N)
  rwa [List.length_range] at this
def graphE (N : Nat) (E : Nat → Nat → Bool) : List (List Int) := (List.range N).map fun a => rowE N (E a)
theorem graphE_length (N : Nat) (E : Nat → Nat → Bool) : (graphE N E).length = N := by simp [graphE]
theorem gr_graphE {N : Nat} {E : Nat → Nat → Bool} {i : Nat} (hi : i < N) : gr (graphE N E) i = rowE N (E i) := by
  rw [gr_eq _ _ (by rw [graphE_length]; exact hi)]
  simp [graphE]
theorem graphE_valid {N : Nat} (hN : N ≤ 400) (E : Nat → Nat → Bool) : ValidG (graphE N E) := by
  refine ⟨by rw [graphE_length]; exact hN, fun l hl => ?_⟩
  obtain ⟨a, -, rfl⟩ := List.mem_map.1 hl
  refine ⟨asc_rowE _ _, fun z hz => ?_⟩
  obtain ⟨i, h1, -, rfl⟩ := mem_rowE.1 hz
  rw [graphE_length]
  omega
theorem graphE_edge {N : Nat} {E : Nat → Nat → Bool} {a b : Nat} : GE (graphE N E) a b ↔ a < N ∧ b < N ∧ E a b = true := by
  unfold GE
  rcases Nat.lt_or_ge a N with h | h
  · rw [gr_graphE h, mem_rowE]
    constructor
    · rintro ⟨i, h1, h2, h3⟩
      have : b = i := by omega
      subst this
      exact ⟨h, h1, h2⟩
    · rintro ⟨_, h1, h2⟩
      exact ⟨b, h1, h2, rfl⟩
  · rw [gr_over (by rw [graphE_length]; exact h)]
    simp; omega
/-- Rows that ascend and hold the same numbers as a set of edges. -/
theorem graphE_of {N : Nat} {E : Nat → Nat → Bool} {g : List (List Int)} (hl : g.length = N) (ha : ∀ i, i < N → Asc (gr g i)) (hm : ∀ i, i < N → ∀ z, z ∈ gr g i ↔ ∃ j, j < N ∧ E i j = true ∧ z = (j : Int)) : g = graphE N E := by
  refine rows_ext (by rw [graphE_length]; exact hl) fun i hi => ?_
  rw [gr_graphE (by omega)]
  exact asc_ext (ha i (by omega)) (asc_rowE _ _) fun z => by rw [hm i (by omega) z, mem_rowE]
open Classical in
noncomputable def geB (g : List (List Int)) (a b : Nat) : Bool := decide (GE g a b)
open Classical in
theorem geB_iff {g : List (List Int)} {a b : Nat} : geB g a b = true ↔ GE g a b := by unfold geB; exact decide_eq_true_iff
/-- A valid graph is the graph of its edges. -/
theorem valid_graphE {g : List (List Int)} (hv : ValidG g) : g = graphE g.length (geB g) := by
  refine graphE_of rfl (fun i hi => (hv.2 _ (gr_mem hi)).1) fun i hi z => ?_
  constructor
  · intro hz
    have := (hv.2 _ (gr_mem hi)).2 z hz
    obtain ⟨j, rfl⟩ := Int.eq_ofNat_of_zero_le this.1
    exact ⟨j, by omega, geB_iff.2 hz, rfl⟩
  · rintro ⟨j, -, h2, rfl⟩
    exact geB_iff.1 h2
theorem graphE_congr {N : Nat} {E E' : Nat → Nat → Bool} (h : ∀ a b, a < N → b < N → E a b = E' a b) : graphE N E = graphE N E' := by
  refine rows_ext (by rw [graphE_length, graphE_length]) fun i hi => ?_
  rw [graphE_length] at hi
  rw [gr_graphE hi, gr_graphE hi]
  unfold rowE
  congr 1
  exact List.filter_congr fun j hj => h i j hi (List.mem_range.1 hj)
/-- The edges turned round. -/
noncomputable def backG (g : List (List Int)) : List (List Int) := graphE g.length fun a b => geB g b a
theorem backG_edge {g : List (List Int)} (hv : ValidG g) {a b : Nat} : GE (backG g) a b ↔ GE g b a := by
  unfold backG
  rw [graphE_edge, geB_iff]
  exact ⟨fun h => h.2.2, fun h => ⟨(h.lt hv).2, (h.lt hv).1, h⟩⟩
theorem backG_back {g : List (List Int)} (hv : ValidG g) : backG (backG g) = g := by
  have hl : (backG g).length = g.length := graphE_length _ _
  conv => rhs; rw [valid_graphE hv]
  unfold backG at hl ⊢
  rw [hl]
  refine graphE_congr fun a b ha hb => ?_
  have := backG_edge hv (a := b) (b := a)
  rw [Bool.eq_iff_iff, geB_iff, geB_iff]
  exact this

/-- A set of pairs of numbers below N. -/
def InN (N : Nat) (es : List (Int × Int)) : Prop := ∀ e ∈ es, (0 ≤ e.1 ∧ e.1 < (N : Int)) ∧ 0 ≤ e.2 ∧ e.2 < (N : Int)
def prB (es : List (Int × Int)) (a b : Nat) : Bool := decide (((a : Int), (b : Int)) ∈ es)
theorem prB_iff {es : List (Int × Int)} {a b : Nat} : prB es a b = true ↔ ((a : Int), (b : Int)) ∈ es := by unfold prB; exact decide_eq_true_iff
noncomputable def makeG (N : Nat) (es : List (Int × Int)) : List (List Int) := graphE N (prB es)
theorem mergeSort_asc (l : List Int) : (l.mergeSort fun x y => decide (x ≤ y)).Pairwise (· ≤ ·) := by
  have := List.pairwise_mergeSort (le := fun (x y : Int) => decide (x ≤ y)) (fun a b c h1 h2 => by simp at *; omega) (fun a b => by simp; omega) l
  exact this.imp fun h => by simpa using h
end Go.Proofs.Ytlogmgkjikamaaa
