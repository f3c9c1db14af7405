/-
  The reference's free, Linear, IsLinear in plain words. No walk.
-/
import Derived.Test.YtofnbndpoiohhaaDoorOrdL
import Derived.Test.YtofnbndpoiohhaaDoorOrdR
set_option linter.unusedVariables false
namespace Go.Proofs.YtofnbndpoiohhaaDoor
open Go.RowKit Go.Shelf

variable {n : Int} {es : List (Int × Int)}

def okB (M : Nat → Nat → Bool) (D : Nat → Bool) (i k : Nat) : Bool := !D i && (List.range k).all fun j => D j || !M j i
def freeTo (M : Nat → Nat → Bool) (D : Nat → Bool) (N j : Nat) : List Nat := (List.range j).filter fun i => okB M D i N
theorem okB_zero (M : Nat → Nat → Bool) (D : Nat → Bool) (i : Nat) : okB M D i 0 = !D i := by simp [okB]
theorem okB_succ (M : Nat → Nat → Bool) (D : Nat → Bool) (i k : Nat) : okB M D i (k + 1) = (okB M D i k && (D k || !M k i)) := by
  simp [okB, List.range_succ, Bool.and_assoc]
theorem freeTo_zero (M : Nat → Nat → Bool) (D : Nat → Bool) (N : Nat) : freeTo M D N 0 = [] := rfl
theorem freeTo_yes {M : Nat → Nat → Bool} {D : Nat → Bool} {N j : Nat} (h : okB M D j N = true) : freeTo M D N (j + 1) = freeTo M D N j ++ [j] := by
  simp [freeTo, List.range_succ, List.filter_append, h]
theorem freeTo_no {M : Nat → Nat → Bool} {D : Nat → Bool} {N j : Nat} (h : okB M D j N = false) : freeTo M D N (j + 1) = freeTo M D N j := by
  simp [freeTo, List.range_succ, List.filter_append, h]
theorem freeTo_length (M : Nat → Nat → Bool) (D : Nat → Bool) (N j : Nat) : (freeTo M D N j).length ≤ j := by
  have := List.length_filter_le (fun i => okB M D i N) (List.range j)
  rwa [List.length_range] at this
theorem freeTo_mem {M : Nat → Nat → Bool} {D : Nat → Bool} {N j i : Nat} : i ∈ freeTo M D N j ↔ i < j ∧ okB M D i N = true := by
  simp [freeTo]
theorem okB_iff {M : Nat → Nat → Bool} {D : Nat → Bool} {i k : Nat} : okB M D i k = true ↔ D i = false ∧ ∀ j, j < k → D j = true ∨ M j i = false := by
  simp [okB]
theorem freeTo_sorted (M : Nat → Nat → Bool) (D : Nat → Bool) (N j : Nat) : (freeTo M D N j).Pairwise (· < ·) := List.pairwise_lt_range.filter _

def dB (ls : List Nat) (i : Nat) : Bool := decide (i ∈ ls)
theorem dB_nil (i : Nat) : dB [] i = false := by simp [dB]
theorem dB_snoc (ls : List Nat) (x i : Nat) : (if i = x then Value.bool true else .bool (dB ls i)) = .bool (dB (ls ++ [x]) i) := by
  by_cases h : i = x
  · subst h; simp [dB]
  · rw [if_neg h]; simp [dB, h]

/-- While events are missing there is a free one, and the first of them is the least list's next. -/
theorem free_first {N : Nat} {ls : List Nat} (hv : ValidO N es) (hk : KL (Ed es) N ls) (hl : ls.length < N) :
    ∃ x rest, freeTo (pathB es) (dB ls) N N = x :: rest ∧ x < N ∧ KL (Ed es) N (ls ++ [x]) := by
  have hE := hv.2.2.1.ed
  have key : ∀ i, i < N → (okB (pathB es) (dB ls) i N = true ↔ i ∉ ls ∧ ∀ a, Ed es a i → a ∈ ls) := by
    intro i hi
    rw [okB_iff]
    unfold dB
    rw [decide_eq_false_iff_not]
    constructor
    · rintro ⟨h1, h2⟩
      refine ⟨h1, fun a e => ?_⟩
      rcases h2 a (hE _ _ e).1 with h | h
      · exact of_decide_eq_true h
      · rw [path_true (.one e)] at h; cases h
    · rintro ⟨h1, h2⟩
      refine ⟨h1, fun j hj => ?_⟩
      by_cases p : Path (Ed es) j i
      · left
        refine decide_eq_true ?_
        rcases p.last with e | ⟨b, p', e⟩
        · exact h2 _ e
        · exact (hk.topo.path p' (h2 _ e)).1
      · exact .inr (path_false p)
  obtain ⟨i0, hi0, hn0, hp0⟩ := hk.topo.next hl hE hv.2.2.2
  have hm0 : i0 ∈ freeTo (pathB es) (dB ls) N N := freeTo_mem.2 ⟨hi0, (key i0 hi0).2 ⟨hn0, hp0⟩⟩
  have hs := freeTo_sorted (pathB es) (dB ls) N N
  cases hf : freeTo (pathB es) (dB ls) N N with
  | nil => rw [hf] at hm0; cases hm0
  | cons x rest =>
    have hx : x ∈ freeTo (pathB es) (dB ls) N N := by rw [hf]; exact List.mem_cons_self
    obtain ⟨hxN, hxo⟩ := freeTo_mem.1 hx
    obtain ⟨h1, h2⟩ := (key x hxN).1 hxo
    refine ⟨x, rest, rfl, hxN, .snoc hk h1 hxN h2 fun j hj hjn => ?_⟩
    refine Classical.byContradiction fun hc => ?_
    have hjo : j ∈ freeTo (pathB es) (dB ls) N N := freeTo_mem.2 ⟨by omega, (key j (by omega)).2 ⟨hjn, fun a e => Classical.byContradiction fun h => hc ⟨a, e, h⟩⟩⟩
    rw [hf] at hjo hs
    rcases List.mem_cons.1 hjo with rfl | h
    · omega
    · have := (List.pairwise_cons.1 hs).1 j h
      omega

open Classical in
/-- A list is a linear extension when all its beginnings are cuts. -/
theorem linB_cuts {l : List Int} (hv : ValidO n es) (hl : (l.length : Int) = n) : (∀ k, k ≤ l.length → cutB n es (l.take k) = true) → linB n es l = true := by
  intro h
  refine linB_yes ⟨hv, hl, fun k hk => ?_⟩
  have hc : CutP n es (l.take (k + 1)) := by
    have := h (k + 1) hk
    unfold cutB at this
    exact of_decide_eq_true this
  have hkl : k < (l.take (k + 1)).length := by rw [List.length_take]; omega
  have h1 := hc.2.1 k hkl
  have h2 := hc.2.2 k hkl
  rw [List.take_take, Nat.min_eq_left (by omega), gi_take _ _ _ (by omega)] at h1
  rw [gi_take _ _ _ (by omega)] at h2
  refine ⟨h1, fun a pa => ?_⟩
  have := h2 a pa
  rw [take_succ_gi l k hk, List.mem_append, List.mem_singleton] at this
  rcases this with h | h
  · exact h
  · exfalso
    rw [← h, Int.toNat_natCast] at pa
    exact hv.2.2.2 a pa
theorem linB_cut_no {l : List Int} {k : Nat} (h : cutB n es (l.take k) = false) : linB n es l = false := by
  refine linB_no fun hL => ?_
  have h2 := linP_iff.1 hL
  have := steps_cut h2.1 h2.2.2 k
  rw [h] at this
  cases this

/-- The table of the events of a list of numbers. -/
def inB (p : List Int) (i : Nat) : Bool := decide ((i : Int) ∈ p)
theorem inB_nil (i : Nat) : inB [] i = false := by simp [inB]
theorem inB_snoc (p : List Int) (x i : Nat) : (if i = x then Value.bool true else .bool (inB p i)) = .bool (inB (p ++ [(x : Int)]) i) := by
  by_cases h : i = x
  · subst h; simp [inB]
  · rw [if_neg h]
    have : ((i : Int) ∈ p ++ [(x : Int)]) ↔ (i : Int) ∈ p := by
      rw [List.mem_append, List.mem_singleton, Int.ofNat_inj]
      exact ⟨fun hh => hh.elim id fun e => absurd e h, .inl⟩
    simp [inB, this]
theorem cut_of_table {N : Nat} {l : List Int} (hv : ValidO N es) (hr : ∀ k, k < l.length → InRng N (l.take k) (gi l k)) (h : ∀ i k, i < N → k < N → ¬ (pathB es i k = true ∧ inB l k = true ∧ inB l i = false)) : cutB N es l = true := by
  refine cutB_yes ⟨hv, hr, fun k hk a pa => ?_⟩
  have hk1 := (hr k hk).1
  have ha := (hv.2.2.1.ed _ _ (Path.first pa).choose_spec).1
  refine Classical.byContradiction fun hc => h a (gi l k).toNat ha (by omega) ⟨path_true pa, ?_, ?_⟩
  · unfold inB
    rw [Int.toNat_of_nonneg hk1.1]
    exact decide_eq_true (gi_mem l k hk)
  · exact decide_eq_false hc
open Classical in
theorem cut_table_no {N : Nat} {l : List Int} {i k : Nat} (h1 : pathB es i k = true) (h2 : inB l k = true) (h3 : inB l i = false) : cutB N es l = false := by
  refine cutB_no fun hc => ?_
  have hp : Path (Ed es) i k := by unfold pathB at h1; exact of_decide_eq_true h1
  have hk : (k : Int) ∈ l := of_decide_eq_true h2
  obtain ⟨j, hj, e⟩ := List.mem_iff_getElem.1 hk
  have := hc.2.2 j hj i
  rw [gi_eq l j hj, e, Int.toNat_natCast] at this
  exact (of_decide_eq_false h3) (this hp)
end Go.Proofs.YtofnbndpoiohhaaDoor
