/-
  Package bits: what BitsValues takes: own rows that are written to.
-/
import Derived.Test.YtmeldbddbinnbaaDoorBitAn
set_option linter.unusedVariables false
namespace Go.Proofs.YtmeldbddbinnbaaDoor
open Go.RowKit Go.Shelf

/-- Block g holds at least t words. -/
def Row64 (W : World) (g t : Nat) : Prop := ∃ cs T, W.heap[g]? = some (.cells cs T (0, 0)) ∧ ∀ j, j < t → ∃ v : Int, cs[j]? = some (.int .u64 v)
theorem Row64.cell {W : World} {g t : Nat} (h : Row64 W g t) (j : Nat) (hj : j < t) : ∃ v : Int, W.cell? ⟨g, j, none⟩ = some (.int .u64 v) ∧ W.frozen? ⟨g, j, none⟩ = false := by
  obtain ⟨cs, T, h1, h2⟩ := h
  obtain ⟨v, hv⟩ := h2 j hj
  exact ⟨v, by rw [cell_of_row W g j _ _ _ h1, hv], frozen_of_row W g j _ _ h1⟩
theorem Row64.later {W W' : World} {g t : Nat} (h : Row64 W g t) (hb : Below W.heap.size W W') : Row64 W' g t := by
  obtain ⟨cs, T, h1, h2⟩ := h
  exact ⟨cs, T, by rw [hb.block g (Array.getElem?_eq_some_iff.1 h1).1]; exact h1, h2⟩
theorem Row64.set {W : World} {g t : Nat} (h : Row64 W g t) (g' j : Nat) (v : Int) : Row64 (W.setCell ⟨g', j, none⟩ (.int .u64 v)) g t := by
  obtain ⟨cs, T, h1, h2⟩ := h
  by_cases e : g = g'
  · subst e
    refine ⟨_, T, heap_setCell_same W g j cs T _ h1, fun i hi => ?_⟩
    obtain ⟨u, hu⟩ := h2 i hi
    by_cases ej : j = i
    · subst ej
      exact ⟨v, by rw [Array.getElem?_setIfInBounds, if_pos rfl, if_pos (Array.getElem?_eq_some_iff.1 hu).1]⟩
    · exact ⟨u, by rw [Array.getElem?_setIfInBounds, if_neg ej]; exact hu⟩
  · exact ⟨cs, T, by rw [heap_setCell_other _ _ _ _ e]; exact h1, h2⟩
theorem Row64.of_part {e : TypeId} {W : World} {B g n : Nat} {zs : List Int} (h : PartOf .u64 e W B g n zs) : Row64 W g n := by
  obtain ⟨M, xs, h1, h2, rfl, h3⟩ := h
  rcases h3.2 with ⟨h', _⟩ | ⟨g', cap', cur, h', hb, hg, h4, h5, h6, h7⟩
  · simp at h'
  · injection h' with ha hb hc
    injection ha with ha
    injection ha with ha
    subst ha
    refine ⟨cur, e, hg, fun j hj => ⟨gi xs j, ?_⟩⟩
    have := ivs_get .u64 xs j (by omega)
    rw [← h7, List.getElem?_take, if_pos (by omega)] at this
    simpa using this

/-- A result of the set functions: an own row of words, which lies in a new block. -/
def GivesP (w : World) (p : Nat → Bool) (e : Ending) (w' : World) : Prop :=
  ∃ g t zs, e = .returned (.slice (some ⟨g, 0, none⟩) t t) ∧ PartOf .u64 39 w' w.heap.size g t zs ∧ SetIs zs p ∧ t ≤ 64 ∧ Below w.heap.size w w'
variable {a : Option Addr} {len cap : Nat} {xs : List Int} {a' : Option Addr} {len' cap' : Nat} {ys : List Int} {w : World} {p q : Nat → Bool}
theorem givesP_of {w w' : World} {e : Ending} {zs : List Int} {p : Nat → Bool} {g t : Nat} (he : e = .returned (.slice (some ⟨g, 0, none⟩) t t)) (hp : PartOf .u64 39 w' w.heap.size g t zs) (hz : SetIs zs p) (hb : Below w.heap.size w w') : GivesP w p e w' :=
  ⟨g, t, zs, he, hp, hz, by rw [← hp.length]; exact hz.2.1.1, hb⟩
theorem union_p (hs : IsInts .u64 w a len cap xs) (hs' : IsInts .u64 w a' len' cap' ys) (hx : W64 xs) (hy : W64 ys) (hl : len ≤ 1000) (hl' : len' ≤ 1000) :
    Calls Tryd.prog 22 #[.slice a len cap, .slice a' len' cap'] w (GivesP w fun n => bt xs n || bt ys n) := by
  refine (union_any _ _ _ _ _ _ _ _ _ hs hs' (by omega) (by omega)).mono ?_
  rintro e w' ⟨g, t, he, hp, hb⟩
  rw [← hs.length, ← hs'.length] at hp
  exact givesP_of he hp (or_is hx hy) hb
theorem inter_p (hs : IsInts .u64 w a len cap xs) (hs' : IsInts .u64 w a' len' cap' ys) (hx : W64 xs) (hy : W64 ys) (hl : len ≤ 1000) (hl' : len' ≤ 1000) :
    Calls Tryd.prog 24 #[.slice a len cap, .slice a' len' cap'] w (GivesP w fun n => bt xs n && bt ys n) := by
  refine (inter_any _ _ _ _ _ _ _ _ _ hs hs' (by omega) (by omega)).mono ?_
  rintro e w' ⟨g, t, he, hp, hb⟩
  rw [← hs.length, ← hs'.length] at hp
  exact givesP_of he hp (and_is hx hy) hb
theorem minus_p (hs : IsInts .u64 w a len cap xs) (hs' : IsInts .u64 w a' len' cap' ys) (hx : W64 xs) (hy : W64 ys) (hl : len ≤ 1000) (hl' : len' ≤ 1000) :
    Calls Tryd.prog 23 #[.slice a len cap, .slice a' len' cap'] w (GivesP w fun n => bt xs n && !bt ys n) := by
  refine (minus_any _ _ _ _ _ _ _ _ _ hs hs' (by omega) (by omega)).mono ?_
  rintro e w' ⟨g, t, he, hp, hb⟩
  rw [← hs.length] at hp
  exact givesP_of he hp (andNot_is hx hy) hb
theorem with_p {k : Int} (hs : IsInts .u64 w a len cap xs) (hx : W64 xs) (hk : (Lit.int .i64 k).wf = true) (hl : len ≤ 1000) :
    Calls Tryd.prog 20 #[.slice a len cap, .int .i64 k] w fun e w' => ∃ p, GivesP w p e w' := by
  refine (with_any _ _ _ _ _ _ hs hk (by omega)).mono ?_
  rintro e w' ⟨g, t, he, hp, hb⟩
  have hm := make_spec [k]
  rw [← hs.length, ← bw_length] at hp
  exact ⟨_, givesP_of he hp (or_is hx hm.1) hb⟩
theorem without_p {k : Int} (hs : IsInts .u64 w a len cap xs) (hx : W64 xs) (hk : (Lit.int .i64 k).wf = true) (hl : len ≤ 1000) :
    Calls Tryd.prog 21 #[.slice a len cap, .int .i64 k] w fun e w' => ∃ p, GivesP w p e w' := by
  refine (without_any _ _ _ _ _ _ hs hk (by omega)).mono ?_
  rintro e w' ⟨g, t, he, hp, hb⟩
  have hm := make_spec [k]
  rw [← hs.length] at hp
  exact ⟨_, givesP_of he hp (andNot_is hx hm.1) hb⟩
theorem sameWords_yes (hs : IsInts .u64 w a len cap xs) (hs' : IsInts .u64 w a' len' cap' xs) (hl : len ≤ 1000) :
    Calls Tryd.prog 25 #[.slice a len cap, .slice a' len' cap'] w fun e w' => e = .returned (.bool true) ∧ Below w.heap.size w w' := by
  have := sameWords_any _ _ _ xs _ _ _ xs _ hs hs' (by omega)
  rw [decide_eq_true rfl] at this
  exact this

/-- The array of the results, and its rows. -/
def Rows64 (W : World) (L : Nat) (ls : List (Nat × Nat)) : Prop :=
  (∀ p ∈ ls, Row64 W p.1 p.2 ∧ p.1 ≠ L) ∧ ∃ T, W.heap[L]? = some (.cells (ls.map fun p => Value.slice (some ⟨p.1, 0, none⟩) p.2 p.2).toArray T (0, 0))
theorem Rows64.at {W : World} {L : Nat} {ls : List (Nat × Nat)} (h : Rows64 W L ls) (i : Nat) (hi : i < ls.length) : ∃ g t, (g, t) ∈ ls ∧ W.cell? ⟨L, i, none⟩ = some (.slice (some ⟨g, 0, none⟩) t t) ∧ Row64 W g t := by
  obtain ⟨h1, T, h2⟩ := h
  refine ⟨ls[i].1, ls[i].2, List.getElem_mem hi, ?_, (h1 _ (List.getElem_mem hi)).1⟩
  rw [cell_of_row W L i _ _ _ h2]
  simp [hi]
theorem Rows64.get {W : World} {L : Nat} {ls : List (Nat × Nat)} (h : Rows64 W L ls) {i g t : Nat} (hi : ls[i]? = some (g, t)) : (g, t) ∈ ls ∧ W.cell? ⟨L, i, none⟩ = some (.slice (some ⟨g, 0, none⟩) t t) ∧ Row64 W g t := by
  obtain ⟨h1, T, h2⟩ := h
  have hm := List.mem_of_getElem? hi
  refine ⟨hm, ?_, (h1 _ hm).1⟩
  rw [cell_of_row W L i _ _ _ h2]
  simp [hi]
theorem Rows64.later {W W' : World} {L : Nat} {ls : List (Nat × Nat)} (h : Rows64 W L ls) (hb : Below W.heap.size W W') : Rows64 W' L ls := by
  obtain ⟨h1, T, h2⟩ := h
  exact ⟨fun p hp => ⟨(h1 p hp).1.later hb, (h1 p hp).2⟩, T, by rw [hb.block L (Array.getElem?_eq_some_iff.1 h2).1]; exact h2⟩
theorem Rows64.set {W : World} {L : Nat} {ls : List (Nat × Nat)} (h : Rows64 W L ls) {g t : Nat} (hg : (g, t) ∈ ls) (j : Nat) (v : Int) : Rows64 (W.setCell ⟨g, j, none⟩ (.int .u64 v)) L ls := by
  obtain ⟨h1, T, h2⟩ := h
  exact ⟨fun p hp => ⟨(h1 p hp).1.set g j v, (h1 p hp).2⟩, T, by rw [heap_setCell_other _ _ _ _ (fun e => (h1 _ hg).2 e.symm)]; exact h2⟩
end Go.Proofs.YtmeldbddbinnbaaDoor
