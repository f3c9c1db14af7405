/-
  Cells of rows that the call itself has made: read, written.
-/
import Derived.Test.YtoicaacndkjjoaaLib
import Derived.Laws.OwnMore
namespace Go.Proofs.Ytoicaacndkjjoaa
open Go.RowKit

theorem owns_at {w : World} {B e n cap : Nat} {a : Option Addr} {xs : List Value} (h : w.ownsRow B e 1 (.slice a n cap) n xs) (hn : 0 < n) : ∃ g, a = some ⟨g, 0, none⟩ ∧ B ≤ g ∧ g < w.heap.size := by
  rcases h.2 with ⟨h', _⟩ | ⟨g', cap', cur, h', hb, hg, _⟩
  · simp at h'; omega
  · simp only [Value.slice.injEq] at h'
    exact ⟨g', h'.1, hb, (Array.getElem?_eq_some_iff.1 hg).1⟩

theorem ivs_set (k : IntKind) (xs : List Int) (j : Nat) (v : Int) : (ivs k xs).set j (.int k v) = ivs k (xs.set j v) := by simp [ivs]
theorem ivs_get (k : IntKind) (xs : List Int) (j : Nat) (h : j < xs.length) : (ivs k xs)[j]? = some (.int k (gi xs j)) := by
  simp [ivs, getElem?_gi xs j h]

/-- A cell of an own row: what it holds, and that it may be written. -/
theorem own_cell {w : World} {B e n cap g : Nat} {k : IntKind} {xs : List Int} (h : w.ownsRow B e 1 (.slice (some ⟨g, 0, none⟩) n cap) n (ivs k xs)) (j : Nat) (hj : j < n) (hx : xs.length = n) :
    w.cell? ⟨g, j, none⟩ = some (.int k (gi xs j)) ∧ w.frozen? ⟨g, j, none⟩ = false :=
  ⟨by rw [h.cellAt j (by omega), ivs_get k xs j (by omega)], h.frozenAt j⟩

theorem own_store {w : World} {B e n cap g : Nat} {k : IntKind} {xs : List Int} (h : w.ownsRow B e 1 (.slice (some ⟨g, 0, none⟩) n cap) n (ivs k xs)) (j : Nat) (v : Int) :
    (w.setCell ⟨g, j, none⟩ (.int k v)).ownsRow B e 1 (.slice (some ⟨g, 0, none⟩) n cap) n (ivs k (xs.set j v)) := by
  have := (h.stored j (.int k v)).1
  rw [ivs_set] at this
  exact this

/-- Two structs that came in by value, each in a block of its own. -/
theorem box2 (w : World) (A B : Array Value) (e1 e2 : TypeId) (W0 : World) (h : (w.alloc (.cells A e1)).alloc (.cells B e2) = W0) :
    W0.heap.size = w.heap.size + 2 ∧ Below w.heap.size w W0 ∧ (∀ j, W0.cell? ⟨w.heap.size, j, none⟩ = A[j]?) ∧ ∀ j, W0.cell? ⟨w.heap.size + 1, j, none⟩ = B[j]? := by
  subst h
  have h1 := heap_alloc_new w (.cells A e1)
  have h2 := heap_alloc_new (w.alloc (.cells A e1)) (.cells B e2)
  refine ⟨by simp, ((Below.refl _ _).alloc (Nat.le_refl _) _).alloc (by simp) _, fun j => ?_, fun j => ?_⟩
  · rw [cell_of_row _ w.heap.size j A e1 (0, 0) (by rw [Below.heap_alloc _ _ _ (by simp)]; exact h1)]
  · rw [World.size_alloc] at h2
    rw [cell_of_row _ (w.heap.size + 1) j B e2 (0, 0) h2]
end Go.Proofs.Ytoicaacndkjjoaa
