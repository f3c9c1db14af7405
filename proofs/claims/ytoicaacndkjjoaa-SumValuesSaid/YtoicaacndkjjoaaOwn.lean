/-
  Cells of rows that the call itself has made: read, written.
-/
import Derived.Test.YtoicaacndkjjoaaLib
import Derived.Laws.OwnMore
namespace Go.Proofs.Ytoicaacndkjjoaa
open Go.RowKit

theorem owns_at {w : World} {B e n cap : Nat} {a : Option Addr} {xs : List Value} (h : w.ownsRow B e 1 (.slice a n cap) n xs) (hn : 0 < n) : ∃ g, a = some ⟨g, 0, none⟩ ∧ B ≤ g ∧ g < w.heap.size := by
  rcases h.2 with ⟨h', _⟩ | ⟨g', cap', cur, h', hb, hg, _⟩
  · simp at h'; omega
  · simp only [Value.slice.injEq] at h'
    exact ⟨g', h'.1, hb, (Array.getElem?_eq_some_iff.1 hg).1⟩

theorem ivs_set (k : IntKind) (xs : List Int) (j : Nat) (v : Int) : (ivs k xs).set j (.int k v) = ivs k (xs.set j v) := by simp [ivs]
theorem ivs_get (k : IntKind) (xs : List Int) (j : Nat) (h : j < xs.length) : (ivs k xs)[j]? = some (.int k (gi xs j)) := by
  simp [ivs, getElem?_gi xs j h]

/-- A cell of an own row: what it holds, and that it may be written. -/
theorem own_cell {w : World} {B e n cap g : Nat} {k : IntKind} {xs : List Int} (h : w.ownsRow B e 1 (.slice (some ⟨g, 0, none⟩) n cap) n (ivs k xs)) (j : Nat) (hj : j < n) (hx : xs.length = n) :
    w.cell? ⟨g, j, none⟩ = some (.int k (gi xs j)) ∧ w.frozen? ⟨g, j, none⟩ = false :=
  ⟨by rw [h.cellAt j (by omega), ivs_get k xs j (by omega)], h.frozenAt j⟩

theorem own_store {w : World} {B e n cap g : Nat} {k : IntKind} {xs : List Int} (h : w.ownsRow B e 1 (.slice (some ⟨g, 0, none⟩) n cap) n (ivs k xs)) (j : Nat) (v : Int) :
    (w.setCell ⟨g, j, none⟩ (.int k v)).ownsRow B e 1 (.slice (some ⟨g, 0, none⟩) n cap) n (ivs k (xs.set j v)) := by
  have := (h.stored j (.int k v)).1
  rw [ivs_set] at this
  exact this
end Go.Proofs.Ytoicaacndkjjoaa
