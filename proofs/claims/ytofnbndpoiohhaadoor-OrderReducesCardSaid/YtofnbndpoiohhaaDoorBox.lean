/-
  A struct of two one-cell fields in a block.
-/
import Derived.Test.YtofnbndpoiohhaaDoorOwn
set_option linter.unusedSimpArgs false
set_option linter.unusedVariables false
namespace Go.Proofs.YtofnbndpoiohhaaDoor
open Go.RowKit

def Box2 (W : World) (b : Nat) (u v : Value) : Prop := ∃ T, W.heap[b]? = some (.cells #[u, v] T (0, 0))
theorem Box2.lt {W : World} {b : Nat} {u v : Value} (h : Box2 W b u v) : b < W.heap.size := by
  obtain ⟨T, h⟩ := h
  exact (Array.getElem?_eq_some_iff.1 h).1
theorem Box2.new (w : World) (u v : Value) (T : TypeId) : Box2 (w.alloc (.cells #[u, v] T)) w.heap.size u v := ⟨T, heap_alloc_new w _⟩
theorem Box2.cells {W : World} {b : Nat} {u v : Value} (h : Box2 W b u v) : W.cell? ⟨b, 0, none⟩ = some u ∧ W.cell? ⟨b, 1, none⟩ = some v ∧ W.frozen? ⟨b, 0, none⟩ = false ∧ W.frozen? ⟨b, 1, none⟩ = false := by
  obtain ⟨T, h⟩ := h
  refine ⟨?_, ?_, frozen_of_row W b 0 _ _ h, frozen_of_row W b 1 _ _ h⟩
  · rw [cell_of_row W b 0 _ _ _ h]; rfl
  · rw [cell_of_row W b 1 _ _ _ h]; rfl
theorem Box2.kept {W W' : World} {B b : Nat} {u v : Value} (h : Box2 W b u v) (hb : Below B W W') (hB : b < B) : Box2 W' b u v := by
  obtain ⟨T, h⟩ := h
  exact ⟨T, by rw [hb.block b hB]; exact h⟩
theorem Box2.later {W W' : World} {b : Nat} {u v : Value} (h : Box2 W b u v) (hb : Below W.heap.size W W') : Box2 W' b u v := h.kept hb h.lt
theorem Box2.other {W : World} {b : Nat} {u v : Value} (h : Box2 W b u v) (a : Addr) (hne : b ≠ a.block) (x : Value) : Box2 (W.setCell a x) b u v := by
  obtain ⟨T, h⟩ := h
  exact ⟨T, by rw [heap_setCell_other _ _ _ _ hne]; exact h⟩
theorem Box2.set0 {W : World} {b : Nat} {u v : Value} (h : Box2 W b u v) (x : Value) : Box2 (W.setCell ⟨b, 0, none⟩ x) b x v := by
  obtain ⟨T, h⟩ := h
  exact ⟨T, by rw [heap_setCell_same W b 0 _ _ _ h]; rfl⟩
theorem Box2.set1 {W : World} {b : Nat} {u v : Value} (h : Box2 W b u v) (x : Value) : Box2 (W.setCell ⟨b, 1, none⟩ x) b u x := by
  obtain ⟨T, h⟩ := h
  exact ⟨T, by rw [heap_setCell_same W b 1 _ _ _ h]; rfl⟩
theorem Box2.store {W : World} {b : Nat} {u v : Value} (h : Box2 W b u v) (x y : Value) : Box2 ((W.setCell ⟨b, 0, none⟩ x).setCell ⟨b, 1, none⟩ y) b x y := (h.set0 x).set1 y

def Box1 (W : World) (b : Nat) (u : Value) : Prop := ∃ T, W.heap[b]? = some (.cells #[u] T (0, 0))
theorem Box1.lt {W : World} {b : Nat} {u : Value} (h : Box1 W b u) : b < W.heap.size := by
  obtain ⟨T, h⟩ := h
  exact (Array.getElem?_eq_some_iff.1 h).1
theorem Box1.new (w : World) (u : Value) (T : TypeId) : Box1 (w.alloc (.cells #[u] T)) w.heap.size u := ⟨T, heap_alloc_new w _⟩
theorem Box1.cells {W : World} {b : Nat} {u : Value} (h : Box1 W b u) : W.cell? ⟨b, 0, none⟩ = some u ∧ W.frozen? ⟨b, 0, none⟩ = false := by
  obtain ⟨T, h⟩ := h
  refine ⟨?_, frozen_of_row W b 0 _ _ h⟩
  rw [cell_of_row W b 0 _ _ _ h]; rfl
theorem Box1.kept {W W' : World} {B b : Nat} {u : Value} (h : Box1 W b u) (hb : Below B W W') (hB : b < B) : Box1 W' b u := by
  obtain ⟨T, h⟩ := h
  exact ⟨T, by rw [hb.block b hB]; exact h⟩
theorem Box1.later {W W' : World} {b : Nat} {u : Value} (h : Box1 W b u) (hb : Below W.heap.size W W') : Box1 W' b u := h.kept hb h.lt
theorem Box1.other {W : World} {b : Nat} {u : Value} (h : Box1 W b u) (a : Addr) (hne : b ≠ a.block) (x : Value) : Box1 (W.setCell a x) b u := by
  obtain ⟨T, h⟩ := h
  exact ⟨T, by rw [heap_setCell_other _ _ _ _ hne]; exact h⟩
theorem Box1.set {W : World} {b : Nat} {u : Value} (h : Box1 W b u) (x : Value) : Box1 (W.setCell ⟨b, 0, none⟩ x) b x := by
  obtain ⟨T, h⟩ := h
  exact ⟨T, by rw [heap_setCell_same W b 0 _ _ _ h]; rfl⟩
end Go.Proofs.YtofnbndpoiohhaaDoor
