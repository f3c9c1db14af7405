/-
  Square tables of truth values in memory.
-/
import Derived.Test.YtofnbndpoiohhaaDoorOrdD
set_option linter.unusedSimpArgs false
set_option linter.unusedVariables false
namespace Go.Proofs.YtofnbndpoiohhaaDoor
open Go.RowKit Go.Shelf

def rowCells (f : Nat → Value) (N : Nat) : Array Value := ((List.range N).map f).toArray
theorem rowCells_get (f : Nat → Value) (N i : Nat) (h : i < N) : (rowCells f N)[i]? = some (f i) := by simp [rowCells, h]
theorem rowCells_set (f : Nat → Value) (N i : Nat) (v : Value) : (rowCells f N).setIfInBounds i v = rowCells (fun j => if j = i then v else f j) N := by
  apply Array.ext_getElem?
  intro j
  rw [Array.getElem?_setIfInBounds]
  simp only [rowCells, List.getElem?_toArray, List.getElem?_map, List.size_toArray, List.length_map, List.length_range]
  by_cases h : i = j
  · subst h
    by_cases hi : i < N
    · simp [hi]
    · simp [hi]
  · rw [if_neg h]
    by_cases hj : j < N
    · simp only [hj, if_true, List.getElem?_range, Option.map_some]
      rw [if_neg (fun e => h (Eq.symm e))]
    · simp [hj]
theorem rowCells_congr {f g : Nat → Value} {N : Nat} (h : ∀ i, i < N → f i = g i) : rowCells f N = rowCells g N := by
  unfold rowCells
  congr 1
  exact List.map_congr_left fun i hi => h i (List.mem_range.1 hi)

/-- Block g holds N cells f. -/
def RowIs (W : World) (g N : Nat) (f : Nat → Value) : Prop := ∃ T, W.heap[g]? = some (.cells (rowCells f N) T (0, 0))
theorem RowIs.lt {W : World} {g N : Nat} {f : Nat → Value} (h : RowIs W g N f) : g < W.heap.size := by
  obtain ⟨T, h⟩ := h
  exact (Array.getElem?_eq_some_iff.1 h).1
theorem RowIs.cell {W : World} {g N : Nat} {f : Nat → Value} (h : RowIs W g N f) (i : Nat) (hi : i < N) : W.cell? ⟨g, i, none⟩ = some (f i) ∧ W.frozen? ⟨g, i, none⟩ = false := by
  obtain ⟨T, h⟩ := h
  exact ⟨by rw [cell_of_row W g i _ _ _ h, rowCells_get f N i hi], frozen_of_row W g i _ _ h⟩
theorem RowIs.kept {W W' : World} {B g N : Nat} {f : Nat → Value} (h : RowIs W g N f) (hb : Below B W W') (hB : g < B) : RowIs W' g N f := by
  obtain ⟨T, h⟩ := h
  exact ⟨T, by rw [hb.block g hB]; exact h⟩
theorem RowIs.later {W W' : World} {g N : Nat} {f : Nat → Value} (h : RowIs W g N f) (hb : Below W.heap.size W W') : RowIs W' g N f := h.kept hb h.lt
theorem RowIs.other {W : World} {g N : Nat} {f : Nat → Value} (h : RowIs W g N f) (a : Addr) (hne : g ≠ a.block) (v : Value) : RowIs (W.setCell a v) g N f := by
  obtain ⟨T, h⟩ := h
  exact ⟨T, by rw [heap_setCell_other _ _ _ _ hne]; exact h⟩
theorem RowIs.store {W : World} {g N : Nat} {f : Nat → Value} (h : RowIs W g N f) (i : Nat) (v : Value) : RowIs (W.setCell ⟨g, i, none⟩ v) g N (fun j => if j = i then v else f j) := by
  obtain ⟨T, h⟩ := h
  exact ⟨T, by rw [heap_setCell_same W g i _ _ _ h, rowCells_set]⟩
theorem RowIs.congr {W : World} {g N : Nat} {f f' : Nat → Value} (h : RowIs W g N f) (e : ∀ i, i < N → f i = f' i) : RowIs W g N f' := by
  obtain ⟨T, h⟩ := h
  exact ⟨T, by rw [← rowCells_congr e]; exact h⟩

def rowV (r : Nat → Nat) (N : Nat) (i : Nat) : Value := .slice (some ⟨r i, 0, none⟩) N N
/-- A table of N rows of N truth values, all of it from block B on. -/
def MatIs (W : World) (B g N : Nat) (r : Nat → Nat) (M : Nat → Nat → Bool) : Prop :=
  B ≤ g ∧ (∀ i, i < N → B ≤ r i ∧ r i ≠ g) ∧ (∀ i j, i < N → j < N → r i = r j → i = j) ∧ RowIs W g N (rowV r N) ∧ ∀ i, i < N → RowIs W (r i) N fun j => .bool (M i j)
theorem MatIs.row {W : World} {B g N : Nat} {r : Nat → Nat} {M : Nat → Nat → Bool} (h : MatIs W B g N r M) (i : Nat) (hi : i < N) : W.cell? ⟨g, i, none⟩ = some (.slice (some ⟨r i, 0, none⟩) N N) := (h.2.2.2.1.cell i hi).1
theorem MatIs.cell {W : World} {B g N : Nat} {r : Nat → Nat} {M : Nat → Nat → Bool} (h : MatIs W B g N r M) (i j : Nat) (hi : i < N) (hj : j < N) : W.cell? ⟨r i, j, none⟩ = some (.bool (M i j)) ∧ W.frozen? ⟨r i, j, none⟩ = false := (h.2.2.2.2 i hi).cell j hj
theorem MatIs.later {W W' : World} {B g N : Nat} {r : Nat → Nat} {M : Nat → Nat → Bool} (h : MatIs W B g N r M) (hb : Below W.heap.size W W') : MatIs W' B g N r M :=
  ⟨h.1, h.2.1, h.2.2.1, h.2.2.2.1.later hb, fun i hi => (h.2.2.2.2 i hi).later hb⟩
theorem MatIs.store {W : World} {B g N : Nat} {r : Nat → Nat} {M : Nat → Nat → Bool} (h : MatIs W B g N r M) (i j : Nat) (hi : i < N) (b : Bool) : MatIs (W.setCell ⟨r i, j, none⟩ (.bool b)) B g N r (fun a c => if a = i ∧ c = j then b else M a c) := by
  obtain ⟨h1, h2, h3, h4, h5⟩ := h
  refine ⟨h1, h2, h3, h4.other _ (fun e => (h2 i hi).2 e.symm) _, fun a ha => ?_⟩
  by_cases e : a = i
  · subst e
    refine ((h5 a ha).store j (.bool b)).congr fun c _ => ?_
    by_cases ec : c = j
    · simp [ec]
    · simp [ec]
  · refine ((h5 a ha).other _ (fun er => e (h3 a i ha hi er)) _).congr fun c _ => ?_
    simp [e]
theorem MatIs.congr {W : World} {B g N : Nat} {r : Nat → Nat} {M M' : Nat → Nat → Bool} (h : MatIs W B g N r M) (e : ∀ i j, i < N → j < N → M i j = M' i j) : MatIs W B g N r M' :=
  ⟨h.1, h.2.1, h.2.2.1, h.2.2.2.1, fun i hi => (h.2.2.2.2 i hi).congr fun j hj => by rw [e i j hi hj]⟩

/-- While the rows are made: the first k stand. -/
def MatTo (W : World) (B g N k : Nat) (r : Nat → Nat) : Prop :=
  B ≤ g ∧ (∀ i, i < k → B ≤ r i ∧ r i ≠ g) ∧ (∀ i j, i < k → j < k → r i = r j → i = j) ∧ RowIs W g N (fun i => if i < k then rowV r N i else .slice none 0 0) ∧ ∀ i, i < k → RowIs W (r i) N fun _ => .bool false
theorem MatTo.full {W : World} {B g N : Nat} {r : Nat → Nat} (h : MatTo W B g N N r) : MatIs W B g N r fun _ _ => false :=
  ⟨h.1, h.2.1, h.2.2.1, h.2.2.2.1.congr fun i hi => if_pos hi, h.2.2.2.2⟩
theorem MatTo.snoc {W W' : World} {B g N k : Nat} {r : Nat → Nat} (h : MatTo W B g N k r) (hk : k < N) (hb : Below W.heap.size W W') (hrow : RowIs W' W.heap.size N fun _ => .bool false) :
    MatTo (W'.setCell ⟨g, k, none⟩ (.slice (some ⟨W.heap.size, 0, none⟩) N N)) B g N (k + 1) (fun i => if i = k then W.heap.size else r i) := by
  obtain ⟨h1, h2, h3, h4, h5⟩ := h
  have hg := h4.lt
  refine ⟨h1, fun i hi => ?_, fun i j hi hj e => ?_, ?_, fun i hi => ?_⟩
  · simp only
    split
    · omega
    · exact h2 i (by omega)
  · simp only at e
    have hlt : ∀ i, i < k → r i < W.heap.size := fun i hi => (h5 i hi).lt
    split at e <;> split at e
    · omega
    · have := hlt j (by omega); omega
    · have := hlt i (by omega); omega
    · exact h3 i j (by omega) (by omega) e
  · refine ((h4.later hb).store k _).congr fun i hi => ?_
    simp only [rowV]
    by_cases e : i = k
    · subst e; simp
    · rw [if_neg e]
      by_cases e2 : i < k
      · rw [if_pos e2, if_pos (by omega), if_neg e]
      · rw [if_neg e2, if_neg (by omega)]
  · simp only
    split
    · exact hrow.other _ (by show W.heap.size ≠ g; omega) _
    · exact ((h5 i (by omega)).later hb).other _ (h2 i (by omega)).2 _

/-- make of a row: N cells z. -/
theorem make_row {P : Program} {T E : TypeId} {bytes : Nat} {z : Value} (el : Elem P T E z 1 bytes) (hz1 : z.cells = #[z]) {w : World} {ops : Array Oper} {rest : List Oper} {o : Oper} {a : Act} {Q : Exit → Act → World → Prop} (hgd : Region.wanted o (yielded ops a.tmps) = true) (l c : Operand)
    (ho : o.op = .makeSlice T l c) {kl kc : IntKind} {n : Nat} {C C' : Int} (hl : a.eval l = .int kl C') (hc : a.eval c = .int kc C) (hC : C = n) (hC' : C' = n) (hb : n * (bytes + 1) ≤ 140737488355328)
    (h : ∀ w', RowIs w' w.heap.size n (fun _ => z) → Below w.heap.size w w' → w'.heap.size = w.heap.size + 1 → wpList P ops Q rest (a.put o.dst (.slice (some ⟨w.heap.size, 0, none⟩) n n)) w') : wpList P ops Q (o :: rest) a w := by
  subst hC hC'
  refine wpList_wanted hgd fun K hK => ?_
  obtain ⟨i, hi, hz, hsize, hby⟩ := info_parts el.info
  have hb1 : n * bytes + n ≤ 140737488355328 := by rw [← Nat.mul_succ]; exact hb
  have hr := run_make (P := P) w T E i z el.ht hi hz kl kc n n (by omega) (Int.le_refl _) (by have h2 : ((i.bytes * n : Nat) : Int) ≤ 281474976710656 := by (rw [hby, Nat.mul_comm]; omega)
                                                                                              rwa [Int.natCast_mul] at h2) (by omega)
  simp only [Int.toNat_natCast] at hr
  have h0 : madeCells z.cells (n * i.size) = rowCells (fun _ => z) n := by
    apply Array.toList_inj.1
    rw [hsize, Nat.mul_one, hz1, toList_madeCells_one]
    simp [rowCells, List.map_const']
  have hR : RowIs (w.alloc (.cells (madeCells z.cells (n * i.size)) E)) w.heap.size n fun _ => z := ⟨E, by rw [heap_alloc_new, h0]⟩
  have hB : Below w.heap.size w (w.alloc (.cells (madeCells z.cells (n * i.size)) E)) := (Below.refl _ _).alloc (Nat.le_refl _) _
  unfold Oper.wp
  simp [execOp, ho, hl, hc, hr, Result.andThen]
  exact hK _ _ (h _ hR hB (by simp))
end Go.Proofs.YtofnbndpoiohhaaDoor
