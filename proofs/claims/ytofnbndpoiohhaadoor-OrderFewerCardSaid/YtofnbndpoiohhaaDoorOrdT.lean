/-
  One old block alone is written: But. The reference's count as a sum over the free events.
-/
import Derived.Test.YtofnbndpoiohhaaDoorOrdW
import Derived.Test.YtofnbndpoiohhaaDoorOrdS
set_option linter.unusedVariables false
namespace Go.Proofs.YtofnbndpoiohhaaDoor
open Go.RowKit Go.Shelf

/-- Of the old blocks d alone may have turned. -/
structure But (d : Nat) (w w' : World) : Prop where
  os : w'.os = w.os
  tape : w'.tape = w.tape
  output : w'.output = w.output
  size : w.heap.size ≤ w'.heap.size
  block : ∀ k, k < w.heap.size → k ≠ d → w'.heap[k]? = w.heap[k]?
theorem But.refl (d : Nat) (w : World) : But d w w := ⟨rfl, rfl, rfl, Nat.le_refl _, fun _ _ _ => rfl⟩
theorem But.trans {d : Nat} {a b c : World} (h : But d a b) (k : But d b c) : But d a c :=
  ⟨k.os.trans h.os, k.tape.trans h.tape, k.output.trans h.output, Nat.le_trans h.size k.size, fun i hi hd => (k.block i (Nat.lt_of_lt_of_le hi h.size) hd).trans (h.block i hi hd)⟩
theorem But.of_below {d : Nat} {w w' : World} (h : Below w.heap.size w w') : But d w w' := ⟨h.os, h.tape, h.output, h.size, fun k hk _ => h.block k hk⟩
theorem But.below {d B : Nat} {w w' : World} (h : But d w w') (hB : B ≤ d) (hs : B ≤ w.heap.size) : Below B w w' := ⟨h.os, h.tape, h.output, h.size, fun k hk => h.block k (by omega) (by omega)⟩
theorem But.setCell {d : Nat} {w w' : World} (h : But d w w') (i : Nat) (u : Value) : But d w (w'.setCell ⟨d, i, none⟩ u) :=
  h.trans ⟨rfl, rfl, rfl, by simp [World.setCell], fun k hk hd => Below.heap_setCell _ _ _ _ hd⟩
theorem RowIs.but {W W' : World} {g N d : Nat} {f : Nat → Value} (h : RowIs W g N f) (hb : But d W W') (hd : g ≠ d) : RowIs W' g N f := by
  have hl := h.lt
  obtain ⟨T, h⟩ := h
  exact ⟨T, by rw [hb.block g hl hd]; exact h⟩
theorem MatIs.but {W W' : World} {B g N d : Nat} {r : Nat → Nat} {M : Nat → Nat → Bool} (h : MatIs W B g N r M) (hb : But d W W') (hd : g ≠ d ∧ ∀ i, i < N → r i ≠ d) : MatIs W' B g N r M :=
  ⟨h.1, h.2.1, h.2.2.1, h.2.2.2.1.but hb hd.1, fun i hi => (h.2.2.2.2 i hi).but hb (hd.2 i hi)⟩
theorem owns_but {w w' : World} {base e size n d : Nat} {v : Value} {xs : List Value} (h : w.ownsRow base e size v n xs) (hd : d < base) (hb : But d w w') : w'.ownsRow base e size v n xs := by
  obtain ⟨h1, h2⟩ := h
  refine ⟨h1, ?_⟩
  rcases h2 with h2 | ⟨g, cap, cur, hv, hg, hh, r⟩
  · exact .inl h2
  · exact .inr ⟨g, cap, cur, hv, hg, by rw [hb.block g (Array.getElem?_eq_some_iff.1 hh).1 (by omega)]; exact hh, r⟩

variable {N : Nat} {es : List (Int × Int)}

noncomputable def cntL (es : List (Int × Int)) (N left : Nat) (p : List Int) (fl : List Nat) : Nat := (fl.map fun i : Nat => cntE es N left (p ++ [(i : Int)])).sum
theorem sum_filter (f : Nat → Nat) (P : Nat → Prop) [DecidablePred P] (q : Nat → Bool) : ∀ (l : List Nat), (∀ x ∈ l, q x = true ↔ P x) → (l.map fun i => if P i then f i else 0).sum = ((l.filter q).map f).sum
  | [], _ => rfl
  | x :: l, h => by
    have ih := sum_filter f P q l fun y hy => h y (List.mem_cons_of_mem _ hy)
    have hx := h x List.mem_cons_self
    rw [List.map_cons, List.sum_cons, ih]
    by_cases hp : P x
    · rw [if_pos hp, List.filter_cons_of_pos (hx.2 hp), List.map_cons, List.sum_cons]
    · rw [if_neg hp, List.filter_cons_of_neg (fun h => hp (hx.1 h)), Nat.zero_add]
open Classical in
theorem okB_rdy (hv : ValidO N es) {p : List Int} {i : Nat} : okB (pathB es) (inB p) i N = true ↔ Rdy2 es p i := by
  rw [okB_iff]
  unfold Rdy2 inB PreIn
  rw [decide_eq_false_iff_not]
  refine and_congr_right fun _ => ⟨?_, ?_⟩
  · intro h a pa
    obtain ⟨b, e⟩ := pa.first
    rcases h a (hv.2.2.1.ed _ _ e).1 with h | h
    · exact of_decide_eq_true h
    · rw [path_true pa] at h; cases h
  · intro h j _
    by_cases pj : Path (Ed es) j i
    · exact .inl (decide_eq_true (h j pj))
    · exact .inr (path_false pj)
theorem cnt_free (hv : ValidO N es) (left : Nat) (p : List Int) : cntE es N (left + 1) p = cntL es N left p (freeTo (pathB es) (inB p) N N) := by
  classical
  show ((List.range N).map fun i => open Classical in if Rdy2 es p i then cntE es N left (p ++ [(i : Int)]) else 0).sum = _
  unfold cntL freeTo
  exact sum_filter _ _ _ _ fun x _ => okB_rdy hv
theorem cntL_nil (left : Nat) (p : List Int) : cntL es N left p [] = 0 := rfl
theorem cntL_succ (left : Nat) (p : List Int) {fl : List Nat} {k : Nat} (hk : k < fl.length) : cntL es N left p (fl.take (k + 1)) = cntL es N left p (fl.take k) + cntE es N left (p ++ [((fl[k] : Nat) : Int)]) := by
  unfold cntL
  rw [List.take_succ_eq_append_getElem hk, List.map_append, List.sum_append]
  simp
theorem cntL_le (left : Nat) (p : List Int) (fl : List Nat) (k : Nat) : cntL es N left p (fl.take k) ≤ cntL es N left p fl := by
  have e : cntL es N left p fl = cntL es N left p (fl.take k) + cntL es N left p (fl.drop k) := by
    unfold cntL
    rw [← List.sum_append, ← List.map_append, List.take_append_drop]
  omega
theorem inB_back (p : List Int) (x i : Nat) (h : inB p x = false) : (if i = x then Value.bool false else .bool (inB (p ++ [(x : Int)]) i)) = .bool (inB p i) := by
  rw [← inB_snoc p x i]
  by_cases e : i = x
  · subst e; simp [h]
  · rw [if_neg e, if_neg e]
theorem free_in {p : List Int} {fl : List Nat} (h : freeTo (pathB es) (inB p) N N = fl) {k : Nat} (hk : k < fl.length) : fl[k] < N ∧ inB p fl[k] = false := by
  have hm : fl[k] ∈ freeTo (pathB es) (inB p) N N := by rw [h]; exact List.getElem_mem _
  have := freeTo_mem.1 hm
  exact ⟨this.1, (okB_iff.1 this.2).1⟩
end Go.Proofs.YtofnbndpoiohhaaDoor
