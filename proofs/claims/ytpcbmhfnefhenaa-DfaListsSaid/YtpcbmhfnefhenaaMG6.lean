import Derived.Test.YtpcbmhfnefhenaaMG1
import Derived.Test.YtpcbmhfnefhenaaMG3
import Derived.Test.YtpcbmhfnefhenaaMG5
/-
  Wds, DfaP
-/
set_option linter.unusedVariables false
namespace Go.Proofs.Ytpcbmhfnefhenaa
open Go.RowKit

theorem pcsIff {W : World} {B : Nat} {ps : List Pc} : Pcs W B ps ↔ (∀ p ∈ ps, p.At W B) ∧ ps.Pairwise (fun p q => ∀ k, p.own = some k → q.own ≠ some k) := by
 constructor
 ·intro h
  refine ⟨fun p hp => ?_, List.pairwise_iff_getElem.2 fun i j hi hj hij => h.apart i j _ _ (by omega) (List.getElem?_eq_getElem hi) (List.getElem?_eq_getElem hj)⟩
  obtain ⟨i, hi, e⟩ := List.getElem_of_mem hp
  exact h.each i p (by rw [List.getElem?_eq_getElem hi, e])
 ·rintro ⟨h1, h2⟩
  refine ⟨fun i p hp => h1 p (List.mem_of_getElem? hp), fun i j p q hne hp hq k hk e => ?_⟩
  obtain ⟨hi, e1⟩ := List.getElem?_eq_some_iff.1 hp
  obtain ⟨hj, e2⟩ := List.getElem?_eq_some_iff.1 hq
  rcases Nat.lt_or_ge i j with hij | hij
  ·exact List.pairwise_iff_getElem.1 h2 i j hi hj hij k (by rw [e1]; exact hk) (by rw [e2]; exact e)
  ·exact List.pairwise_iff_getElem.1 h2 j i hj hi (by omega) k (by rw [e2]; exact e) (by rw [e1]; exact hk)
theorem Pcs.turn {W : World} {B : Nat} {ps qs : List Pc} (h : Pcs W B ps) (hp : ps.Perm qs) : Pcs W B qs := by
 rw [pcsIff] at h ⊢
 exact ⟨fun p hq => h.1 p (hp.symm.subset hq), (hp.pairwise_iff (fun {a b} h k hb ha => h k ha hb)).1 h.2⟩
theorem Pcs.sub {W : World} {B : Nat} {ps qs : List Pc} (h : Pcs W B ps) (hs : qs.Sublist ps) : Pcs W B qs := by
 rw [pcsIff] at h ⊢
 exact ⟨fun q hq => h.1 q (hs.subset hq), h.2.sublist hs⟩
theorem Pc.At.low {W : World} {B B' : Nat} {p : Pc} (h : p.At W B) (hb : B' ≤ B) : p.At W B' := by
 cases p with
 | row E size v n xs => exact World.ownsRow.from_mono h hb
 | blk b cs => exact ⟨Nat.le_trans hb h.1, h.2⟩
 | obj b φ => exact ⟨Nat.le_trans hb h.1, h.2⟩
structure Wd where
 a : Option Addr
 c : Nat
 z : List Int
def Wd.v (x : Wd) : Value := .slice x.a x.z.length x.c
def Wd.pc (x : Wd) : Pc := .row 3 1 x.v x.z.length (ivs .i64 x.z)
def gwd (vs : List Wd) (i : Nat) : Wd := vs.getD i ⟨none, 0, []⟩
theorem gwd_eq (vs : List Wd) (i : Nat) (h : i < vs.length) : gwd vs i = vs[i] := by simp [gwd, List.getD, h]
theorem gwd_mem {vs : List Wd} {i : Nat} (h : i < vs.length) : gwd vs i ∈ vs := by rw [gwd_eq vs i h]; exact List.getElem_mem h
theorem Wd.ints {W : World} {B : Nat} {x : Wd} (h : Pc.At W B x.pc) : IsInts .i64 W x.a x.z.length x.c x.z := (IsInts.of_owns h).1
def gwl (Q : List (List Int)) (i : Nat) : List Int := Q.getD i []
theorem gwl_eq (l : List (List Int)) (i : Nat) (h : i < l.length) : gwl l i = l[i] := by simp [gwl, List.getD, h]
theorem gwl_mem {l : List (List Int)} {i : Nat} (h : i < l.length) : gwl l i ∈ l := by rw [gwl_eq l i h]; exact List.getElem_mem h
theorem gwl_map {vs : List Wd} {i : Nat} (h : i < vs.length) : gwl (vs.map Wd.z) i = (gwd vs i).z := by
 rw [gwl_eq _ _ (by rw [List.length_map]; exact h), List.getElem_map, gwd_eq vs i h]
def IsWs (w : World) (a : Option Addr) (len cap : Nat) (Q : List (List Int)) : Prop :=
 (len = 0 ∧ cap = 0 ∧ Q = []) ∨ ∃ b off, a = some ⟨b, off, none⟩ ∧ len ≤ cap ∧ cap ≤ maxLen ∧ Q.length = len ∧ ∀ i, i < len → ∃ (x : Option Addr) (c : Nat), w.cell? ⟨b, off + i, none⟩ = some (.slice x (gwl Q i).length c) ∧ IsInts .i64 w x (gwl Q i).length c (gwl Q i)
theorem IsWs.later {w w' : World} {a : Option Addr} {len cap : Nat} {Q : List (List Int)} (h : IsWs w a len cap Q) (hb : Below w.heap.size w w') : IsWs w' a len cap Q := by
 rcases h with h | ⟨b, off, h1, h2, h3, h4, h5⟩
 ·exact .inl h
 ·refine .inr ⟨b, off, h1, h2, h3, h4, fun i hi => ?_⟩
  obtain ⟨x, c, k1, k2⟩ := h5 i hi
  exact ⟨x, c, (hb.cell (p := ⟨b, off + i, none⟩) (lt_of_cell k1)).trans k1, k2.later hb⟩
theorem IsWs.length {w : World} {a : Option Addr} {len cap : Nat} {Q : List (List Int)} (h : IsWs w a len cap Q) : Q.length = len := by
 rcases h with ⟨h1, _, h2⟩ | ⟨b, off, h1, h2, h3, h4, h5⟩
 ·rw [h1, h2]; rfl
 ·exact h4
theorem IsWs.at {w : World} {a : Option Addr} {len cap : Nat} {Q : List (List Int)} (h : IsWs w a len cap Q) {i : Nat} (hi : i < len) : ∃ b off x c, a = some ⟨b, off, none⟩ ∧ w.cell? ⟨b, off + i, none⟩ = some (.slice x (gwl Q i).length c) ∧ IsInts .i64 w x (gwl Q i).length c (gwl Q i) := by
 rcases h with ⟨h1, _, h2⟩ | ⟨b, off, h1, h2, h3, h4, h5⟩
 ·omega
 ·obtain ⟨x, c, k1, k2⟩ := h5 i hi
  exact ⟨b, off, x, c, h1, k1, k2⟩
theorem row_cap {W : World} {B E n c : Nat} {a : Option Addr} {xs : List Value} (hr : W.ownsRow B E 1 (.slice a n c) n xs) : (n = 0 ∧ c = 0) ∨ ∃ g, a = some ⟨g, 0, none⟩ ∧ n ≤ c ∧ c ≤ maxLen ∧ ∀ i, i < n → W.cell? ⟨g, i, none⟩ = xs[i]? := by
 rcases hr.2 with ⟨e, h⟩ | ⟨g, cap, cur, e, _, _, h1, h2, _⟩
 ·injection e with e1 e2 e3
  exact .inl ⟨e2, e3⟩
 ·injection e with e1 e2 e3
  subst e3
  refine .inr ⟨g, e1, h1, h2, fun i hi => ?_⟩
  have hl := hr.1
  have h3 := hr.cells (g := g) (by rw [e1]; rfl) i (xs[i]'(by omega)) (List.getElem?_eq_getElem (by omega))
  rw [addr_add, Nat.zero_add] at h3
  exact h3.trans (List.getElem?_eq_getElem (by omega)).symm
theorem ws_of {W : World} {B E c : Nat} {a : Option Addr} {vs : List Wd} (hr : W.ownsRow B E 1 (.slice a vs.length c) vs.length (vs.map Wd.v)) (hx : ∀ x ∈ vs, x.pc.At W B) : IsWs W a vs.length c (vs.map Wd.z) := by
 rcases row_cap hr with ⟨h1, h2⟩ | ⟨g, h1, h2, h3, h4⟩
 ·exact .inl ⟨h1, h2, by rw [List.eq_nil_of_length_eq_zero h1]; rfl⟩
 ·refine .inr ⟨g, 0, h1, h2, h3, by rw [List.length_map], fun i hi => ?_⟩
  rw [gwl_map hi, Nat.zero_add]
  exact ⟨(gwd vs i).a, (gwd vs i).c, by rw [h4 i hi, List.getElem?_map, List.getElem?_eq_getElem hi, gwd_eq vs i hi]; rfl, Wd.ints (hx _ (gwd_mem hi))⟩
structure Td where
 a : Option Addr
 c : Nat
 z : List Bool
def Td.v (x : Td) : Value := .slice x.a x.z.length x.c
def Td.pc (x : Td) : Pc := .row 4 1 x.v x.z.length (bvs x.z)
def gtd (vs : List Td) (i : Nat) : Td := vs.getD i ⟨none, 0, []⟩
theorem gtd_eq (vs : List Td) (i : Nat) (h : i < vs.length) : gtd vs i = vs[i] := by simp [gtd, List.getD, h]
theorem gtd_mem {vs : List Td} {i : Nat} (h : i < vs.length) : gtd vs i ∈ vs := by rw [gtd_eq vs i h]; exact List.getElem_mem h
def IsTab (w : World) (a : Option Addr) (len : Nat) (T : Nat → List Bool) : Prop :=
 ∀ i, i < len → ∃ b off x c, a = some ⟨b, off, none⟩ ∧ w.cell? ⟨b, off + i, none⟩ = some (.slice x (T i).length c) ∧ IsBools w x (T i).length c (T i)
theorem IsTab.later {w w' : World} {a : Option Addr} {len : Nat} {T : Nat → List Bool} (h : IsTab w a len T) (hb : Below w.heap.size w w') : IsTab w' a len T := fun i hi => by
 obtain ⟨b, off, x, c, h1, k1, k2⟩ := h i hi
 exact ⟨b, off, x, c, h1, (hb.cell (p := ⟨b, off + i, none⟩) (lt_of_cell k1)).trans k1, k2.later hb⟩
theorem tab_of {W : World} {B E c : Nat} {a : Option Addr} {us : List Td} {T : Nat → List Bool} (hr : W.ownsRow B E 1 (.slice a us.length c) us.length (us.map Td.v)) (hx : ∀ x ∈ us, x.pc.At W B) (hT : ∀ i, i < us.length → (gtd us i).z = T i) : IsTab W a us.length T := fun i hi => by
 rcases row_cap hr with ⟨h1, h2⟩ | ⟨g, h1, h2, h3, h4⟩
 ·omega
 ·rw [← hT i hi]
  exact ⟨g, 0, (gtd us i).a, (gtd us i).c, h1, by rw [Nat.zero_add, h4 i hi, List.getElem?_map, List.getElem?_eq_getElem hi, gtd_eq us i hi]; rfl, (IsBools.of_owns (hx _ (gtd_mem hi))).1⟩
end Go.Proofs.Ytpcbmhfnefhenaa

set_option linter.unusedVariables false
namespace Go.Proofs.Ytpcbmhfnefhenaa

def runD (ar : List A3) : Int → List Int → Option Int
 | q, [] => some q
 | q, c :: w => match nxtD ar q c with
  | some x => runD ar x.t w
  | none => none
def accQ (d : Dfa) (q : Int) (w : List Int) : Bool := match runD d.arcs q w with
 | some p => gb d.fin p.toNat
 | none => false
theorem accQ_nil (d : Dfa) (q : Int) : accQ d q [] = gb d.fin q.toNat := rfl
theorem accQ_some {d : Dfa} {q c : Int} {x : A3} (h : nxtD d.arcs q c = some x) (w : List Int) : accQ d q (c :: w) = accQ d x.t w := by
 unfold accQ
 rw [runD, h]
theorem accQ_none {d : Dfa} {q c : Int} (h : nxtD d.arcs q c = none) (w : List Int) : accQ d q (c :: w) = false := by
 unfold accQ
 rw [runD, h]
open Classical in
noncomputable def accD (d : Dfa) (w : List Int) : Bool := vD d && accQ d d.s w
theorem nxtD_mem {ar : List A3} {q c : Int} {x : A3} (h : nxtD ar q c = some x) : x ∈ ar ∧ x.f = q ∧ x.l = c := by
 unfold nxtD at h
 have h1 := List.mem_of_find?_eq_some h
 have h2 := List.find?_some h
 simp at h2
 exact ⟨h1, h2⟩
theorem nxtD_unique {ar : List A3} (hS : SortedA ar) {x : A3} (hx : x ∈ ar) : nxtD ar x.f x.l = some x := by
 cases h : nxtD ar x.f x.l with
 | none =>
  unfold nxtD at h
  have := List.find?_eq_none.1 h x hx
  simp at this
 | some y =>
  obtain ⟨hy, h1, h2⟩ := nxtD_mem h
  obtain ⟨i, hi, ei⟩ := List.getElem_of_mem hx
  obtain ⟨j, hj, ej⟩ := List.getElem_of_mem hy
  rcases Nat.lt_trichotomy i j with h3 | h3 | h3
  ·have := hS.lt h3 hj
   rw [g3_eq _ _ hi, g3_eq _ _ hj, ei, ej] at this
   unfold LtA at this
   omega
  ·subst h3; rw [← ei, ← ej]
  ·have := hS.lt h3 hi
   rw [g3_eq _ _ hi, g3_eq _ _ hj, ei, ej] at this
   unfold LtA at this
   omega
end Go.Proofs.Ytpcbmhfnefhenaa
