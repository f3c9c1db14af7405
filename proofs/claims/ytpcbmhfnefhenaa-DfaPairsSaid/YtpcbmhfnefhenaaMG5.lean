import Derived.Lib.SmallJoins
import Derived.Test.YtpcbmhfnefhenaaMG0
import Derived.Test.YtpcbmhfnefhenaaMG3
import Derived.Test.YtpcbmhfnefhenaaMG4
/-
  DfaTop, DfaP
-/
set_option linter.unusedVariables false
namespace Go.Proofs.Ytpcbmhfnefhenaa
open Go.ChangeShapes Go.WideShapes Go.ChangeAt Go.RowKit Go.Deep

theorem spot_none {w : World} {a : Addr} {v : Value} (h : w.cell? a = some v) : a.spot = none := by
 obtain ⟨b, o, s⟩ := a
 cases s with
 | none => rfl
 | some x =>
  exfalso
  unfold World.cell? at h
  split at h
  ·simp at h
  ·cases h
section
variable {H : Type} {enc : TypeId × Value → H} {P : Program} {W : World}
theorem bools_trod {t e : TypeId} {fuel : Nat} {v : Value} {x : DataW H × List MemPlace} (ht : P.underlying t = some (.slice e)) (he : P.underlying e = some .bool) (ce : P.cellsOf e = 1)
  (h : DataW.trod enc P W 0 (fun _ => true) true fuel t [v] = some x) : ∃ a len cap ss, v = .slice a len cap ∧ IsBools W a len cap ss := by
 rcases Go.Deep.open_slice ht h with ⟨h2, _⟩ | ⟨x, len, cap, m, n, D, Pl, h2, hb, hl, hm, hmm, _, hx⟩
 ·simp at h2
  exact ⟨_, _, _, [], h2, isBools_nil W⟩
 ·simp only [List.cons.injEq, and_true] at h2
  have hm2 : m = cap := by simpa using hmm
  subst hm2
  rcases Nat.eq_zero_or_pos m with h0 | h0
  ·exact ⟨_, _, _, [], h2, .inl ⟨by omega, h0, rfl⟩⟩
  have hsp : x.spot = none := by
   obtain ⟨cs', g1, g2⟩ := hx 0 h0
   rw [ce] at g1
   obtain ⟨_, hlen, hc⟩ := World.cells?_some g1
   match cs', hlen with
   | [u0], _ =>
    have f0 := hc 0 (by omega)
    simp [Addr.add] at f0
    exact spot_none f0
  obtain ⟨b, off, s⟩ := x
  simp only at hsp
  subst hsp
  have each : ∀ i, i < len → ∃ q : Bool, W.cell? ⟨b, off + i, none⟩ = some (.bool q) := by
   intro i hi
   obtain ⟨cs', g1, g2⟩ := hx i (by omega)
   rw [ce, Nat.mul_one] at g1
   obtain ⟨_, hlen, hc⟩ := World.cells?_some g1
   match cs', hlen with
   | [u0], _ =>
    obtain ⟨q, e0, -⟩ := DataW.trod_bool he g2
    simp only [List.cons.injEq, and_true] at e0
    subst e0
    have f0 := hc 0 (by omega)
    rw [addr_add, addr_add] at f0
    exact ⟨q, by simpa using f0⟩
  obtain ⟨q, hq⟩ := Go.Deep.choose_lt each
  have hg : ∀ i, i < len → gb ((List.range len).map q) i = q i := by
   intro i hi
   rw [gb_eq _ _ (by simpa using hi)]
   simp
  exact ⟨_, len, m, (List.range len).map q, h2, .inr ⟨b, off, rfl, hl, hm, by simp, fun i hi => by rw [hg i hi]; exact hq i hi⟩⟩
theorem arcs_trod {t e : TypeId} {f0 f1 f2 : Field} {fuel : Nat} {v : Value} {x : DataW H × List MemPlace} (ht : P.underlying t = some (.slice e)) (he : P.underlying e = some (.struct #[f0, f1, f2])) (hone : oneCellFields P #[f0, f1, f2] = true) (ce : P.cellsOf e = 3)
  (k0 : P.underlying f0.type = some (.int .i64)) (k1 : P.underlying f1.type = some (.int .i64)) (k2 : P.underlying f2.type = some (.int .i64))
  (h : DataW.trod enc P W 0 (fun _ => true) true fuel t [v] = some x) : ∃ a len cap es, v = .slice a len cap ∧ IsArcs W a len cap es := by
 rcases Go.Deep.open_slice ht h with ⟨h2, _⟩ | ⟨x, len, cap, m, n, D, Pl, h2, hb, hl, hm, hmm, _, hx⟩
 ·simp at h2
  exact ⟨_, _, _, [], h2, isArcs_nil W⟩
 ·simp only [List.cons.injEq, and_true] at h2
  have hm2 : m = cap := by simpa using hmm
  subst hm2
  rcases Nat.eq_zero_or_pos m with h0 | h0
  ·exact ⟨_, _, _, [], h2, .inl ⟨by omega, h0, rfl⟩⟩
  have hsp : x.spot = none := by
   obtain ⟨cs', g1, g2⟩ := hx 0 h0
   rw [ce] at g1
   obtain ⟨_, hlen, hc⟩ := World.cells?_some g1
   match cs', hlen with
   | [u0, u1, u2], _ =>
    have f0 := hc 0 (by omega)
    simp [Addr.add] at f0
    exact spot_none f0
  obtain ⟨b, off, s⟩ := x
  simp only at hsp
  subst hsp
  obtain ⟨o0, c0⟩ := hone_of hone 0 f0 rfl
  obtain ⟨o1, c1⟩ := hone_of hone 1 f1 rfl
  obtain ⟨o2, c2⟩ := hone_of hone 2 f2 rfl
  have each : ∀ i, i < len → ∃ q : A3, W.cell? ⟨b, off + i * 3, none⟩ = some (.int .i64 q.f) ∧ W.cell? ⟨b, off + i * 3 + 1, none⟩ = some (.int .i64 q.l) ∧ W.cell? ⟨b, off + i * 3 + 2, none⟩ = some (.int .i64 q.t) := by
   intro i hi
   obtain ⟨cs', g1, g2⟩ := hx i (by omega)
   rw [ce] at g1
   obtain ⟨_, hlen, hc⟩ := World.cells?_some g1
   match cs', hlen with
   | [u0, u1, u2], _ =>
    obtain ⟨y0, y1, y2, n, _, _, t0, t1, t2⟩ := Go.Deep.trod_struct3 he g2
    rw [o0, c0] at t0
    rw [o1, c1] at t1
    rw [o2, c2] at t2
    obtain ⟨q0, e0, -⟩ := DataW.trod_int k0 t0
    obtain ⟨q1, e1, -⟩ := DataW.trod_int k1 t1
    obtain ⟨q2, e2, -⟩ := DataW.trod_int k2 t2
    simp at e0 e1 e2
    subst e0 e1 e2
    have f0 := hc 0 (by omega)
    have f1 := hc 1 (by omega)
    have f2 := hc 2 (by omega)
    rw [addr_add, addr_add] at f0 f1 f2
    exact ⟨⟨q0, q1, q2⟩, by simpa using f0, by simpa using f1, by simpa using f2⟩
  obtain ⟨q, hq⟩ := Go.Deep.choose_lt each
  have hg : ∀ i, i < len → g3 ((List.range len).map q) i = q i := by
   intro i hi
   rw [g3_eq _ _ (by simpa using hi)]
   simp
  exact ⟨_, len, m, (List.range len).map q, h2, .inr ⟨b, off, rfl, hl, hm, by simp, fun i hi => by rw [hg i hi]; exact hq i hi⟩⟩
theorem dfa_in {t bt at' : TypeId} {f0 f1 f2 f3 g0 g1 g2 : Field} {v : Value} {d : DataW H} {p : List MemPlace} {r : Reach} {b0 : Nat} (hs : P.underlying t = some (.struct #[f0, f1, f2, f3])) (hone : oneCellFields P #[f0, f1, f2, f3] = true) (hC : P.cellsOf t = 4)
  (k0 : P.underlying f0.type = some (.int .i64)) (k1 : P.underlying f1.type = some (.int .i64)) (k2 : P.underlying f2.type = some (.slice bt)) (kb : P.underlying bt = some .bool) (cb : P.cellsOf bt = 1)
  (k3 : P.underlying f3.type = some (.slice at')) (ka : P.underlying at' = some (.struct #[g0, g1, g2])) (honeA : oneCellFields P #[g0, g1, g2] = true) (ca : P.cellsOf at' = 3)
  (m0 : P.underlying g0.type = some (.int .i64)) (m1 : P.underlying g1.type = some (.int .i64)) (m2 : P.underlying g2.type = some (.int .i64))
  (hv : Value.okWide P W r b0 t v) (h : DataW.Trod enc P W 0 (fun _ => true) true t v d p) : ∃ D H', v = vDf D H' ∧ IsDfa W H' D := by
 obtain ⟨v0, v1, v2, v3, y0, y1, y2, y3, n, rfl, -, -, t0, t1, t2, t3⟩ := Go.Joins.open_agg4 hs hone hC hv h
 obtain ⟨q0, e0, -⟩ := DataW.trod_int k0 t0
 obtain ⟨q1, e1, -⟩ := DataW.trod_int k1 t1
 simp only [List.cons.injEq, and_true] at e0 e1
 subst e0 e1
 obtain ⟨fa, fl, fc, ss, rfl, h2⟩ := bools_trod k2 kb cb t2
 obtain ⟨aa, al, ac, es, rfl, h3⟩ := arcs_trod k3 ka honeA ca m0 m1 m2 t3
 exact ⟨⟨q0, q1, ss, es⟩, ⟨fa, fl, fc, aa, al, ac⟩, rfl, h2, h3⟩
end
end Go.Proofs.Ytpcbmhfnefhenaa

set_option linter.unusedVariables false
namespace Go.Proofs.Ytpcbmhfnefhenaa

def runD (ar : List A3) : Int → List Int → Option Int
 | q, [] => some q
 | q, c :: w => match nxtD ar q c with
  | some x => runD ar x.t w
  | none => none
def accQ (d : Dfa) (q : Int) (w : List Int) : Bool := match runD d.arcs q w with
 | some p => gb d.fin p.toNat
 | none => false
theorem accQ_nil (d : Dfa) (q : Int) : accQ d q [] = gb d.fin q.toNat := rfl
theorem accQ_some {d : Dfa} {q c : Int} {x : A3} (h : nxtD d.arcs q c = some x) (w : List Int) : accQ d q (c :: w) = accQ d x.t w := by
 unfold accQ
 rw [runD, h]
theorem accQ_none {d : Dfa} {q c : Int} (h : nxtD d.arcs q c = none) (w : List Int) : accQ d q (c :: w) = false := by
 unfold accQ
 rw [runD, h]
open Classical in
noncomputable def accD (d : Dfa) (w : List Int) : Bool := vD d && accQ d d.s w
theorem nxtD_mem {ar : List A3} {q c : Int} {x : A3} (h : nxtD ar q c = some x) : x ∈ ar ∧ x.f = q ∧ x.l = c := by
 unfold nxtD at h
 have h1 := List.mem_of_find?_eq_some h
 have h2 := List.find?_some h
 simp at h2
 exact ⟨h1, h2⟩
theorem nxtD_unique {ar : List A3} (hS : SortedA ar) {x : A3} (hx : x ∈ ar) : nxtD ar x.f x.l = some x := by
 cases h : nxtD ar x.f x.l with
 | none =>
  unfold nxtD at h
  have := List.find?_eq_none.1 h x hx
  simp at this
 | some y =>
  obtain ⟨hy, h1, h2⟩ := nxtD_mem h
  obtain ⟨i, hi, ei⟩ := List.getElem_of_mem hx
  obtain ⟨j, hj, ej⟩ := List.getElem_of_mem hy
  rcases Nat.lt_trichotomy i j with h3 | h3 | h3
  ·have := hS.lt h3 hj
   rw [g3_eq _ _ hi, g3_eq _ _ hj, ei, ej] at this
   unfold LtA at this
   omega
  ·subst h3; rw [← ei, ← ej]
  ·have := hS.lt h3 hi
   rw [g3_eq _ _ hi, g3_eq _ _ hj, ei, ej] at this
   unfold LtA at this
   omega
end Go.Proofs.Ytpcbmhfnefhenaa
