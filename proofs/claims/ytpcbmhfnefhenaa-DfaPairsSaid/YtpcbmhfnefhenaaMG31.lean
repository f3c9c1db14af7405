import Derived.Test.YtpcbmhfnefhenaaMG12
import Derived.Test.YtpcbmhfnefhenaaMG20
import Derived.Test.YtpcbmhfnefhenaaMG30
/-
  Rws, DfaKp
-/
set_option linter.unusedVariables false
namespace Go.Proofs.Ytpcbmhfnefhenaa
open Go.RowKit

theorem owns_cells {w : World} {B e size n cap g : Nat} {xs : List Value} (h : w.ownsRow B e size (.slice (some ⟨g, 0, none⟩) n cap) n xs) (j : Nat) (hj : j < n * size) : w.cell? ⟨g, j, none⟩ = xs[j]? := by
 obtain ⟨hl, h⟩ := h
 rcases h with ⟨e1, _⟩ | ⟨g', c, cur, e1, hg, hh, hn, hc, hs, ht⟩
 ·cases e1
 ·cases e1
  have := congrArg (fun l => l[j]?) ht
  simp only [List.getElem?_take, if_pos hj] at this
  simp only [World.cell?, hh]
  simpa using this
theorem owns_addr {w : World} {B e size n cap : Nat} {a : Option Addr} {xs : List Value} (h : w.ownsRow B e size (.slice a n cap) n xs) (hn : 0 < n) : ∃ g, a = some ⟨g, 0, none⟩ ∧ B ≤ g ∧ g < w.heap.size := by
 have h' := h
 obtain ⟨hl, h⟩ := h
 rcases h with ⟨e1, e2⟩ | ⟨g', c, cur, e1, hg, hh, _⟩
 ·omega
 ·cases e1
  exact ⟨g', rfl, hg, (Array.getElem?_eq_some_iff.1 hh).1⟩
def gp2 (ps : List P2) (i : Nat) : P2 := ps.getD i ⟨0, 0⟩
theorem gp2_eq (ps : List P2) (i : Nat) (h : i < ps.length) : gp2 ps i = ps[i] := by simp [gp2, List.getD, h]
theorem gp2_some {ps : List P2} {i : Nat} (h : i < ps.length) : ps[i]? = some (gp2 ps i) := by rw [gp2_eq _ _ h]; exact List.getElem?_eq_getElem h
theorem gp2_mem (ps : List P2) (i : Nat) (h : i < ps.length) : gp2 ps i ∈ ps := by rw [gp2_eq ps i h]; exact List.getElem_mem h
def pv2 (ps : List P2) : List Value := ps.flatMap fun p => [.int .i64 p.a, .int .i64 p.b]
theorem pv2_nil : pv2 [] = [] := rfl
theorem pv2_cons (e : P2) (ps : List P2) : pv2 (e :: ps) = .int .i64 e.a :: .int .i64 e.b :: pv2 ps := rfl
theorem pv2_append (xs ys : List P2) : pv2 (xs ++ ys) = pv2 xs ++ pv2 ys := by simp [pv2]
theorem pv2_length : ∀ ps : List P2, (pv2 ps).length = ps.length * 2
 | [] => rfl
 | e :: ps => by
  have := pv2_length ps
  rw [pv2_cons, List.length_cons, List.length_cons, List.length_cons]
  omega
theorem pv2_get : ∀ (ps : List P2) (i : Nat), i < ps.length → (pv2 ps)[i * 2]? = some (.int .i64 (gp2 ps i).a) ∧ (pv2 ps)[i * 2 + 1]? = some (.int .i64 (gp2 ps i).b)
 | [], i, h => absurd h (Nat.not_lt_zero _)
 | e :: ps, 0, _ => ⟨rfl, rfl⟩
 | e :: ps, i + 1, h => by
  have ih := pv2_get ps i (by simpa using h)
  rw [show (i + 1) * 2 = i * 2 + 1 + 1 by omega, pv2_cons]
  exact ih
theorem own_pair {w : World} {B e n cap g : Nat} {ps : List P2} (h : w.ownsRow B e 2 (.slice (some ⟨g, 0, none⟩) n cap) n (pv2 ps)) (i : Nat) (hi : i < n) : w.cell? ⟨g, i * 2, none⟩ = some (.int .i64 (gp2 ps i).a) ∧ w.cell? ⟨g, i * 2 + 1, none⟩ = some (.int .i64 (gp2 ps i).b) := by
 have hl : ps.length = n := by
  have := h.1
  rw [pv2_length] at this
  omega
 have := pv2_get ps i (by omega)
 exact ⟨(owns_cells h _ (by omega)).trans this.1, (owns_cells h _ (by omega)).trans this.2⟩
structure V4 where
 p : P2
 h : Int
 l : Int
def gv4 (ps : List V4) (i : Nat) : V4 := ps.getD i ⟨⟨0, 0⟩, 0, 0⟩
theorem gv4_eq (ps : List V4) (i : Nat) (h : i < ps.length) : gv4 ps i = ps[i] := by simp [gv4, List.getD, h]
theorem gv4_left {xs ys : List V4} {i : Nat} (h : i < xs.length) : gv4 (xs ++ ys) i = gv4 xs i := by
 unfold gv4; rw [List.getD_eq_getElem?_getD, List.getD_eq_getElem?_getD, List.getElem?_append_left h]
theorem gv4_last (xs : List V4) (v : V4) : gv4 (xs ++ [v]) xs.length = v := by unfold gv4; rw [List.getD_eq_getElem?_getD]; simp
theorem gp2_map {vs : List V4} {i : Nat} (h : i < vs.length) : gp2 (vs.map V4.p) i = (gv4 vs i).p := by
 rw [gp2_eq _ _ (by rw [List.length_map]; exact h), gv4_eq _ _ h, List.getElem_map]
def qv4 (ps : List V4) : List Value := ps.flatMap fun v => [.int .i64 v.p.a, .int .i64 v.p.b, .int .i64 v.h, .int .i64 v.l]
theorem qv4_cons (e : V4) (ps : List V4) : qv4 (e :: ps) = .int .i64 e.p.a :: .int .i64 e.p.b :: .int .i64 e.h :: .int .i64 e.l :: qv4 ps := rfl
theorem qv4_append (xs ys : List V4) : qv4 (xs ++ ys) = qv4 xs ++ qv4 ys := by simp [qv4]
theorem qv4_length : ∀ ps : List V4, (qv4 ps).length = ps.length * 4
 | [] => rfl
 | e :: ps => by
  have := qv4_length ps
  rw [qv4_cons, List.length_cons, List.length_cons, List.length_cons, List.length_cons, List.length_cons]
  omega
theorem qv4_get : ∀ (ps : List V4) (i : Nat), i < ps.length → (qv4 ps)[i * 4]? = some (.int .i64 (gv4 ps i).p.a) ∧ (qv4 ps)[i * 4 + 1]? = some (.int .i64 (gv4 ps i).p.b) ∧ (qv4 ps)[i * 4 + 2]? = some (.int .i64 (gv4 ps i).h) ∧ (qv4 ps)[i * 4 + 3]? = some (.int .i64 (gv4 ps i).l)
 | [], i, h => absurd h (Nat.not_lt_zero _)
 | e :: ps, 0, _ => ⟨rfl, rfl, rfl, rfl⟩
 | e :: ps, i + 1, h => by
  have ih := qv4_get ps i (by simpa using h)
  rw [show (i + 1) * 4 = i * 4 + 1 + 1 + 1 + 1 by omega, qv4_cons]
  exact ih
theorem own_quad {w : World} {B e n cap g : Nat} {ps : List V4} (h : w.ownsRow B e 4 (.slice (some ⟨g, 0, none⟩) n cap) n (qv4 ps)) (i : Nat) (hi : i < n) : w.cell? ⟨g, i * 4, none⟩ = some (.int .i64 (gv4 ps i).p.a) ∧ w.cell? ⟨g, i * 4 + 1, none⟩ = some (.int .i64 (gv4 ps i).p.b) ∧ w.cell? ⟨g, i * 4 + 2, none⟩ = some (.int .i64 (gv4 ps i).h) ∧ w.cell? ⟨g, i * 4 + 3, none⟩ = some (.int .i64 (gv4 ps i).l) := by
 have hl : ps.length = n := by
  have := h.1
  rw [qv4_length] at this
  omega
 obtain ⟨h0, h1, h2, h3⟩ := qv4_get ps i (by omega)
 exact ⟨(owns_cells h _ (by omega)).trans h0, (owns_cells h _ (by omega)).trans h1, (owns_cells h _ (by omega)).trans h2, (owns_cells h _ (by omega)).trans h3⟩
def Ways (vs : List V4) (st : Bq P2) : Prop := vs.map V4.p = st.q ∧ (gv4 vs 0).h = -1 ∧ st.w.getD 0 [] = [] ∧ ∀ i, 0 < i → i < vs.length → 0 ≤ (gv4 vs i).h ∧ (gv4 vs i).h < i ∧ st.w.getD i [] = st.w.getD (gv4 vs i).h.toNat [] ++ [(gv4 vs i).l]
theorem Ways.len {vs : List V4} {st : Bq P2} (h : Ways vs st) : vs.length = st.q.length := by rw [← h.1, List.length_map]
theorem Ways.start (s : P2) : Ways [⟨s, -1, 0⟩] ⟨[s], [[]], []⟩ := ⟨rfl, rfl, rfl, fun i h0 hi => by simp at hi; omega⟩
theorem Ways.old {vs : List V4} {st : Bq P2} (hw : Ways vs st) {h : Nat} {x : Int × P2} (hm : x.2 ∈ st.q) : Ways vs (bq1 h st x) := by
 have e := bq1_yes (h := h) hm
 unfold Ways at hw ⊢
 rw [e.1, e.2]
 exact hw
theorem Ways.new {vs : List V4} {st : Bq P2} (hw : Ways vs st) (hl : st.w.length = st.q.length) {h : Nat} (hh : h < st.q.length) {x : Int × P2} (hm : x.2 ∉ st.q) : Ways (vs ++ [⟨x.2, h, x.1⟩]) (bq1 h st x) := by
 have hlen := hw.len
 obtain ⟨h1, h2, h3, h4⟩ := hw
 have e := bq1_no (h := h) hm
 refine ⟨by rw [e.1, List.map_append, h1]; rfl, by rw [gv4_left (by omega)]; exact h2, by rw [e.2, pre_getD (List.prefix_append _ _) (by omega)]; exact h3, fun i h0 hi => ?_⟩
 rw [List.length_append, List.length_singleton] at hi
 rw [e.2]
 rcases Nat.lt_or_ge i vs.length with hlt | hge
 ·obtain ⟨g1, g2, g3⟩ := h4 i h0 hlt
  rw [gv4_left hlt]
  refine ⟨g1, g2, ?_⟩
  rw [pre_getD (List.prefix_append _ _) (by omega), pre_getD (List.prefix_append _ _) (by omega)]
  exact g3
 ·have hi' : i = vs.length := by omega
  rw [hi', gv4_last]
  refine ⟨Int.natCast_nonneg h, by show (h : Int) < _; omega, ?_⟩
  rw [show (vs.length : Nat) = st.w.length by omega, List.getD_eq_getElem?_getD]
  simp only [List.getElem?_concat_length, Option.getD_some, Int.toNat_natCast]
  rw [pre_getD (List.prefix_append _ _) (by omega)]
theorem Ways.word_le {vs : List V4} {st : Bq P2} (hw : Ways vs st) : ∀ n i, i ≤ n → i < vs.length → (st.w.getD i []).length ≤ i := by
 intro n
 induction n with
 | zero => intro i hi _; rw [show i = 0 by omega, hw.2.2.1]; exact Nat.le_refl _
 | succ n ih =>
  intro i hi hl
  rcases Nat.eq_zero_or_pos i with rfl | h0
  ·rw [hw.2.2.1]; exact Nat.le_refl _
  ·obtain ⟨g1, g2, g3⟩ := hw.2.2.2 i h0 hl
   rw [g3, List.length_append, List.length_singleton]
   have := ih (gv4 vs i).h.toNat (by omega) (by omega)
   omega
end Go.Proofs.Ytpcbmhfnefhenaa

set_option linter.unusedSimpArgs false
set_option linter.unusedVariables false
namespace Go.Proofs.Ytpcbmhfnefhenaa
open Go.RowKit

section
variable {P : Program} {k : TypeId} {α : Type} [DecidableEq α] {E : KeyEnc P k α} {e : TypeId} {ks : List α} {val : α → Lit} {W : World} {b : Nat}
theorem wpList_map_entry {ops : Array Oper} {rest : List Oper} {o : Oper} {A : Act} {Q : Exit → Act → World → Prop} (hg : o.guard = none) (m x y : Operand) (t : TypeId) (hop : o.op = Op.insert t m x y) (h : IsMapK E e ks val W b) (ht : P.underlying t = some (.map k e)) (hn : ks.length < maxLen)
  (hm : A.eval m = .map (some b)) (a : α) (hx : A.eval x = E.enc a) (ha : E.ok a) (hnew : a ∉ ks) (l : Lit) (hy : A.eval y = l.value) (hl : plainElem (H := Unit) P e l.value = some (.lit l, []))
  (hK : ∀ W', IsMapK E e (ks ++ [a]) (fun x => if x = a then l else val x) W' b → W.grownBy W' (some b) → wpList P ops Q rest (A.put o.dst undef) W') : wpList P ops Q (o :: rest) A W := by
 obtain ⟨W', hrun, h1, h2⟩ := h.store ht hn ha hnew hl
 refine wpList_plain hg fun _ hK' => ?_
 unfold Oper.wp
 simp [execOp, hop, hm, hx, hy, hrun, Result.andThen]
 exact hK' _ _ (hK W' h1 h2)
end
def prV (x : P2) : Value := .agg #[.int .i64 x.a, .int .i64 x.b]
set_option maxRecDepth 20000 in
theorem pr_reads (x : P2) (h : wfI x.a ∧ wfI x.b) : keyOf Try.prog 84 (prV x) = some (.string (keyBytes [.int .i64 x.a, .int .i64 x.b])) := by
 obtain ⟨a, b⟩ := x
 obtain ⟨ha, hb⟩ := h
 unfold wfI at ha hb
 have hu := Try.underlying84
 have hi := Try.underlying3
 have hkt : Try.prog.keyType 84 = true := by kernel_rfl
 have hc3 : Try.prog.cellsOf 84 = 2 := by kernel_rfl
 have hc1 : Try.prog.cellsOf 3 = 1 := by kernel_rfl
 obtain ⟨n, hn⟩ := types_pos
 unfold keyOf prV
 rw [hu, hn]
 simp only [hkt, Value.formed, hu, hc3, Value.cells, Program.keyLits]
 simp [hi, hc1, Program.keyLits, ha, hb]
set_option maxRecDepth 20000 in
theorem pr_law : Maps.Keyed Try.prog 84 := Maps.Keyed.of_law (deep_law_laid laid_ok (m := 5) (by omega) (by
 have h : Nat.ble (84 + 1) Try.prog.types.size = true := by kernel_rfl
 exact Nat.le_of_ble_eq_true h) (by kernel_rfl) (by kernel_rfl))
set_option maxRecDepth 20000 in
def keyP : KeyEnc Try.prog 84 P2 where
 law := pr_law
 enc := prV
 ok := fun x => wfI x.a ∧ wfI x.b
 kl := fun x => .string (keyBytes [.int .i64 x.a, .int .i64 x.b])
 reads := pr_reads
 inj := fun a b _ _ h => by
  obtain ⟨a1, a2⟩ := a
  obtain ⟨b1, b2⟩ := b
  simp [prV] at h
  obtain ⟨rfl, rfl⟩ := h
  rfl
theorem keyP_ok {a b : Int} (ha : -1 ≤ a ∧ a ≤ 1000000000) (hb : -1 ≤ b ∧ b ≤ 1000000000) : keyP.ok ⟨a, b⟩ := ⟨wf_small (by show _ ≤ a; omega) (by show a ≤ _; omega), wf_small (by show _ ≤ b; omega) (by show b ≤ _; omega)⟩
theorem zeroB (w : World) : (zeroValue 4).run Try.prog w = .ok (Lit.bool false).value w := by kernel_rfl
theorem bool_elem (b : Bool) : plainElem (H := Unit) Try.prog 4 (Lit.bool b).value = some (.lit (.bool b), []) := by
 unfold plainElem
 rw [Try.underlying4]
 rfl
theorem elP : Elem Try.prog 86 84 (.agg #[.int .i64 0, .int .i64 0]) 2 16 := ⟨Try.underlying86, by kernel_rfl, rfl, by decide⟩
theorem elV : Elem Try.prog 90 89 (.agg #[.int .i64 0, .int .i64 0, .int .i64 0, .int .i64 0]) 4 32 := ⟨Try.underlying90, by kernel_rfl, rfl, by decide⟩
end Go.Proofs.Ytpcbmhfnefhenaa
