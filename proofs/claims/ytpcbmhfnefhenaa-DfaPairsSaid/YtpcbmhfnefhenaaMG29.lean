import Derived.Test.YtpcbmhfnefhenaaMG9
import Derived.Test.YtpcbmhfnefhenaaMG28
/-
  DfaBx, DfaPd
-/
set_option linter.unusedVariables false
namespace Go.Proofs.Ytpcbmhfnefhenaa
open Go.RowKit

theorem IsBools.apart {W : World} {q : Nat} {cs : Array Value} {T : TypeId} {fr : Nat × Nat} {x y : Int} {a1 a2 : Option Addr} {l1 c1 l2 c2 : Nat} {a : Option Addr} {len cap : Nat} {ss : List Bool} (hq : W.heap[q]? = some (.cells #[.int .i64 x, .int .i64 y, .slice a1 l1 c1, .slice a2 l2 c2] T fr)) (h : IsBools W a len cap ss) : IsBools (W.setRow q cs) a len cap ss := by
 rcases h with h | ⟨b, off, e, h1, h2, h3, hc⟩
 ·exact .inl h
 ·refine .inr ⟨b, off, e, h1, h2, h3, fun i hi => ?_⟩
  have hci := hc i hi
  have hne : b ≠ q := by
   rintro rfl
   simp only [World.cell?, hq] at hci
   match hj : off + i with
   | 0 => rw [hj] at hci; simp at hci
   | 1 => rw [hj] at hci; simp at hci
   | 2 => rw [hj] at hci; simp at hci
   | 3 => rw [hj] at hci; simp at hci
   | n + 4 => rw [hj] at hci; simp at hci
  rw [← hci]
  simp only [World.cell?]
  rw [setRow_other W q b cs hne]
theorem IsArcs.apart {W : World} {q : Nat} {cs : Array Value} {T : TypeId} {fr : Nat × Nat} {x y : Int} {a1 a2 : Option Addr} {l1 c1 l2 c2 : Nat} {a : Option Addr} {len cap : Nat} {es : List A3} (hq : W.heap[q]? = some (.cells #[.int .i64 x, .int .i64 y, .slice a1 l1 c1, .slice a2 l2 c2] T fr)) (h : IsArcs W a len cap es) : IsArcs (W.setRow q cs) a len cap es := by
 rcases h with h | ⟨b, off, e, h1, h2, h3, hc⟩
 ·exact .inl h
 ·refine .inr ⟨b, off, e, h1, h2, h3, fun i hi => ?_⟩
  obtain ⟨p0, p1, p2⟩ := hc i hi
  have hne : b ≠ q := by
   rintro rfl
   simp only [World.cell?, hq] at p0 p1 p2
   match hj : off + i * 3 with
   | 0 => rw [hj] at p2; simp at p2
   | 1 => rw [hj] at p1; simp at p1
   | 2 => rw [hj] at p0; simp at p0
   | 3 => rw [hj] at p0; simp at p0
   | n + 4 => rw [hj] at p0; simp at p0
  have key : ∀ j, (W.setRow q cs).cell? ⟨b, j, none⟩ = W.cell? ⟨b, j, none⟩ := fun j => by
   simp only [World.cell?]
   rw [setRow_other W q b cs hne]
  exact ⟨(key _).trans p0, (key _).trans p1, (key _).trans p2⟩
theorem IsDfa.apart {W : World} {q : Nat} {cs : Array Value} {T : TypeId} {fr : Nat × Nat} {x y : Int} {a1 a2 : Option Addr} {l1 c1 l2 c2 : Nat} {h : DH} {d : Dfa} (hq : W.heap[q]? = some (.cells #[.int .i64 x, .int .i64 y, .slice a1 l1 c1, .slice a2 l2 c2] T fr)) (hd : IsDfa W h d) : IsDfa (W.setRow q cs) h d := ⟨hd.1.apart hq, hd.2.apart hq⟩
def TuP (D : Dfa) (x : Int) : Value → World → Prop := fun v W => ∃ h', v = .tuple #[vDf D h', .int .i64 x] ∧ IsDfa W h' D
theorem stays_tup (D : Dfa) (x : Int) : Stays (TuP D x) := fun _ _ _ hb ⟨h', e, hd⟩ => ⟨h', e, hd.later hb⟩
def ZBox (W : World) (q : Nat) : Prop := W.heap[q]? = some (.cells #[.int .i64 0, .int .i64 0, .slice none 0 0, .slice none 0 0] 30 (0, 0))
def DBoxP (W : World) (q : Nat) (D : Dfa) : Prop := ∃ h', W.heap[q]? = some (.cells #[.int .i64 D.n, .int .i64 D.s, .slice h'.fa h'.fl h'.fc, .slice h'.aa h'.al h'.ac] 30 (0, 0)) ∧ IsDfa W h' D
def SBox (w0 : World) (a b D : Dfa) (x : Int) (L : Nat → Bool) (f : Nat → Value) (W : World) : Prop :=
 Below w0.heap.size w0 W ∧ (L 1 = true → DfP a (f 1) W) ∧ (L 3 = true → DfP b (f 3) W) ∧ (L 4 = true → TuP D x (f 4) W) ∧ (L 5 = true → TuP D x (f 5) W) ∧ (L 6 = true → DfP D (f 6) W) ∧ (L 8 = true → ∃ q, f 8 = .pointer (some ⟨q, 0, none⟩) ∧ (w0.heap.size ≤ q ∧ (L 9 = false → ZBox W q) ∧ (L 9 = true → DBoxP W q D)))
section
variable {w0 : World} {a b D : Dfa} {x : Int} {L : Nat → Bool} {f : Nat → Value} {W W' : World} {v : Value}
theorem SBox.start (f : Nat → Value) : SBox w0 a b D x (fun _ => false) f w0.drew := ⟨(Below.refl _ _).drew, fun h => (by cases h), fun h => (by cases h), fun h => (by cases h), fun h => (by cases h), fun h => (by cases h), fun h => (by cases h)⟩
theorem SBox.later (h : SBox w0 a b D x L f W) (hb : Below W.heap.size W W') : SBox w0 a b D x L f W' := by
 obtain ⟨h0, h1, h3, h4, h5, h6, h8⟩ := h
 refine ⟨h0.trans (hb.mono h0.size), fun l => stays_df a _ _ _ hb (h1 l), fun l => stays_df b _ _ _ hb (h3 l), fun l => stays_tup D x _ _ _ hb (h4 l), fun l => stays_tup D x _ _ _ hb (h5 l), fun l => stays_df D _ _ _ hb (h6 l), fun l => ?_⟩
 obtain ⟨q, e, hq, hz, hs⟩ := h8 l
 refine ⟨q, e, hq, fun l9 => ?_, fun l9 => ?_⟩
 ·have := hz l9
  unfold ZBox at this ⊢
  rw [hb.block q (Array.getElem?_eq_some_iff.1 this).1]
  exact this
 ·obtain ⟨h', h1, h2⟩ := hs l9
  exact ⟨h', by rw [hb.block q (Array.getElem?_eq_some_iff.1 h1).1]; exact h1, h2.later hb⟩
theorem SBox.put1 (h : SBox w0 a b D x L f W) (hv : DfP a v W) : SBox w0 a b D x (fun j => if j = 1 then true else L j) (fun j => if j = 1 then v else f j) W := ⟨h.1, fun _ => hv, h.2.2.1, h.2.2.2.1, h.2.2.2.2.1, h.2.2.2.2.2.1, h.2.2.2.2.2.2⟩
theorem SBox.put3 (h : SBox w0 a b D x L f W) (hv : DfP b v W) : SBox w0 a b D x (fun j => if j = 3 then true else L j) (fun j => if j = 3 then v else f j) W := ⟨h.1, h.2.1, fun _ => hv, h.2.2.2.1, h.2.2.2.2.1, h.2.2.2.2.2.1, h.2.2.2.2.2.2⟩
theorem SBox.put4 (h : SBox w0 a b D x L f W) (hv : TuP D x v W) : SBox w0 a b D x (fun j => if j = 4 then true else L j) (fun j => if j = 4 then v else f j) W := ⟨h.1, h.2.1, h.2.2.1, fun _ => hv, h.2.2.2.2.1, h.2.2.2.2.2.1, h.2.2.2.2.2.2⟩
theorem SBox.put5 (h : SBox w0 a b D x L f W) (hv : TuP D x v W) : SBox w0 a b D x (fun j => if j = 5 then true else L j) (fun j => if j = 5 then v else f j) W := ⟨h.1, h.2.1, h.2.2.1, h.2.2.2.1, fun _ => hv, h.2.2.2.2.2.1, h.2.2.2.2.2.2⟩
theorem SBox.put6 (h : SBox w0 a b D x L f W) (hv : DfP D v W) : SBox w0 a b D x (fun j => if j = 6 then true else L j) (fun j => if j = 6 then v else f j) W := ⟨h.1, h.2.1, h.2.2.1, h.2.2.2.1, h.2.2.2.2.1, fun _ => hv, h.2.2.2.2.2.2⟩
theorem SBox.put8 (h : SBox w0 a b D x L f W) {q : Nat} (hq : w0.heap.size ≤ q) (h9 : L 9 = false) (hz : ZBox W q) : SBox w0 a b D x (fun j => if j = 8 then true else L j) (fun j => if j = 8 then .pointer (some ⟨q, 0, none⟩) else f j) W := ⟨h.1, h.2.1, h.2.2.1, h.2.2.2.1, h.2.2.2.2.1, h.2.2.2.2.2.1, fun _ => ⟨q, rfl, hq, fun _ => hz, fun l => by have l : L 9 = true := l; rw [h9] at l; cases l⟩⟩
theorem SBox.put9 (h : SBox w0 a b D x L f W) (h8 : L 8 = true) {q : Nat} {hy : DH} (hq : f 8 = .pointer (some ⟨q, 0, none⟩)) (hz : ZBox W q) (h0 : w0.heap.size ≤ q) (hd : IsDfa W hy D) (u : Value) :
  SBox w0 a b D x (fun j => if j = 9 then true else L j) (fun j => if j = 9 then u else f j) (W.setRow q #[.int .i64 D.n, .int .i64 D.s, .slice hy.fa hy.fl hy.fc, .slice hy.aa hy.al hy.ac]) := by
 obtain ⟨g0, h1, h3, h4, h5, h6, -⟩ := h
 refine ⟨below_setRow g0 h0 _, fun l => ?_, fun l => ?_, fun l => ?_, fun l => ?_, fun l => ?_, fun _ => ⟨q, hq, h0, fun l => (by cases l), fun _ => ⟨hy, ?_, hd.apart hz⟩⟩⟩
 ·obtain ⟨h', e, i⟩ := h1 l; exact ⟨h', e, i.apart hz⟩
 ·obtain ⟨h', e, i⟩ := h3 l; exact ⟨h', e, i.apart hz⟩
 ·obtain ⟨h', e, i⟩ := h4 l; exact ⟨h', e, i.apart hz⟩
 ·obtain ⟨h', e, i⟩ := h5 l; exact ⟨h', e, i.apart hz⟩
 ·obtain ⟨h', e, i⟩ := h6 l; exact ⟨h', e, i.apart hz⟩
 ·exact setRow_heap W q _ _ _ _ hz
end
end Go.Proofs.Ytpcbmhfnefhenaa

set_option linter.unusedVariables false
set_option linter.unusedSectionVars false
namespace Go.Proofs.Ytpcbmhfnefhenaa

section
variable {α : Type} [DecidableEq α] {o : α → List (Int × α)} {s : α} {N : Nat}
theorem hG_at {Q : List α} {i : Nat} (hi : i < Q.length) : headArcs o Q i = (o Q[i]).map fun x => ⟨i, x.1, (Q.idxOf x.2 : Nat)⟩ := by
 unfold headArcs
 rw [List.getElem?_eq_getElem hi]
theorem hG_f {Q : List α} {i : Nat} {x : A3} (h : x ∈ headArcs o Q i) : x.f = i ∧ i < Q.length := by
 rcases Nat.lt_or_ge i Q.length with hi | hi
 ·rw [hG_at hi] at h
  obtain ⟨y, _, rfl⟩ := List.mem_map.1 h
  exact ⟨rfl, hi⟩
 ·unfold headArcs at h
  rw [List.getElem?_eq_none hi] at h
  simp at h
theorem lastG_mem (hl : (bq o s N).q.length ≤ N) {x : A3} : x ∈ (bq o s N).a ↔ ∃ i, ∃ hi : i < (bq o s N).q.length, x.f = i ∧ ∃ y ∈ o (bq o s N).q[i], x.l = y.1 ∧ x.t = ((bq o s N).q.idxOf y.2 : Nat) := by
 rw [bq_arcs, List.mem_flatMap]
 constructor
 ·rintro ⟨i, _, hx⟩
  have hf := hG_f hx
  rw [hG_at hf.2] at hx
  obtain ⟨z, hz, rfl⟩ := List.mem_map.1 hx
  exact ⟨i, hf.2, rfl, z, hz, rfl, rfl⟩
 ·rintro ⟨i, hi, h1, y, hy, h4, h5⟩
  refine ⟨i, List.mem_range.2 (by omega), ?_⟩
  rw [hG_at hi]
  exact List.mem_map.2 ⟨y, hy, by rw [← h1, ← h4, ← h5]⟩
theorem lastG_sorted (ha : ∀ q, (o q).Pairwise fun x y => x.1 < y.1) : SortedA (bq o s N).a := by
 unfold SortedA
 rw [bq_arcs, List.pairwise_flatMap]
 refine ⟨fun i _ => ?_, ?_⟩
 ·rcases Nat.lt_or_ge i (bq o s N).q.length with hi | hi
  ·rw [hG_at hi, List.pairwise_map]
   exact List.Pairwise.imp (fun h => .inr ⟨rfl, h⟩) (ha _)
  ·unfold headArcs
   rw [List.getElem?_eq_none hi]
   exact List.Pairwise.nil
 ·refine List.Pairwise.imp ?_ (List.pairwise_lt_range)
  intro i j hij x hx y hy
  have h1 := (hG_f hx).1
  have h2 := (hG_f hy).1
  exact .inl (by omega)
theorem lastG_closed (hl : (bq o s N).q.length ≤ N) {i : Nat} (hi : i < (bq o s N).q.length) : ∀ x ∈ o (bq o s N).q[i], x.2 ∈ (bq o s N).q :=
 bq_closed o s N i (by omega) _ (List.getElem?_eq_getElem hi)
theorem lastG_pos : 0 < (bq o s N).q.length := by
 have := (bq_pre o s (Nat.zero_le N)).length_le
 exact Nat.lt_of_lt_of_le (by show 0 < [s].length; simp) this
theorem lastG_start : (bq o s N).q[0]'lastG_pos = s := by
 have h := bq_pre o s (Nat.zero_le N)
 obtain ⟨h', hg⟩ := get_pre h (show 0 < (bq o s 0).q.length by show 0 < [s].length; simp)
 rw [hg]
 rfl
theorem bqG_alen {M : Nat} (hM : ∀ q, (o q).length ≤ M) : ∀ k, (bq o s k).a.length ≤ k * M
 | 0 => Nat.zero_le _
 | k + 1 => by
  have ih := bqG_alen hM k
  show (bqh o k (bq o s k)).a.length ≤ _
  generalize bq o s k = st at ih ⊢
  unfold bqh
  split
  ·rename_i y _
   have h3 := hM y
   rw [bqs_alen, Nat.succ_mul]
   omega
  ·rw [Nat.succ_mul]
   omega
theorem nxtG (hl : (bq o s N).q.length ≤ N) (ha : ∀ q, (o q).Pairwise fun x y => x.1 < y.1) {i : Nat} (hi : i < (bq o s N).q.length) {y : Int × α} (hy : y ∈ o (bq o s N).q[i]) : nxtD (bq o s N).a i y.1 = some ⟨i, y.1, ((bq o s N).q.idxOf y.2 : Nat)⟩ :=
 (nxtD_iff (lastG_sorted ha)).2 ⟨(lastG_mem hl).2 ⟨i, hi, rfl, y, hy, rfl, rfl⟩, rfl, rfl⟩
theorem nxtG_no (hl : (bq o s N).q.length ≤ N) {i : Nat} (hi : i < (bq o s N).q.length) {c : Int} (h : ∀ y ∈ o (bq o s N).q[i], y.1 ≠ c) : nxtD (bq o s N).a i c = none := by
 rw [nxtD_none_iff]
 intro x hx h1 h2
 obtain ⟨j, hj, e1, y, hy, e2, e3⟩ := (lastG_mem hl).1 hx
 obtain rfl : j = i := by omega
 exact h y hy (e2.symm.trans h2)
end
@[ext] structure P2 where
 a : Int
 b : Int
deriving DecidableEq
theorem pairs_le {q : List P2} {n m : Int} (hn : q.Nodup) (hq : ∀ x ∈ q, (0 ≤ x.a ∧ x.a < n) ∧ (0 ≤ x.b ∧ x.b < m)) : q.length ≤ n.toNat * m.toNat := by
 have := hn.length_le_of_subset (l₂ := (List.range n.toNat).flatMap fun (i : Nat) => (List.range m.toNat).map fun (j : Nat) => (⟨(i : Int), (j : Int)⟩ : P2)) fun x hx => by
  have := hq x hx
  refine List.mem_flatMap.2 ⟨x.a.toNat, List.mem_range.2 (by omega), List.mem_map.2 ⟨x.b.toNat, List.mem_range.2 (by omega), ?_⟩⟩
  apply P2.ext
  ·show ((x.a.toNat : Nat) : Int) = x.a; omega
  ·show ((x.b.toNat : Nat) : Int) = x.b; omega
 refine Nat.le_trans this (Nat.le_of_eq ?_)
 rw [List.length_flatMap]
 simp only [List.length_map, List.length_range, List.map_const', List.sum_replicate_nat]
def kp (b : Dfa) (q2 : Int) (l : List A3) : List (Int × P2) := l.filterMap fun x => (nxtD b.arcs q2 x.l).map fun y => (x.l, ⟨x.t, y.t⟩)
theorem kp_nil (b : Dfa) (q2 : Int) : kp b q2 [] = [] := rfl
theorem kp_take (b : Dfa) (q2 : Int) (l : List A3) {j : Nat} (hj : j < l.length) : kp b q2 (l.take (j + 1)) = kp b q2 (l.take j) ++ (match nxtD b.arcs q2 (g3 l j).l with | some y => [((g3 l j).l, ⟨(g3 l j).t, y.t⟩)] | none => []) := by
 rw [take_succ_g3 l j hj]
 unfold kp
 rw [List.filterMap_append]
 congr 1
 cases h : nxtD b.arcs q2 (g3 l j).l with
 | none => simp [h]
 | some y => simp [h]
theorem kp_len (b : Dfa) (q2 : Int) (l : List A3) : (kp b q2 l).length ≤ l.length := List.length_filterMap_le _ _
def oP (a b : Dfa) (q : P2) : List (Int × P2) := kp b q.b (outsD a.arcs q.a)
theorem oP_iff {a b : Dfa} {q : P2} {x : Int × P2} : x ∈ oP a b q ↔ ∃ y ∈ a.arcs, y.f = q.a ∧ ∃ z, nxtD b.arcs q.b y.l = some z ∧ x = (y.l, ⟨y.t, z.t⟩) := by
 unfold oP kp
 rw [List.mem_filterMap]
 constructor
 ·rintro ⟨y, hy, h⟩
  obtain ⟨h1, h2⟩ := outsD_mem.1 hy
  rw [Option.map_eq_some_iff] at h
  obtain ⟨z, hz, e⟩ := h
  exact ⟨y, h1, h2, z, hz, e.symm⟩
 ·rintro ⟨y, h1, h2, z, hz, e⟩
  exact ⟨y, outsD_mem.2 ⟨h1, h2⟩, by rw [hz, e]; rfl⟩
def InP (a b : Dfa) (q : P2) : Prop := InD a q.a ∧ InD b q.b
def resP (a b : Dfa) (st : Bq P2) : Dfa := ⟨st.q.length, 0, st.q.map fun q => gb a.fin q.a.toNat && gb b.fin q.b.toNat, st.a⟩
def nP (a b : Dfa) : Nat := a.n.toNat * b.n.toNat
def lastP (a b : Dfa) : Bq P2 := bq (oP a b) ⟨a.s, b.s⟩ (nP a b)
def prodD (a b : Dfa) : Dfa := resP a b (lastP a b)
section
variable {a b : Dfa}
theorem oP_asc (ha : ValidD a) (q : P2) : (oP a b q).Pairwise fun x y => x.1 < y.1 := by
 unfold oP kp
 rw [List.pairwise_filterMap]
 refine List.Pairwise.imp ?_ (outsD_asc ha.sorted q.a)
 intro x y h u hu v hv
 rw [Option.map_eq_some_iff] at hu hv
 obtain ⟨_, _, rfl⟩ := hu
 obtain ⟨_, _, rfl⟩ := hv
 exact h
theorem oP_in (ha : ValidD a) (hb : ValidD b) : ∀ y, InP a b y → ∀ x ∈ oP a b y, InP a b x.2 := fun y _ x hx => by
 obtain ⟨u, hu, _, z, hz, rfl⟩ := oP_iff.1 hx
 exact ⟨(ha.arc hu).1.2, (hb.arc (nxtD_mem hz).1).1.2⟩
theorem bqP_in (ha : ValidD a) (hb : ValidD b) (k : Nat) : ∀ y ∈ (bq (oP a b) ⟨a.s, b.s⟩ k).q, InP a b y := bq_all (P := InP a b) (show InP a b ⟨a.s, b.s⟩ from ⟨ha.2.1, hb.2.1⟩) (oP_in ha hb) k
theorem bqP_len (ha : ValidD a) (hb : ValidD b) (k : Nat) : (bq (oP a b) ⟨a.s, b.s⟩ k).q.length ≤ nP a b := pairs_le (bq_nodup _ _ k) (bqP_in ha hb k)
theorem bqP_fin (ha : ValidD a) (hb : ValidD b) {k : Nat} (h : (bq (oP a b) ⟨a.s, b.s⟩ k).q.length ≤ k) : bq (oP a b) ⟨a.s, b.s⟩ k = lastP a b := bq_fin _ _ h (bqP_len ha hb _)
theorem oP_len (q : P2) : (oP a b q).length ≤ a.arcs.length := Nat.le_trans (kp_len _ _ _) (outsD_len _ _)
theorem prodD_valid (ha : ValidD a) (hb : ValidD b) (hn : nP a b ≤ 1000) (hm : nP a b * a.arcs.length ≤ 20000) : ValidD (prodD a b) := by
 have hl := bqP_len ha hb (nP a b)
 have hp := lastG_pos (o := oP a b) (s := (⟨a.s, b.s⟩ : P2)) (N := nP a b)
 have hal := bqG_alen (s := (⟨a.s, b.s⟩ : P2)) (oP_len (a := a) (b := b)) (nP a b)
 have hs := lastG_sorted (s := (⟨a.s, b.s⟩ : P2)) (N := nP a b) (oP_asc (b := b) ha)
 refine ⟨⟨?_, ?_⟩, ⟨?_, ?_⟩, ?_, ?_, ?_⟩
 ·show (1 : Int) ≤ ((bq (oP a b) ⟨a.s, b.s⟩ (nP a b)).q.length : Nat); omega
 ·show (((bq (oP a b) ⟨a.s, b.s⟩ (nP a b)).q.length : Nat) : Int) ≤ 1000; omega
 ·exact Int.le_refl 0
 ·show (0 : Int) < ((bq (oP a b) ⟨a.s, b.s⟩ (nP a b)).q.length : Nat); omega
 ·show (((lastP a b).q.map fun q => gb a.fin q.a.toNat && gb b.fin q.b.toNat).length : Int) = _
  rw [List.length_map]
  rfl
 ·show (bq (oP a b) ⟨a.s, b.s⟩ (nP a b)).a.length ≤ 20000; omega
 ·show ∀ i, i < (lastP a b).a.length → ArcOk ((lastP a b).q.length : Nat) (lastP a b).a i
  intro i hi
  obtain ⟨j, hj, e1, y, hy, e2, e3⟩ := (lastG_mem hl).1 (g3_mem _ i hi)
  have hc := lastG_closed hl hj y hy
  have hx := List.idxOf_lt_length_of_mem hc
  obtain ⟨u, hu, _, z, hz, rfl⟩ := oP_iff.1 hy
  have hya := ha.arc hu
  refine ⟨⟨⟨by unfold lastP; omega, by unfold lastP; omega⟩, by unfold lastP; rw [e3]; omega, by unfold lastP; rw [e3]; exact Int.ofNat_lt.2 hx⟩, ⟨by unfold lastP; omega, by unfold lastP; omega⟩, fun h0 => hs.lt (by omega) hi⟩
theorem prodD_acc (ha : ValidD a) (hb : ValidD b) : ∀ (w : List Int) (i : Nat) (hi : i < (lastP a b).q.length), accQ (prodD a b) i w = (accQ a ((lastP a b).q[i]).a w && accQ b ((lastP a b).q[i]).b w)
 | [], i, hi => by
  rw [accQ_nil, accQ_nil, accQ_nil]
  show gb ((lastP a b).q.map fun q => gb a.fin q.a.toNat && gb b.fin q.b.toNat) _ = _
  rw [gb_eq _ _ (by rw [List.length_map]; simpa using hi)]
  simp
 | c :: w, i, hi => by
  have hl := bqP_len ha hb (nP a b)
  have hno : (∀ y ∈ oP a b (lastP a b).q[i], y.1 ≠ c) → accQ (prodD a b) i (c :: w) = false := fun h => accQ_none (d := prodD a b) (nxtG_no hl hi h) w
  cases h : nxtD a.arcs ((lastP a b).q[i]).a c with
  | none =>
   rw [accQ_none h, Bool.false_and]
   refine hno fun y hy e => ?_
   obtain ⟨u, hu, h1, z, hz, rfl⟩ := oP_iff.1 hy
   exact nxtD_none_iff.1 h u hu h1 e
  | some x =>
   cases h' : nxtD b.arcs ((lastP a b).q[i]).b c with
   | none =>
    rw [accQ_none h', Bool.and_false]
    refine hno fun y hy e => ?_
    obtain ⟨u, hu, h1, z, hz, rfl⟩ := oP_iff.1 hy
    rw [show u.l = c from e, h'] at hz
    cases hz
   | some z =>
    obtain ⟨hx1, hx2, hx3⟩ := nxtD_mem h
    have hy : (c, ⟨x.t, z.t⟩) ∈ oP a b (lastP a b).q[i] := oP_iff.2 ⟨x, hx1, hx2, z, by rw [hx3]; exact h', by rw [hx3]⟩
    have hm : (⟨x.t, z.t⟩ : P2) ∈ (lastP a b).q := lastG_closed hl hi _ hy
    have hlt := List.idxOf_lt_length_of_mem hm
    rw [accQ_some h, accQ_some h', accQ_some (d := prodD a b) (nxtG hl (oP_asc ha) hi hy)]
    show accQ (prodD a b) (((lastP a b).q.idxOf (⟨x.t, z.t⟩ : P2) : Nat) : Int) w = _
    rw [prodD_acc ha hb w _ hlt, List.getElem_idxOf]
theorem prodD_lang (ha : ValidD a) (hb : ValidD b) (w : List Int) : accQ (prodD a b) 0 w = (accQ a a.s w && accQ b b.s w) := by
 have := prodD_acc ha hb w 0 lastG_pos
 have hs : (lastP a b).q[0]'lastG_pos = (⟨a.s, b.s⟩ : P2) := lastG_start
 rw [hs] at this
 exact this
end
end Go.Proofs.Ytpcbmhfnefhenaa
