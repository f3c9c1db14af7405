import Derived.Test.YtpcbmhfnefhenaaMG7
/-
  DfaLa, DfaLb
-/
set_option linter.unusedVariables false
namespace Go.Proofs.Ytpcbmhfnefhenaa

theorem nxtD_iff {ar : List A3} (hS : SortedA ar) {q c : Int} {x : A3} : nxtD ar q c = some x ↔ x ∈ ar ∧ x.f = q ∧ x.l = c :=
 ⟨nxtD_mem, fun ⟨h1, h2, h3⟩ => by rw [← h2, ← h3]; exact nxtD_unique hS h1⟩
theorem nxtD_none_iff {ar : List A3} {q c : Int} : nxtD ar q c = none ↔ ∀ x ∈ ar, x.f = q → x.l ≠ c := by
 unfold nxtD
 rw [List.find?_eq_none]
 refine ⟨fun h x hx h1 h2 => h x hx (by simp [h1, h2]), fun h x hx hc => ?_⟩
 simp at hc
 exact h x hx hc.1 hc.2
theorem outsD_mem {ar : List A3} {q : Int} {x : A3} : x ∈ outsD ar q ↔ x ∈ ar ∧ x.f = q := by
 unfold outsD
 rw [List.mem_filter]
 simp
theorem outsD_asc {ar : List A3} (hS : SortedA ar) (q : Int) : (outsD ar q).Pairwise fun x y => x.l < y.l := by
 unfold outsD
 have h := List.Pairwise.filter (fun x => decide (x.f = q)) hS
 refine (List.pairwise_filter.2 (List.Pairwise.imp ?_ (List.pairwise_filter.1 h)))
 intro x y hxy h1 h2
 have := hxy h1 h2
 simp at h1 h2
 unfold LtA at this
 omega
section
variable {d : Dfa} {keep : List Bool}
theorem oD_asc (hS : SortedA d.arcs) (q : Int) : (oD d keep q).Pairwise fun x y => x.1 < y.1 := by
 unfold oD kd
 rw [List.pairwise_map]
 exact List.Pairwise.filter _ (outsD_asc hS q)
theorem oD_iff {q : Int} {x : Int × Int} : x ∈ oD d keep q ↔ ∃ y ∈ d.arcs, y.f = q ∧ y.l = x.1 ∧ y.t = x.2 ∧ gb keep y.t.toNat = true := by
 refine ⟨oD_mem, fun ⟨y, hy, h1, h2, h3, h4⟩ => ?_⟩
 unfold oD kd
 exact List.mem_map.2 ⟨y, List.mem_filter.2 ⟨outsD_mem.2 ⟨hy, h1⟩, h4⟩, by rw [h2, h3]⟩
def lastD (d : Dfa) (keep : List Bool) : Bq Int := bq (oD d keep) d.s d.n.toNat
theorem lastD_len (hv : ValidD d) : (lastD d keep).q.length ≤ d.n.toNat := bqD_len hv keep _
theorem lastD_pos : 0 < (lastD d keep).q.length := by
 have := (bq_pre (oD d keep) d.s (Nat.zero_le d.n.toNat)).length_le
 exact Nat.lt_of_lt_of_le (by show 0 < [d.s].length; simp) this
theorem lastD_start : gi (lastD d keep).q 0 = d.s := by
 have h := bq_pre (oD d keep) d.s (Nat.zero_le d.n.toNat)
 obtain ⟨h', hg⟩ := get_pre h (show 0 < (bq (oD d keep) d.s 0).q.length by show 0 < [d.s].length; simp)
 unfold lastD
 rw [gi_eq _ _ h', hg]
 rfl
theorem lastD_closed (hv : ValidD d) {i : Nat} (hi : i < (lastD d keep).q.length) : ∀ x ∈ oD d keep (gi (lastD d keep).q i), x.2 ∈ (lastD d keep).q := by
 have h1 := lastD_len (keep := keep) hv
 rw [gi_eq _ _ hi]
 exact bq_closed (oD d keep) d.s d.n.toNat i (by unfold lastD at hi h1; omega) _ (List.getElem?_eq_getElem hi)
theorem lastD_arcs : (lastD d keep).a = (List.range d.n.toNat).flatMap (headArcs (oD d keep) (lastD d keep).q) := bq_arcs _ _ _
theorem headArcs_at {i : Nat} (hi : i < (lastD d keep).q.length) : headArcs (oD d keep) (lastD d keep).q i = (oD d keep (gi (lastD d keep).q i)).map fun x => ⟨i, x.1, ((lastD d keep).q.idxOf x.2 : Nat)⟩ := by
 unfold headArcs
 rw [List.getElem?_eq_getElem hi, gi_eq _ _ hi]
theorem headArcs_f {i : Nat} {x : A3} (h : x ∈ headArcs (oD d keep) (lastD d keep).q i) : x.f = i ∧ i < (lastD d keep).q.length := by
 rcases Nat.lt_or_ge i (lastD d keep).q.length with hi | hi
 ·rw [headArcs_at hi] at h
  obtain ⟨y, _, rfl⟩ := List.mem_map.1 h
  exact ⟨rfl, hi⟩
 ·unfold headArcs at h
  rw [List.getElem?_eq_none hi] at h
  simp at h
theorem lastD_mem (hv : ValidD d) {x : A3} : x ∈ (lastD d keep).a ↔ ∃ i, i < (lastD d keep).q.length ∧ x.f = i ∧ ∃ y ∈ d.arcs, y.f = gi (lastD d keep).q i ∧ gb keep y.t.toNat = true ∧ x.l = y.l ∧ x.t = ((lastD d keep).q.idxOf y.t : Nat) := by
 rw [lastD_arcs, List.mem_flatMap]
 constructor
 ·rintro ⟨i, _, hx⟩
  have hf := headArcs_f hx
  rw [headArcs_at hf.2] at hx
  obtain ⟨z, hz, rfl⟩ := List.mem_map.1 hx
  obtain ⟨y, hy, h1, h2, h3, h4⟩ := oD_iff.1 hz
  exact ⟨i, hf.2, rfl, y, hy, h1, h4, h2.symm, by rw [h3]⟩
 ·rintro ⟨i, hi, h1, y, hy, h2, h3, h4, h5⟩
  have := lastD_len (keep := keep) hv
  refine ⟨i, List.mem_range.2 (by omega), ?_⟩
  rw [headArcs_at hi]
  exact List.mem_map.2 ⟨(y.l, y.t), oD_iff.2 ⟨y, hy, h2, rfl, rfl, h3⟩, by rw [← h1, ← h4, ← h5]⟩
theorem lastD_sorted (hv : ValidD d) : SortedA (lastD d keep).a := by
 unfold SortedA
 rw [lastD_arcs, List.pairwise_flatMap]
 refine ⟨fun i _ => ?_, ?_⟩
 ·rcases Nat.lt_or_ge i (lastD d keep).q.length with hi | hi
  ·rw [headArcs_at hi, List.pairwise_map]
   exact List.Pairwise.imp (fun h => .inr ⟨rfl, h⟩) (oD_asc hv.sorted _)
  ·unfold headArcs
   rw [List.getElem?_eq_none hi]
   exact List.Pairwise.nil
 ·refine List.Pairwise.imp ?_ (List.pairwise_lt_range)
  intro i j hij x hx y hy
  have h1 := (headArcs_f hx).1
  have h2 := (headArcs_f hy).1
  exact .inl (by omega)
theorem outsD_last (hv : ValidD d) {i : Nat} (hi : i < (lastD d keep).q.length) : outsD (lastD d keep).a i = (oD d keep (gi (lastD d keep).q i)).map fun x => ⟨i, x.1, ((lastD d keep).q.idxOf x.2 : Nat)⟩ := by
 have hl := lastD_len (keep := keep) hv
 rw [← headArcs_at hi]
 unfold outsD
 rw [lastD_arcs, List.filter_flatMap]
 have hsplit : List.range d.n.toNat = List.range i ++ (i :: (List.range' (i + 1) (d.n.toNat - (i + 1)))) := by
  rw [List.range_eq_range', List.range_eq_range', ← List.range'_succ]
  have := List.range'_append_1 (s := 0) (m := i) (n := d.n.toNat - i)
  rw [show d.n.toNat - (i + 1) + 1 = d.n.toNat - i by omega, Nat.zero_add] at *
  rw [this, show i + (d.n.toNat - i) = d.n.toNat by omega]
 have hno : ∀ j, j ≠ i → (headArcs (oD d keep) (lastD d keep).q j).filter (fun x => decide (x.f = (i : Int))) = [] := fun j hj => by
  rw [List.filter_eq_nil_iff]
  intro x hx
  have := (headArcs_f hx).1
  simp
  omega
 have hyes : (headArcs (oD d keep) (lastD d keep).q i).filter (fun x => decide (x.f = (i : Int))) = headArcs (oD d keep) (lastD d keep).q i := by
  rw [List.filter_eq_self]
  intro x hx
  have := (headArcs_f hx).1
  simp
  omega
 rw [hsplit, List.flatMap_append, List.flatMap_cons, hyes]
 have h1 : (List.range i).flatMap (fun j => (headArcs (oD d keep) (lastD d keep).q j).filter (fun x => decide (x.f = (i : Int)))) = [] := by
  rw [List.flatMap_eq_nil_iff]
  intro j hj
  exact hno j (by have := List.mem_range.1 hj; omega)
 have h2 : (List.range' (i + 1) (d.n.toNat - (i + 1))).flatMap (fun j => (headArcs (oD d keep) (lastD d keep).q j).filter (fun x => decide (x.f = (i : Int)))) = [] := by
  rw [List.flatMap_eq_nil_iff]
  intro j hj
  exact hno j (by have := List.mem_range'_1.1 hj; omega)
 rw [h1, h2]
 simp
theorem lastD_alen (hv : ValidD d) : (lastD d keep).a.length ≤ d.arcs.length := by
 have hn : ((lastD d keep).q.flatMap fun q => (outsD d.arcs q).filter fun x => gb keep x.t.toNat).Nodup := by
  rw [List.nodup_iff_pairwise_ne, List.pairwise_flatMap]
  have hd : d.arcs.Nodup := List.Pairwise.imp (fun h e => by subst e; exact LtA.irrefl h) hv.sorted
  refine ⟨fun q _ => (hd.filter _).filter _, ?_⟩
  refine List.Pairwise.imp ?_ (List.nodup_iff_pairwise_ne.1 (bq_nodup (oD d keep) d.s d.n.toNat))
  intro p q hpq x hx y hy e
  subst e
  have h1 := (outsD_mem.1 (List.mem_filter.1 hx).1).2
  have h2 := (outsD_mem.1 (List.mem_filter.1 hy).1).2
  exact hpq (h1.symm.trans h2)
 have hs : ((lastD d keep).q.flatMap fun q => (outsD d.arcs q).filter fun x => gb keep x.t.toNat) ⊆ d.arcs := fun x hx => by
  obtain ⟨q, _, h⟩ := List.mem_flatMap.1 hx
  exact (outsD_mem.1 (List.mem_filter.1 h).1).1
 have h1 := hn.length_le_of_subset hs
 have h2 : (lastD d keep).a.length = ((lastD d keep).q.flatMap fun q => (outsD d.arcs q).filter fun x => gb keep x.t.toNat).length := by
  rw [lastD_arcs, List.length_flatMap, List.length_flatMap]
  have hl := lastD_len (keep := keep) hv
  have hlen : ∀ i, (headArcs (oD d keep) (lastD d keep).q i).length = (((lastD d keep).q[i]?).map fun q => ((outsD d.arcs q).filter fun x => gb keep x.t.toNat).length).getD 0 := fun i => by
   unfold headArcs
   cases h : (lastD d keep).q[i]? with
   | none => rfl
   | some q => simp [oD, kd]
  rw [List.map_congr_left (fun i _ => hlen i)]
  generalize (lastD d keep).q = Q at hl
  generalize d.n.toNat = N at hl
  clear hlen h1 hs hn
  generalize (fun q => ((outsD d.arcs q).filter fun x => gb keep x.t.toNat).length) = F
  induction Q generalizing N with
  | nil =>
   have : ∀ M : Nat, ((List.range M).map fun _ => 0).sum = 0 := fun M => by
    induction M with
    | zero => rfl
    | succ M ih => rw [List.range_succ, List.map_append, List.sum_append, ih]; rfl
   simpa using this N
  | cons q Q ih =>
   cases N with
   | zero => simp at hl
   | succ N =>
    rw [List.range_succ_eq_map, List.map_cons, List.sum_cons, List.map_map]
    have := ih N (by simpa using hl)
    simp only [List.map_cons, List.sum_cons, ← this]
    congr 1
 omega
theorem numD_valid (hv : ValidD d) : ValidD (numD d keep) := by
 have hl := lastD_len (keep := keep) hv
 have hp := lastD_pos (d := d) (keep := keep)
 have ha := lastD_alen (keep := keep) hv
 have hs := lastD_sorted (keep := keep) hv
 obtain ⟨h1, h2, h3, h4, h5⟩ := hv
 have hv : ValidD d := ⟨h1, h2, h3, h4, h5⟩
 refine ⟨⟨?_, ?_⟩, ⟨?_, ?_⟩, ?_, ?_, ?_⟩
 ·show (1 : Int) ≤ ((lastD d keep).q.length : Nat); omega
 ·show (((lastD d keep).q.length : Nat) : Int) ≤ 1000; omega
 ·exact Int.le_refl 0
 ·show (0 : Int) < ((lastD d keep).q.length : Nat); omega
 ·show (((lastD d keep).q.map fun q => gb d.fin q.toNat).length : Int) = _
  rw [List.length_map]
  rfl
 ·show (lastD d keep).a.length ≤ 20000; omega
 ·show ∀ i, i < (lastD d keep).a.length → ArcOk ((lastD d keep).q.length : Nat) (lastD d keep).a i
  intro i hi
  obtain ⟨j, hj, e1, y, hy, e2, e3, e4, e5⟩ := (lastD_mem hv).1 (g3_mem _ i hi)
  have hc := lastD_closed hv hj (y.l, y.t) (oD_iff.2 ⟨y, hy, e2, rfl, rfl, e3⟩)
  have hx := List.idxOf_lt_length_of_mem hc
  have hya := hv.arc hy
  refine ⟨⟨⟨by omega, by omega⟩, by rw [e5]; omega, by rw [e5]; exact Int.ofNat_lt.2 hx⟩, ⟨by omega, by omega⟩, fun h0 => hs.lt (by omega) hi⟩
theorem nxt_num (hv : ValidD d) {i : Nat} (hi : i < (lastD d keep).q.length) (c : Int) {x : A3} (h : nxtD d.arcs (gi (lastD d keep).q i) c = some x) (hk : gb keep x.t.toNat = true) :
  x.t ∈ (lastD d keep).q ∧ nxtD (lastD d keep).a i c = some ⟨i, c, ((lastD d keep).q.idxOf x.t : Nat)⟩ := by
 obtain ⟨h1, h2, h3⟩ := nxtD_mem h
 refine ⟨lastD_closed hv hi (x.l, x.t) (oD_iff.2 ⟨x, h1, h2, rfl, rfl, hk⟩), ?_⟩
 exact (nxtD_iff (lastD_sorted hv)).2 ⟨(lastD_mem hv).2 ⟨i, hi, rfl, x, h1, h2, hk, h3.symm, rfl⟩, rfl, rfl⟩
theorem nxt_num_no (hv : ValidD d) {i : Nat} (hi : i < (lastD d keep).q.length) (c : Int) (h : ∀ x, nxtD d.arcs (gi (lastD d keep).q i) c = some x → gb keep x.t.toNat = false) : nxtD (lastD d keep).a i c = none := by
 rw [nxtD_none_iff]
 intro x hx h1 h2
 obtain ⟨j, hj, e1, y, hy, e2, e3, e4, e5⟩ := (lastD_mem hv).1 hx
 obtain rfl : j = i := by omega
 have := h y ((nxtD_iff hv.sorted).2 ⟨hy, e2, by omega⟩)
 rw [this] at e3
 cases e3
theorem numD_acc (hv : ValidD d) (hk : ∀ x ∈ d.arcs, gb keep x.t.toNat = false → ∀ w, accQ d x.t w = false) : ∀ (w : List Int) (i : Nat), i < (lastD d keep).q.length → accQ (numD d keep) i w = accQ d (gi (lastD d keep).q i) w
 | [], i, hi => by
  rw [accQ_nil, accQ_nil]
  show gb ((lastD d keep).q.map fun q => gb d.fin q.toNat) _ = _
  rw [gb_eq _ _ (by rw [List.length_map]; simpa using hi), gi_eq _ _ hi]
  simp
 | c :: w, i, hi => by
  cases h : nxtD d.arcs (gi (lastD d keep).q i) c with
  | none =>
   rw [accQ_none h, accQ_none (nxt_num_no (keep := keep) hv hi c fun x hx => by rw [h] at hx; cases hx)]
  | some x =>
   rw [accQ_some h]
   cases hx : gb keep x.t.toNat with
   | false =>
    rw [hk x (nxtD_mem h).1 hx, accQ_none (nxt_num_no (keep := keep) hv hi c fun y hy => by rw [h] at hy; injection hy with hy; rw [← hy]; exact hx)]
   | true =>
    obtain ⟨hm, hn⟩ := nxt_num hv hi c h hx
    rw [accQ_some (d := numD d keep) hn]
    have hlt := List.idxOf_lt_length_of_mem hm
    show accQ (numD d keep) (((lastD d keep).q.idxOf x.t : Nat) : Int) w = _
    rw [numD_acc hv hk w _ hlt, gi_eq _ _ hlt, List.getElem_idxOf]
end
end Go.Proofs.Ytpcbmhfnefhenaa

set_option linter.unusedVariables false
namespace Go.Proofs.Ytpcbmhfnefhenaa
open Classical

def Lang := List Int → Bool
def dv (L : Lang) (c : Int) : Lang := fun w => L (c :: w)
noncomputable instance : DecidableEq Lang := fun a b => Classical.propDecidable (a = b)
def lets (n : Nat) : List Int := (List.range n).map Int.ofNat
noncomputable def oL (L : Lang) : List (Int × Lang) := ((lets 10001).filter fun c => decide (∃ w, dv L c w = true)).map fun c => (c, dv L c)
noncomputable def lastL (L : Lang) : Bq Lang := bq oL L 1000
noncomputable def minL (L : Lang) : Dfa := ⟨((lastL L).q.length : Nat), 0, (lastL L).q.map fun K => K [], (lastL L).a⟩
theorem asc_ext {xs ys : List Int} (hx : xs.Pairwise (· < ·)) (hy : ys.Pairwise (· < ·)) (h : ∀ z, z ∈ xs ↔ z ∈ ys) : xs = ys := by
 induction xs generalizing ys with
 | nil =>
  cases ys with
  | nil => rfl
  | cons y ys => exact absurd ((h y).2 List.mem_cons_self) List.not_mem_nil
 | cons x xs ih =>
  cases ys with
  | nil => exact absurd ((h x).1 List.mem_cons_self) List.not_mem_nil
  | cons y ys =>
   have hx' := List.pairwise_cons.1 hx
   have hy' := List.pairwise_cons.1 hy
   have e : x = y := by
    rcases List.mem_cons.1 ((h x).1 List.mem_cons_self) with h1 | h1
    ·exact h1
    ·rcases List.mem_cons.1 ((h y).2 List.mem_cons_self) with h2 | h2
     ·exact h2.symm
     ·have := hy'.1 x h1; have := hx'.1 y h2; omega
   subst e
   rw [ih hx'.2 hy'.2 fun z => ?_]
   constructor
   ·intro hz
    rcases List.mem_cons.1 ((h z).1 (List.mem_cons_of_mem _ hz)) with h1 | h1
    ·subst h1; exact absurd (hx'.1 z hz) (Int.lt_irrefl _)
    ·exact h1
   ·intro hz
    rcases List.mem_cons.1 ((h z).2 (List.mem_cons_of_mem _ hz)) with h1 | h1
    ·subst h1; exact absurd (hy'.1 z hz) (Int.lt_irrefl _)
    ·exact h1
theorem lets_asc (n : Nat) : (lets n).Pairwise (· < ·) := by
 unfold lets
 rw [List.pairwise_map]
 exact List.Pairwise.imp (fun h => Int.ofNat_lt.2 h) List.pairwise_lt_range
theorem lets_mem (n : Nat) (c : Int) : c ∈ lets n ↔ 0 ≤ c ∧ c < n := by
 unfold lets
 rw [List.mem_map]
 constructor
 ·rintro ⟨a, ha, rfl⟩
  have := List.mem_range.1 ha
  exact ⟨Int.natCast_nonneg a, Int.ofNat_lt.2 this⟩
 ·rintro ⟨h0, h1⟩
  exact ⟨c.toNat, List.mem_range.2 (by omega), by show ((c.toNat : Nat) : Int) = c; omega⟩
theorem oL_eq {L : Lang} {zs : List Int} (hz : zs.Pairwise (· < ·)) (hr : ∀ c ∈ zs, 0 ≤ c ∧ c ≤ 10000) (h : ∀ c, c ∈ zs ↔ (0 ≤ c ∧ c ≤ 10000) ∧ ∃ w, dv L c w = true) : oL L = zs.map fun c => (c, dv L c) := by
 have key : (lets 10001).filter (fun c => decide (∃ w, dv L c w = true)) = zs := by
  refine asc_ext (List.Pairwise.filter _ (lets_asc _)) hz fun c => ?_
  rw [h c, List.mem_filter, lets_mem, decide_eq_true_eq]
  exact ⟨fun ⟨h1, h2⟩ => ⟨by omega, h2⟩, fun ⟨h1, h2⟩ => ⟨by omega, h2⟩⟩
 unfold oL
 rw [key]
def lgD (d : Dfa) (q : Int) : Lang := accQ d q
theorem dv_some {d : Dfa} {q c : Int} {x : A3} (h : nxtD d.arcs q c = some x) : dv (lgD d q) c = lgD d x.t := by
 funext w
 exact accQ_some h w
theorem dv_none {d : Dfa} {q c : Int} (h : nxtD d.arcs q c = none) (w : List Int) : dv (lgD d q) c w = false := accQ_none h w
def Useful (d : Dfa) : Prop := ∀ x ∈ d.arcs, ∃ w, accQ d x.t w = true
theorem oL_lgD {d : Dfa} (hS : SortedA d.arcs) (hl : ∀ x ∈ d.arcs, 1 ≤ x.l ∧ x.l ≤ 10000) (hu : Useful d) (q : Int) : oL (lgD d q) = (outsD d.arcs q).map fun x => (x.l, lgD d x.t) := by
 have hasc : ((outsD d.arcs q).map fun x => x.l).Pairwise (· < ·) := by
  rw [List.pairwise_map]
  exact outsD_asc hS q
 have hlr : ∀ c ∈ (outsD d.arcs q).map (fun x => x.l), 0 ≤ c ∧ c ≤ 10000 := fun c hc => by
  obtain ⟨x, hx, rfl⟩ := List.mem_map.1 hc
  have := hl x (outsD_mem.1 hx).1
  omega
 rw [oL_eq hasc hlr fun c => ?_, List.map_map]
 ·refine List.map_congr_left fun x hx => ?_
  obtain ⟨h1, h2⟩ := outsD_mem.1 hx
  show (x.l, dv (lgD d q) x.l) = (x.l, lgD d x.t)
  rw [dv_some ((nxtD_iff hS).2 ⟨h1, h2, rfl⟩)]
 ·constructor
  ·intro hc
   refine ⟨hlr c hc, ?_⟩
   obtain ⟨x, hx, rfl⟩ := List.mem_map.1 hc
   obtain ⟨h1, h2⟩ := outsD_mem.1 hx
   obtain ⟨w, hw⟩ := hu x h1
   exact ⟨w, by rw [dv_some ((nxtD_iff hS).2 ⟨h1, h2, rfl⟩)]; exact hw⟩
  ·rintro ⟨_, w, hw⟩
   cases h : nxtD d.arcs q c with
   | none => rw [dv_none h] at hw; cases hw
   | some x =>
    obtain ⟨h1, h2, h3⟩ := nxtD_mem h
    exact List.mem_map.2 ⟨x, outsD_mem.2 ⟨h1, h2⟩, h3⟩
theorem bq_lang {d : Dfa} (hS : SortedA d.arcs) (hl : ∀ x ∈ d.arcs, 1 ≤ x.l ∧ x.l ≤ 10000) (hu : Useful d) {o : Int → List (Int × Int)} {s : Int} (r : Int → Int) (P : Int → Prop) (hs : P s)
  (ho : ∀ y, P y → ∀ x ∈ o y, P x.2) (hinj : ∀ x y, P x → P y → lgD d (r x) = lgD d (r y) → x = y)
  (he : ∀ y, P y → (o y).map (fun x => (x.1, lgD d (r x.2))) = (outsD d.arcs (r y)).map fun x => (x.l, lgD d x.t)) (k : Nat) :
  bq oL (lgD d (r s)) k = ⟨(bq o s k).q.map fun q => lgD d (r q), (bq o s k).w, (bq o s k).a⟩ :=
 bq_map (fun q => lgD d (r q)) P hs ho hinj (fun y hy => by rw [oL_lgD hS hl hu, ← he y hy]) k
end Go.Proofs.Ytpcbmhfnefhenaa
