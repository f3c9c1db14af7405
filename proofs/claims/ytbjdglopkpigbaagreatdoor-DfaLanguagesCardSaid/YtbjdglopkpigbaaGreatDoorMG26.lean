import Derived.Test.YtbjdglopkpigbaaGreatDoorMG25
/-
  DfaLa, DfaLb, DfaMi
-/
set_option linter.unusedVariables false
namespace Go.Proofs.YtbjdglopkpigbaaGreatDoor
theorem nxtD_iff {ar : List A3} (hS : SortedA ar) {q c : Int} {x : A3} : nxtD ar q c = some x ↔ x ∈ ar ∧ x.f = q ∧ x.l = c :=
 ⟨nxtD_mem, fun ⟨h1, h2, h3⟩ => by rw [← h2, ← h3]; exact nxtD_unique hS h1⟩
theorem nxtD_none_iff {ar : List A3} {q c : Int} : nxtD ar q c = none ↔ ∀ x ∈ ar, x.f = q → x.l ≠ c := by
 unfold nxtD
 rw [List.find?_eq_none]
 refine ⟨fun h x hx h1 h2 => h x hx (by simp [h1, h2]), fun h x hx hc => ?_⟩
 simp at hc
 exact h x hx hc.1 hc.2
theorem outsD_mem {ar : List A3} {q : Int} {x : A3} : x ∈ outsD ar q ↔ x ∈ ar ∧ x.f = q := by
 unfold outsD
 rw [List.mem_filter]
 simp
theorem outsD_asc {ar : List A3} (hS : SortedA ar) (q : Int) : (outsD ar q).Pairwise fun x y => x.l < y.l := by
 unfold outsD
 have h := List.Pairwise.filter (fun x => decide (x.f = q)) hS
 refine (List.pairwise_filter.2 (List.Pairwise.imp ?_ (List.pairwise_filter.1 h)))
 intro x y hxy h1 h2
 have := hxy h1 h2
 simp at h1 h2
 unfold LtA at this
 omega
section
variable {d : Dfa} {keep : List Bool}
theorem oD_asc (hS : SortedA d.arcs) (q : Int) : (oD d keep q).Pairwise fun x y => x.1 < y.1 := by
 unfold oD kd
 rw [List.pairwise_map]
 exact List.Pairwise.filter _ (outsD_asc hS q)
theorem oD_iff {q : Int} {x : Int × Int} : x ∈ oD d keep q ↔ ∃ y ∈ d.arcs, y.f = q ∧ y.l = x.1 ∧ y.t = x.2 ∧ gb keep y.t.toNat = true := by
 refine ⟨oD_mem, fun ⟨y, hy, h1, h2, h3, h4⟩ => ?_⟩
 unfold oD kd
 exact List.mem_map.2 ⟨y, List.mem_filter.2 ⟨outsD_mem.2 ⟨hy, h1⟩, h4⟩, by rw [h2, h3]⟩
def lastD (d : Dfa) (keep : List Bool) : Bq Int := bq (oD d keep) d.s d.n.toNat
theorem lastD_len (hv : ValidD d) : (lastD d keep).q.length ≤ d.n.toNat := bqD_len hv keep _
theorem lastD_pos : 0 < (lastD d keep).q.length := by
 have := (bq_pre (oD d keep) d.s (Nat.zero_le d.n.toNat)).length_le
 exact Nat.lt_of_lt_of_le (by show 0 < [d.s].length; simp) this
theorem lastD_start : gi (lastD d keep).q 0 = d.s := by
 have h := bq_pre (oD d keep) d.s (Nat.zero_le d.n.toNat)
 obtain ⟨h', hg⟩ := get_pre h (show 0 < (bq (oD d keep) d.s 0).q.length by show 0 < [d.s].length; simp)
 unfold lastD
 rw [gi_eq _ _ h', hg]
 rfl
theorem lastD_closed (hv : ValidD d) {i : Nat} (hi : i < (lastD d keep).q.length) : ∀ x ∈ oD d keep (gi (lastD d keep).q i), x.2 ∈ (lastD d keep).q := by
 have h1 := lastD_len (keep := keep) hv
 rw [gi_eq _ _ hi]
 exact bq_closed (oD d keep) d.s d.n.toNat i (by unfold lastD at hi h1; omega) _ (List.getElem?_eq_getElem hi)
theorem lastD_arcs : (lastD d keep).a = (List.range d.n.toNat).flatMap (headArcs (oD d keep) (lastD d keep).q) := bq_arcs _ _ _
theorem headArcs_at {i : Nat} (hi : i < (lastD d keep).q.length) : headArcs (oD d keep) (lastD d keep).q i = (oD d keep (gi (lastD d keep).q i)).map fun x => ⟨i, x.1, ((lastD d keep).q.idxOf x.2 : Nat)⟩ := by
 unfold headArcs
 rw [List.getElem?_eq_getElem hi, gi_eq _ _ hi]
theorem headArcs_f {i : Nat} {x : A3} (h : x ∈ headArcs (oD d keep) (lastD d keep).q i) : x.f = i ∧ i < (lastD d keep).q.length := by
 rcases Nat.lt_or_ge i (lastD d keep).q.length with hi | hi
 ·rw [headArcs_at hi] at h
  obtain ⟨y, _, rfl⟩ := List.mem_map.1 h
  exact ⟨rfl, hi⟩
 ·unfold headArcs at h
  rw [List.getElem?_eq_none hi] at h
  simp at h
theorem lastD_mem (hv : ValidD d) {x : A3} : x ∈ (lastD d keep).a ↔ ∃ i, i < (lastD d keep).q.length ∧ x.f = i ∧ ∃ y ∈ d.arcs, y.f = gi (lastD d keep).q i ∧ gb keep y.t.toNat = true ∧ x.l = y.l ∧ x.t = ((lastD d keep).q.idxOf y.t : Nat) := by
 rw [lastD_arcs, List.mem_flatMap]
 constructor
 ·rintro ⟨i, _, hx⟩
  have hf := headArcs_f hx
  rw [headArcs_at hf.2] at hx
  obtain ⟨z, hz, rfl⟩ := List.mem_map.1 hx
  obtain ⟨y, hy, h1, h2, h3, h4⟩ := oD_iff.1 hz
  exact ⟨i, hf.2, rfl, y, hy, h1, h4, h2.symm, by rw [h3]⟩
 ·rintro ⟨i, hi, h1, y, hy, h2, h3, h4, h5⟩
  have := lastD_len (keep := keep) hv
  refine ⟨i, List.mem_range.2 (by omega), ?_⟩
  rw [headArcs_at hi]
  exact List.mem_map.2 ⟨(y.l, y.t), oD_iff.2 ⟨y, hy, h2, rfl, rfl, h3⟩, by rw [← h1, ← h4, ← h5]⟩
theorem lastD_sorted (hv : ValidD d) : SortedA (lastD d keep).a := by
 unfold SortedA
 rw [lastD_arcs, List.pairwise_flatMap]
 refine ⟨fun i _ => ?_, ?_⟩
 ·rcases Nat.lt_or_ge i (lastD d keep).q.length with hi | hi
  ·rw [headArcs_at hi, List.pairwise_map]
   exact List.Pairwise.imp (fun h => .inr ⟨rfl, h⟩) (oD_asc hv.sorted _)
  ·unfold headArcs
   rw [List.getElem?_eq_none hi]
   exact List.Pairwise.nil
 ·refine List.Pairwise.imp ?_ (List.pairwise_lt_range)
  intro i j hij x hx y hy
  have h1 := (headArcs_f hx).1
  have h2 := (headArcs_f hy).1
  exact .inl (by omega)
theorem lastD_alen (hv : ValidD d) : (lastD d keep).a.length ≤ d.arcs.length := by
 have hn : ((lastD d keep).q.flatMap fun q => (outsD d.arcs q).filter fun x => gb keep x.t.toNat).Nodup := by
  rw [List.nodup_iff_pairwise_ne, List.pairwise_flatMap]
  have hd : d.arcs.Nodup := List.Pairwise.imp (fun h e => by subst e; exact LtA.irrefl h) hv.sorted
  refine ⟨fun q _ => (hd.filter _).filter _, ?_⟩
  refine List.Pairwise.imp ?_ (List.nodup_iff_pairwise_ne.1 (bq_nodup (oD d keep) d.s d.n.toNat))
  intro p q hpq x hx y hy e
  subst e
  have h1 := (outsD_mem.1 (List.mem_filter.1 hx).1).2
  have h2 := (outsD_mem.1 (List.mem_filter.1 hy).1).2
  exact hpq (h1.symm.trans h2)
 have hs : ((lastD d keep).q.flatMap fun q => (outsD d.arcs q).filter fun x => gb keep x.t.toNat) ⊆ d.arcs := fun x hx => by
  obtain ⟨q, _, h⟩ := List.mem_flatMap.1 hx
  exact (outsD_mem.1 (List.mem_filter.1 h).1).1
 have h1 := hn.length_le_of_subset hs
 have h2 : (lastD d keep).a.length = ((lastD d keep).q.flatMap fun q => (outsD d.arcs q).filter fun x => gb keep x.t.toNat).length := by
  rw [lastD_arcs, List.length_flatMap, List.length_flatMap]
  have hl := lastD_len (keep := keep) hv
  have hlen : ∀ i, (headArcs (oD d keep) (lastD d keep).q i).length = (((lastD d keep).q[i]?).map fun q => ((outsD d.arcs q).filter fun x => gb keep x.t.toNat).length).getD 0 := fun i => by
   unfold headArcs
   cases h : (lastD d keep).q[i]? with
   | none => rfl
   | some q => simp [oD, kd]
  rw [List.map_congr_left (fun i _ => hlen i)]
  generalize (lastD d keep).q = Q at hl
  generalize d.n.toNat = N at hl
  clear hlen h1 hs hn
  generalize (fun q => ((outsD d.arcs q).filter fun x => gb keep x.t.toNat).length) = F
  induction Q generalizing N with
  | nil =>
   have : ∀ M : Nat, ((List.range M).map fun _ => 0).sum = 0 := fun M => by
    induction M with
    | zero => rfl
    | succ M ih => rw [List.range_succ, List.map_append, List.sum_append, ih]; rfl
   simpa using this N
  | cons q Q ih =>
   cases N with
   | zero => simp at hl
   | succ N =>
    rw [List.range_succ_eq_map, List.map_cons, List.sum_cons, List.map_map]
    have := ih N (by simpa using hl)
    simp only [List.map_cons, List.sum_cons, ← this]
    congr 1
 omega
theorem numD_valid (hv : ValidD d) : ValidD (numD d keep) := by
 have hl := lastD_len (keep := keep) hv
 have hp := lastD_pos (d := d) (keep := keep)
 have ha := lastD_alen (keep := keep) hv
 have hs := lastD_sorted (keep := keep) hv
 obtain ⟨h1, h2, h3, h4, h5⟩ := hv
 have hv : ValidD d := ⟨h1, h2, h3, h4, h5⟩
 refine ⟨⟨?_, ?_⟩, ⟨?_, ?_⟩, ?_, ?_, ?_⟩
 ·show (1 : Int) ≤ ((lastD d keep).q.length : Nat); omega
 ·show (((lastD d keep).q.length : Nat) : Int) ≤ 1000; omega
 ·exact Int.le_refl 0
 ·show (0 : Int) < ((lastD d keep).q.length : Nat); omega
 ·show (((lastD d keep).q.map fun q => gb d.fin q.toNat).length : Int) = _
  rw [List.length_map]
  rfl
 ·show (lastD d keep).a.length ≤ 20000; omega
 ·show ∀ i, i < (lastD d keep).a.length → ArcOk ((lastD d keep).q.length : Nat) (lastD d keep).a i
  intro i hi
  obtain ⟨j, hj, e1, y, hy, e2, e3, e4, e5⟩ := (lastD_mem hv).1 (g3_mem _ i hi)
  have hc := lastD_closed hv hj (y.l, y.t) (oD_iff.2 ⟨y, hy, e2, rfl, rfl, e3⟩)
  have hx := List.idxOf_lt_length_of_mem hc
  have hya := hv.arc hy
  refine ⟨⟨⟨by omega, by omega⟩, by rw [e5]; omega, by rw [e5]; exact Int.ofNat_lt.2 hx⟩, ⟨by omega, by omega⟩, fun h0 => hs.lt (by omega) hi⟩
theorem nxt_num (hv : ValidD d) {i : Nat} (hi : i < (lastD d keep).q.length) (c : Int) {x : A3} (h : nxtD d.arcs (gi (lastD d keep).q i) c = some x) (hk : gb keep x.t.toNat = true) :
  x.t ∈ (lastD d keep).q ∧ nxtD (lastD d keep).a i c = some ⟨i, c, ((lastD d keep).q.idxOf x.t : Nat)⟩ := by
 obtain ⟨h1, h2, h3⟩ := nxtD_mem h
 refine ⟨lastD_closed hv hi (x.l, x.t) (oD_iff.2 ⟨x, h1, h2, rfl, rfl, hk⟩), ?_⟩
 exact (nxtD_iff (lastD_sorted hv)).2 ⟨(lastD_mem hv).2 ⟨i, hi, rfl, x, h1, h2, hk, h3.symm, rfl⟩, rfl, rfl⟩
theorem nxt_num_no (hv : ValidD d) {i : Nat} (hi : i < (lastD d keep).q.length) (c : Int) (h : ∀ x, nxtD d.arcs (gi (lastD d keep).q i) c = some x → gb keep x.t.toNat = false) : nxtD (lastD d keep).a i c = none := by
 rw [nxtD_none_iff]
 intro x hx h1 h2
 obtain ⟨j, hj, e1, y, hy, e2, e3, e4, e5⟩ := (lastD_mem hv).1 hx
 obtain rfl : j = i := by omega
 have := h y ((nxtD_iff hv.sorted).2 ⟨hy, e2, by omega⟩)
 rw [this] at e3
 cases e3
theorem numD_acc (hv : ValidD d) (hk : ∀ x ∈ d.arcs, gb keep x.t.toNat = false → ∀ w, accQ d x.t w = false) : ∀ (w : List Int) (i : Nat), i < (lastD d keep).q.length → accQ (numD d keep) i w = accQ d (gi (lastD d keep).q i) w
 | [], i, hi => by
  rw [accQ_nil, accQ_nil]
  show gb ((lastD d keep).q.map fun q => gb d.fin q.toNat) _ = _
  rw [gb_eq _ _ (by rw [List.length_map]; simpa using hi), gi_eq _ _ hi]
  simp
 | c :: w, i, hi => by
  cases h : nxtD d.arcs (gi (lastD d keep).q i) c with
  | none =>
   rw [accQ_none h, accQ_none (nxt_num_no (keep := keep) hv hi c fun x hx => by rw [h] at hx; cases hx)]
  | some x =>
   rw [accQ_some h]
   cases hx : gb keep x.t.toNat with
   | false =>
    rw [hk x (nxtD_mem h).1 hx, accQ_none (nxt_num_no (keep := keep) hv hi c fun y hy => by rw [h] at hy; injection hy with hy; rw [← hy]; exact hx)]
   | true =>
    obtain ⟨hm, hn⟩ := nxt_num hv hi c h hx
    rw [accQ_some (d := numD d keep) hn]
    have hlt := List.idxOf_lt_length_of_mem hm
    show accQ (numD d keep) (((lastD d keep).q.idxOf x.t : Nat) : Int) w = _
    rw [numD_acc hv hk w _ hlt, gi_eq _ _ hlt, List.getElem_idxOf]
end
end Go.Proofs.YtbjdglopkpigbaaGreatDoor
namespace Go.Proofs.YtbjdglopkpigbaaGreatDoor
open Classical
def Lang := List Int → Bool
def dv (L : Lang) (c : Int) : Lang := fun w => L (c :: w)
noncomputable instance : DecidableEq Lang := fun a b => Classical.propDecidable (a = b)
def lets (n : Nat) : List Int := (List.range n).map Int.ofNat
noncomputable def oL (L : Lang) : List (Int × Lang) := ((lets 10001).filter fun c => decide (∃ w, dv L c w = true)).map fun c => (c, dv L c)
noncomputable def lastL (L : Lang) : Bq Lang := bq oL L 1000
noncomputable def minL (L : Lang) : Dfa := ⟨((lastL L).q.length : Nat), 0, (lastL L).q.map fun K => K [], (lastL L).a⟩
theorem asc_ext {xs ys : List Int} (hx : xs.Pairwise (· < ·)) (hy : ys.Pairwise (· < ·)) (h : ∀ z, z ∈ xs ↔ z ∈ ys) : xs = ys := by
 induction xs generalizing ys with
 | nil =>
  cases ys with
  | nil => rfl
  | cons y ys => exact absurd ((h y).2 List.mem_cons_self) List.not_mem_nil
 | cons x xs ih =>
  cases ys with
  | nil => exact absurd ((h x).1 List.mem_cons_self) List.not_mem_nil
  | cons y ys =>
   have hx' := List.pairwise_cons.1 hx
   have hy' := List.pairwise_cons.1 hy
   have e : x = y := by
    rcases List.mem_cons.1 ((h x).1 List.mem_cons_self) with h1 | h1
    ·exact h1
    ·rcases List.mem_cons.1 ((h y).2 List.mem_cons_self) with h2 | h2
     ·exact h2.symm
     ·have := hy'.1 x h1; have := hx'.1 y h2; omega
   subst e
   rw [ih hx'.2 hy'.2 fun z => ?_]
   constructor
   ·intro hz
    rcases List.mem_cons.1 ((h z).1 (List.mem_cons_of_mem _ hz)) with h1 | h1
    ·subst h1; exact absurd (hx'.1 z hz) (Int.lt_irrefl _)
    ·exact h1
   ·intro hz
    rcases List.mem_cons.1 ((h z).2 (List.mem_cons_of_mem _ hz)) with h1 | h1
    ·subst h1; exact absurd (hy'.1 z hz) (Int.lt_irrefl _)
    ·exact h1
theorem lets_asc (n : Nat) : (lets n).Pairwise (· < ·) := by
 unfold lets
 rw [List.pairwise_map]
 exact List.Pairwise.imp (fun h => Int.ofNat_lt.2 h) List.pairwise_lt_range
theorem lets_mem (n : Nat) (c : Int) : c ∈ lets n ↔ 0 ≤ c ∧ c < n := by
 unfold lets
 rw [List.mem_map]
 constructor
 ·rintro ⟨a, ha, rfl⟩
  have := List.mem_range.1 ha
  exact ⟨Int.natCast_nonneg a, Int.ofNat_lt.2 this⟩
 ·rintro ⟨h0, h1⟩
  exact ⟨c.toNat, List.mem_range.2 (by omega), by show ((c.toNat : Nat) : Int) = c; omega⟩
theorem oL_eq {L : Lang} {zs : List Int} (hz : zs.Pairwise (· < ·)) (hr : ∀ c ∈ zs, 0 ≤ c ∧ c ≤ 10000) (h : ∀ c, c ∈ zs ↔ (0 ≤ c ∧ c ≤ 10000) ∧ ∃ w, dv L c w = true) : oL L = zs.map fun c => (c, dv L c) := by
 have key : (lets 10001).filter (fun c => decide (∃ w, dv L c w = true)) = zs := by
  refine asc_ext (List.Pairwise.filter _ (lets_asc _)) hz fun c => ?_
  rw [h c, List.mem_filter, lets_mem, decide_eq_true_eq]
  exact ⟨fun ⟨h1, h2⟩ => ⟨by omega, h2⟩, fun ⟨h1, h2⟩ => ⟨by omega, h2⟩⟩
 unfold oL
 rw [key]
def lgD (d : Dfa) (q : Int) : Lang := accQ d q
theorem dv_some {d : Dfa} {q c : Int} {x : A3} (h : nxtD d.arcs q c = some x) : dv (lgD d q) c = lgD d x.t := by
 funext w
 exact accQ_some h w
theorem dv_none {d : Dfa} {q c : Int} (h : nxtD d.arcs q c = none) (w : List Int) : dv (lgD d q) c w = false := accQ_none h w
def Useful (d : Dfa) : Prop := ∀ x ∈ d.arcs, ∃ w, accQ d x.t w = true
theorem oL_lgD {d : Dfa} (hS : SortedA d.arcs) (hl : ∀ x ∈ d.arcs, 1 ≤ x.l ∧ x.l ≤ 10000) (hu : Useful d) (q : Int) : oL (lgD d q) = (outsD d.arcs q).map fun x => (x.l, lgD d x.t) := by
 have hasc : ((outsD d.arcs q).map fun x => x.l).Pairwise (· < ·) := by
  rw [List.pairwise_map]
  exact outsD_asc hS q
 have hlr : ∀ c ∈ (outsD d.arcs q).map (fun x => x.l), 0 ≤ c ∧ c ≤ 10000 := fun c hc => by
  obtain ⟨x, hx, rfl⟩ := List.mem_map.1 hc
  have := hl x (outsD_mem.1 hx).1
  omega
 rw [oL_eq hasc hlr fun c => ?_, List.map_map]
 ·refine List.map_congr_left fun x hx => ?_
  obtain ⟨h1, h2⟩ := outsD_mem.1 hx
  show (x.l, dv (lgD d q) x.l) = (x.l, lgD d x.t)
  rw [dv_some ((nxtD_iff hS).2 ⟨h1, h2, rfl⟩)]
 ·constructor
  ·intro hc
   refine ⟨hlr c hc, ?_⟩
   obtain ⟨x, hx, rfl⟩ := List.mem_map.1 hc
   obtain ⟨h1, h2⟩ := outsD_mem.1 hx
   obtain ⟨w, hw⟩ := hu x h1
   exact ⟨w, by rw [dv_some ((nxtD_iff hS).2 ⟨h1, h2, rfl⟩)]; exact hw⟩
  ·rintro ⟨_, w, hw⟩
   cases h : nxtD d.arcs q c with
   | none => rw [dv_none h] at hw; cases hw
   | some x =>
    obtain ⟨h1, h2, h3⟩ := nxtD_mem h
    exact List.mem_map.2 ⟨x, outsD_mem.2 ⟨h1, h2⟩, h3⟩
theorem bq_lang {d : Dfa} (hS : SortedA d.arcs) (hl : ∀ x ∈ d.arcs, 1 ≤ x.l ∧ x.l ≤ 10000) (hu : Useful d) {o : Int → List (Int × Int)} {s : Int} (r : Int → Int) (P : Int → Prop) (hs : P s)
  (ho : ∀ y, P y → ∀ x ∈ o y, P x.2) (hinj : ∀ x y, P x → P y → lgD d (r x) = lgD d (r y) → x = y)
  (he : ∀ y, P y → (o y).map (fun x => (x.1, lgD d (r x.2))) = (outsD d.arcs (r y)).map fun x => (x.l, lgD d x.t)) (k : Nat) :
  bq oL (lgD d (r s)) k = ⟨(bq o s k).q.map fun q => lgD d (r q), (bq o s k).w, (bq o s k).a⟩ :=
 bq_map (fun q => lgD d (r q)) P hs ho hinj (fun y hy => by rw [oL_lgD hS hl hu, ← he y hy]) k
end Go.Proofs.YtbjdglopkpigbaaGreatDoor
set_option linter.unusedSectionVars false
namespace Go.Proofs.YtbjdglopkpigbaaGreatDoor
section
variable {α : Type} [DecidableEq α]
def firsts (l : List α) : List α := l.foldl (fun acc x => if x ∈ acc then acc else acc ++ [x]) []
theorem firsts_snoc (l : List α) (x : α) : firsts (l ++ [x]) = if x ∈ firsts l then firsts l else firsts l ++ [x] := by
 unfold firsts; rw [List.foldl_append]; rfl
theorem snoc_ind {P : List α → Prop} (h0 : P []) (h1 : ∀ l x, P l → P (l ++ [x])) (l : List α) : P l := by
 have : ∀ n (l : List α), l.length = n → P l := by
  intro n
  induction n with
  | zero => intro l hl; rw [List.eq_nil_of_length_eq_zero hl]; exact h0
  | succ n ih =>
   intro l hl
   have hne : l ≠ [] := fun e => by rw [e] at hl; cases hl
   rw [← List.dropLast_concat_getLast hne]
   exact h1 _ _ (ih _ (by rw [List.length_dropLast, hl]; rfl))
 exact this _ l rfl
theorem mem_firsts {l : List α} {x : α} : x ∈ firsts l ↔ x ∈ l := by
 induction l using snoc_ind with
 | h0 => rfl
 | h1 l y ih =>
  rw [firsts_snoc]
  by_cases hy : y ∈ firsts l
  ·rw [if_pos hy, ih, List.mem_append, List.mem_singleton]
   refine ⟨.inl, fun h => h.elim id fun e => ?_⟩
   rw [← ih, e]
   exact hy
  ·rw [if_neg hy, List.mem_append, List.mem_append, ih]
theorem firsts_nodup (l : List α) : (firsts l).Nodup := by
 induction l using snoc_ind with
 | h0 => exact List.nodup_nil
 | h1 l y ih =>
  rw [firsts_snoc]
  by_cases hy : y ∈ firsts l
  ·rw [if_pos hy]; exact ih
  ·rw [if_neg hy, List.nodup_append]
   refine ⟨ih, by simp, fun a ha b hb => ?_⟩
   rw [List.mem_singleton.1 hb]
   rintro rfl
   exact hy ha
theorem firsts_len (l : List α) : (firsts l).length ≤ l.length := by
 induction l using snoc_ind with
 | h0 => exact Nat.le_refl _
 | h1 l y ih =>
  rw [firsts_snoc, List.length_append, List.length_singleton]
  split
  ·omega
  ·rw [List.length_append, List.length_singleton]; omega
theorem firsts_pre (l m : List α) : firsts l <+: firsts (l ++ m) := by
 induction m using snoc_ind with
 | h0 => rw [List.append_nil]; exact List.prefix_refl _
 | h1 m y ih =>
  rw [← List.append_assoc, firsts_snoc]
  split
  ·exact ih
  ·exact ih.trans (List.prefix_append _ _)
theorem firsts_full {l : List α} (h : (firsts l).length = l.length) : l.Nodup := by
 have : firsts l = l := by
  induction l using snoc_ind with
  | h0 => rfl
  | h1 l y ih =>
   have hl := firsts_len l
   rw [firsts_snoc] at h ⊢
   by_cases hy : y ∈ firsts l
   ·rw [if_pos hy, List.length_append, List.length_singleton] at h; omega
   ·rw [if_neg hy, List.length_append, List.length_append] at h
    rw [if_neg hy, ih (by simpa using h)]
 rw [← this]
 exact firsts_nodup l
def plF (l : List α) (x : α) : Nat := l.idxOf x
theorem plF_lt {l : List α} {x : α} (hx : x ∈ l) : plF l x < l.length := List.idxOf_lt_length_of_mem hx
theorem idx_inj {l : List α} {x y : α} (hx : x ∈ l) (hy : y ∈ l) (h : plF l x = plF l y) : x = y := by
 unfold plF at h
 have h1 := List.getElem_idxOf (List.idxOf_lt_length_of_mem hx)
 have h2 := List.getElem_idxOf (List.idxOf_lt_length_of_mem hy)
 rw [← h1, ← h2]
 congr 1
theorem idx_at {l : List α} (hn : l.Nodup) {i : Nat} (hi : i < l.length) : plF l l[i] = i := by
 have hm : l[i] ∈ l := List.getElem_mem hi
 have h1 := List.idxOf_lt_length_of_mem hm
 have h2 := List.getElem_idxOf h1
 exact (List.getElem_inj hn).1 h2
end
theorem cover_nodup {l : List Int} (h : ∀ v, v < l.length → (v : Int) ∈ l) : l.Nodup := by
 have hr : ((List.range l.length).map Int.ofNat).Nodup := by
  rw [List.nodup_iff_pairwise_ne, List.pairwise_map]
  exact List.Pairwise.imp (fun h e => by injection e with e; omega) List.pairwise_lt_range
 have hs : ((List.range l.length).map Int.ofNat) ⊆ firsts l := fun x hx => by
  obtain ⟨v, hv, rfl⟩ := List.mem_map.1 hx
  exact mem_firsts.2 (h v (List.mem_range.1 hv))
 have h1 := hr.length_le_of_subset hs
 rw [List.length_map, List.length_range] at h1
 have h2 := firsts_len l
 exact firsts_full (by omega)
theorem cover_le {l : List Int} {m : Nat} (h : ∀ v, v < m → (v : Int) ∈ l) : m ≤ l.length := by
 have hr : ((List.range m).map Int.ofNat).Nodup := by
  rw [List.nodup_iff_pairwise_ne, List.pairwise_map]
  exact List.Pairwise.imp (fun h e => by injection e with e; omega) List.pairwise_lt_range
 have hs : ((List.range m).map Int.ofNat) ⊆ l := fun x hx => by
  obtain ⟨v, hv, rfl⟩ := List.mem_map.1 hx
  exact h v (List.mem_range.1 hv)
 have h1 := hr.length_le_of_subset hs
 rwa [List.length_map, List.length_range] at h1
def sigA (es : List A3) (cl : List Int) (n : Nat) : Int × List (Int × Int) := (gi cl n, (outsD es n).map fun x => (x.l, gi cl x.t.toNat))
def sigs (es : List A3) (cl : List Int) (N : Nat) : List (Int × List (Int × Int)) := (List.range N).map (sigA es cl)
def refC (es : List A3) (N : Nat) (cl : List Int) : List Int := (sigs es cl N).map fun s => ((plF (firsts (sigs es cl N)) s : Nat) : Int)
def refN (es : List A3) (N : Nat) (cl : List Int) : Nat := (firsts (sigs es cl N)).length
theorem sigs_len (es : List A3) (cl : List Int) (N : Nat) : (sigs es cl N).length = N := by simp [sigs]
theorem refC_len (es : List A3) (cl : List Int) (N : Nat) : (refC es N cl).length = N := by simp [refC, sigs_len]
theorem sig_mem (es : List A3) (cl : List Int) {N i : Nat} (h : i < N) : sigA es cl i ∈ firsts (sigs es cl N) := mem_firsts.2 (List.mem_map.2 ⟨i, List.mem_range.2 h, rfl⟩)
theorem refC_at (es : List A3) (cl : List Int) {N i : Nat} (h : i < N) : gi (refC es N cl) i = ((plF (firsts (sigs es cl N)) (sigA es cl i) : Nat) : Int) := by
 rw [gi_eq _ _ (by rw [refC_len]; exact h)]
 simp [refC, sigs]
theorem refC_same {es : List A3} {cl : List Int} {N i j : Nat} (hi : i < N) (hj : j < N) : gi (refC es N cl) i = gi (refC es N cl) j ↔ sigA es cl i = sigA es cl j := by
 rw [refC_at es cl hi, refC_at es cl hj]
 refine ⟨fun h => idx_inj (sig_mem es cl hi) (sig_mem es cl hj) (by omega), fun h => by rw [h]⟩
theorem refC_range {es : List A3} {cl : List Int} {N i : Nat} (hi : i < N) : 0 ≤ gi (refC es N cl) i ∧ gi (refC es N cl) i < (refN es N cl : Nat) := by
 rw [refC_at es cl hi]
 have := plF_lt (sig_mem es cl hi)
 unfold refN
 omega
theorem refC_cover {es : List A3} {cl : List Int} {N v : Nat} (hv : v < refN es N cl) : ∃ i, i < N ∧ gi (refC es N cl) i = v := by
 unfold refN at hv
 have hm := mem_firsts.1 (List.getElem_mem hv)
 obtain ⟨i, hi, e⟩ := List.mem_map.1 hm
 refine ⟨i, List.mem_range.1 hi, ?_⟩
 rw [refC_at es cl (List.mem_range.1 hi), e, idx_at (firsts_nodup _) hv]
theorem refN_le (es : List A3) (cl : List Int) (N : Nat) : refN es N cl ≤ N := by
 have := firsts_len (sigs es cl N)
 rw [sigs_len] at this
 exact this
theorem refN_pos (es : List A3) (cl : List Int) {N : Nat} (h : 0 < N) : 0 < refN es N cl := List.length_pos_of_mem (sig_mem es cl h)
theorem refN_ge {es : List A3} {cl : List Int} {N m : Nat} (hc : ∀ v, v < m → ∃ i, i < N ∧ gi cl i = (v : Nat)) : m ≤ refN es N cl := by
 have h := cover_le (l := (firsts (sigs es cl N)).map (·.1)) (m := m) fun v hv => by
  obtain ⟨i, hi, e⟩ := hc v hv
  exact List.mem_map.2 ⟨sigA es cl i, sig_mem es cl hi, e⟩
 rwa [List.length_map] at h
theorem refN_eq {es : List A3} {cl : List Int} {N m : Nat} (hc : ∀ v, v < m → ∃ i, i < N ∧ gi cl i = (v : Nat)) (h : refN es N cl = m) {i j : Nat} (hi : i < N) (hj : j < N) (e : gi cl i = gi cl j) : sigA es cl i = sigA es cl j := by
 have hn := cover_nodup (l := (firsts (sigs es cl N)).map (·.1)) fun v hv => by
  rw [List.length_map] at hv
  obtain ⟨i, hi, e⟩ := hc v (by unfold refN at h; omega)
  exact List.mem_map.2 ⟨sigA es cl i, sig_mem es cl hi, e⟩
 rw [List.nodup_iff_pairwise_ne, List.pairwise_map] at hn
 have h1 := sig_mem es cl hi
 have h2 := sig_mem es cl hj
 obtain ⟨a, ha, ea⟩ := List.getElem_of_mem h1
 obtain ⟨b, hb, eb⟩ := List.getElem_of_mem h2
 have e' : ((firsts (sigs es cl N))[a]).1 = ((firsts (sigs es cl N))[b]).1 := by rw [ea, eb]; exact e
 have hp := List.pairwise_iff_getElem.1 hn
 rcases Nat.lt_trichotomy a b with h3 | h3 | h3
 ·exact absurd e' (hp a b ha hb h3)
 ·subst h3; rw [← ea, ← eb]
 ·exact absurd e'.symm (hp b a hb ha h3)
def cl0 (fin : List Bool) : List Int := fin.map fun b => if b then 1 else 0
theorem cl0_at (fin : List Bool) {i : Nat} (h : i < fin.length) : gi (cl0 fin) i = if gb fin i then 1 else 0 := by
 rw [gi_eq _ _ (by simpa [cl0] using h), gb_eq _ _ h]
 simp [cl0]
def clK (es : List A3) (N : Nat) (fin : List Bool) : Nat → List Int
 | 0 => cl0 fin
 | k + 1 => refC es N (clK es N fin k)
def ctK (es : List A3) (N : Nat) (fin : List Bool) : Nat → Nat
 | 0 => 1
 | k + 1 => refN es N (clK es N fin k)
section
variable {es : List A3} {N : Nat} {fin : List Bool}
theorem clK_len (hf : fin.length = N) : ∀ k, (clK es N fin k).length = N
 | 0 => by simp [clK, cl0, hf]
 | k + 1 => refC_len _ _ _
theorem ctK_mono (h0 : 0 < N) : ∀ k, ctK es N fin k ≤ ctK es N fin (k + 1)
 | 0 => refN_pos _ _ h0
 | k + 1 => refN_ge fun v hv => refC_cover hv
theorem ctK_le (h0 : 0 < N) : ∀ k, 1 ≤ ctK es N fin k ∧ ctK es N fin k ≤ N
 | 0 => ⟨Nat.le_refl _, h0⟩
 | k + 1 => ⟨refN_pos _ _ h0, refN_le _ _ _⟩
theorem clK_range {i : Nat} (hi : i < N) (k : Nat) : 0 ≤ gi (clK es N fin (k + 1)) i ∧ gi (clK es N fin (k + 1)) i < (ctK es N fin (k + 1) : Nat) := refC_range hi
theorem clK_cover {v k : Nat} (hv : v < ctK es N fin (k + 1)) : ∃ i, i < N ∧ gi (clK es N fin (k + 1)) i = v := refC_cover hv
theorem clK_settled {k : Nat} (h : ctK es N fin (k + 1) = ctK es N fin k) {i j : Nat} (hi : i < N) (hj : j < N) : gi (clK es N fin (k + 1)) i = gi (clK es N fin (k + 1)) j ↔ gi (clK es N fin k) i = gi (clK es N fin k) j := by
 have hr : gi (clK es N fin (k + 1)) i = gi (clK es N fin (k + 1)) j ↔ _ := refC_same hi hj
 rw [hr]
 refine ⟨fun e => congrArg (·.1) e, fun e => ?_⟩
 cases k with
 | zero =>
  have h1 : (firsts (sigs es (clK es N fin 0) N)).length = 1 := h
  obtain ⟨z, hz⟩ := List.length_eq_one_iff.1 h1
  have m1 := sig_mem es (clK es N fin 0) hi
  have m2 := sig_mem es (clK es N fin 0) hj
  rw [hz] at m1 m2
  rw [List.mem_singleton.1 m1, List.mem_singleton.1 m2]
 | succ k => exact refN_eq (fun v hv => refC_cover hv) h hi hj e
theorem clK_fin (hf : fin.length = N) {i j : Nat} (hi : i < N) (hj : j < N) : ∀ k, gi (clK es N fin k) i = gi (clK es N fin k) j → gb fin i = gb fin j
 | 0 => fun e => by
  have e : gi (cl0 fin) i = gi (cl0 fin) j := e
  rw [cl0_at fin (by omega), cl0_at fin (by omega)] at e
  cases h1 : gb fin i <;> cases h2 : gb fin j <;> simp [h1, h2] at e ⊢
 | k + 1 => fun e => clK_fin hf hi hj k (congrArg (·.1) ((refC_same hi hj).1 e))
end
theorem map_two {α β γ : Type} {f : α → β} {g : α → γ} : ∀ (xs ys : List α), xs.map f = ys.map f → (∀ x ∈ xs, ∀ y ∈ ys, f x = f y → g x = g y) → xs.map g = ys.map g
 | [], [], _, _ => rfl
 | [], _ :: _, h, _ => by cases h
 | _ :: _, [], h, _ => by cases h
 | x :: xs, y :: ys, h, hg => by
  rw [List.map_cons, List.map_cons] at h ⊢
  injection h with h1 h2
  rw [hg x List.mem_cons_self y List.mem_cons_self h1, map_two xs ys h2 fun a ha b hb => hg a (List.mem_cons_of_mem _ ha) b (List.mem_cons_of_mem _ hb)]
def ByLang (t : Dfa) (C : List Int) : Prop := ∀ i j : Nat, (i : Int) < t.n → (j : Int) < t.n → (gi C i = gi C j ↔ lgD t i = lgD t j)
theorem bisim {t : Dfa} (hv : ValidD t) (C : List Int) (hf : ∀ i j : Nat, (i : Int) < t.n → (j : Int) < t.n → gi C i = gi C j → gb t.fin i = gb t.fin j ∧ (outsD t.arcs i).map (fun x => (x.l, gi C x.t.toNat)) = (outsD t.arcs j).map fun x => (x.l, gi C x.t.toNat)) :
  ∀ (w : List Int) (i j : Nat), (i : Int) < t.n → (j : Int) < t.n → gi C i = gi C j → accQ t i w = accQ t j w
 | [], i, j, hi, hj, e => by
  rw [accQ_nil, accQ_nil, Int.toNat_natCast, Int.toNat_natCast]
  exact (hf i j hi hj e).1
 | c :: w, i, j, hi, hj, e => by
  have hs := (hf i j hi hj e).2
  have go : ∀ (i j : Nat) (x : A3), (outsD t.arcs i).map (fun x => (x.l, gi C x.t.toNat)) = (outsD t.arcs j).map (fun x => (x.l, gi C x.t.toNat)) → nxtD t.arcs i c = some x → ∃ y, nxtD t.arcs j c = some y ∧ gi C x.t.toNat = gi C y.t.toNat := fun i j x hs h => by
   obtain ⟨h1, h2, h3⟩ := nxtD_mem h
   have hm : (x.l, gi C x.t.toNat) ∈ (outsD t.arcs j).map (fun x => (x.l, gi C x.t.toNat)) := by
    rw [← hs]; exact List.mem_map.2 ⟨x, outsD_mem.2 ⟨h1, h2⟩, rfl⟩
   obtain ⟨y, hy, e⟩ := List.mem_map.1 hm
   obtain ⟨k1, k2⟩ := outsD_mem.1 hy
   injection e with e1 e2
   exact ⟨y, (nxtD_iff hv.sorted).2 ⟨k1, k2, by omega⟩, e2.symm⟩
  cases h : nxtD t.arcs i c with
  | some x =>
   obtain ⟨y, hy, e2⟩ := go i j x hs h
   rw [accQ_some h, accQ_some hy]
   have a1 := (hv.arc (nxtD_mem h).1).1.2
   have a2 := (hv.arc (nxtD_mem hy).1).1.2
   have := bisim hv C hf w x.t.toNat y.t.toNat (by omega) (by omega) e2
   rwa [Int.toNat_of_nonneg a1.1, Int.toNat_of_nonneg a2.1] at this
  | none =>
   cases h' : nxtD t.arcs j c with
   | some y =>
    obtain ⟨x, hx, _⟩ := go j i y hs.symm h'
    rw [h] at hx; cases hx
   | none => rw [accQ_none h, accQ_none h']
theorem map_tgt {t : Dfa} (hv : ValidD t) {C C' : List Int} {i j : Nat} (hs : (outsD t.arcs i).map (fun x => (x.l, gi C x.t.toNat)) = (outsD t.arcs j).map fun x => (x.l, gi C x.t.toNat)) (hC : ∀ i j : Nat, (i : Int) < t.n → (j : Int) < t.n → gi C i = gi C j → gi C' i = gi C' j) : (outsD t.arcs i).map (fun x => (x.l, gi C' x.t.toNat)) = (outsD t.arcs j).map fun x => (x.l, gi C' x.t.toNat) := by
 refine map_two _ _ hs fun x hx y hy e => ?_
 injection e with e1 e2
 have a1 := (hv.arc (outsD_mem.1 hx).1).1.2
 have a2 := (hv.arc (outsD_mem.1 hy).1).1.2
 rw [e1, hC x.t.toNat y.t.toNat (by omega) (by omega) e2]
theorem lang_tgt {t : Dfa} (hv : ValidD t) (hu : Useful t) {C : List Int} (hC : ∀ i j : Nat, (i : Int) < t.n → (j : Int) < t.n → lgD t i = lgD t j → gi C i = gi C j) {i j : Nat} (e : lgD t i = lgD t j) : (outsD t.arcs i).map (fun x => (x.l, gi C x.t.toNat)) = (outsD t.arcs j).map fun x => (x.l, gi C x.t.toNat) := by
 have hl : ∀ x ∈ t.arcs, 1 ≤ x.l ∧ x.l ≤ 10000 := fun x hx => (hv.arc hx).2
 have h1 := oL_lgD hv.sorted hl hu i
 have h2 := oL_lgD hv.sorted hl hu j
 rw [e, h2] at h1
 refine map_two _ _ h1.symm fun x hx y hy e => ?_
 have e1 : x.l = y.l := congrArg (·.1) e
 have e2 : lgD t x.t = lgD t y.t := congrArg (·.2) e
 have a1 := (hv.arc (outsD_mem.1 hx).1).1.2
 have a2 := (hv.arc (outsD_mem.1 hy).1).1.2
 rw [e1, hC x.t.toNat y.t.toNat (by omega) (by omega) (by rw [Int.toNat_of_nonneg a1.1, Int.toNat_of_nonneg a2.1]; exact e2)]
theorem clK_coarse {t : Dfa} (hv : ValidD t) (hu : Useful t) : ∀ (k : Nat) (i j : Nat), (i : Int) < t.n → (j : Int) < t.n → lgD t i = lgD t j → gi (clK t.arcs t.n.toNat t.fin k) i = gi (clK t.arcs t.n.toNat t.fin k) j
 | 0, i, j, hi, hj, e => by
  have := congrFun e []
  have hfl := hv.2.2.1
  have h2 : gb t.fin i = gb t.fin j := this
  show gi (cl0 t.fin) i = gi (cl0 t.fin) j
  rw [cl0_at _ (by omega), cl0_at _ (by omega), h2]
 | k + 1, i, j, hi, hj, e => by
  refine (refC_same (by omega) (by omega)).2 ?_
  unfold sigA
  rw [clK_coarse hv hu k i j hi hj e, lang_tgt hv hu (clK_coarse hv hu k) e]
theorem clK_byLang {t : Dfa} (hv : ValidD t) (hu : Useful t) {k : Nat} (h : ctK t.arcs t.n.toNat t.fin (k + 1) = ctK t.arcs t.n.toNat t.fin k) : ByLang t (clK t.arcs t.n.toNat t.fin (k + 1)) := by
 have hfl := hv.2.2.1
 refine fun i j hi hj => ⟨fun e => ?_, fun e => clK_coarse hv hu (k + 1) i j hi hj e⟩
 funext w
 refine bisim hv _ (fun i j hi hj e => ⟨clK_fin (by omega) (by omega) (by omega) (k + 1) e, ?_⟩) w i j hi hj e
 have hs : sigA _ _ i = sigA _ _ j := (refC_same (by omega) (by omega)).1 e
 refine map_tgt hv (C := clK t.arcs t.n.toNat t.fin k) (congrArg (·.2) hs) fun a b ha hb e => (clK_settled h (by omega) (by omega)).2 e
end Go.Proofs.YtbjdglopkpigbaaGreatDoor
