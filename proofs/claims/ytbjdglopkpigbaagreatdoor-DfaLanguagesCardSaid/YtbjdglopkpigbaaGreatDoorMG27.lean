import Derived.Test.YtbjdglopkpigbaaGreatDoorMG26
/-
  DfaMq, DfaTr, DfaKa
-/
set_option linter.unusedVariables false
namespace Go.Proofs.YtbjdglopkpigbaaGreatDoor
theorem outsD_flat {h : Nat → List A3} (hf : ∀ i x, x ∈ h i → x.f = (i : Int)) {n i : Nat} (hi : i < n) : outsD ((List.range n).flatMap h) i = h i := by
 have no : ∀ j, j ≠ i → (h j).filter (fun x => decide (x.f = (i : Int))) = [] := fun j hj => by
  rw [List.filter_eq_nil_iff]
  intro x hx
  have := hf j x hx
  simp
  omega
 have yes : (h i).filter (fun x => decide (x.f = (i : Int))) = h i := by
  rw [List.filter_eq_self]
  intro x hx
  have := hf i x hx
  simp
  omega
 have below : ∀ m, m ≤ i → ((List.range m).flatMap h).filter (fun x => decide (x.f = (i : Int))) = [] := by
  intro m hm
  induction m with
  | zero => rfl
  | succ m ih => rw [List.range_succ, List.flatMap_append, List.filter_append, ih (by omega)]; simp only [List.flatMap_cons, List.flatMap_nil, List.append_nil, List.nil_append]; exact no m (by omega)
 unfold outsD
 induction n with
 | zero => omega
 | succ n ih =>
  rw [List.range_succ, List.flatMap_append, List.filter_append]
  simp only [List.flatMap_cons, List.flatMap_nil, List.append_nil]
  rcases Nat.lt_or_ge i n with h1 | h1
  ·rw [ih h1, no n (by omega), List.append_nil]
  ·obtain rfl : i = n := by omega
   rw [below i (Nat.le_refl _), yes, List.nil_append]
theorem flat_sorted {h : Nat → List A3} (hf : ∀ i x, x ∈ h i → x.f = (i : Int)) (ha : ∀ i, (h i).Pairwise fun x y => x.l < y.l) (n : Nat) : SortedA ((List.range n).flatMap h) := by
 unfold SortedA
 rw [List.pairwise_flatMap]
 refine ⟨fun i _ => ?_, List.Pairwise.imp (fun {i j} hij x hx y hy => .inl (by rw [hf i x hx, hf j y hy]; omega)) List.pairwise_lt_range⟩
 refine List.Pairwise.imp_of_mem (fun {x y} hx hy h => .inr ⟨by rw [hf i x hx, hf i y hy], h⟩) (ha i)
def repC (C : List Int) (c : Nat) : Nat := C.idxOf (c : Int)
def arcsQ (t : Dfa) (C : List Int) (c : Nat) : List A3 := (outsD t.arcs (repC C c)).map fun x => ⟨c, x.l, gi C x.t.toNat⟩
def qD (t : Dfa) (C : List Int) (m : Nat) : Dfa := ⟨m, gi C t.s.toNat, (List.range m).map fun c => gb t.fin (repC C c), (List.range m).flatMap (arcsQ t C)⟩
structure Classes (t : Dfa) (C : List Int) (m : Nat) : Prop where
 len : (C.length : Int) = t.n
 range : ∀ i : Nat, (i : Int) < t.n → 0 ≤ gi C i ∧ gi C i < m
 cover : ∀ v, v < m → ∃ i : Nat, (i : Int) < t.n ∧ gi C i = v
section
variable {t : Dfa} {C : List Int} {m : Nat}
theorem repC_at (hC : Classes t C m) {c : Nat} (hc : c < m) : (repC C c : Int) < t.n ∧ gi C (repC C c) = c := by
 obtain ⟨i, hi, e⟩ := hC.cover c hc
 have hl := hC.len
 have hm : (c : Int) ∈ C := by
  rw [← e]
  exact gi_mem C i (by omega)
 have h1 := List.idxOf_lt_length_of_mem hm
 unfold repC
 exact ⟨by omega, by rw [gi_eq _ _ h1, List.getElem_idxOf]⟩
theorem arcsQ_f (c : Nat) : ∀ x, x ∈ arcsQ t C c → x.f = (c : Int) := fun x hx => by
 obtain ⟨y, _, rfl⟩ := List.mem_map.1 hx
 rfl
theorem arcsQ_asc (hv : ValidD t) (c : Nat) : (arcsQ t C c).Pairwise fun x y => x.l < y.l := by
 unfold arcsQ
 rw [List.pairwise_map]
 exact outsD_asc hv.sorted _
theorem Classes.le (hv : ValidD t) (hC : Classes t C m) : 1 ≤ m ∧ (m : Int) ≤ t.n := by
 have h1 := hv.1
 have h2 := hC.range 0 (by omega)
 refine ⟨by omega, ?_⟩
 have := cover_le (l := C) (m := m) fun v hv => by
  obtain ⟨i, hi, e⟩ := hC.cover v hv
  have := hC.len
  rw [← e]
  exact gi_mem C i (by omega)
 have := hC.len
 omega
theorem qD_arc {x : A3} : x ∈ (qD t C m).arcs ↔ ∃ c, c < m ∧ x.f = (c : Int) ∧ ∃ y ∈ t.arcs, y.f = repC C c ∧ x.l = y.l ∧ x.t = gi C y.t.toNat := by
 show x ∈ (List.range m).flatMap (arcsQ t C) ↔ _
 rw [List.mem_flatMap]
 constructor
 ·rintro ⟨c, hc, hx⟩
  obtain ⟨y, hy, rfl⟩ := List.mem_map.1 hx
  obtain ⟨h1, h2⟩ := outsD_mem.1 hy
  exact ⟨c, List.mem_range.1 hc, rfl, y, h1, h2, rfl, rfl⟩
 ·rintro ⟨c, hc, h1, y, hy, h2, h3, h4⟩
  exact ⟨c, List.mem_range.2 hc, List.mem_map.2 ⟨y, outsD_mem.2 ⟨hy, h2⟩, by rw [← h1, ← h3, ← h4]⟩⟩
theorem qD_valid (hv : ValidD t) (hC : Classes t C m) : ValidD (qD t C m) := by
 have hle := hC.le hv
 have hs := flat_sorted (h := arcsQ t C) arcsQ_f (arcsQ_asc hv) m
 have h2 := hv.2.1
 refine ⟨⟨by show (1 : Int) ≤ (m : Int); omega, by show (m : Int) ≤ 1000; have := hv.1; omega⟩, hC.range _ (by omega), ?_, ?_, ?_⟩
 ·show (((List.range m).map fun c => gb t.fin (repC C c)).length : Int) = m
  simp
 ·have hn : ((List.range m).flatMap fun c => outsD t.arcs (repC C c)).Nodup := by
   have hd : t.arcs.Nodup := List.Pairwise.imp (fun h e => by subst e; exact LtA.irrefl h) hv.sorted
   rw [List.nodup_iff_pairwise_ne, List.pairwise_flatMap]
   refine ⟨fun c _ => hd.filter _, List.Pairwise.imp_of_mem ?_ List.pairwise_lt_range⟩
   intro a b ha hb hab x hx y hy e
   subst e
   have e1 := (outsD_mem.1 hx).2
   have e2 := (outsD_mem.1 hy).2
   have k1 := (repC_at hC (List.mem_range.1 ha)).2
   have k2 := (repC_at hC (List.mem_range.1 hb)).2
   have : repC C a = repC C b := by omega
   rw [this] at k1
   omega
  have hsub : ((List.range m).flatMap fun c => outsD t.arcs (repC C c)) ⊆ t.arcs := fun x hx => by
   obtain ⟨c, _, h⟩ := List.mem_flatMap.1 hx
   exact (outsD_mem.1 h).1
  have h1 := hn.length_le_of_subset hsub
  have h3 : (qD t C m).arcs.length = ((List.range m).flatMap fun c => outsD t.arcs (repC C c)).length := by
   show ((List.range m).flatMap (arcsQ t C)).length = _
   rw [List.length_flatMap, List.length_flatMap]
   congr 1
   exact List.map_congr_left fun c _ => by unfold arcsQ; rw [List.length_map]
  have := hv.2.2.2.1
  omega
 ·intro i hi
  obtain ⟨c, hc, e1, y, hy, e2, e3, e4⟩ := qD_arc.1 (g3_mem _ i hi)
  have ha := hv.arc hy
  have hr := hC.range y.t.toNat (by omega)
  refine ⟨⟨⟨by omega, by rw [e1]; exact Int.ofNat_lt.2 hc⟩, ⟨by omega, by rw [e4]; exact hr.2⟩⟩, ⟨by omega, by omega⟩, fun h0 => SortedA.lt hs (by omega) hi⟩
theorem qD_outs (hv : ValidD t) {c : Nat} (hc : c < m) : outsD (qD t C m).arcs c = arcsQ t C c := outsD_flat arcsQ_f hc
theorem rep_lang (hC : Classes t C m) (hL : ByLang t C) {i : Nat} (hi : (i : Int) < t.n) : lgD t (repC C (gi C i).toNat) = lgD t i := by
 have hr := hC.range i hi
 obtain ⟨h1, h2⟩ := repC_at hC (c := (gi C i).toNat) (by omega)
 exact (hL _ _ h1 hi).1 (by rw [h2]; omega)
theorem rep_lang' (hv : ValidD t) (hC : Classes t C m) (hL : ByLang t C) {x : A3} (hx : x ∈ t.arcs) : lgD t (repC C (gi C x.t.toNat).toNat) = lgD t x.t := by
 have ha := (hv.arc hx).1.2
 have := rep_lang hC hL (i := x.t.toNat) (by omega)
 rwa [Int.toNat_of_nonneg ha.1] at this
theorem qD_acc (hv : ValidD t) (hC : Classes t C m) (hL : ByLang t C) : ∀ (w : List Int) (c : Nat), c < m → accQ (qD t C m) c w = accQ t (repC C c) w
 | [], c, hc => by
  rw [accQ_nil, accQ_nil]
  show gb ((List.range m).map fun c => gb t.fin (repC C c)) _ = _
  rw [gb_eq _ _ (by simpa using hc)]
  simp
 | a :: w, c, hc => by
  have hq := qD_valid hv hC
  cases h : nxtD t.arcs (repC C c) a with
  | none =>
   rw [accQ_none h, accQ_none]
   rw [nxtD_none_iff]
   intro x hx h1 h2
   obtain ⟨c', hc', e1, y, hy, e2, e3, e4⟩ := qD_arc.1 hx
   obtain rfl : c' = c := by omega
   exact nxtD_none_iff.1 h y hy e2 (by omega)
  | some y =>
   obtain ⟨h1, h2, h3⟩ := nxtD_mem h
   have hn : nxtD (qD t C m).arcs c a = some ⟨c, a, gi C y.t.toNat⟩ := (nxtD_iff hq.sorted).2 ⟨qD_arc.2 ⟨c, hc, rfl, y, h1, h2, h3.symm, rfl⟩, rfl, rfl⟩
   rw [accQ_some h, accQ_some hn]
   have ha := (hv.arc h1).1.2
   have hr := hC.range y.t.toNat (by omega)
   have := qD_acc hv hC hL w (gi C y.t.toNat).toNat (by omega)
   rw [Int.toNat_of_nonneg hr.1] at this
   show accQ (qD t C m) (gi C y.t.toNat) w = _
   rw [this]
   exact congrFun (rep_lang' hv hC hL h1) w
def allK (m : Nat) : List Bool := List.replicate m true
theorem gb_allK {m i : Nat} (h : i < m) : gb (allK m) i = true := by
 unfold allK
 rw [gb_eq _ _ (by simpa using h)]
 simp
theorem oD_all {d : Dfa} (hv : ValidD d) (q : Int) : oD d (allK d.n.toNat) q = (outsD d.arcs q).map fun x => (x.l, x.t) := by
 unfold oD kd
 congr 1
 rw [List.filter_eq_self]
 intro x hx
 have := (hv.arc (outsD_mem.1 hx).1).1.2
 exact gb_allK (by omega)
theorem canD_all {d : Dfa} (hv : ValidD d) : canD d (allK d.n.toNat) = numD d (allK d.n.toNat) := by
 unfold canD
 have := hv.2.1
 rw [if_pos (gb_allK (by omega))]
theorem num_minL (hv : ValidD t) (hu : Useful t) {d : Dfa} (hd : ValidD d) (r : Int → Int) (P : Int → Prop) (hs : P d.s)
  (hP : ∀ y, P y → ∀ x ∈ outsD d.arcs y, P x.t) (hinj : ∀ x y, P x → P y → lgD t (r x) = lgD t (r y) → x = y)
  (he : ∀ y, P y → (outsD d.arcs y).map (fun x => (x.l, lgD t (r x.t))) = (outsD t.arcs (r y)).map fun x => (x.l, lgD t x.t))
  (hf : ∀ y, P y → InD d y → gb d.fin y.toNat = gb t.fin (r y).toNat) :
  numD d (allK d.n.toNat) = minL (lgD t (r d.s)) := by
 have hl : ∀ x ∈ t.arcs, 1 ≤ x.l ∧ x.l ≤ 10000 := fun x hx => (hv.arc hx).2
 have ho : ∀ y, P y → ∀ x ∈ oD d (allK d.n.toNat) y, P x.2 := fun y hy x hx => by
  rw [oD_all hd] at hx
  obtain ⟨z, hz, rfl⟩ := List.mem_map.1 hx
  exact hP y hy z hz
 have hb := bq_lang hv.sorted hl hu (o := oD d (allK d.n.toNat)) (s := d.s) r P hs ho hinj (fun y hy => by
  rw [oD_all hd, List.map_map, ← he y hy]
  rfl) 1000
 have hk : bq (oD d (allK d.n.toNat)) d.s 1000 = bq (oD d (allK d.n.toNat)) d.s d.n.toNat := bqD_fin hd _ (by have := bqD_len hd (allK d.n.toNat) 1000; have := hd.1; omega)
 rw [hk] at hb
 have hPQ := bq_all hs ho d.n.toNat
 have hin := bqD_in hd (allK d.n.toNat) d.n.toNat
 have hfin : (bq (oD d (allK d.n.toNat)) d.s d.n.toNat).q.map (fun q => gb d.fin q.toNat) = (bq (oD d (allK d.n.toNat)) d.s d.n.toNat).q.map fun q => lgD t (r q) [] := by
  refine List.map_congr_left fun q hq => ?_
  show gb d.fin q.toNat = accQ t (r q) []
  rw [accQ_nil]
  exact hf q (hPQ q hq) (hin q hq)
 unfold minL
 rw [show lastL (lgD t (r d.s)) = _ from hb]
 unfold numD resB
 rw [hfin]
 simp only [List.length_map, List.map_map]
 rfl
theorem qD_minL (hv : ValidD t) (hu : Useful t) (hC : Classes t C m) (hL : ByLang t C) : numD (qD t C m) (allK m) = minL (lgD t t.s) := by
 have hq := qD_valid hv hC
 have hs := hv.2.1
 have hrs := rep_lang hC hL (i := t.s.toNat) (by omega)
 rw [Int.toNat_of_nonneg hs.1] at hrs
 have := num_minL hv hu hq (fun c => (repC C c.toNat : Int)) (InD (qD t C m)) hq.2.1 (fun y hy x hx => (hq.arc (outsD_mem.1 hx).1).1.2)
  (fun x y hx hy e => by
   have hx1 : 0 ≤ x := hx.1
   have hx2 : x < (m : Int) := hx.2
   have hy1 : 0 ≤ y := hy.1
   have hy2 : y < (m : Int) := hy.2
   obtain ⟨a1, a2⟩ := repC_at hC (c := x.toNat) (by omega)
   obtain ⟨b1, b2⟩ := repC_at hC (c := y.toNat) (by omega)
   have := (hL _ _ a1 b1).2 e
   omega)
  (fun y hy => by
   have hy1 : 0 ≤ y := hy.1
   have hy2 : y < (m : Int) := hy.2
   obtain ⟨c, rfl⟩ := Int.eq_ofNat_of_zero_le hy1
   rw [qD_outs hv (by omega), arcsQ, List.map_map]
   refine List.map_congr_left fun x hx => ?_
   show (x.l, lgD t (repC C (gi C x.t.toNat).toNat)) = (x.l, lgD t x.t)
   rw [rep_lang' hv hC hL (outsD_mem.1 hx).1])
  (fun y _ hy => by
   have hy1 : 0 ≤ y := hy.1
   have hy2 : y < (m : Int) := hy.2
   obtain ⟨c, rfl⟩ := Int.eq_ofNat_of_zero_le hy1
   show gb ((List.range m).map fun c => gb t.fin (repC C c)) _ = _
   rw [Int.toNat_natCast, gb_eq _ _ (by simp; omega)]
   simp)
 rw [show allK m = allK (qD t C m).n.toNat from rfl, this, ← hrs]
 rfl
theorem minL_of (hv : ValidD t) (hu : Useful t) (hC : Classes t C m) (hL : ByLang t C) : ValidD (minL (lgD t t.s)) ∧ lgD (minL (lgD t t.s)) 0 = lgD t t.s ∧ (minL (lgD t t.s)).n ≤ m := by
 have hq := qD_valid hv hC
 have hs := hv.2.1
 have hle := hC.le hv
 rw [← qD_minL hv hu hC hL]
 refine ⟨numD_valid hq, ?_, ?_⟩
 ·funext w
  have h1 := numD_acc (keep := allK m) hq (fun x hx h => by
   have := (hq.arc hx).1.2
   rw [gb_allK (by have : (qD t C m).n = m := rfl; omega)] at h
   cases h) w 0 lastD_pos
  show accQ (numD (qD t C m) (allK m)) (0 : Nat) w = _
  rw [h1, lastD_start]
  show accQ (qD t C m) (gi C t.s.toNat) w = _
  have hr := hC.range t.s.toNat (by omega)
  have h2 := qD_acc hv hC hL w (gi C t.s.toNat).toNat (by omega)
  rw [Int.toNat_of_nonneg hr.1] at h2
  rw [h2]
  have h3 := rep_lang hC hL (i := t.s.toNat) (by omega)
  rw [Int.toNat_of_nonneg hs.1] at h3
  exact congrFun h3 w
 ·have := lastD_len (keep := allK m) hq
  show (((lastD (qD t C m) (allK m)).q.length : Nat) : Int) ≤ m
  have e : (qD t C m).n.toNat = m := by show ((m : Int)).toNat = m; simp
  omega
end
end Go.Proofs.YtbjdglopkpigbaaGreatDoor
namespace Go.Proofs.YtbjdglopkpigbaaGreatDoor
noncomputable def keepU (d : Dfa) : List Bool := (List.range d.n.toNat).map fun (i : Nat) => @decide (∃ w, accQ d i w = true) (Classical.propDecidable _)
noncomputable def trimD (d : Dfa) : Dfa := canD d (keepU d)
theorem keepU_len (d : Dfa) : (keepU d).length = d.n.toNat := by simp [keepU]
theorem keepU_at {d : Dfa} {i : Nat} (hi : (i : Int) < d.n) : gb (keepU d) i = true ↔ ∃ w, accQ d i w = true := by
 have hl : i < (keepU d).length := by rw [keepU_len]; omega
 rw [gb_eq _ _ hl]
 simp [keepU]
theorem keepU_no {d : Dfa} {i : Nat} (hi : (i : Int) < d.n) (h : gb (keepU d) i = false) (w : List Int) : accQ d i w = false := by
 cases hw : accQ d i w with
 | false => rfl
 | true => rw [(keepU_at hi).2 ⟨w, hw⟩] at h; cases h
theorem keepU_eq {d : Dfa} (hv : ValidD d) {out : List Bool} (hl : (out.length : Int) = d.n) (h1 : ∀ i : Nat, (i : Int) < d.n → gb d.fin i = true → gb out i = true)
  (h2 : ∀ x ∈ d.arcs, gb out x.t.toNat = true → gb out x.f.toNat = true) (h3 : ∀ i : Nat, (i : Int) < d.n → gb out i = true → ∃ w, accQ d i w = true) : out = keepU d := by
 have up : ∀ (w : List Int) (i : Nat), (i : Int) < d.n → accQ d i w = true → gb out i = true := by
  intro w
  induction w with
  | nil => intro i hi h; rw [accQ_nil, Int.toNat_natCast] at h; exact h1 i hi h
  | cons c w ih =>
   intro i hi h
   cases hx : nxtD d.arcs i c with
   | none => rw [accQ_none hx] at h; cases h
   | some x =>
    rw [accQ_some hx] at h
    obtain ⟨k1, k2, k3⟩ := nxtD_mem hx
    have ha := (hv.arc k1).1.2
    have := h2 x k1 (ih x.t.toNat (by omega) (by rw [Int.toNat_of_nonneg ha.1]; exact h))
    rwa [k2, Int.toNat_natCast] at this
 refine gb_ext (by rw [keepU_len]; omega) fun i hi => ?_
 have hin : (i : Int) < d.n := by omega
 cases ho : gb out i with
 | true => exact ((keepU_at hin).2 (h3 i hin ho)).symm
 | false =>
  cases hk : gb (keepU d) i with
  | false => rfl
  | true =>
   obtain ⟨w, hw⟩ := (keepU_at hin).1 hk
   rw [up w i hin hw] at ho
   cases ho
def noneD : Dfa := ⟨1, 0, [false], []⟩
theorem noneD_valid : ValidD noneD := ⟨⟨Int.le_refl _, by decide⟩, ⟨Int.le_refl _, by decide⟩, rfl, Nat.zero_le _, fun i hi => absurd hi (Nat.not_lt_zero _)⟩
theorem noneD_acc (w : List Int) : accQ noneD 0 w = false := by
 cases w with
 | nil => rfl
 | cons c w => exact accQ_none rfl w
section
variable {d : Dfa}
theorem canD_valid (hv : ValidD d) (keep : List Bool) : ValidD (canD d keep) := by
 unfold canD
 split
 ·exact numD_valid hv
 ·exact noneD_valid
theorem canD_n (hv : ValidD d) (keep : List Bool) : (canD d keep).n ≤ d.n := by
 unfold canD
 have h1 := lastD_len (keep := keep) hv
 have h2 := hv.1
 split
 ·show (((lastD d keep).q.length : Nat) : Int) ≤ _; omega
 ·exact h2.1
theorem canD_s (keep : List Bool) : (canD d keep).s = 0 := by
 unfold canD
 split <;> rfl
theorem canD_lang (hv : ValidD d) {keep : List Bool} (hk : ∀ i : Nat, (i : Int) < d.n → gb keep i = false → ∀ w, accQ d i w = false) : lgD (canD d keep) 0 = lgD d d.s := by
 have hs := hv.2.1
 funext w
 unfold canD
 split
 ·rename_i h
  have := numD_acc hv (keep := keep) (fun x hx h w => by
   have ha := (hv.arc hx).1.2
   have := hk x.t.toNat (by omega) h w
   rwa [Int.toNat_of_nonneg ha.1] at this) w 0 lastD_pos
  show accQ (numD d keep) (0 : Nat) w = _
  rw [this, lastD_start]
  rfl
 ·rename_i h
  have := hk d.s.toNat (by omega) (by simpa using h) w
  rw [Int.toNat_of_nonneg hs.1] at this
  show accQ noneD 0 w = accQ d d.s w
  rw [this, noneD_acc]
theorem canD_lang_all (hv : ValidD d) : lgD (canD d (allK d.n.toNat)) 0 = lgD d d.s := canD_lang hv fun i hi h => by rw [gb_allK (by omega)] at h; cases h
theorem trimD_valid (hv : ValidD d) : ValidD (trimD d) := canD_valid hv _
theorem trimD_n (hv : ValidD d) : (trimD d).n ≤ d.n := canD_n hv _
theorem trimD_s : (trimD d).s = 0 := canD_s _
theorem trimD_lang (hv : ValidD d) : lgD (trimD d) 0 = lgD d d.s := canD_lang hv fun i hi h w => keepU_no hi h w
theorem trimD_useful (hv : ValidD d) : Useful (trimD d) := by
 unfold trimD canD
 split
 ·rename_i h
  intro x hx
  have hx : x ∈ (lastD d (keepU d)).a := hx
  obtain ⟨i, hi, e1, y, hy, e2, e3, e4, e5⟩ := (lastD_mem hv).1 hx
  have hm := lastD_closed hv hi (y.l, y.t) (oD_iff.2 ⟨y, hy, e2, rfl, rfl, e3⟩)
  have hlt := List.idxOf_lt_length_of_mem hm
  have ha := (hv.arc hy).1.2
  obtain ⟨w, hw⟩ := (keepU_at (d := d) (i := y.t.toNat) (by omega)).1 e3
  rw [Int.toNat_of_nonneg ha.1] at hw
  refine ⟨w, ?_⟩
  rw [e5, numD_acc hv (fun z hz h w => by
   have ha := (hv.arc hz).1.2
   have := keepU_no (d := d) (i := z.t.toNat) (by omega) h w
   rwa [Int.toNat_of_nonneg ha.1] at this) w _ hlt, gi_eq _ _ hlt, List.getElem_idxOf]
  exact hw
 ·intro x hx
  cases hx
noncomputable def minD (d : Dfa) : Dfa := minL (lgD d d.s)
theorem prog_classes (hv : ValidD d) {k : Nat} (h : ctK (trimD d).arcs (trimD d).n.toNat (trimD d).fin (k + 1) = ctK (trimD d).arcs (trimD d).n.toNat (trimD d).fin k) :
  Classes (trimD d) (clK (trimD d).arcs (trimD d).n.toNat (trimD d).fin (k + 1)) (ctK (trimD d).arcs (trimD d).n.toNat (trimD d).fin (k + 1)) ∧ ByLang (trimD d) (clK (trimD d).arcs (trimD d).n.toNat (trimD d).fin (k + 1)) := by
 have ht := trimD_valid hv
 have h1 := ht.1
 have h2 := ht.2.2.1
 refine ⟨⟨?_, fun i hi => clK_range (by omega) k, fun v hv => ?_⟩, clK_byLang ht (trimD_useful hv) h⟩
 ·rw [clK_len (by omega)]; omega
 ·obtain ⟨i, hi, e⟩ := clK_cover hv
  exact ⟨i, by omega, e⟩
theorem prog_minD (hv : ValidD d) {C : List Int} {m : Nat} (hC : Classes (trimD d) C m) (hL : ByLang (trimD d) C) : canD (qD (trimD d) C m) (allK m) = minD d := by
 have ht := trimD_valid hv
 have hq := qD_valid ht hC
 have h1 : canD (qD (trimD d) C m) (allK m) = numD (qD (trimD d) C m) (allK m) := canD_all (d := qD (trimD d) C m) hq
 rw [h1, qD_minL ht (trimD_useful hv) hC hL, trimD_s, trimD_lang hv]
 rfl
end
end Go.Proofs.YtbjdglopkpigbaaGreatDoor
set_option linter.unusedSectionVars false
namespace Go.Proofs.YtbjdglopkpigbaaGreatDoor
section
variable {α : Type} [DecidableEq α]
theorem plF_pre {xs ys : List α} (h : xs <+: ys) {x : α} (hx : x ∈ xs) : plF ys x = plF xs x := idx_pre h hx
theorem plF_new {l : List α} {x : α} (h : x ∉ l) : plF (l ++ [x]) x = l.length := by
 unfold plF
 rw [List.idxOf_append, if_neg h]
 simp
end
abbrev Ky := Int × Int × Int
def plK (N : Nat) (ks : List Ky) (x : Ky) : Int := ((plF ks x + N : Nat) : Int)
def stp (ks : List Ky) (x : Ky) : List Ky := if x ∈ ks then ks else ks ++ [x]
theorem stp_mem (ks : List Ky) (x : Ky) : x ∈ stp ks x := by unfold stp; split <;> simp_all
theorem stp_pre (ks : List Ky) (x : Ky) : ks <+: stp ks x := by
 unfold stp
 split
 ·exact List.prefix_refl _
 ·exact List.prefix_append _ _
theorem stp_len (ks : List Ky) (x : Ky) : (stp ks x).length ≤ ks.length + 1 := by unfold stp; split <;> simp
theorem plK_pre {N : Nat} {xs ys : List Ky} (h : xs <+: ys) {x : Ky} (hx : x ∈ xs) : plK N ys x = plK N xs x := by
 unfold plK; rw [plF_pre h hx]
theorem plK_new {N : Nat} {ks : List Ky} {x : Ky} (h : x ∉ ks) : plK N (ks ++ [x]) x = ((ks.length + N : Nat) : Int) := by
 unfold plK
 rw [plF_new h]
theorem plK_inj {N : Nat} {ks : List Ky} {x y : Ky} (hx : x ∈ ks) (hy : y ∈ ks) (h : plK N ks x = plK N ks y) : x = y := by
 unfold plK at h
 exact idx_inj hx hy (by omega)
theorem plK_lt {N : Nat} {ks : List Ky} {x : Ky} (hx : x ∈ ks) : (N : Int) ≤ plK N ks x ∧ plK N ks x < N + ks.length := by
 have := plF_lt hx
 unfold plK
 omega
def numS (N : Nat) (ks : List Ky) (c : Int) (l : List (Int × Int)) : Int := l.foldl (fun p x => plK N ks (p, x.1, x.2)) (plK N ks (c, -1, -1))
theorem numS_nil (N : Nat) (ks : List Ky) (c : Int) : numS N ks c [] = plK N ks (c, -1, -1) := rfl
theorem numS_snoc (N : Nat) (ks : List Ky) (c : Int) (l : List (Int × Int)) (x : Int × Int) : numS N ks c (l ++ [x]) = plK N ks (numS N ks c l, x.1, x.2) := by
 unfold numS; rw [List.foldl_append]; rfl
def ChIn (N : Nat) (ks : List Ky) (c : Int) (l : List (Int × Int)) : Prop := (c, -1, -1) ∈ ks ∧ ∀ j (hj : j < l.length), (numS N ks c (l.take j), (l[j]).1, (l[j]).2) ∈ ks
theorem ChIn.nil {N : Nat} {ks : List Ky} {c : Int} (h : (c, -1, -1) ∈ ks) : ChIn N ks c [] := ⟨h, fun j hj => by simp at hj⟩
theorem ChIn.snoc {N : Nat} {ks : List Ky} {c : Int} {l : List (Int × Int)} {x : Int × Int} : ChIn N ks c (l ++ [x]) ↔ ChIn N ks c l ∧ (numS N ks c l, x.1, x.2) ∈ ks := by
 constructor
 ·rintro ⟨h1, h2⟩
  refine ⟨⟨h1, fun j hj => ?_⟩, ?_⟩
  ·have := h2 j (by simp; omega)
   rw [List.take_append_of_le_length (by omega)] at this
   simpa [List.getElem_append_left hj] using this
  ·have := h2 l.length (by simp)
   simpa using this
 ·rintro ⟨⟨h1, h2⟩, h3⟩
  refine ⟨h1, fun j hj => ?_⟩
  rcases Nat.lt_or_ge j l.length with h | h
  ·have := h2 j h
   rw [List.take_append_of_le_length (by omega)]
   simpa [List.getElem_append_left h] using this
  ·have e : j = l.length := by simp at hj; omega
   subst e
   simpa using h3
theorem numS_pre {N : Nat} {xs ys : List Ky} (h : xs <+: ys) {c : Int} {l : List (Int × Int)} (hc : ChIn N xs c l) : numS N ys c l = numS N xs c l ∧ ChIn N ys c l := by
 have key : ∀ n (l : List (Int × Int)), l.length = n → ChIn N xs c l → numS N ys c l = numS N xs c l ∧ ChIn N ys c l := by
  intro n
  induction n with
  | zero =>
   intro l hl hc
   rw [List.eq_nil_of_length_eq_zero hl] at hc ⊢
   exact ⟨plK_pre h hc.1, ChIn.nil (h.subset hc.1)⟩
  | succ n ih =>
   intro l hl hc
   have hne : l ≠ [] := fun e => by rw [e] at hl; cases hl
   rw [← List.dropLast_concat_getLast hne] at hc ⊢
   obtain ⟨h1, h2⟩ := ChIn.snoc.1 hc
   obtain ⟨k1, k2⟩ := ih _ (by rw [List.length_dropLast, hl]; rfl) h1
   rw [numS_snoc, numS_snoc, k1]
   exact ⟨plK_pre h h2, ChIn.snoc.2 ⟨k2, by rw [k1]; exact h.subset h2⟩⟩
 exact key _ l rfl hc
theorem chin_step {N : Nat} {ks : List Ky} {c : Int} {l : List (Int × Int)} (h : ChIn N ks c l) (x : Int × Int) :
  ChIn N (stp ks (numS N ks c l, x.1, x.2)) c (l ++ [x]) ∧ numS N (stp ks (numS N ks c l, x.1, x.2)) c (l ++ [x]) = plK N (stp ks (numS N ks c l, x.1, x.2)) (numS N ks c l, x.1, x.2) := by
 obtain ⟨e, h'⟩ := numS_pre (stp_pre ks (numS N ks c l, x.1, x.2)) h
 exact ⟨ChIn.snoc.2 ⟨h', by rw [e]; exact stp_mem _ _⟩, by rw [numS_snoc, e]⟩
theorem numS_range {N : Nat} {ks : List Ky} {c : Int} {l : List (Int × Int)} (hc : ChIn N ks c l) : (N : Int) ≤ numS N ks c l ∧ numS N ks c l < N + ks.length := by
 by_cases hne : l = []
 ·subst hne; exact plK_lt hc.1
 ·rw [← List.dropLast_concat_getLast hne] at hc ⊢
  rw [numS_snoc]
  exact plK_lt (ChIn.snoc.1 hc).2
theorem numS_inj {N : Nat} {ks : List Ky} {c c' : Int} : ∀ (n : Nat) (l l' : List (Int × Int)), l.length = n → (∀ x ∈ l, 1 ≤ x.1) → (∀ x ∈ l', 1 ≤ x.1) → ChIn N ks c l → ChIn N ks c' l' → numS N ks c l = numS N ks c' l' → c = c' ∧ l = l'
 | 0, l, l', hl, hp, hp', h, h', e => by
  have hl0 := List.eq_nil_of_length_eq_zero hl
  subst hl0
  by_cases hne : l' = []
  ·subst hne
   rw [numS_nil, numS_nil] at e
   have := plK_inj h.1 h'.1 e
   injection this with e1
   exact ⟨e1, rfl⟩
  ·rw [← List.dropLast_concat_getLast hne] at h' e hp'
   rw [numS_nil, numS_snoc] at e
   have := plK_inj h.1 (ChIn.snoc.1 h').2 e
   injection this with e1 e2
   injection e2 with e2 e3
   have := hp' (l'.getLast hne) (by simp)
   omega
 | n + 1, l, l', hl, hp, hp', h, h', e => by
  have hne : l ≠ [] := fun e => by rw [e] at hl; cases hl
  rw [← List.dropLast_concat_getLast hne] at h e hp ⊢
  by_cases hne' : l' = []
  ·subst hne'
   rw [numS_nil, numS_snoc] at e
   have := plK_inj (ChIn.snoc.1 h).2 h'.1 e
   injection this with e1 e2
   injection e2 with e2 e3
   have := hp (l.getLast hne) (by simp)
   omega
  ·rw [← List.dropLast_concat_getLast hne'] at h' e hp' ⊢
   rw [numS_snoc, numS_snoc] at e
   obtain ⟨k1, k2⟩ := ChIn.snoc.1 h
   obtain ⟨k3, k4⟩ := ChIn.snoc.1 h'
   have := plK_inj k2 k4 e
   injection this with e1 e2
   injection e2 with e2 e3
   obtain ⟨i1, i2⟩ := numS_inj n _ _ (by rw [List.length_dropLast, hl]; rfl) (fun x hx => hp x (List.mem_append_left _ hx)) (fun x hx => hp' x (List.mem_append_left _ hx)) k1 k3 e1
   exact ⟨i1, by rw [i2, show l.getLast hne = l'.getLast hne' from Prod.ext e2 e3]⟩
section
variable {α β : Type} [DecidableEq α] [DecidableEq β]
theorem idxOf_map_on {f : α → β} {l : List α} {x : α} (h : ∀ y ∈ l, f y = f x → y = x) : plF (l.map f) (f x) = plF l x := by
 unfold plF
 induction l with
 | nil => rfl
 | cons y l ih =>
  have ih := ih fun z hz => h z (List.mem_cons_of_mem _ hz)
  rw [List.map_cons, List.idxOf_cons, List.idxOf_cons, ih]
  by_cases e : y = x
  ·subst e; simp
  ·have e' : f y ≠ f x := fun he => e (h y List.mem_cons_self he)
   have b1 : (y == x) = false := by simpa using e
   have b2 : (f y == f x) = false := by simpa using e'
   rw [b1, b2]
theorem mem_map_on {f : α → β} {l : List α} {x : α} (h : ∀ y ∈ l, f y = f x → y = x) : f x ∈ l.map f ↔ x ∈ l := by
 rw [List.mem_map]
 exact ⟨fun ⟨y, hy, e⟩ => h y hy e ▸ hy, fun hx => ⟨x, hx, rfl⟩⟩
end
def numA (N : Nat) (ks : List Ky) (s : Int × List (Int × Int)) : Int := numS N ks s.1 s.2
def SigOk (s : Int × List (Int × Int)) : Prop := ∀ x ∈ s.2, 1 ≤ x.1
structure RefI (es : List A3) (cl : List Int) (N k : Nat) (ks : List Ky) (fk : List Int) : Prop where
 chin : ∀ i, i < k → ChIn N ks (sigA es cl i).1 (sigA es cl i).2
 fks : fk = (firsts (sigs es cl k)).map (numA N ks)
section
variable {es : List A3} {cl : List Int} {N k : Nat} {ks : List Ky} {fk : List Int}
theorem RefI.start (es : List A3) (cl : List Int) (N : Nat) : RefI es cl N 0 [] [] := ⟨fun i hi => by omega, rfl⟩
theorem RefI.chOf (h : RefI es cl N k ks fk) {s : Int × List (Int × Int)} (hs : s ∈ firsts (sigs es cl k)) : ChIn N ks s.1 s.2 := by
 obtain ⟨i, hi, rfl⟩ := List.mem_map.1 (mem_firsts.1 hs)
 exact h.chin i (List.mem_range.1 hi)
theorem RefI.grow (h : RefI es cl N k ks fk) {ks' : List Ky} (hp : ks <+: ks') : RefI es cl N k ks' fk := by
 refine ⟨fun i hi => (numS_pre hp (h.chin i hi)).2, ?_⟩
 rw [h.fks]
 exact List.map_congr_left fun s hs => (numS_pre hp (h.chOf hs)).1.symm
theorem sig_ok (hl : ∀ x ∈ es, 1 ≤ x.l) (i : Nat) : SigOk (sigA es cl i) := by
 intro x hx
 obtain ⟨y, hy, rfl⟩ := List.mem_map.1 hx
 exact hl y (outsD_mem.1 hy).1
theorem RefI.distinct (hl : ∀ x ∈ es, 1 ≤ x.l) (h : RefI es cl N k ks fk) (hk : ChIn N ks (sigA es cl k).1 (sigA es cl k).2) : ∀ s ∈ firsts (sigs es cl k), numA N ks s = numA N ks (sigA es cl k) → s = sigA es cl k := by
 intro s hs e
 obtain ⟨i, hi, rfl⟩ := List.mem_map.1 (mem_firsts.1 hs)
 obtain ⟨e1, e2⟩ := numS_inj _ _ _ rfl (sig_ok hl i) (sig_ok hl k) (h.chin i (List.mem_range.1 hi)) hk e
 exact Prod.ext e1 e2
theorem sigs_succ (es : List A3) (cl : List Int) (k : Nat) : sigs es cl (k + 1) = sigs es cl k ++ [sigA es cl k] := by
 unfold sigs; rw [List.range_succ, List.map_append]; rfl
theorem RefI.step (hl : ∀ x ∈ es, 1 ≤ x.l) (h : RefI es cl N k ks fk) (hk : ChIn N ks (sigA es cl k).1 (sigA es cl k).2) :
  RefI es cl N (k + 1) ks (if numA N ks (sigA es cl k) ∈ fk then fk else fk ++ [numA N ks (sigA es cl k)]) := by
 refine ⟨fun i hi => ?_, ?_⟩
 ·rcases Nat.lt_or_ge i k with h1 | h1
  ·exact h.chin i h1
  ·rw [show i = k by omega]; exact hk
 ·have hm := mem_map_on (h.distinct hl hk)
  rw [← h.fks] at hm
  rw [sigs_succ, firsts_snoc]
  by_cases hf : sigA es cl k ∈ firsts (sigs es cl k)
  ·rw [if_pos hf, if_pos (hm.2 hf)]; exact h.fks
  ·rw [if_neg hf, if_neg (fun e => hf (hm.1 e)), List.map_append, ← h.fks]; rfl
theorem RefI.idx (hl : ∀ x ∈ es, 1 ≤ x.l) (hkN : k < N) (h : RefI es cl N (k + 1) ks fk) : ((plF fk (numA N ks (sigA es cl k)) : Nat) : Int) = gi (refC es N cl) k := by
 rw [refC_at es cl hkN, h.fks]
 have hk := h.chin k (Nat.lt_succ_self k)
 have e1 := idxOf_map_on (f := numA N ks) (l := firsts (sigs es cl (k + 1))) (x := sigA es cl k) fun s hs e => by
  obtain ⟨i, hi, rfl⟩ := List.mem_map.1 (mem_firsts.1 hs)
  obtain ⟨e1, e2⟩ := numS_inj _ _ _ rfl (sig_ok hl i) (sig_ok hl k) (h.chin i (List.mem_range.1 hi)) hk e
  exact Prod.ext e1 e2
 rw [e1]
 have hm : sigA es cl k ∈ firsts (sigs es cl (k + 1)) := sig_mem es cl (Nat.lt_succ_self k)
 have hp : firsts (sigs es cl (k + 1)) <+: firsts (sigs es cl N) := by
  have e : sigs es cl N = sigs es cl (k + 1) ++ ((List.range' (k + 1) (N - (k + 1))).map (sigA es cl)) := by
   unfold sigs
   rw [← List.map_append]
   congr 1
   rw [List.range_eq_range', List.range_eq_range']
   have := List.range'_append_1 (s := 0) (m := k + 1) (n := N - (k + 1))
   rw [Nat.zero_add] at this
   rw [this, show k + 1 + (N - (k + 1)) = N by omega]
  rw [e]
  exact firsts_pre _ _
 rw [plF_pre hp hm]
theorem RefI.count (h : RefI es cl N N ks fk) : fk.length = refN es N cl := by rw [h.fks, List.length_map]; rfl
end
def outR (es : List A3) (cl : List Int) (N k : Nat) : List Int := (refC es N cl).take k ++ List.replicate (N - k) 0
theorem outR_len (es : List A3) (cl : List Int) (N k : Nat) (h : k ≤ N) : (outR es cl N k).length = N := by
 unfold outR
 rw [List.length_append, List.length_take, refC_len, List.length_replicate]
 omega
theorem outR_set {es : List A3} {cl : List Int} {N k : Nat} (h : k < N) : (outR es cl N k).set k (gi (refC es N cl) k) = outR es cl N (k + 1) := by
 unfold outR
 have hl := refC_len es cl N
 rw [List.set_append_right _ _ (by rw [List.length_take]; omega), List.length_take, show k - min k (refC es N cl).length = 0 by omega]
 obtain ⟨m, hm⟩ : ∃ m, N - k = m + 1 := ⟨N - k - 1, by omega⟩
 rw [hm, show N - (k + 1) = m by omega, List.replicate_succ, List.set_cons_zero, List.take_succ_eq_append_getElem (by omega), gi_eq _ _ (by omega), List.append_assoc]
 rfl
theorem outR_full (es : List A3) (cl : List Int) (N : Nat) : outR es cl N N = refC es N cl := by
 unfold outR
 rw [List.take_of_length_le (by rw [refC_len]; exact Nat.le_refl _)]
 simp
end Go.Proofs.YtbjdglopkpigbaaGreatDoor
