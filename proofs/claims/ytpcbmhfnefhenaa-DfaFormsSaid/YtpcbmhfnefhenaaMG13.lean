import Derived.Test.YtpcbmhfnefhenaaMG12
/-
  DfaMq, DfaTr
-/
set_option linter.unusedVariables false
namespace Go.Proofs.Ytpcbmhfnefhenaa

theorem outsD_flat {h : Nat → List A3} (hf : ∀ i x, x ∈ h i → x.f = (i : Int)) {n i : Nat} (hi : i < n) : outsD ((List.range n).flatMap h) i = h i := by
  have no : ∀ j, j ≠ i → (h j).filter (fun x => decide (x.f = (i : Int))) = [] := fun j hj => by
    rw [List.filter_eq_nil_iff]
    intro x hx
    have := hf j x hx
    simp
    omega
  have yes : (h i).filter (fun x => decide (x.f = (i : Int))) = h i := by
    rw [List.filter_eq_self]
    intro x hx
    have := hf i x hx
    simp
    omega
  have below : ∀ m, m ≤ i → ((List.range m).flatMap h).filter (fun x => decide (x.f = (i : Int))) = [] := by
    intro m hm
    induction m with
    | zero => rfl
    | succ m ih => rw [List.range_succ, List.flatMap_append, List.filter_append, ih (by omega)]; simp only [List.flatMap_cons, List.flatMap_nil, List.append_nil, List.nil_append]; exact no m (by omega)
  unfold outsD
  induction n with
  | zero => omega
  | succ n ih =>
    rw [List.range_succ, List.flatMap_append, List.filter_append]
    simp only [List.flatMap_cons, List.flatMap_nil, List.append_nil]
    rcases Nat.lt_or_ge i n with h1 | h1
    · rw [ih h1, no n (by omega), List.append_nil]
    · obtain rfl : i = n := by omega
      rw [below i (Nat.le_refl _), yes, List.nil_append]
theorem flat_sorted {h : Nat → List A3} (hf : ∀ i x, x ∈ h i → x.f = (i : Int)) (ha : ∀ i, (h i).Pairwise fun x y => x.l < y.l) (n : Nat) : SortedA ((List.range n).flatMap h) := by
  unfold SortedA
  rw [List.pairwise_flatMap]
  refine ⟨fun i _ => ?_, List.Pairwise.imp (fun {i j} hij x hx y hy => .inl (by rw [hf i x hx, hf j y hy]; omega)) List.pairwise_lt_range⟩
  refine List.Pairwise.imp_of_mem (fun {x y} hx hy h => .inr ⟨by rw [hf i x hx, hf i y hy], h⟩) (ha i)
def repC (C : List Int) (c : Nat) : Nat := C.idxOf (c : Int)
def arcsQ (t : Dfa) (C : List Int) (c : Nat) : List A3 := (outsD t.arcs (repC C c)).map fun x => ⟨c, x.l, gi C x.t.toNat⟩
def qD (t : Dfa) (C : List Int) (m : Nat) : Dfa := ⟨m, gi C t.s.toNat, (List.range m).map fun c => gb t.fin (repC C c), (List.range m).flatMap (arcsQ t C)⟩
structure Classes (t : Dfa) (C : List Int) (m : Nat) : Prop where
  len : (C.length : Int) = t.n
  range : ∀ i : Nat, (i : Int) < t.n → 0 ≤ gi C i ∧ gi C i < m
  cover : ∀ v, v < m → ∃ i : Nat, (i : Int) < t.n ∧ gi C i = v
section
variable {t : Dfa} {C : List Int} {m : Nat}
theorem repC_at (hC : Classes t C m) {c : Nat} (hc : c < m) : (repC C c : Int) < t.n ∧ gi C (repC C c) = c := by
  obtain ⟨i, hi, e⟩ := hC.cover c hc
  have hl := hC.len
  have hm : (c : Int) ∈ C := by
    rw [← e]
    exact gi_mem C i (by omega)
  have h1 := List.idxOf_lt_length_of_mem hm
  unfold repC
  exact ⟨by omega, by rw [gi_eq _ _ h1, List.getElem_idxOf]⟩
theorem arcsQ_f (c : Nat) : ∀ x, x ∈ arcsQ t C c → x.f = (c : Int) := fun x hx => by
  obtain ⟨y, _, rfl⟩ := List.mem_map.1 hx
  rfl
theorem arcsQ_asc (hv : ValidD t) (c : Nat) : (arcsQ t C c).Pairwise fun x y => x.l < y.l := by
  unfold arcsQ
  rw [List.pairwise_map]
  exact outsD_asc hv.sorted _
theorem Classes.le (hv : ValidD t) (hC : Classes t C m) : 1 ≤ m ∧ (m : Int) ≤ t.n := by
  have h1 := hv.1
  have h2 := hC.range 0 (by omega)
  refine ⟨by omega, ?_⟩
  have := cover_le (l := C) (m := m) fun v hv => by
    obtain ⟨i, hi, e⟩ := hC.cover v hv
    have := hC.len
    rw [← e]
    exact gi_mem C i (by omega)
  have := hC.len
  omega
theorem qD_arc {x : A3} : x ∈ (qD t C m).arcs ↔ ∃ c, c < m ∧ x.f = (c : Int) ∧ ∃ y ∈ t.arcs, y.f = repC C c ∧ x.l = y.l ∧ x.t = gi C y.t.toNat := by
  show x ∈ (List.range m).flatMap (arcsQ t C) ↔ _
  rw [List.mem_flatMap]
  constructor
  · rintro ⟨c, hc, hx⟩
    obtain ⟨y, hy, rfl⟩ := List.mem_map.1 hx
    obtain ⟨h1, h2⟩ := outsD_mem.1 hy
    exact ⟨c, List.mem_range.1 hc, rfl, y, h1, h2, rfl, rfl⟩
  · rintro ⟨c, hc, h1, y, hy, h2, h3, h4⟩
    exact ⟨c, List.mem_range.2 hc, List.mem_map.2 ⟨y, outsD_mem.2 ⟨hy, h2⟩, by rw [← h1, ← h3, ← h4]⟩⟩
theorem qD_valid (hv : ValidD t) (hC : Classes t C m) : ValidD (qD t C m) := by
  have hle := hC.le hv
  have hs := flat_sorted (h := arcsQ t C) arcsQ_f (arcsQ_asc hv) m
  have h2 := hv.2.1
  refine ⟨⟨by show (1 : Int) ≤ (m : Int); omega, by show (m : Int) ≤ 1000; have := hv.1; omega⟩, hC.range _ (by omega), ?_, ?_, ?_⟩
  · show (((List.range m).map fun c => gb t.fin (repC C c)).length : Int) = m
    simp
  · have hn : ((List.range m).flatMap fun c => outsD t.arcs (repC C c)).Nodup := by
      have hd : t.arcs.Nodup := List.Pairwise.imp (fun h e => by subst e; exact LtA.irrefl h) hv.sorted
      rw [List.nodup_iff_pairwise_ne, List.pairwise_flatMap]
      refine ⟨fun c _ => hd.filter _, List.Pairwise.imp_of_mem ?_ List.pairwise_lt_range⟩
      intro a b ha hb hab x hx y hy e
      subst e
      have e1 := (outsD_mem.1 hx).2
      have e2 := (outsD_mem.1 hy).2
      have k1 := (repC_at hC (List.mem_range.1 ha)).2
      have k2 := (repC_at hC (List.mem_range.1 hb)).2
      have : repC C a = repC C b := by omega
      rw [this] at k1
      omega
    have hsub : ((List.range m).flatMap fun c => outsD t.arcs (repC C c)) ⊆ t.arcs := fun x hx => by
      obtain ⟨c, _, h⟩ := List.mem_flatMap.1 hx
      exact (outsD_mem.1 h).1
    have h1 := hn.length_le_of_subset hsub
    have h3 : (qD t C m).arcs.length = ((List.range m).flatMap fun c => outsD t.arcs (repC C c)).length := by
      show ((List.range m).flatMap (arcsQ t C)).length = _
      rw [List.length_flatMap, List.length_flatMap]
      congr 1
      exact List.map_congr_left fun c _ => by unfold arcsQ; rw [List.length_map]
    have := hv.2.2.2.1
    omega
  · intro i hi
    obtain ⟨c, hc, e1, y, hy, e2, e3, e4⟩ := qD_arc.1 (g3_mem _ i hi)
    have ha := hv.arc hy
    have hr := hC.range y.t.toNat (by omega)
    refine ⟨⟨⟨by omega, by rw [e1]; exact Int.ofNat_lt.2 hc⟩, ⟨by omega, by rw [e4]; exact hr.2⟩⟩, ⟨by omega, by omega⟩, fun h0 => SortedA.lt hs (by omega) hi⟩
theorem qD_outs (hv : ValidD t) {c : Nat} (hc : c < m) : outsD (qD t C m).arcs c = arcsQ t C c := outsD_flat arcsQ_f hc
theorem rep_lang (hC : Classes t C m) (hL : ByLang t C) {i : Nat} (hi : (i : Int) < t.n) : lgD t (repC C (gi C i).toNat) = lgD t i := by
  have hr := hC.range i hi
  obtain ⟨h1, h2⟩ := repC_at hC (c := (gi C i).toNat) (by omega)
  exact (hL _ _ h1 hi).1 (by rw [h2]; omega)
theorem rep_lang' (hv : ValidD t) (hC : Classes t C m) (hL : ByLang t C) {x : A3} (hx : x ∈ t.arcs) : lgD t (repC C (gi C x.t.toNat).toNat) = lgD t x.t := by
  have ha := (hv.arc hx).1.2
  have := rep_lang hC hL (i := x.t.toNat) (by omega)
  rwa [Int.toNat_of_nonneg ha.1] at this
theorem qD_acc (hv : ValidD t) (hC : Classes t C m) (hL : ByLang t C) : ∀ (w : List Int) (c : Nat), c < m → accQ (qD t C m) c w = accQ t (repC C c) w
  | [], c, hc => by
    rw [accQ_nil, accQ_nil]
    show gb ((List.range m).map fun c => gb t.fin (repC C c)) _ = _
    rw [gb_eq _ _ (by simpa using hc)]
    simp
  | a :: w, c, hc => by
    have hq := qD_valid hv hC
    cases h : nxtD t.arcs (repC C c) a with
    | none =>
      rw [accQ_none h, accQ_none]
      rw [nxtD_none_iff]
      intro x hx h1 h2
      obtain ⟨c', hc', e1, y, hy, e2, e3, e4⟩ := qD_arc.1 hx
      obtain rfl : c' = c := by omega
      exact nxtD_none_iff.1 h y hy e2 (by omega)
    | some y =>
      obtain ⟨h1, h2, h3⟩ := nxtD_mem h
      have hn : nxtD (qD t C m).arcs c a = some ⟨c, a, gi C y.t.toNat⟩ := (nxtD_iff hq.sorted).2 ⟨qD_arc.2 ⟨c, hc, rfl, y, h1, h2, h3.symm, rfl⟩, rfl, rfl⟩
      rw [accQ_some h, accQ_some hn]
      have ha := (hv.arc h1).1.2
      have hr := hC.range y.t.toNat (by omega)
      have := qD_acc hv hC hL w (gi C y.t.toNat).toNat (by omega)
      rw [Int.toNat_of_nonneg hr.1] at this
      show accQ (qD t C m) (gi C y.t.toNat) w = _
      rw [this]
      exact congrFun (rep_lang' hv hC hL h1) w
def allK (m : Nat) : List Bool := List.replicate m true
theorem gb_allK {m i : Nat} (h : i < m) : gb (allK m) i = true := by
  unfold allK
  rw [gb_eq _ _ (by simpa using h)]
  simp
theorem oD_all {d : Dfa} (hv : ValidD d) (q : Int) : oD d (allK d.n.toNat) q = (outsD d.arcs q).map fun x => (x.l, x.t) := by
  unfold oD kd
  congr 1
  rw [List.filter_eq_self]
  intro x hx
  have := (hv.arc (outsD_mem.1 hx).1).1.2
  exact gb_allK (by omega)
theorem canD_all {d : Dfa} (hv : ValidD d) : canD d (allK d.n.toNat) = numD d (allK d.n.toNat) := by
  unfold canD
  have := hv.2.1
  rw [if_pos (gb_allK (by omega))]
theorem num_minL (hv : ValidD t) (hu : Useful t) {d : Dfa} (hd : ValidD d) (r : Int → Int) (P : Int → Prop) (hs : P d.s)
    (hP : ∀ y, P y → ∀ x ∈ outsD d.arcs y, P x.t) (hinj : ∀ x y, P x → P y → lgD t (r x) = lgD t (r y) → x = y)
    (he : ∀ y, P y → (outsD d.arcs y).map (fun x => (x.l, lgD t (r x.t))) = (outsD t.arcs (r y)).map fun x => (x.l, lgD t x.t))
    (hf : ∀ y, P y → InD d y → gb d.fin y.toNat = gb t.fin (r y).toNat) :
    numD d (allK d.n.toNat) = minL (lgD t (r d.s)) := by
  have hl : ∀ x ∈ t.arcs, 1 ≤ x.l ∧ x.l ≤ 10000 := fun x hx => (hv.arc hx).2
  have ho : ∀ y, P y → ∀ x ∈ oD d (allK d.n.toNat) y, P x.2 := fun y hy x hx => by
    rw [oD_all hd] at hx
    obtain ⟨z, hz, rfl⟩ := List.mem_map.1 hx
    exact hP y hy z hz
  have hb := bq_lang hv.sorted hl hu (o := oD d (allK d.n.toNat)) (s := d.s) r P hs ho hinj (fun y hy => by
    rw [oD_all hd, List.map_map, ← he y hy]
    rfl) 1000
  have hk : bq (oD d (allK d.n.toNat)) d.s 1000 = bq (oD d (allK d.n.toNat)) d.s d.n.toNat := bqD_fin hd _ (by have := bqD_len hd (allK d.n.toNat) 1000; have := hd.1; omega)
  rw [hk] at hb
  have hPQ := bq_all hs ho d.n.toNat
  have hin := bqD_in hd (allK d.n.toNat) d.n.toNat
  have hfin : (bq (oD d (allK d.n.toNat)) d.s d.n.toNat).q.map (fun q => gb d.fin q.toNat) = (bq (oD d (allK d.n.toNat)) d.s d.n.toNat).q.map fun q => lgD t (r q) [] := by
    refine List.map_congr_left fun q hq => ?_
    show gb d.fin q.toNat = accQ t (r q) []
    rw [accQ_nil]
    exact hf q (hPQ q hq) (hin q hq)
  unfold minL
  rw [show lastL (lgD t (r d.s)) = _ from hb]
  unfold numD resB
  rw [hfin]
  simp only [List.length_map, List.map_map]
  rfl
theorem qD_minL (hv : ValidD t) (hu : Useful t) (hC : Classes t C m) (hL : ByLang t C) : numD (qD t C m) (allK m) = minL (lgD t t.s) := by
  have hq := qD_valid hv hC
  have hs := hv.2.1
  have hrs := rep_lang hC hL (i := t.s.toNat) (by omega)
  rw [Int.toNat_of_nonneg hs.1] at hrs
  have := num_minL hv hu hq (fun c => (repC C c.toNat : Int)) (InD (qD t C m)) hq.2.1 (fun y hy x hx => (hq.arc (outsD_mem.1 hx).1).1.2)
    (fun x y hx hy e => by
      have hx1 : 0 ≤ x := hx.1
      have hx2 : x < (m : Int) := hx.2
      have hy1 : 0 ≤ y := hy.1
      have hy2 : y < (m : Int) := hy.2
      obtain ⟨a1, a2⟩ := repC_at hC (c := x.toNat) (by omega)
      obtain ⟨b1, b2⟩ := repC_at hC (c := y.toNat) (by omega)
      have := (hL _ _ a1 b1).2 e
      omega)
    (fun y hy => by
      have hy1 : 0 ≤ y := hy.1
      have hy2 : y < (m : Int) := hy.2
      obtain ⟨c, rfl⟩ := Int.eq_ofNat_of_zero_le hy1
      rw [qD_outs hv (by omega), arcsQ, List.map_map]
      refine List.map_congr_left fun x hx => ?_
      show (x.l, lgD t (repC C (gi C x.t.toNat).toNat)) = (x.l, lgD t x.t)
      rw [rep_lang' hv hC hL (outsD_mem.1 hx).1])
    (fun y _ hy => by
      have hy1 : 0 ≤ y := hy.1
      have hy2 : y < (m : Int) := hy.2
      obtain ⟨c, rfl⟩ := Int.eq_ofNat_of_zero_le hy1
      show gb ((List.range m).map fun c => gb t.fin (repC C c)) _ = _
      rw [Int.toNat_natCast, gb_eq _ _ (by simp; omega)]
      simp)
  rw [show allK m = allK (qD t C m).n.toNat from rfl, this, ← hrs]
  rfl
theorem minL_of (hv : ValidD t) (hu : Useful t) (hC : Classes t C m) (hL : ByLang t C) : ValidD (minL (lgD t t.s)) ∧ lgD (minL (lgD t t.s)) 0 = lgD t t.s ∧ (minL (lgD t t.s)).n ≤ m := by
  have hq := qD_valid hv hC
  have hs := hv.2.1
  have hle := hC.le hv
  rw [← qD_minL hv hu hC hL]
  refine ⟨numD_valid hq, ?_, ?_⟩
  · funext w
    have h1 := numD_acc (keep := allK m) hq (fun x hx h => by
      have := (hq.arc hx).1.2
      rw [gb_allK (by have : (qD t C m).n = m := rfl; omega)] at h
      cases h) w 0 lastD_pos
    show accQ (numD (qD t C m) (allK m)) (0 : Nat) w = _
    rw [h1, lastD_start]
    show accQ (qD t C m) (gi C t.s.toNat) w = _
    have hr := hC.range t.s.toNat (by omega)
    have h2 := qD_acc hv hC hL w (gi C t.s.toNat).toNat (by omega)
    rw [Int.toNat_of_nonneg hr.1] at h2
    rw [h2]
    have h3 := rep_lang hC hL (i := t.s.toNat) (by omega)
    rw [Int.toNat_of_nonneg hs.1] at h3
    exact congrFun h3 w
  · have := lastD_len (keep := allK m) hq
    show (((lastD (qD t C m) (allK m)).q.length : Nat) : Int) ≤ m
    have e : (qD t C m).n.toNat = m := by show ((m : Int)).toNat = m; simp
    omega
end
end Go.Proofs.Ytpcbmhfnefhenaa

set_option linter.unusedVariables false
namespace Go.Proofs.Ytpcbmhfnefhenaa

noncomputable def keepU (d : Dfa) : List Bool := (List.range d.n.toNat).map fun (i : Nat) => @decide (∃ w, accQ d i w = true) (Classical.propDecidable _)
noncomputable def trimD (d : Dfa) : Dfa := canD d (keepU d)
theorem keepU_len (d : Dfa) : (keepU d).length = d.n.toNat := by simp [keepU]
theorem keepU_at {d : Dfa} {i : Nat} (hi : (i : Int) < d.n) : gb (keepU d) i = true ↔ ∃ w, accQ d i w = true := by
  have hl : i < (keepU d).length := by rw [keepU_len]; omega
  rw [gb_eq _ _ hl]
  simp [keepU]
theorem keepU_no {d : Dfa} {i : Nat} (hi : (i : Int) < d.n) (h : gb (keepU d) i = false) (w : List Int) : accQ d i w = false := by
  cases hw : accQ d i w with
  | false => rfl
  | true => rw [(keepU_at hi).2 ⟨w, hw⟩] at h; cases h
theorem keepU_eq {d : Dfa} (hv : ValidD d) {out : List Bool} (hl : (out.length : Int) = d.n) (h1 : ∀ i : Nat, (i : Int) < d.n → gb d.fin i = true → gb out i = true)
    (h2 : ∀ x ∈ d.arcs, gb out x.t.toNat = true → gb out x.f.toNat = true) (h3 : ∀ i : Nat, (i : Int) < d.n → gb out i = true → ∃ w, accQ d i w = true) : out = keepU d := by
  have up : ∀ (w : List Int) (i : Nat), (i : Int) < d.n → accQ d i w = true → gb out i = true := by
    intro w
    induction w with
    | nil => intro i hi h; rw [accQ_nil, Int.toNat_natCast] at h; exact h1 i hi h
    | cons c w ih =>
      intro i hi h
      cases hx : nxtD d.arcs i c with
      | none => rw [accQ_none hx] at h; cases h
      | some x =>
        rw [accQ_some hx] at h
        obtain ⟨k1, k2, k3⟩ := nxtD_mem hx
        have ha := (hv.arc k1).1.2
        have := h2 x k1 (ih x.t.toNat (by omega) (by rw [Int.toNat_of_nonneg ha.1]; exact h))
        rwa [k2, Int.toNat_natCast] at this
  refine gb_ext (by rw [keepU_len]; omega) fun i hi => ?_
  have hin : (i : Int) < d.n := by omega
  cases ho : gb out i with
  | true => exact ((keepU_at hin).2 (h3 i hin ho)).symm
  | false =>
    cases hk : gb (keepU d) i with
    | false => rfl
    | true =>
      obtain ⟨w, hw⟩ := (keepU_at hin).1 hk
      rw [up w i hin hw] at ho
      cases ho
def noneD : Dfa := ⟨1, 0, [false], []⟩
theorem noneD_valid : ValidD noneD := ⟨⟨Int.le_refl _, by decide⟩, ⟨Int.le_refl _, by decide⟩, rfl, Nat.zero_le _, fun i hi => absurd hi (Nat.not_lt_zero _)⟩
theorem noneD_acc (w : List Int) : accQ noneD 0 w = false := by
  cases w with
  | nil => rfl
  | cons c w => exact accQ_none rfl w
section
variable {d : Dfa}
theorem canD_valid (hv : ValidD d) (keep : List Bool) : ValidD (canD d keep) := by
  unfold canD
  split
  · exact numD_valid hv
  · exact noneD_valid
theorem canD_n (hv : ValidD d) (keep : List Bool) : (canD d keep).n ≤ d.n := by
  unfold canD
  have h1 := lastD_len (keep := keep) hv
  have h2 := hv.1
  split
  · show (((lastD d keep).q.length : Nat) : Int) ≤ _; omega
  · exact h2.1
theorem canD_s (keep : List Bool) : (canD d keep).s = 0 := by
  unfold canD
  split <;> rfl
theorem canD_lang (hv : ValidD d) {keep : List Bool} (hk : ∀ i : Nat, (i : Int) < d.n → gb keep i = false → ∀ w, accQ d i w = false) : lgD (canD d keep) 0 = lgD d d.s := by
  have hs := hv.2.1
  funext w
  unfold canD
  split
  · rename_i h
    have := numD_acc hv (keep := keep) (fun x hx h w => by
      have ha := (hv.arc hx).1.2
      have := hk x.t.toNat (by omega) h w
      rwa [Int.toNat_of_nonneg ha.1] at this) w 0 lastD_pos
    show accQ (numD d keep) (0 : Nat) w = _
    rw [this, lastD_start]
    rfl
  · rename_i h
    have := hk d.s.toNat (by omega) (by simpa using h) w
    rw [Int.toNat_of_nonneg hs.1] at this
    show accQ noneD 0 w = accQ d d.s w
    rw [this, noneD_acc]
theorem canD_lang_all (hv : ValidD d) : lgD (canD d (allK d.n.toNat)) 0 = lgD d d.s := canD_lang hv fun i hi h => by rw [gb_allK (by omega)] at h; cases h
theorem trimD_valid (hv : ValidD d) : ValidD (trimD d) := canD_valid hv _
theorem trimD_n (hv : ValidD d) : (trimD d).n ≤ d.n := canD_n hv _
theorem trimD_s : (trimD d).s = 0 := canD_s _
theorem trimD_lang (hv : ValidD d) : lgD (trimD d) 0 = lgD d d.s := canD_lang hv fun i hi h w => keepU_no hi h w
theorem trimD_useful (hv : ValidD d) : Useful (trimD d) := by
  unfold trimD canD
  split
  · rename_i h
    intro x hx
    have hx : x ∈ (lastD d (keepU d)).a := hx
    obtain ⟨i, hi, e1, y, hy, e2, e3, e4, e5⟩ := (lastD_mem hv).1 hx
    have hm := lastD_closed hv hi (y.l, y.t) (oD_iff.2 ⟨y, hy, e2, rfl, rfl, e3⟩)
    have hlt := List.idxOf_lt_length_of_mem hm
    have ha := (hv.arc hy).1.2
    obtain ⟨w, hw⟩ := (keepU_at (d := d) (i := y.t.toNat) (by omega)).1 e3
    rw [Int.toNat_of_nonneg ha.1] at hw
    refine ⟨w, ?_⟩
    rw [e5, numD_acc hv (fun z hz h w => by
      have ha := (hv.arc hz).1.2
      have := keepU_no (d := d) (i := z.t.toNat) (by omega) h w
      rwa [Int.toNat_of_nonneg ha.1] at this) w _ hlt, gi_eq _ _ hlt, List.getElem_idxOf]
    exact hw
  · intro x hx
    cases hx
noncomputable def minD (d : Dfa) : Dfa := minL (lgD d d.s)
theorem prog_classes (hv : ValidD d) {k : Nat} (h : ctK (trimD d).arcs (trimD d).n.toNat (trimD d).fin (k + 1) = ctK (trimD d).arcs (trimD d).n.toNat (trimD d).fin k) :
    Classes (trimD d) (clK (trimD d).arcs (trimD d).n.toNat (trimD d).fin (k + 1)) (ctK (trimD d).arcs (trimD d).n.toNat (trimD d).fin (k + 1)) ∧ ByLang (trimD d) (clK (trimD d).arcs (trimD d).n.toNat (trimD d).fin (k + 1)) := by
  have ht := trimD_valid hv
  have h1 := ht.1
  have h2 := ht.2.2.1
  refine ⟨⟨?_, fun i hi => clK_range (by omega) k, fun v hv => ?_⟩, clK_byLang ht (trimD_useful hv) h⟩
  · rw [clK_len (by omega)]; omega
  · obtain ⟨i, hi, e⟩ := clK_cover hv
    exact ⟨i, by omega, e⟩
theorem prog_minD (hv : ValidD d) {C : List Int} {m : Nat} (hC : Classes (trimD d) C m) (hL : ByLang (trimD d) C) : canD (qD (trimD d) C m) (allK m) = minD d := by
  have ht := trimD_valid hv
  have hq := qD_valid ht hC
  have h1 : canD (qD (trimD d) C m) (allK m) = numD (qD (trimD d) C m) (allK m) := canD_all (d := qD (trimD d) C m) hq
  rw [h1, qD_minL ht (trimD_useful hv) hC hL, trimD_s, trimD_lang hv]
  rfl
end
end Go.Proofs.Ytpcbmhfnefhenaa
