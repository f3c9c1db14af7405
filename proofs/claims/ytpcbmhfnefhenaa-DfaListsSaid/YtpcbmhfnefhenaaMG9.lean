import Derived.Test.YtpcbmhfnefhenaaMG8
/-
  DfaMi, DfaMq
-/
set_option linter.unusedVariables false
set_option linter.unusedSectionVars false
namespace Go.Proofs.Ytpcbmhfnefhenaa

section
variable {α : Type} [DecidableEq α]
def firsts (l : List α) : List α := l.foldl (fun acc x => if x ∈ acc then acc else acc ++ [x]) []
theorem firsts_nil : firsts ([] : List α) = [] := rfl
theorem firsts_snoc (l : List α) (x : α) : firsts (l ++ [x]) = if x ∈ firsts l then firsts l else firsts l ++ [x] := by
 unfold firsts; rw [List.foldl_append]; rfl
theorem snoc_ind {P : List α → Prop} (h0 : P []) (h1 : ∀ l x, P l → P (l ++ [x])) (l : List α) : P l := by
 have : ∀ n (l : List α), l.length = n → P l := by
  intro n
  induction n with
  | zero => intro l hl; rw [List.eq_nil_of_length_eq_zero hl]; exact h0
  | succ n ih =>
   intro l hl
   have hne : l ≠ [] := fun e => by rw [e] at hl; cases hl
   rw [← List.dropLast_concat_getLast hne]
   exact h1 _ _ (ih _ (by rw [List.length_dropLast, hl]; rfl))
 exact this _ l rfl
theorem mem_firsts {l : List α} {x : α} : x ∈ firsts l ↔ x ∈ l := by
 induction l using snoc_ind with
 | h0 => rfl
 | h1 l y ih =>
  rw [firsts_snoc]
  by_cases hy : y ∈ firsts l
  ·rw [if_pos hy, ih, List.mem_append, List.mem_singleton]
   refine ⟨.inl, fun h => h.elim id fun e => ?_⟩
   rw [← ih, e]
   exact hy
  ·rw [if_neg hy, List.mem_append, List.mem_append, ih]
theorem firsts_nodup (l : List α) : (firsts l).Nodup := by
 induction l using snoc_ind with
 | h0 => exact List.nodup_nil
 | h1 l y ih =>
  rw [firsts_snoc]
  by_cases hy : y ∈ firsts l
  ·rw [if_pos hy]; exact ih
  ·rw [if_neg hy, List.nodup_append]
   refine ⟨ih, by simp, fun a ha b hb => ?_⟩
   rw [List.mem_singleton.1 hb]
   rintro rfl
   exact hy ha
theorem firsts_len (l : List α) : (firsts l).length ≤ l.length := by
 induction l using snoc_ind with
 | h0 => exact Nat.le_refl _
 | h1 l y ih =>
  rw [firsts_snoc, List.length_append, List.length_singleton]
  split
  ·omega
  ·rw [List.length_append, List.length_singleton]; omega
theorem firsts_pre (l m : List α) : firsts l <+: firsts (l ++ m) := by
 induction m using snoc_ind with
 | h0 => rw [List.append_nil]; exact List.prefix_refl _
 | h1 m y ih =>
  rw [← List.append_assoc, firsts_snoc]
  split
  ·exact ih
  ·exact ih.trans (List.prefix_append _ _)
theorem firsts_full {l : List α} (h : (firsts l).length = l.length) : l.Nodup := by
 have : firsts l = l := by
  induction l using snoc_ind with
  | h0 => rfl
  | h1 l y ih =>
   have hl := firsts_len l
   rw [firsts_snoc] at h ⊢
   by_cases hy : y ∈ firsts l
   ·rw [if_pos hy, List.length_append, List.length_singleton] at h; omega
   ·rw [if_neg hy, List.length_append, List.length_append] at h
    rw [if_neg hy, ih (by simpa using h)]
 rw [← this]
 exact firsts_nodup l
def plF (l : List α) (x : α) : Nat := l.idxOf x
theorem plF_lt {l : List α} {x : α} (hx : x ∈ l) : plF l x < l.length := List.idxOf_lt_length_of_mem hx
theorem idx_inj {l : List α} {x y : α} (hx : x ∈ l) (hy : y ∈ l) (h : plF l x = plF l y) : x = y := by
 unfold plF at h
 have h1 := List.getElem_idxOf (List.idxOf_lt_length_of_mem hx)
 have h2 := List.getElem_idxOf (List.idxOf_lt_length_of_mem hy)
 rw [← h1, ← h2]
 congr 1
theorem idx_at {l : List α} (hn : l.Nodup) {i : Nat} (hi : i < l.length) : plF l l[i] = i := by
 have hm : l[i] ∈ l := List.getElem_mem hi
 have h1 := List.idxOf_lt_length_of_mem hm
 have h2 := List.getElem_idxOf h1
 exact (List.getElem_inj hn).1 h2
end
theorem cover_nodup {l : List Int} (h : ∀ v, v < l.length → (v : Int) ∈ l) : l.Nodup := by
 have hr : ((List.range l.length).map Int.ofNat).Nodup := by
  rw [List.nodup_iff_pairwise_ne, List.pairwise_map]
  exact List.Pairwise.imp (fun h e => by injection e with e; omega) List.pairwise_lt_range
 have hs : ((List.range l.length).map Int.ofNat) ⊆ firsts l := fun x hx => by
  obtain ⟨v, hv, rfl⟩ := List.mem_map.1 hx
  exact mem_firsts.2 (h v (List.mem_range.1 hv))
 have h1 := hr.length_le_of_subset hs
 rw [List.length_map, List.length_range] at h1
 have h2 := firsts_len l
 exact firsts_full (by omega)
theorem cover_le {l : List Int} {m : Nat} (h : ∀ v, v < m → (v : Int) ∈ l) : m ≤ l.length := by
 have hr : ((List.range m).map Int.ofNat).Nodup := by
  rw [List.nodup_iff_pairwise_ne, List.pairwise_map]
  exact List.Pairwise.imp (fun h e => by injection e with e; omega) List.pairwise_lt_range
 have hs : ((List.range m).map Int.ofNat) ⊆ l := fun x hx => by
  obtain ⟨v, hv, rfl⟩ := List.mem_map.1 hx
  exact h v (List.mem_range.1 hv)
 have h1 := hr.length_le_of_subset hs
 rwa [List.length_map, List.length_range] at h1

def sigA (es : List A3) (cl : List Int) (n : Nat) : Int × List (Int × Int) := (gi cl n, (outsD es n).map fun x => (x.l, gi cl x.t.toNat))
def sigs (es : List A3) (cl : List Int) (N : Nat) : List (Int × List (Int × Int)) := (List.range N).map (sigA es cl)
def refC (es : List A3) (N : Nat) (cl : List Int) : List Int := (sigs es cl N).map fun s => ((plF (firsts (sigs es cl N)) s : Nat) : Int)
def refN (es : List A3) (N : Nat) (cl : List Int) : Nat := (firsts (sigs es cl N)).length
theorem sigs_len (es : List A3) (cl : List Int) (N : Nat) : (sigs es cl N).length = N := by simp [sigs]
theorem refC_len (es : List A3) (cl : List Int) (N : Nat) : (refC es N cl).length = N := by simp [refC, sigs_len]
theorem sig_mem (es : List A3) (cl : List Int) {N i : Nat} (h : i < N) : sigA es cl i ∈ firsts (sigs es cl N) := mem_firsts.2 (List.mem_map.2 ⟨i, List.mem_range.2 h, rfl⟩)
theorem refC_at (es : List A3) (cl : List Int) {N i : Nat} (h : i < N) : gi (refC es N cl) i = ((plF (firsts (sigs es cl N)) (sigA es cl i) : Nat) : Int) := by
 rw [gi_eq _ _ (by rw [refC_len]; exact h)]
 simp [refC, sigs]
theorem refC_same {es : List A3} {cl : List Int} {N i j : Nat} (hi : i < N) (hj : j < N) : gi (refC es N cl) i = gi (refC es N cl) j ↔ sigA es cl i = sigA es cl j := by
 rw [refC_at es cl hi, refC_at es cl hj]
 refine ⟨fun h => idx_inj (sig_mem es cl hi) (sig_mem es cl hj) (by omega), fun h => by rw [h]⟩
theorem refC_range {es : List A3} {cl : List Int} {N i : Nat} (hi : i < N) : 0 ≤ gi (refC es N cl) i ∧ gi (refC es N cl) i < (refN es N cl : Nat) := by
 rw [refC_at es cl hi]
 have := plF_lt (sig_mem es cl hi)
 unfold refN
 omega
theorem refC_cover {es : List A3} {cl : List Int} {N v : Nat} (hv : v < refN es N cl) : ∃ i, i < N ∧ gi (refC es N cl) i = v := by
 unfold refN at hv
 have hm := mem_firsts.1 (List.getElem_mem hv)
 obtain ⟨i, hi, e⟩ := List.mem_map.1 hm
 refine ⟨i, List.mem_range.1 hi, ?_⟩
 rw [refC_at es cl (List.mem_range.1 hi), e, idx_at (firsts_nodup _) hv]
theorem refN_le (es : List A3) (cl : List Int) (N : Nat) : refN es N cl ≤ N := by
 have := firsts_len (sigs es cl N)
 rw [sigs_len] at this
 exact this
theorem refN_pos (es : List A3) (cl : List Int) {N : Nat} (h : 0 < N) : 0 < refN es N cl := List.length_pos_of_mem (sig_mem es cl h)
theorem refN_ge {es : List A3} {cl : List Int} {N m : Nat} (hc : ∀ v, v < m → ∃ i, i < N ∧ gi cl i = (v : Nat)) : m ≤ refN es N cl := by
 have h := cover_le (l := (firsts (sigs es cl N)).map (·.1)) (m := m) fun v hv => by
  obtain ⟨i, hi, e⟩ := hc v hv
  exact List.mem_map.2 ⟨sigA es cl i, sig_mem es cl hi, e⟩
 rwa [List.length_map] at h
theorem refN_eq {es : List A3} {cl : List Int} {N m : Nat} (hc : ∀ v, v < m → ∃ i, i < N ∧ gi cl i = (v : Nat)) (h : refN es N cl = m) {i j : Nat} (hi : i < N) (hj : j < N) (e : gi cl i = gi cl j) : sigA es cl i = sigA es cl j := by
 have hn := cover_nodup (l := (firsts (sigs es cl N)).map (·.1)) fun v hv => by
  rw [List.length_map] at hv
  obtain ⟨i, hi, e⟩ := hc v (by unfold refN at h; omega)
  exact List.mem_map.2 ⟨sigA es cl i, sig_mem es cl hi, e⟩
 rw [List.nodup_iff_pairwise_ne, List.pairwise_map] at hn
 have h1 := sig_mem es cl hi
 have h2 := sig_mem es cl hj
 obtain ⟨a, ha, ea⟩ := List.getElem_of_mem h1
 obtain ⟨b, hb, eb⟩ := List.getElem_of_mem h2
 have e' : ((firsts (sigs es cl N))[a]).1 = ((firsts (sigs es cl N))[b]).1 := by rw [ea, eb]; exact e
 have hp := List.pairwise_iff_getElem.1 hn
 rcases Nat.lt_trichotomy a b with h3 | h3 | h3
 ·exact absurd e' (hp a b ha hb h3)
 ·subst h3; rw [← ea, ← eb]
 ·exact absurd e'.symm (hp b a hb ha h3)
def cl0 (fin : List Bool) : List Int := fin.map fun b => if b then 1 else 0
theorem cl0_at (fin : List Bool) {i : Nat} (h : i < fin.length) : gi (cl0 fin) i = if gb fin i then 1 else 0 := by
 rw [gi_eq _ _ (by simpa [cl0] using h), gb_eq _ _ h]
 simp [cl0]
def clK (es : List A3) (N : Nat) (fin : List Bool) : Nat → List Int
 | 0 => cl0 fin
 | k + 1 => refC es N (clK es N fin k)
def ctK (es : List A3) (N : Nat) (fin : List Bool) : Nat → Nat
 | 0 => 1
 | k + 1 => refN es N (clK es N fin k)
section
variable {es : List A3} {N : Nat} {fin : List Bool}
theorem clK_len (hf : fin.length = N) : ∀ k, (clK es N fin k).length = N
 | 0 => by simp [clK, cl0, hf]
 | k + 1 => refC_len _ _ _
theorem ctK_mono (h0 : 0 < N) : ∀ k, ctK es N fin k ≤ ctK es N fin (k + 1)
 | 0 => refN_pos _ _ h0
 | k + 1 => refN_ge fun v hv => refC_cover hv
theorem ctK_le (h0 : 0 < N) : ∀ k, 1 ≤ ctK es N fin k ∧ ctK es N fin k ≤ N
 | 0 => ⟨Nat.le_refl _, h0⟩
 | k + 1 => ⟨refN_pos _ _ h0, refN_le _ _ _⟩
theorem clK_range {i : Nat} (hi : i < N) (k : Nat) : 0 ≤ gi (clK es N fin (k + 1)) i ∧ gi (clK es N fin (k + 1)) i < (ctK es N fin (k + 1) : Nat) := refC_range hi
theorem clK_cover {v k : Nat} (hv : v < ctK es N fin (k + 1)) : ∃ i, i < N ∧ gi (clK es N fin (k + 1)) i = v := refC_cover hv
theorem clK_settled {k : Nat} (h : ctK es N fin (k + 1) = ctK es N fin k) {i j : Nat} (hi : i < N) (hj : j < N) : gi (clK es N fin (k + 1)) i = gi (clK es N fin (k + 1)) j ↔ gi (clK es N fin k) i = gi (clK es N fin k) j := by
 have hr : gi (clK es N fin (k + 1)) i = gi (clK es N fin (k + 1)) j ↔ _ := refC_same hi hj
 rw [hr]
 refine ⟨fun e => congrArg (·.1) e, fun e => ?_⟩
 cases k with
 | zero =>
  have h1 : (firsts (sigs es (clK es N fin 0) N)).length = 1 := h
  obtain ⟨z, hz⟩ := List.length_eq_one_iff.1 h1
  have m1 := sig_mem es (clK es N fin 0) hi
  have m2 := sig_mem es (clK es N fin 0) hj
  rw [hz] at m1 m2
  rw [List.mem_singleton.1 m1, List.mem_singleton.1 m2]
 | succ k => exact refN_eq (fun v hv => refC_cover hv) h hi hj e
theorem clK_fin (hf : fin.length = N) {i j : Nat} (hi : i < N) (hj : j < N) : ∀ k, gi (clK es N fin k) i = gi (clK es N fin k) j → gb fin i = gb fin j
 | 0 => fun e => by
  have e : gi (cl0 fin) i = gi (cl0 fin) j := e
  rw [cl0_at fin (by omega), cl0_at fin (by omega)] at e
  cases h1 : gb fin i <;> cases h2 : gb fin j <;> simp [h1, h2] at e ⊢
 | k + 1 => fun e => clK_fin hf hi hj k (congrArg (·.1) ((refC_same hi hj).1 e))
end
theorem map_two {α β γ : Type} {f : α → β} {g : α → γ} : ∀ (xs ys : List α), xs.map f = ys.map f → (∀ x ∈ xs, ∀ y ∈ ys, f x = f y → g x = g y) → xs.map g = ys.map g
 | [], [], _, _ => rfl
 | [], _ :: _, h, _ => by cases h
 | _ :: _, [], h, _ => by cases h
 | x :: xs, y :: ys, h, hg => by
  rw [List.map_cons, List.map_cons] at h ⊢
  injection h with h1 h2
  rw [hg x List.mem_cons_self y List.mem_cons_self h1, map_two xs ys h2 fun a ha b hb => hg a (List.mem_cons_of_mem _ ha) b (List.mem_cons_of_mem _ hb)]
def ByLang (t : Dfa) (C : List Int) : Prop := ∀ i j : Nat, (i : Int) < t.n → (j : Int) < t.n → (gi C i = gi C j ↔ lgD t i = lgD t j)
theorem bisim {t : Dfa} (hv : ValidD t) (C : List Int) (hf : ∀ i j : Nat, (i : Int) < t.n → (j : Int) < t.n → gi C i = gi C j → gb t.fin i = gb t.fin j ∧ (outsD t.arcs i).map (fun x => (x.l, gi C x.t.toNat)) = (outsD t.arcs j).map fun x => (x.l, gi C x.t.toNat)) :
  ∀ (w : List Int) (i j : Nat), (i : Int) < t.n → (j : Int) < t.n → gi C i = gi C j → accQ t i w = accQ t j w
 | [], i, j, hi, hj, e => by
  rw [accQ_nil, accQ_nil, Int.toNat_natCast, Int.toNat_natCast]
  exact (hf i j hi hj e).1
 | c :: w, i, j, hi, hj, e => by
  have hs := (hf i j hi hj e).2
  have go : ∀ (i j : Nat) (x : A3), (outsD t.arcs i).map (fun x => (x.l, gi C x.t.toNat)) = (outsD t.arcs j).map (fun x => (x.l, gi C x.t.toNat)) → nxtD t.arcs i c = some x → ∃ y, nxtD t.arcs j c = some y ∧ gi C x.t.toNat = gi C y.t.toNat := fun i j x hs h => by
   obtain ⟨h1, h2, h3⟩ := nxtD_mem h
   have hm : (x.l, gi C x.t.toNat) ∈ (outsD t.arcs j).map (fun x => (x.l, gi C x.t.toNat)) := by
    rw [← hs]; exact List.mem_map.2 ⟨x, outsD_mem.2 ⟨h1, h2⟩, rfl⟩
   obtain ⟨y, hy, e⟩ := List.mem_map.1 hm
   obtain ⟨k1, k2⟩ := outsD_mem.1 hy
   injection e with e1 e2
   exact ⟨y, (nxtD_iff hv.sorted).2 ⟨k1, k2, by omega⟩, e2.symm⟩
  cases h : nxtD t.arcs i c with
  | some x =>
   obtain ⟨y, hy, e2⟩ := go i j x hs h
   rw [accQ_some h, accQ_some hy]
   have a1 := (hv.arc (nxtD_mem h).1).1.2
   have a2 := (hv.arc (nxtD_mem hy).1).1.2
   have := bisim hv C hf w x.t.toNat y.t.toNat (by omega) (by omega) e2
   rwa [Int.toNat_of_nonneg a1.1, Int.toNat_of_nonneg a2.1] at this
  | none =>
   cases h' : nxtD t.arcs j c with
   | some y =>
    obtain ⟨x, hx, _⟩ := go j i y hs.symm h'
    rw [h] at hx; cases hx
   | none => rw [accQ_none h, accQ_none h']
theorem map_tgt {t : Dfa} (hv : ValidD t) {C C' : List Int} {i j : Nat} (hs : (outsD t.arcs i).map (fun x => (x.l, gi C x.t.toNat)) = (outsD t.arcs j).map fun x => (x.l, gi C x.t.toNat)) (hC : ∀ i j : Nat, (i : Int) < t.n → (j : Int) < t.n → gi C i = gi C j → gi C' i = gi C' j) : (outsD t.arcs i).map (fun x => (x.l, gi C' x.t.toNat)) = (outsD t.arcs j).map fun x => (x.l, gi C' x.t.toNat) := by
 refine map_two _ _ hs fun x hx y hy e => ?_
 injection e with e1 e2
 have a1 := (hv.arc (outsD_mem.1 hx).1).1.2
 have a2 := (hv.arc (outsD_mem.1 hy).1).1.2
 rw [e1, hC x.t.toNat y.t.toNat (by omega) (by omega) e2]
theorem lang_tgt {t : Dfa} (hv : ValidD t) (hu : Useful t) {C : List Int} (hC : ∀ i j : Nat, (i : Int) < t.n → (j : Int) < t.n → lgD t i = lgD t j → gi C i = gi C j) {i j : Nat} (e : lgD t i = lgD t j) : (outsD t.arcs i).map (fun x => (x.l, gi C x.t.toNat)) = (outsD t.arcs j).map fun x => (x.l, gi C x.t.toNat) := by
 have hl : ∀ x ∈ t.arcs, 1 ≤ x.l ∧ x.l ≤ 10000 := fun x hx => (hv.arc hx).2
 have h1 := oL_lgD hv.sorted hl hu i
 have h2 := oL_lgD hv.sorted hl hu j
 rw [e, h2] at h1
 refine map_two _ _ h1.symm fun x hx y hy e => ?_
 have e1 : x.l = y.l := congrArg (·.1) e
 have e2 : lgD t x.t = lgD t y.t := congrArg (·.2) e
 have a1 := (hv.arc (outsD_mem.1 hx).1).1.2
 have a2 := (hv.arc (outsD_mem.1 hy).1).1.2
 rw [e1, hC x.t.toNat y.t.toNat (by omega) (by omega) (by rw [Int.toNat_of_nonneg a1.1, Int.toNat_of_nonneg a2.1]; exact e2)]
theorem clK_coarse {t : Dfa} (hv : ValidD t) (hu : Useful t) : ∀ (k : Nat) (i j : Nat), (i : Int) < t.n → (j : Int) < t.n → lgD t i = lgD t j → gi (clK t.arcs t.n.toNat t.fin k) i = gi (clK t.arcs t.n.toNat t.fin k) j
 | 0, i, j, hi, hj, e => by
  have := congrFun e []
  have hfl := hv.2.2.1
  have h2 : gb t.fin i = gb t.fin j := this
  show gi (cl0 t.fin) i = gi (cl0 t.fin) j
  rw [cl0_at _ (by omega), cl0_at _ (by omega), h2]
 | k + 1, i, j, hi, hj, e => by
  refine (refC_same (by omega) (by omega)).2 ?_
  unfold sigA
  rw [clK_coarse hv hu k i j hi hj e, lang_tgt hv hu (clK_coarse hv hu k) e]
theorem clK_byLang {t : Dfa} (hv : ValidD t) (hu : Useful t) {k : Nat} (h : ctK t.arcs t.n.toNat t.fin (k + 1) = ctK t.arcs t.n.toNat t.fin k) : ByLang t (clK t.arcs t.n.toNat t.fin (k + 1)) := by
 have hfl := hv.2.2.1
 refine fun i j hi hj => ⟨fun e => ?_, fun e => clK_coarse hv hu (k + 1) i j hi hj e⟩
 funext w
 refine bisim hv _ (fun i j hi hj e => ⟨clK_fin (by omega) (by omega) (by omega) (k + 1) e, ?_⟩) w i j hi hj e
 have hs : sigA _ _ i = sigA _ _ j := (refC_same (by omega) (by omega)).1 e
 refine map_tgt hv (C := clK t.arcs t.n.toNat t.fin k) (congrArg (·.2) hs) fun a b ha hb e => (clK_settled h (by omega) (by omega)).2 e
end Go.Proofs.Ytpcbmhfnefhenaa

set_option linter.unusedVariables false
namespace Go.Proofs.Ytpcbmhfnefhenaa

theorem outsD_flat {h : Nat → List A3} (hf : ∀ i x, x ∈ h i → x.f = (i : Int)) {n i : Nat} (hi : i < n) : outsD ((List.range n).flatMap h) i = h i := by
 have no : ∀ j, j ≠ i → (h j).filter (fun x => decide (x.f = (i : Int))) = [] := fun j hj => by
  rw [List.filter_eq_nil_iff]
  intro x hx
  have := hf j x hx
  simp
  omega
 have yes : (h i).filter (fun x => decide (x.f = (i : Int))) = h i := by
  rw [List.filter_eq_self]
  intro x hx
  have := hf i x hx
  simp
  omega
 have below : ∀ m, m ≤ i → ((List.range m).flatMap h).filter (fun x => decide (x.f = (i : Int))) = [] := by
  intro m hm
  induction m with
  | zero => rfl
  | succ m ih => rw [List.range_succ, List.flatMap_append, List.filter_append, ih (by omega)]; simp only [List.flatMap_cons, List.flatMap_nil, List.append_nil, List.nil_append]; exact no m (by omega)
 unfold outsD
 induction n with
 | zero => omega
 | succ n ih =>
  rw [List.range_succ, List.flatMap_append, List.filter_append]
  simp only [List.flatMap_cons, List.flatMap_nil, List.append_nil]
  rcases Nat.lt_or_ge i n with h1 | h1
  ·rw [ih h1, no n (by omega), List.append_nil]
  ·obtain rfl : i = n := by omega
   rw [below i (Nat.le_refl _), yes, List.nil_append]
theorem flat_sorted {h : Nat → List A3} (hf : ∀ i x, x ∈ h i → x.f = (i : Int)) (ha : ∀ i, (h i).Pairwise fun x y => x.l < y.l) (n : Nat) : SortedA ((List.range n).flatMap h) := by
 unfold SortedA
 rw [List.pairwise_flatMap]
 refine ⟨fun i _ => ?_, List.Pairwise.imp (fun {i j} hij x hx y hy => .inl (by rw [hf i x hx, hf j y hy]; omega)) List.pairwise_lt_range⟩
 refine List.Pairwise.imp_of_mem (fun {x y} hx hy h => .inr ⟨by rw [hf i x hx, hf i y hy], h⟩) (ha i)
def repC (C : List Int) (c : Nat) : Nat := C.idxOf (c : Int)
def arcsQ (t : Dfa) (C : List Int) (c : Nat) : List A3 := (outsD t.arcs (repC C c)).map fun x => ⟨c, x.l, gi C x.t.toNat⟩
def qD (t : Dfa) (C : List Int) (m : Nat) : Dfa := ⟨m, gi C t.s.toNat, (List.range m).map fun c => gb t.fin (repC C c), (List.range m).flatMap (arcsQ t C)⟩
structure Classes (t : Dfa) (C : List Int) (m : Nat) : Prop where
 len : (C.length : Int) = t.n
 range : ∀ i : Nat, (i : Int) < t.n → 0 ≤ gi C i ∧ gi C i < m
 cover : ∀ v, v < m → ∃ i : Nat, (i : Int) < t.n ∧ gi C i = v
section
variable {t : Dfa} {C : List Int} {m : Nat}
theorem repC_at (hC : Classes t C m) {c : Nat} (hc : c < m) : (repC C c : Int) < t.n ∧ gi C (repC C c) = c := by
 obtain ⟨i, hi, e⟩ := hC.cover c hc
 have hl := hC.len
 have hm : (c : Int) ∈ C := by
  rw [← e]
  exact gi_mem C i (by omega)
 have h1 := List.idxOf_lt_length_of_mem hm
 unfold repC
 exact ⟨by omega, by rw [gi_eq _ _ h1, List.getElem_idxOf]⟩
theorem arcsQ_f (c : Nat) : ∀ x, x ∈ arcsQ t C c → x.f = (c : Int) := fun x hx => by
 obtain ⟨y, _, rfl⟩ := List.mem_map.1 hx
 rfl
theorem arcsQ_asc (hv : ValidD t) (c : Nat) : (arcsQ t C c).Pairwise fun x y => x.l < y.l := by
 unfold arcsQ
 rw [List.pairwise_map]
 exact outsD_asc hv.sorted _
theorem Classes.le (hv : ValidD t) (hC : Classes t C m) : 1 ≤ m ∧ (m : Int) ≤ t.n := by
 have h1 := hv.1
 have h2 := hC.range 0 (by omega)
 refine ⟨by omega, ?_⟩
 have := cover_le (l := C) (m := m) fun v hv => by
  obtain ⟨i, hi, e⟩ := hC.cover v hv
  have := hC.len
  rw [← e]
  exact gi_mem C i (by omega)
 have := hC.len
 omega
theorem qD_arc {x : A3} : x ∈ (qD t C m).arcs ↔ ∃ c, c < m ∧ x.f = (c : Int) ∧ ∃ y ∈ t.arcs, y.f = repC C c ∧ x.l = y.l ∧ x.t = gi C y.t.toNat := by
 show x ∈ (List.range m).flatMap (arcsQ t C) ↔ _
 rw [List.mem_flatMap]
 constructor
 ·rintro ⟨c, hc, hx⟩
  obtain ⟨y, hy, rfl⟩ := List.mem_map.1 hx
  obtain ⟨h1, h2⟩ := outsD_mem.1 hy
  exact ⟨c, List.mem_range.1 hc, rfl, y, h1, h2, rfl, rfl⟩
 ·rintro ⟨c, hc, h1, y, hy, h2, h3, h4⟩
  exact ⟨c, List.mem_range.2 hc, List.mem_map.2 ⟨y, outsD_mem.2 ⟨hy, h2⟩, by rw [← h1, ← h3, ← h4]⟩⟩
theorem qD_valid (hv : ValidD t) (hC : Classes t C m) : ValidD (qD t C m) := by
 have hle := hC.le hv
 have hs := flat_sorted (h := arcsQ t C) arcsQ_f (arcsQ_asc hv) m
 have h2 := hv.2.1
 refine ⟨⟨by show (1 : Int) ≤ (m : Int); omega, by show (m : Int) ≤ 1000; have := hv.1; omega⟩, hC.range _ (by omega), ?_, ?_, ?_⟩
 ·show (((List.range m).map fun c => gb t.fin (repC C c)).length : Int) = m
  simp
 ·have hn : ((List.range m).flatMap fun c => outsD t.arcs (repC C c)).Nodup := by
   have hd : t.arcs.Nodup := List.Pairwise.imp (fun h e => by subst e; exact LtA.irrefl h) hv.sorted
   rw [List.nodup_iff_pairwise_ne, List.pairwise_flatMap]
   refine ⟨fun c _ => hd.filter _, List.Pairwise.imp_of_mem ?_ List.pairwise_lt_range⟩
   intro a b ha hb hab x hx y hy e
   subst e
   have e1 := (outsD_mem.1 hx).2
   have e2 := (outsD_mem.1 hy).2
   have k1 := (repC_at hC (List.mem_range.1 ha)).2
   have k2 := (repC_at hC (List.mem_range.1 hb)).2
   have : repC C a = repC C b := by omega
   rw [this] at k1
   omega
  have hsub : ((List.range m).flatMap fun c => outsD t.arcs (repC C c)) ⊆ t.arcs := fun x hx => by
   obtain ⟨c, _, h⟩ := List.mem_flatMap.1 hx
   exact (outsD_mem.1 h).1
  have h1 := hn.length_le_of_subset hsub
  have h3 : (qD t C m).arcs.length = ((List.range m).flatMap fun c => outsD t.arcs (repC C c)).length := by
   show ((List.range m).flatMap (arcsQ t C)).length = _
   rw [List.length_flatMap, List.length_flatMap]
   congr 1
   exact List.map_congr_left fun c _ => by unfold arcsQ; rw [List.length_map]
  have := hv.2.2.2.1
  omega
 ·intro i hi
  obtain ⟨c, hc, e1, y, hy, e2, e3, e4⟩ := qD_arc.1 (g3_mem _ i hi)
  have ha := hv.arc hy
  have hr := hC.range y.t.toNat (by omega)
  refine ⟨⟨⟨by omega, by rw [e1]; exact Int.ofNat_lt.2 hc⟩, ⟨by omega, by rw [e4]; exact hr.2⟩⟩, ⟨by omega, by omega⟩, fun h0 => SortedA.lt hs (by omega) hi⟩
theorem qD_outs (hv : ValidD t) {c : Nat} (hc : c < m) : outsD (qD t C m).arcs c = arcsQ t C c := outsD_flat arcsQ_f hc
theorem rep_lang (hC : Classes t C m) (hL : ByLang t C) {i : Nat} (hi : (i : Int) < t.n) : lgD t (repC C (gi C i).toNat) = lgD t i := by
 have hr := hC.range i hi
 obtain ⟨h1, h2⟩ := repC_at hC (c := (gi C i).toNat) (by omega)
 exact (hL _ _ h1 hi).1 (by rw [h2]; omega)
theorem rep_lang' (hv : ValidD t) (hC : Classes t C m) (hL : ByLang t C) {x : A3} (hx : x ∈ t.arcs) : lgD t (repC C (gi C x.t.toNat).toNat) = lgD t x.t := by
 have ha := (hv.arc hx).1.2
 have := rep_lang hC hL (i := x.t.toNat) (by omega)
 rwa [Int.toNat_of_nonneg ha.1] at this
theorem qD_acc (hv : ValidD t) (hC : Classes t C m) (hL : ByLang t C) : ∀ (w : List Int) (c : Nat), c < m → accQ (qD t C m) c w = accQ t (repC C c) w
 | [], c, hc => by
  rw [accQ_nil, accQ_nil]
  show gb ((List.range m).map fun c => gb t.fin (repC C c)) _ = _
  rw [gb_eq _ _ (by simpa using hc)]
  simp
 | a :: w, c, hc => by
  have hq := qD_valid hv hC
  cases h : nxtD t.arcs (repC C c) a with
  | none =>
   rw [accQ_none h, accQ_none]
   rw [nxtD_none_iff]
   intro x hx h1 h2
   obtain ⟨c', hc', e1, y, hy, e2, e3, e4⟩ := qD_arc.1 hx
   obtain rfl : c' = c := by omega
   exact nxtD_none_iff.1 h y hy e2 (by omega)
  | some y =>
   obtain ⟨h1, h2, h3⟩ := nxtD_mem h
   have hn : nxtD (qD t C m).arcs c a = some ⟨c, a, gi C y.t.toNat⟩ := (nxtD_iff hq.sorted).2 ⟨qD_arc.2 ⟨c, hc, rfl, y, h1, h2, h3.symm, rfl⟩, rfl, rfl⟩
   rw [accQ_some h, accQ_some hn]
   have ha := (hv.arc h1).1.2
   have hr := hC.range y.t.toNat (by omega)
   have := qD_acc hv hC hL w (gi C y.t.toNat).toNat (by omega)
   rw [Int.toNat_of_nonneg hr.1] at this
   show accQ (qD t C m) (gi C y.t.toNat) w = _
   rw [this]
   exact congrFun (rep_lang' hv hC hL h1) w
def allK (m : Nat) : List Bool := List.replicate m true
theorem gb_allK {m i : Nat} (h : i < m) : gb (allK m) i = true := by
 unfold allK
 rw [gb_eq _ _ (by simpa using h)]
 simp
theorem oD_all {d : Dfa} (hv : ValidD d) (q : Int) : oD d (allK d.n.toNat) q = (outsD d.arcs q).map fun x => (x.l, x.t) := by
 unfold oD kd
 congr 1
 rw [List.filter_eq_self]
 intro x hx
 have := (hv.arc (outsD_mem.1 hx).1).1.2
 exact gb_allK (by omega)
theorem canD_all {d : Dfa} (hv : ValidD d) : canD d (allK d.n.toNat) = numD d (allK d.n.toNat) := by
 unfold canD
 have := hv.2.1
 rw [if_pos (gb_allK (by omega))]
theorem num_minL (hv : ValidD t) (hu : Useful t) {d : Dfa} (hd : ValidD d) (r : Int → Int) (P : Int → Prop) (hs : P d.s)
  (hP : ∀ y, P y → ∀ x ∈ outsD d.arcs y, P x.t) (hinj : ∀ x y, P x → P y → lgD t (r x) = lgD t (r y) → x = y)
  (he : ∀ y, P y → (outsD d.arcs y).map (fun x => (x.l, lgD t (r x.t))) = (outsD t.arcs (r y)).map fun x => (x.l, lgD t x.t))
  (hf : ∀ y, P y → InD d y → gb d.fin y.toNat = gb t.fin (r y).toNat) :
  numD d (allK d.n.toNat) = minL (lgD t (r d.s)) := by
 have hl : ∀ x ∈ t.arcs, 1 ≤ x.l ∧ x.l ≤ 10000 := fun x hx => (hv.arc hx).2
 have ho : ∀ y, P y → ∀ x ∈ oD d (allK d.n.toNat) y, P x.2 := fun y hy x hx => by
  rw [oD_all hd] at hx
  obtain ⟨z, hz, rfl⟩ := List.mem_map.1 hx
  exact hP y hy z hz
 have hb := bq_lang hv.sorted hl hu (o := oD d (allK d.n.toNat)) (s := d.s) r P hs ho hinj (fun y hy => by
  rw [oD_all hd, List.map_map, ← he y hy]
  rfl) 1000
 have hk : bq (oD d (allK d.n.toNat)) d.s 1000 = bq (oD d (allK d.n.toNat)) d.s d.n.toNat := bqD_fin hd _ (by have := bqD_len hd (allK d.n.toNat) 1000; have := hd.1; omega)
 rw [hk] at hb
 have hPQ := bq_all hs ho d.n.toNat
 have hin := bqD_in hd (allK d.n.toNat) d.n.toNat
 have hfin : (bq (oD d (allK d.n.toNat)) d.s d.n.toNat).q.map (fun q => gb d.fin q.toNat) = (bq (oD d (allK d.n.toNat)) d.s d.n.toNat).q.map fun q => lgD t (r q) [] := by
  refine List.map_congr_left fun q hq => ?_
  show gb d.fin q.toNat = accQ t (r q) []
  rw [accQ_nil]
  exact hf q (hPQ q hq) (hin q hq)
 unfold minL
 rw [show lastL (lgD t (r d.s)) = _ from hb]
 unfold numD resB
 rw [hfin]
 simp only [List.length_map, List.map_map]
 rfl
theorem qD_minL (hv : ValidD t) (hu : Useful t) (hC : Classes t C m) (hL : ByLang t C) : numD (qD t C m) (allK m) = minL (lgD t t.s) := by
 have hq := qD_valid hv hC
 have hs := hv.2.1
 have hrs := rep_lang hC hL (i := t.s.toNat) (by omega)
 rw [Int.toNat_of_nonneg hs.1] at hrs
 have := num_minL hv hu hq (fun c => (repC C c.toNat : Int)) (InD (qD t C m)) hq.2.1 (fun y hy x hx => (hq.arc (outsD_mem.1 hx).1).1.2)
  (fun x y hx hy e => by
   have hx1 : 0 ≤ x := hx.1
   have hx2 : x < (m : Int) := hx.2
   have hy1 : 0 ≤ y := hy.1
   have hy2 : y < (m : Int) := hy.2
   obtain ⟨a1, a2⟩ := repC_at hC (c := x.toNat) (by omega)
   obtain ⟨b1, b2⟩ := repC_at hC (c := y.toNat) (by omega)
   have := (hL _ _ a1 b1).2 e
   omega)
  (fun y hy => by
   have hy1 : 0 ≤ y := hy.1
   have hy2 : y < (m : Int) := hy.2
   obtain ⟨c, rfl⟩ := Int.eq_ofNat_of_zero_le hy1
   rw [qD_outs hv (by omega), arcsQ, List.map_map]
   refine List.map_congr_left fun x hx => ?_
   show (x.l, lgD t (repC C (gi C x.t.toNat).toNat)) = (x.l, lgD t x.t)
   rw [rep_lang' hv hC hL (outsD_mem.1 hx).1])
  (fun y _ hy => by
   have hy1 : 0 ≤ y := hy.1
   have hy2 : y < (m : Int) := hy.2
   obtain ⟨c, rfl⟩ := Int.eq_ofNat_of_zero_le hy1
   show gb ((List.range m).map fun c => gb t.fin (repC C c)) _ = _
   rw [Int.toNat_natCast, gb_eq _ _ (by simp; omega)]
   simp)
 rw [show allK m = allK (qD t C m).n.toNat from rfl, this, ← hrs]
 rfl
theorem minL_of (hv : ValidD t) (hu : Useful t) (hC : Classes t C m) (hL : ByLang t C) : ValidD (minL (lgD t t.s)) ∧ lgD (minL (lgD t t.s)) 0 = lgD t t.s ∧ (minL (lgD t t.s)).n ≤ m := by
 have hq := qD_valid hv hC
 have hs := hv.2.1
 have hle := hC.le hv
 rw [← qD_minL hv hu hC hL]
 refine ⟨numD_valid hq, ?_, ?_⟩
 ·funext w
  have h1 := numD_acc (keep := allK m) hq (fun x hx h => by
   have := (hq.arc hx).1.2
   rw [gb_allK (by have : (qD t C m).n = m := rfl; omega)] at h
   cases h) w 0 lastD_pos
  show accQ (numD (qD t C m) (allK m)) (0 : Nat) w = _
  rw [h1, lastD_start]
  show accQ (qD t C m) (gi C t.s.toNat) w = _
  have hr := hC.range t.s.toNat (by omega)
  have h2 := qD_acc hv hC hL w (gi C t.s.toNat).toNat (by omega)
  rw [Int.toNat_of_nonneg hr.1] at h2
  rw [h2]
  have h3 := rep_lang hC hL (i := t.s.toNat) (by omega)
  rw [Int.toNat_of_nonneg hs.1] at h3
  exact congrFun h3 w
 ·have := lastD_len (keep := allK m) hq
  show (((lastD (qD t C m) (allK m)).q.length : Nat) : Int) ≤ m
  have e : (qD t C m).n.toNat = m := by show ((m : Int)).toNat = m; simp
  omega
end
end Go.Proofs.Ytpcbmhfnefhenaa
