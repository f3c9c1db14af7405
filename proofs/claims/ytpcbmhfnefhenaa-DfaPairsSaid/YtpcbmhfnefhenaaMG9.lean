import Derived.Test.YtpcbmhfnefhenaaMG8
/-
  DfaTr, DfaKa
-/
set_option linter.unusedVariables false
namespace Go.Proofs.Ytpcbmhfnefhenaa

noncomputable def keepU (d : Dfa) : List Bool := (List.range d.n.toNat).map fun (i : Nat) => @decide (∃ w, accQ d i w = true) (Classical.propDecidable _)
noncomputable def trimD (d : Dfa) : Dfa := canD d (keepU d)
theorem keepU_len (d : Dfa) : (keepU d).length = d.n.toNat := by simp [keepU]
theorem keepU_at {d : Dfa} {i : Nat} (hi : (i : Int) < d.n) : gb (keepU d) i = true ↔ ∃ w, accQ d i w = true := by
 have hl : i < (keepU d).length := by rw [keepU_len]; omega
 rw [gb_eq _ _ hl]
 simp [keepU]
theorem keepU_no {d : Dfa} {i : Nat} (hi : (i : Int) < d.n) (h : gb (keepU d) i = false) (w : List Int) : accQ d i w = false := by
 cases hw : accQ d i w with
 | false => rfl
 | true => rw [(keepU_at hi).2 ⟨w, hw⟩] at h; cases h
theorem keepU_eq {d : Dfa} (hv : ValidD d) {out : List Bool} (hl : (out.length : Int) = d.n) (h1 : ∀ i : Nat, (i : Int) < d.n → gb d.fin i = true → gb out i = true)
  (h2 : ∀ x ∈ d.arcs, gb out x.t.toNat = true → gb out x.f.toNat = true) (h3 : ∀ i : Nat, (i : Int) < d.n → gb out i = true → ∃ w, accQ d i w = true) : out = keepU d := by
 have up : ∀ (w : List Int) (i : Nat), (i : Int) < d.n → accQ d i w = true → gb out i = true := by
  intro w
  induction w with
  | nil => intro i hi h; rw [accQ_nil, Int.toNat_natCast] at h; exact h1 i hi h
  | cons c w ih =>
   intro i hi h
   cases hx : nxtD d.arcs i c with
   | none => rw [accQ_none hx] at h; cases h
   | some x =>
    rw [accQ_some hx] at h
    obtain ⟨k1, k2, k3⟩ := nxtD_mem hx
    have ha := (hv.arc k1).1.2
    have := h2 x k1 (ih x.t.toNat (by omega) (by rw [Int.toNat_of_nonneg ha.1]; exact h))
    rwa [k2, Int.toNat_natCast] at this
 refine gb_ext (by rw [keepU_len]; omega) fun i hi => ?_
 have hin : (i : Int) < d.n := by omega
 cases ho : gb out i with
 | true => exact ((keepU_at hin).2 (h3 i hin ho)).symm
 | false =>
  cases hk : gb (keepU d) i with
  | false => rfl
  | true =>
   obtain ⟨w, hw⟩ := (keepU_at hin).1 hk
   rw [up w i hin hw] at ho
   cases ho
def noneD : Dfa := ⟨1, 0, [false], []⟩
theorem noneD_valid : ValidD noneD := ⟨⟨Int.le_refl _, by decide⟩, ⟨Int.le_refl _, by decide⟩, rfl, Nat.zero_le _, fun i hi => absurd hi (Nat.not_lt_zero _)⟩
theorem noneD_acc (w : List Int) : accQ noneD 0 w = false := by
 cases w with
 | nil => rfl
 | cons c w => exact accQ_none rfl w
section
variable {d : Dfa}
theorem canD_valid (hv : ValidD d) (keep : List Bool) : ValidD (canD d keep) := by
 unfold canD
 split
 ·exact numD_valid hv
 ·exact noneD_valid
theorem canD_n (hv : ValidD d) (keep : List Bool) : (canD d keep).n ≤ d.n := by
 unfold canD
 have h1 := lastD_len (keep := keep) hv
 have h2 := hv.1
 split
 ·show (((lastD d keep).q.length : Nat) : Int) ≤ _; omega
 ·exact h2.1
theorem canD_s (keep : List Bool) : (canD d keep).s = 0 := by
 unfold canD
 split <;> rfl
theorem canD_lang (hv : ValidD d) {keep : List Bool} (hk : ∀ i : Nat, (i : Int) < d.n → gb keep i = false → ∀ w, accQ d i w = false) : lgD (canD d keep) 0 = lgD d d.s := by
 have hs := hv.2.1
 funext w
 unfold canD
 split
 ·rename_i h
  have := numD_acc hv (keep := keep) (fun x hx h w => by
   have ha := (hv.arc hx).1.2
   have := hk x.t.toNat (by omega) h w
   rwa [Int.toNat_of_nonneg ha.1] at this) w 0 lastD_pos
  show accQ (numD d keep) (0 : Nat) w = _
  rw [this, lastD_start]
  rfl
 ·rename_i h
  have := hk d.s.toNat (by omega) (by simpa using h) w
  rw [Int.toNat_of_nonneg hs.1] at this
  show accQ noneD 0 w = accQ d d.s w
  rw [this, noneD_acc]
theorem canD_lang_all (hv : ValidD d) : lgD (canD d (allK d.n.toNat)) 0 = lgD d d.s := canD_lang hv fun i hi h => by rw [gb_allK (by omega)] at h; cases h
theorem trimD_valid (hv : ValidD d) : ValidD (trimD d) := canD_valid hv _
theorem trimD_n (hv : ValidD d) : (trimD d).n ≤ d.n := canD_n hv _
theorem trimD_s : (trimD d).s = 0 := canD_s _
theorem trimD_lang (hv : ValidD d) : lgD (trimD d) 0 = lgD d d.s := canD_lang hv fun i hi h w => keepU_no hi h w
theorem trimD_useful (hv : ValidD d) : Useful (trimD d) := by
 unfold trimD canD
 split
 ·rename_i h
  intro x hx
  have hx : x ∈ (lastD d (keepU d)).a := hx
  obtain ⟨i, hi, e1, y, hy, e2, e3, e4, e5⟩ := (lastD_mem hv).1 hx
  have hm := lastD_closed hv hi (y.l, y.t) (oD_iff.2 ⟨y, hy, e2, rfl, rfl, e3⟩)
  have hlt := List.idxOf_lt_length_of_mem hm
  have ha := (hv.arc hy).1.2
  obtain ⟨w, hw⟩ := (keepU_at (d := d) (i := y.t.toNat) (by omega)).1 e3
  rw [Int.toNat_of_nonneg ha.1] at hw
  refine ⟨w, ?_⟩
  rw [e5, numD_acc hv (fun z hz h w => by
   have ha := (hv.arc hz).1.2
   have := keepU_no (d := d) (i := z.t.toNat) (by omega) h w
   rwa [Int.toNat_of_nonneg ha.1] at this) w _ hlt, gi_eq _ _ hlt, List.getElem_idxOf]
  exact hw
 ·intro x hx
  cases hx
noncomputable def minD (d : Dfa) : Dfa := minL (lgD d d.s)
theorem prog_classes (hv : ValidD d) {k : Nat} (h : ctK (trimD d).arcs (trimD d).n.toNat (trimD d).fin (k + 1) = ctK (trimD d).arcs (trimD d).n.toNat (trimD d).fin k) :
  Classes (trimD d) (clK (trimD d).arcs (trimD d).n.toNat (trimD d).fin (k + 1)) (ctK (trimD d).arcs (trimD d).n.toNat (trimD d).fin (k + 1)) ∧ ByLang (trimD d) (clK (trimD d).arcs (trimD d).n.toNat (trimD d).fin (k + 1)) := by
 have ht := trimD_valid hv
 have h1 := ht.1
 have h2 := ht.2.2.1
 refine ⟨⟨?_, fun i hi => clK_range (by omega) k, fun v hv => ?_⟩, clK_byLang ht (trimD_useful hv) h⟩
 ·rw [clK_len (by omega)]; omega
 ·obtain ⟨i, hi, e⟩ := clK_cover hv
  exact ⟨i, by omega, e⟩
theorem prog_minD (hv : ValidD d) {C : List Int} {m : Nat} (hC : Classes (trimD d) C m) (hL : ByLang (trimD d) C) : canD (qD (trimD d) C m) (allK m) = minD d := by
 have ht := trimD_valid hv
 have hq := qD_valid ht hC
 have h1 : canD (qD (trimD d) C m) (allK m) = numD (qD (trimD d) C m) (allK m) := canD_all (d := qD (trimD d) C m) hq
 rw [h1, qD_minL ht (trimD_useful hv) hC hL, trimD_s, trimD_lang hv]
 rfl
end
end Go.Proofs.Ytpcbmhfnefhenaa

set_option linter.unusedVariables false
set_option linter.unusedSectionVars false
namespace Go.Proofs.Ytpcbmhfnefhenaa

section
variable {α : Type} [DecidableEq α]
theorem plF_pre {xs ys : List α} (h : xs <+: ys) {x : α} (hx : x ∈ xs) : plF ys x = plF xs x := idx_pre h hx
theorem plF_new {l : List α} {x : α} (h : x ∉ l) : plF (l ++ [x]) x = l.length := by
 unfold plF
 rw [List.idxOf_append, if_neg h]
 simp
end
abbrev Ky := Int × Int × Int
def plK (N : Nat) (ks : List Ky) (x : Ky) : Int := ((plF ks x + N : Nat) : Int)
def stp (ks : List Ky) (x : Ky) : List Ky := if x ∈ ks then ks else ks ++ [x]
theorem stp_mem (ks : List Ky) (x : Ky) : x ∈ stp ks x := by unfold stp; split <;> simp_all
theorem stp_pre (ks : List Ky) (x : Ky) : ks <+: stp ks x := by
 unfold stp
 split
 ·exact List.prefix_refl _
 ·exact List.prefix_append _ _
theorem stp_len (ks : List Ky) (x : Ky) : (stp ks x).length ≤ ks.length + 1 := by unfold stp; split <;> simp
theorem plK_pre {N : Nat} {xs ys : List Ky} (h : xs <+: ys) {x : Ky} (hx : x ∈ xs) : plK N ys x = plK N xs x := by
 unfold plK; rw [plF_pre h hx]
theorem plK_new {N : Nat} {ks : List Ky} {x : Ky} (h : x ∉ ks) : plK N (ks ++ [x]) x = ((ks.length + N : Nat) : Int) := by
 unfold plK
 rw [plF_new h]
theorem plK_inj {N : Nat} {ks : List Ky} {x y : Ky} (hx : x ∈ ks) (hy : y ∈ ks) (h : plK N ks x = plK N ks y) : x = y := by
 unfold plK at h
 exact idx_inj hx hy (by omega)
theorem plK_lt {N : Nat} {ks : List Ky} {x : Ky} (hx : x ∈ ks) : (N : Int) ≤ plK N ks x ∧ plK N ks x < N + ks.length := by
 have := plF_lt hx
 unfold plK
 omega
def numS (N : Nat) (ks : List Ky) (c : Int) (l : List (Int × Int)) : Int := l.foldl (fun p x => plK N ks (p, x.1, x.2)) (plK N ks (c, -1, -1))
theorem numS_nil (N : Nat) (ks : List Ky) (c : Int) : numS N ks c [] = plK N ks (c, -1, -1) := rfl
theorem numS_snoc (N : Nat) (ks : List Ky) (c : Int) (l : List (Int × Int)) (x : Int × Int) : numS N ks c (l ++ [x]) = plK N ks (numS N ks c l, x.1, x.2) := by
 unfold numS; rw [List.foldl_append]; rfl
def ChIn (N : Nat) (ks : List Ky) (c : Int) (l : List (Int × Int)) : Prop := (c, -1, -1) ∈ ks ∧ ∀ j (hj : j < l.length), (numS N ks c (l.take j), (l[j]).1, (l[j]).2) ∈ ks
theorem ChIn.nil {N : Nat} {ks : List Ky} {c : Int} (h : (c, -1, -1) ∈ ks) : ChIn N ks c [] := ⟨h, fun j hj => by simp at hj⟩
theorem ChIn.snoc {N : Nat} {ks : List Ky} {c : Int} {l : List (Int × Int)} {x : Int × Int} : ChIn N ks c (l ++ [x]) ↔ ChIn N ks c l ∧ (numS N ks c l, x.1, x.2) ∈ ks := by
 constructor
 ·rintro ⟨h1, h2⟩
  refine ⟨⟨h1, fun j hj => ?_⟩, ?_⟩
  ·have := h2 j (by simp; omega)
   rw [List.take_append_of_le_length (by omega)] at this
   simpa [List.getElem_append_left hj] using this
  ·have := h2 l.length (by simp)
   simpa using this
 ·rintro ⟨⟨h1, h2⟩, h3⟩
  refine ⟨h1, fun j hj => ?_⟩
  rcases Nat.lt_or_ge j l.length with h | h
  ·have := h2 j h
   rw [List.take_append_of_le_length (by omega)]
   simpa [List.getElem_append_left h] using this
  ·have e : j = l.length := by simp at hj; omega
   subst e
   simpa using h3
theorem numS_pre {N : Nat} {xs ys : List Ky} (h : xs <+: ys) {c : Int} {l : List (Int × Int)} (hc : ChIn N xs c l) : numS N ys c l = numS N xs c l ∧ ChIn N ys c l := by
 have key : ∀ n (l : List (Int × Int)), l.length = n → ChIn N xs c l → numS N ys c l = numS N xs c l ∧ ChIn N ys c l := by
  intro n
  induction n with
  | zero =>
   intro l hl hc
   rw [List.eq_nil_of_length_eq_zero hl] at hc ⊢
   exact ⟨plK_pre h hc.1, ChIn.nil (h.subset hc.1)⟩
  | succ n ih =>
   intro l hl hc
   have hne : l ≠ [] := fun e => by rw [e] at hl; cases hl
   rw [← List.dropLast_concat_getLast hne] at hc ⊢
   obtain ⟨h1, h2⟩ := ChIn.snoc.1 hc
   obtain ⟨k1, k2⟩ := ih _ (by rw [List.length_dropLast, hl]; rfl) h1
   rw [numS_snoc, numS_snoc, k1]
   exact ⟨plK_pre h h2, ChIn.snoc.2 ⟨k2, by rw [k1]; exact h.subset h2⟩⟩
 exact key _ l rfl hc
theorem chin_step {N : Nat} {ks : List Ky} {c : Int} {l : List (Int × Int)} (h : ChIn N ks c l) (x : Int × Int) :
  ChIn N (stp ks (numS N ks c l, x.1, x.2)) c (l ++ [x]) ∧ numS N (stp ks (numS N ks c l, x.1, x.2)) c (l ++ [x]) = plK N (stp ks (numS N ks c l, x.1, x.2)) (numS N ks c l, x.1, x.2) := by
 obtain ⟨e, h'⟩ := numS_pre (stp_pre ks (numS N ks c l, x.1, x.2)) h
 exact ⟨ChIn.snoc.2 ⟨h', by rw [e]; exact stp_mem _ _⟩, by rw [numS_snoc, e]⟩
theorem numS_range {N : Nat} {ks : List Ky} {c : Int} {l : List (Int × Int)} (hc : ChIn N ks c l) : (N : Int) ≤ numS N ks c l ∧ numS N ks c l < N + ks.length := by
 by_cases hne : l = []
 ·subst hne; exact plK_lt hc.1
 ·rw [← List.dropLast_concat_getLast hne] at hc ⊢
  rw [numS_snoc]
  exact plK_lt (ChIn.snoc.1 hc).2
theorem numS_inj {N : Nat} {ks : List Ky} {c c' : Int} : ∀ (n : Nat) (l l' : List (Int × Int)), l.length = n → (∀ x ∈ l, 1 ≤ x.1) → (∀ x ∈ l', 1 ≤ x.1) → ChIn N ks c l → ChIn N ks c' l' → numS N ks c l = numS N ks c' l' → c = c' ∧ l = l'
 | 0, l, l', hl, hp, hp', h, h', e => by
  have hl0 := List.eq_nil_of_length_eq_zero hl
  subst hl0
  by_cases hne : l' = []
  ·subst hne
   rw [numS_nil, numS_nil] at e
   have := plK_inj h.1 h'.1 e
   injection this with e1
   exact ⟨e1, rfl⟩
  ·rw [← List.dropLast_concat_getLast hne] at h' e hp'
   rw [numS_nil, numS_snoc] at e
   have := plK_inj h.1 (ChIn.snoc.1 h').2 e
   injection this with e1 e2
   injection e2 with e2 e3
   have := hp' (l'.getLast hne) (by simp)
   omega
 | n + 1, l, l', hl, hp, hp', h, h', e => by
  have hne : l ≠ [] := fun e => by rw [e] at hl; cases hl
  rw [← List.dropLast_concat_getLast hne] at h e hp ⊢
  by_cases hne' : l' = []
  ·subst hne'
   rw [numS_nil, numS_snoc] at e
   have := plK_inj (ChIn.snoc.1 h).2 h'.1 e
   injection this with e1 e2
   injection e2 with e2 e3
   have := hp (l.getLast hne) (by simp)
   omega
  ·rw [← List.dropLast_concat_getLast hne'] at h' e hp' ⊢
   rw [numS_snoc, numS_snoc] at e
   obtain ⟨k1, k2⟩ := ChIn.snoc.1 h
   obtain ⟨k3, k4⟩ := ChIn.snoc.1 h'
   have := plK_inj k2 k4 e
   injection this with e1 e2
   injection e2 with e2 e3
   obtain ⟨i1, i2⟩ := numS_inj n _ _ (by rw [List.length_dropLast, hl]; rfl) (fun x hx => hp x (List.mem_append_left _ hx)) (fun x hx => hp' x (List.mem_append_left _ hx)) k1 k3 e1
   exact ⟨i1, by rw [i2, show l.getLast hne = l'.getLast hne' from Prod.ext e2 e3]⟩
section
variable {α β : Type} [DecidableEq α] [DecidableEq β]
theorem idxOf_map_on {f : α → β} {l : List α} {x : α} (h : ∀ y ∈ l, f y = f x → y = x) : plF (l.map f) (f x) = plF l x := by
 unfold plF
 induction l with
 | nil => rfl
 | cons y l ih =>
  have ih := ih fun z hz => h z (List.mem_cons_of_mem _ hz)
  rw [List.map_cons, List.idxOf_cons, List.idxOf_cons, ih]
  by_cases e : y = x
  ·subst e; simp
  ·have e' : f y ≠ f x := fun he => e (h y List.mem_cons_self he)
   have b1 : (y == x) = false := by simpa using e
   have b2 : (f y == f x) = false := by simpa using e'
   rw [b1, b2]
theorem mem_map_on {f : α → β} {l : List α} {x : α} (h : ∀ y ∈ l, f y = f x → y = x) : f x ∈ l.map f ↔ x ∈ l := by
 rw [List.mem_map]
 exact ⟨fun ⟨y, hy, e⟩ => h y hy e ▸ hy, fun hx => ⟨x, hx, rfl⟩⟩
end
def numA (N : Nat) (ks : List Ky) (s : Int × List (Int × Int)) : Int := numS N ks s.1 s.2
def SigOk (s : Int × List (Int × Int)) : Prop := ∀ x ∈ s.2, 1 ≤ x.1
structure RefI (es : List A3) (cl : List Int) (N k : Nat) (ks : List Ky) (fk : List Int) : Prop where
 chin : ∀ i, i < k → ChIn N ks (sigA es cl i).1 (sigA es cl i).2
 fks : fk = (firsts (sigs es cl k)).map (numA N ks)
section
variable {es : List A3} {cl : List Int} {N k : Nat} {ks : List Ky} {fk : List Int}
theorem RefI.start (es : List A3) (cl : List Int) (N : Nat) : RefI es cl N 0 [] [] := ⟨fun i hi => by omega, rfl⟩
theorem RefI.chOf (h : RefI es cl N k ks fk) {s : Int × List (Int × Int)} (hs : s ∈ firsts (sigs es cl k)) : ChIn N ks s.1 s.2 := by
 obtain ⟨i, hi, rfl⟩ := List.mem_map.1 (mem_firsts.1 hs)
 exact h.chin i (List.mem_range.1 hi)
theorem RefI.grow (h : RefI es cl N k ks fk) {ks' : List Ky} (hp : ks <+: ks') : RefI es cl N k ks' fk := by
 refine ⟨fun i hi => (numS_pre hp (h.chin i hi)).2, ?_⟩
 rw [h.fks]
 exact List.map_congr_left fun s hs => (numS_pre hp (h.chOf hs)).1.symm
theorem sig_ok (hl : ∀ x ∈ es, 1 ≤ x.l) (i : Nat) : SigOk (sigA es cl i) := by
 intro x hx
 obtain ⟨y, hy, rfl⟩ := List.mem_map.1 hx
 exact hl y (outsD_mem.1 hy).1
theorem RefI.distinct (hl : ∀ x ∈ es, 1 ≤ x.l) (h : RefI es cl N k ks fk) (hk : ChIn N ks (sigA es cl k).1 (sigA es cl k).2) : ∀ s ∈ firsts (sigs es cl k), numA N ks s = numA N ks (sigA es cl k) → s = sigA es cl k := by
 intro s hs e
 obtain ⟨i, hi, rfl⟩ := List.mem_map.1 (mem_firsts.1 hs)
 obtain ⟨e1, e2⟩ := numS_inj _ _ _ rfl (sig_ok hl i) (sig_ok hl k) (h.chin i (List.mem_range.1 hi)) hk e
 exact Prod.ext e1 e2
theorem sigs_succ (es : List A3) (cl : List Int) (k : Nat) : sigs es cl (k + 1) = sigs es cl k ++ [sigA es cl k] := by
 unfold sigs; rw [List.range_succ, List.map_append]; rfl
theorem RefI.step (hl : ∀ x ∈ es, 1 ≤ x.l) (h : RefI es cl N k ks fk) (hk : ChIn N ks (sigA es cl k).1 (sigA es cl k).2) :
  RefI es cl N (k + 1) ks (if numA N ks (sigA es cl k) ∈ fk then fk else fk ++ [numA N ks (sigA es cl k)]) := by
 refine ⟨fun i hi => ?_, ?_⟩
 ·rcases Nat.lt_or_ge i k with h1 | h1
  ·exact h.chin i h1
  ·rw [show i = k by omega]; exact hk
 ·have hm := mem_map_on (h.distinct hl hk)
  rw [← h.fks] at hm
  rw [sigs_succ, firsts_snoc]
  by_cases hf : sigA es cl k ∈ firsts (sigs es cl k)
  ·rw [if_pos hf, if_pos (hm.2 hf)]; exact h.fks
  ·rw [if_neg hf, if_neg (fun e => hf (hm.1 e)), List.map_append, ← h.fks]; rfl
theorem RefI.idx (hl : ∀ x ∈ es, 1 ≤ x.l) (hkN : k < N) (h : RefI es cl N (k + 1) ks fk) : ((plF fk (numA N ks (sigA es cl k)) : Nat) : Int) = gi (refC es N cl) k := by
 rw [refC_at es cl hkN, h.fks]
 have hk := h.chin k (Nat.lt_succ_self k)
 have e1 := idxOf_map_on (f := numA N ks) (l := firsts (sigs es cl (k + 1))) (x := sigA es cl k) fun s hs e => by
  obtain ⟨i, hi, rfl⟩ := List.mem_map.1 (mem_firsts.1 hs)
  obtain ⟨e1, e2⟩ := numS_inj _ _ _ rfl (sig_ok hl i) (sig_ok hl k) (h.chin i (List.mem_range.1 hi)) hk e
  exact Prod.ext e1 e2
 rw [e1]
 have hm : sigA es cl k ∈ firsts (sigs es cl (k + 1)) := sig_mem es cl (Nat.lt_succ_self k)
 have hp : firsts (sigs es cl (k + 1)) <+: firsts (sigs es cl N) := by
  have e : sigs es cl N = sigs es cl (k + 1) ++ ((List.range' (k + 1) (N - (k + 1))).map (sigA es cl)) := by
   unfold sigs
   rw [← List.map_append]
   congr 1
   rw [List.range_eq_range', List.range_eq_range']
   have := List.range'_append_1 (s := 0) (m := k + 1) (n := N - (k + 1))
   rw [Nat.zero_add] at this
   rw [this, show k + 1 + (N - (k + 1)) = N by omega]
  rw [e]
  exact firsts_pre _ _
 rw [plF_pre hp hm]
theorem RefI.count (h : RefI es cl N N ks fk) : fk.length = refN es N cl := by rw [h.fks, List.length_map]; rfl
end
def outR (es : List A3) (cl : List Int) (N k : Nat) : List Int := (refC es N cl).take k ++ List.replicate (N - k) 0
theorem outR_len (es : List A3) (cl : List Int) (N k : Nat) (h : k ≤ N) : (outR es cl N k).length = N := by
 unfold outR
 rw [List.length_append, List.length_take, refC_len, List.length_replicate]
 omega
theorem outR_set {es : List A3} {cl : List Int} {N k : Nat} (h : k < N) : (outR es cl N k).set k (gi (refC es N cl) k) = outR es cl N (k + 1) := by
 unfold outR
 have hl := refC_len es cl N
 rw [List.set_append_right _ _ (by rw [List.length_take]; omega), List.length_take, show k - min k (refC es N cl).length = 0 by omega]
 obtain ⟨m, hm⟩ : ∃ m, N - k = m + 1 := ⟨N - k - 1, by omega⟩
 rw [hm, show N - (k + 1) = m by omega, List.replicate_succ, List.set_cons_zero, List.take_succ_eq_append_getElem (by omega), gi_eq _ _ (by omega), List.append_assoc]
 rfl
theorem outR_full (es : List A3) (cl : List Int) (N : Nat) : outR es cl N N = refC es N cl := by
 unfold outR
 rw [List.take_of_length_le (by rw [refC_len]; exact Nat.le_refl _)]
 simp
end Go.Proofs.Ytpcbmhfnefhenaa
