import Derived.Test.YtpcbmhfnefhenaaMG10
/-
  DfaWo, DfaWe
-/
set_option linter.unusedVariables false
namespace Go.Proofs.Ytpcbmhfnefhenaa

def wordsL (d : Dfa) : Nat → Int → List (List Int)
 | 0, q => if gb d.fin q.toNat = true then [[]] else []
 | n + 1, q => (outsD d.arcs q).flatMap fun x => (wordsL d n x.t).map (x.l :: ·)
section
variable {d : Dfa}
theorem wordsL_mem (hv : ValidD d) : ∀ (n : Nat) (q : Int) (w : List Int), w ∈ wordsL d n q ↔ w.length = n ∧ accQ d q w = true
 | 0, q, w => by
  show w ∈ (if gb d.fin q.toNat = true then [[]] else []) ↔ _
  constructor
  ·intro h
   split at h
   ·rename_i hf
    rw [List.mem_singleton.1 h]
    exact ⟨rfl, hf⟩
   ·exact absurd h List.not_mem_nil
  ·rintro ⟨h1, h2⟩
   rw [List.length_eq_zero_iff] at h1
   subst h1
   rw [accQ_nil] at h2
   rw [if_pos h2]
   exact List.mem_singleton.2 rfl
 | n + 1, q, w => by
  show w ∈ (outsD d.arcs q).flatMap (fun x => (wordsL d n x.t).map (x.l :: ·)) ↔ _
  rw [List.mem_flatMap]
  constructor
  ·rintro ⟨x, hx, hw⟩
   obtain ⟨v, hvm, rfl⟩ := List.mem_map.1 hw
   obtain ⟨h1, h2⟩ := (wordsL_mem hv n x.t v).1 hvm
   obtain ⟨h3, h4⟩ := outsD_mem.1 hx
   exact ⟨by simp [h1], by rw [accQ_some ((nxtD_iff hv.sorted).2 ⟨h3, h4, rfl⟩)]; exact h2⟩
  ·rintro ⟨h1, h2⟩
   cases w with
   | nil => simp at h1
   | cons c v =>
    cases h : nxtD d.arcs q c with
    | none => rw [accQ_none h] at h2; cases h2
    | some x =>
     obtain ⟨h3, h4, h5⟩ := nxtD_mem h
     rw [accQ_some h] at h2
     exact ⟨x, outsD_mem.2 ⟨h3, h4⟩, List.mem_map.2 ⟨v, (wordsL_mem hv n x.t v).2 ⟨by simpa using h1, h2⟩, by rw [h5]⟩⟩
theorem wordsL_asc (hv : ValidD d) : ∀ (n : Nat) (q : Int), (wordsL d n q).Pairwise fun u v => cmpL u v < 0
 | 0, q => by
  show List.Pairwise _ (if gb d.fin q.toNat = true then [[]] else [])
  split
  ·exact List.pairwise_singleton _ _
  ·exact List.Pairwise.nil
 | n + 1, q => by
  show List.Pairwise _ ((outsD d.arcs q).flatMap fun x => (wordsL d n x.t).map (x.l :: ·))
  rw [List.pairwise_flatMap]
  refine ⟨fun x _ => ?_, ?_⟩
  ·rw [List.pairwise_map]
   refine List.Pairwise.imp ?_ (wordsL_asc hv n x.t)
   intro u v h
   rw [cmpL_cons, if_neg (Int.lt_irrefl _), if_neg (Int.lt_irrefl _)]
   exact h
  ·refine List.Pairwise.imp ?_ (outsD_asc hv.sorted q)
   intro x y hxy u hu v hvm
   obtain ⟨u', _, rfl⟩ := List.mem_map.1 hu
   obtain ⟨v', _, rfl⟩ := List.mem_map.1 hvm
   rw [cmpL_cons, if_pos hxy]
   decide
theorem asc_words_ext {xs ys : List (List Int)} (hx : xs.Pairwise fun u v => cmpL u v < 0) (hy : ys.Pairwise fun u v => cmpL u v < 0) (h : ∀ z, z ∈ xs ↔ z ∈ ys) : xs = ys := by
 have irr : ∀ u : List Int, ¬ cmpL u u < 0 := fun u => by rw [(cmpL_zero u u).2 rfl]; exact Int.lt_irrefl 0
 induction xs generalizing ys with
 | nil =>
  cases ys with
  | nil => rfl
  | cons y ys => exact absurd ((h y).2 List.mem_cons_self) List.not_mem_nil
 | cons x xs ih =>
  cases ys with
  | nil => exact absurd ((h x).1 List.mem_cons_self) List.not_mem_nil
  | cons y ys =>
   have hx' := List.pairwise_cons.1 hx
   have hy' := List.pairwise_cons.1 hy
   have e : x = y := by
    rcases List.mem_cons.1 ((h x).1 List.mem_cons_self) with h1 | h1
    ·exact h1
    ·rcases List.mem_cons.1 ((h y).2 List.mem_cons_self) with h2 | h2
     ·exact h2.symm
     ·have a1 := hy'.1 x h1
      have a2 := hx'.1 y h2
      exact absurd (cmpL_lt_trans a1 (by omega)) (irr y)
   subst e
   rw [ih hx'.2 hy'.2 fun z => ?_]
   constructor
   ·intro hz
    rcases List.mem_cons.1 ((h z).1 (List.mem_cons_of_mem _ hz)) with h1 | h1
    ·subst h1; exact absurd (hx'.1 z hz) (irr z)
    ·exact h1
   ·intro hz
    rcases List.mem_cons.1 ((h z).2 (List.mem_cons_of_mem _ hz)) with h1 | h1
    ·subst h1; exact absurd (hy'.1 z hz) (irr z)
    ·exact h1
theorem wordsL_lang {t : Dfa} (hv : ValidD d) (ht : ValidD t) {p q : Int} (h : lgD t p = lgD d q) (n : Nat) : wordsL t n p = wordsL d n q := by
 refine asc_words_ext (wordsL_asc ht n p) (wordsL_asc hv n q) fun z => ?_
 rw [wordsL_mem ht, wordsL_mem hv, show accQ t p z = accQ d q z from congrFun h z]
def canB (d : Dfa) (n : Nat) (q : Int) : Bool := !(wordsL d n q).isEmpty
def canT (d : Dfa) (n : Nat) : List Bool := (List.range d.n.toNat).map fun (i : Nat) => canB d n i
theorem canT_len (d : Dfa) (n : Nat) : (canT d n).length = d.n.toNat := by simp [canT]
theorem canT_at {n i : Nat} (hi : (i : Int) < d.n) : gb (canT d n) i = canB d n i := by
 rw [gb_eq _ _ (by rw [canT_len]; omega)]
 simp [canT]
theorem canB_no {n : Nat} {q : Int} : canB d n q = false ↔ wordsL d n q = [] := by
 unfold canB
 rw [Bool.not_eq_false', List.isEmpty_iff]
theorem canT_zero (hv : ValidD d) : canT d 0 = d.fin := by
 have hl := hv.2.2.1
 refine List.ext_getElem (by rw [canT_len]; omega) fun i h1 h2 => ?_
 rw [canT_len] at h1
 have := canT_at (d := d) (n := 0) (i := i) (by omega)
 rw [gb_eq _ _ (by rw [canT_len]; exact h1)] at this
 rw [this, ← gb_eq _ _ h2]
 unfold canB
 show (!(if gb d.fin (i : Int).toNat = true then [([] : List Int)] else []).isEmpty) = _
 rw [Int.toNat_natCast]
 cases gb d.fin i <;> rfl
def lonStep (S : List Bool) (L : List Bool) (x : A3) : List Bool := if gb S x.t.toNat = true then L.set x.f.toNat true else L
def lonJ (d : Dfa) (S : List Bool) (j : Nat) : List Bool := (d.arcs.take j).foldl (lonStep S) (List.replicate d.n.toNat false)
theorem lonJ_zero (S : List Bool) : lonJ d S 0 = List.replicate d.n.toNat false := rfl
theorem lonJ_succ (S : List Bool) {j : Nat} (hj : j < d.arcs.length) : lonJ d S (j + 1) = lonStep S (lonJ d S j) (g3 d.arcs j) := by
 unfold lonJ
 rw [take_succ_g3 _ _ hj, List.foldl_append]
 rfl
theorem lonStep_len (S L : List Bool) (x : A3) : (lonStep S L x).length = L.length := by unfold lonStep; split <;> simp
theorem lonStep_at (S L : List Bool) (x : A3) {i : Nat} (hi : i < L.length) : gb (lonStep S L x) i = (gb L i || (decide (x.f.toNat = i) && gb S x.t.toNat)) := by
 unfold lonStep
 split
 ·rename_i h
  rw [h, gb_eq _ _ (by rw [List.length_set]; exact hi), gb_eq _ _ hi, List.getElem_set]
  by_cases e : x.f.toNat = i
  ·rw [if_pos e, decide_eq_true e]; simp
  ·rw [if_neg e, decide_eq_false e]; simp
 ·rename_i h
  rw [Bool.not_eq_true] at h
  rw [h]; simp
theorem lonJ_len (S : List Bool) (j : Nat) : (lonJ d S j).length = d.n.toNat := by
 unfold lonJ
 generalize d.arcs.take j = l
 have : ∀ (l : List A3) (L : List Bool), (l.foldl (lonStep S) L).length = L.length := by
  intro l
  induction l with
  | nil => intro L; rfl
  | cons x l ih => intro L; rw [List.foldl_cons, ih, lonStep_len]
 rw [this, List.length_replicate]
theorem lon_all (hv : ValidD d) (n : Nat) : lonJ d (canT d n) d.arcs.length = canT d (n + 1) := by
 have key : ∀ (l : List A3) (L : List Bool) (i : Nat), i < L.length → gb (l.foldl (lonStep (canT d n)) L) i = (gb L i || l.any fun x => decide (x.f.toNat = i) && gb (canT d n) x.t.toNat) := by
  intro l
  induction l with
  | nil => intro L i _; simp
  | cons x l ih =>
   intro L i hi
   rw [List.foldl_cons, ih _ _ (by rw [lonStep_len]; exact hi), lonStep_at _ _ _ hi, List.any_cons, Bool.or_assoc]
 refine List.ext_getElem (by rw [lonJ_len, canT_len]) fun i h1 h2 => ?_
 rw [lonJ_len] at h1
 rw [← gb_eq _ _ (by rw [lonJ_len]; exact h1), ← gb_eq _ _ h2, canT_at (by omega)]
 unfold lonJ
 rw [List.take_length, key _ _ _ (by rw [List.length_replicate]; exact h1), gb_eq _ _ (by rw [List.length_replicate]; exact h1), List.getElem_replicate, Bool.false_or]
 rw [Bool.eq_iff_iff, List.any_eq_true]
 have hc : canB d (n + 1) i = true ↔ wordsL d (n + 1) i ≠ [] := by
  rw [Ne, ← canB_no, Bool.not_eq_false]
 rw [hc]
 show _ ↔ (outsD d.arcs (i : Int)).flatMap (fun x => (wordsL d n x.t).map (x.l :: ·)) ≠ []
 rw [Ne, List.flatMap_eq_nil_iff]
 constructor
 ·rintro ⟨x, hx, h⟩ hn
  rw [Bool.and_eq_true, decide_eq_true_eq] at h
  have ha := hv.arc hx
  have := hn x (outsD_mem.2 ⟨hx, by omega⟩)
  rw [List.map_eq_nil_iff] at this
  rw [canT_at (by omega), show ((x.t.toNat : Nat) : Int) = x.t by omega, canB_no.2 this] at h
  cases h.2
 ·intro h
  apply Classical.byContradiction
  intro hne
  apply h
  intro x hx
  obtain ⟨h1, h2⟩ := outsD_mem.1 hx
  have ha := hv.arc h1
  rw [List.map_eq_nil_iff]
  apply canB_no.1
  cases hb : canB d n x.t with
  | false => rfl
  | true =>
   exact absurd ⟨x, h1, by rw [Bool.and_eq_true, decide_eq_true_eq]; exact ⟨by omega, by rw [canT_at (by omega), show ((x.t.toNat : Nat) : Int) = x.t by omega]; exact hb⟩⟩ hne
def tk (m : Nat) (out l : List (List Int)) : List (List Int) := out ++ l.take (m - out.length)
theorem tk_nil (m : Nat) (out : List (List Int)) : tk m out [] = out := by simp [tk]
theorem tk_full {m : Nat} {out : List (List Int)} (h : m ≤ out.length) (l : List (List Int)) : tk m out l = out := by unfold tk; rw [Nat.sub_eq_zero_of_le h]; simp
theorem tk_one {m : Nat} {out : List (List Int)} (h : out.length < m) (u : List Int) : tk m out [u] = out ++ [u] := by unfold tk; rw [List.take_of_length_le (by simp; omega)]
theorem tk_append (m : Nat) (out l l' : List (List Int)) : tk m out (l ++ l') = tk m (tk m out l) l' := by
 unfold tk
 rw [List.take_append, List.append_assoc, List.length_append, List.length_take]
 congr 3
 omega
theorem tk_len {m : Nat} {out : List (List Int)} (h : out.length ≤ m) (l : List (List Int)) : (tk m out l).length ≤ m := by
 unfold tk
 rw [List.length_append, List.length_take]
 omega
theorem tk_zero (m : Nat) (l : List (List Int)) : tk m [] l = l.take m := by unfold tk; simp
def arcW (d : Dfa) (n : Nat) (word : List Int) (l : List A3) : List (List Int) := l.flatMap fun x => (wordsL d n x.t).map fun v => (word ++ [x.l]) ++ v
theorem arcW_nil (n : Nat) (word : List Int) : arcW d n word [] = [] := rfl
theorem arcW_take (n : Nat) (word : List Int) (l : List A3) {j : Nat} (hj : j < l.length) : arcW d n word (l.take (j + 1)) = arcW d n word (l.take j) ++ (wordsL d n (g3 l j).t).map fun v => (word ++ [(g3 l j).l]) ++ v := by
 rw [take_succ_g3 l j hj]
 unfold arcW
 rw [List.flatMap_append]
 simp
theorem arcW_all (n : Nat) (word : List Int) (q : Int) : arcW d n word (outsD d.arcs q) = (wordsL d (n + 1) q).map fun v => word ++ v := by
 show _ = ((outsD d.arcs q).flatMap fun x => (wordsL d n x.t).map (x.l :: ·)).map fun v => word ++ v
 unfold arcW
 rw [List.map_flatMap]
 congr 1
 funext x
 rw [List.map_map]
 refine List.map_congr_left fun v _ => ?_
 simp
def allW (d : Dfa) (k : Nat) : List (List Int) := (List.range k).flatMap fun i => wordsL d i d.s
theorem allW_succ (k : Nat) : allW d (k + 1) = allW d k ++ wordsL d k d.s := by
 unfold allW
 rw [List.range_succ, List.flatMap_append]
 simp
theorem allW_stop {k n : Nat} (h : ∀ i, k ≤ i → wordsL d i d.s = []) (hkn : k ≤ n) : allW d n = allW d k := by
 induction n with
 | zero => rw [show k = 0 by omega]
 | succ n ih =>
  rcases Nat.lt_or_ge n k with h1 | h1
  ·rw [show k = n + 1 by omega]
  ·rw [allW_succ, h n h1, List.append_nil, ih h1]
theorem allW_full {k n m : Nat} (h : m ≤ (tk m [] (allW d k)).length) (hkn : k ≤ n) : tk m [] (allW d n) = tk m [] (allW d k) := by
 induction n with
 | zero => rw [show k = 0 by omega]
 | succ n ih =>
  rcases Nat.lt_or_ge n k with h1 | h1
  ·rw [show k = n + 1 by omega]
  ·rw [allW_succ, tk_append, ih h1, tk_full h]
def wordsD (d : Dfa) (n most : Int) : List (List Int) := tk (min most 1000).toNat [] (allW d (n + 1).toNat)
theorem none_after (hv : ValidD d) {k : Nat} (h : ∀ i : Nat, (i : Int) < d.n → canB d k i = false) : ∀ n, k ≤ n → ∀ i : Nat, (i : Int) < d.n → wordsL d n i = [] := by
 intro n
 induction n with
 | zero => intro hk i hi; obtain rfl : k = 0 := by omega
           exact canB_no.1 (h i hi)
 | succ n ih =>
  intro hk i hi
  rcases Nat.lt_or_ge n k with h1 | h1
  ·obtain rfl : k = n + 1 := by omega
   exact canB_no.1 (h i hi)
  ·show (outsD d.arcs (i : Int)).flatMap (fun x => (wordsL d n x.t).map (x.l :: ·)) = []
   rw [List.flatMap_eq_nil_iff]
   intro x hx
   have ha := hv.arc (outsD_mem.1 hx).1
   have := ih h1 x.t.toNat (by omega)
   rw [show ((x.t.toNat : Nat) : Int) = x.t by omega] at this
   rw [this]; rfl
theorem runD_in (hv : ValidD d) : ∀ (w : List Int) (q : Int), InD d q → ∀ p, runD d.arcs q w = some p → InD d p
 | [], q, hq, p, h => by injection h with h; subst h; exact hq
 | c :: w, q, hq, p, h => by
  unfold runD at h
  cases h' : nxtD d.arcs q c with
  | none => rw [h'] at h; cases h
  | some x =>
   rw [h'] at h
   exact runD_in hv w x.t (hv.arc (nxtD_mem h').1).1.2 p h
theorem runD_append (ar : List A3) : ∀ (u v : List Int) (q : Int), runD ar q (u ++ v) = (runD ar q u).bind fun p => runD ar p v
 | [], v, q => rfl
 | c :: u, v, q => by
  rw [List.cons_append]
  cases h' : nxtD ar q c with
  | none => rw [runD, runD, h']; rfl
  | some x =>
   rw [runD, runD, h']
   exact runD_append ar u v x.t
theorem accQ_append {q p : Int} {u v : List Int} (h : runD d.arcs q u = some p) : accQ d q (u ++ v) = accQ d p v := by
 unfold accQ
 rw [runD_append, h]
 rfl
theorem accQ_run {q : Int} {u v : List Int} (h : accQ d q (u ++ v) = true) : ∃ p, runD d.arcs q u = some p := by
 cases hr : runD d.arcs q u with
 | some p => exact ⟨p, rfl⟩
 | none =>
  unfold accQ at h
  rw [runD_append, hr] at h
  cases h
theorem pump (hv : ValidD d) {L : Nat} (h : ∀ k, L ≤ k → k ≤ L + d.n.toNat → wordsL d k d.s = []) : ∀ k, L ≤ k → wordsL d k d.s = [] := by
 intro k
 induction k using Nat.strongRecOn with
 | _ k ih =>
  intro hk
  rcases Nat.lt_or_ge (L + d.n.toNat) k with h1 | h1
  ·apply List.eq_nil_iff_forall_not_mem.2
   intro w hw
   obtain ⟨hlen, hacc⟩ := (wordsL_mem hv _ _ _).1 hw
   have hrun : ∀ i, ∃ p, runD d.arcs d.s (w.take i) = some p ∧ InD d p := fun i => by
    obtain ⟨p, hp⟩ := accQ_run (d := d) (q := d.s) (u := w.take i) (v := w.drop i) (by rw [List.take_append_drop]; exact hacc)
    exact ⟨p, hp, runD_in hv _ _ hv.2.1 p hp⟩
   have hn1 := hv.1.1
   have hdup : ∃ i j, i < j ∧ j ≤ d.n.toNat ∧ runD d.arcs d.s (w.take i) = runD d.arcs d.s (w.take j) := by
    apply Classical.byContradiction
    intro hno
    have hnd : ((List.range (d.n.toNat + 1)).map fun i => (runD d.arcs d.s (w.take i)).getD 0).Nodup := by
     rw [List.nodup_iff_pairwise_ne, List.pairwise_map]
     rw [List.pairwise_iff_getElem]
     intro i j hi hj hij e
     rw [List.getElem_range, List.getElem_range] at e
     rw [List.length_range] at hj
     obtain ⟨p, hp, _⟩ := hrun i
     obtain ⟨p', hp', _⟩ := hrun j
     rw [hp, hp'] at e
     exact hno ⟨i, j, hij, by omega, by rw [hp, hp']; exact congrArg some e⟩
    have := ints_le (n := d.n) hnd fun x hx => by
     obtain ⟨i, _, rfl⟩ := List.mem_map.1 hx
     obtain ⟨p, hp, hin⟩ := hrun i
     rw [hp]
     exact hin
    rw [List.length_map, List.length_range] at this
    omega
   obtain ⟨i, j, hij, hj, e⟩ := hdup
   obtain ⟨p, hp, _⟩ := hrun i
   have hp' : runD d.arcs d.s (w.take j) = some p := e.symm.trans hp
   have h2 : accQ d d.s (w.take i ++ w.drop j) = true := by
    rw [accQ_append hp, ← accQ_append (u := w.take j) hp', List.take_append_drop]; exact hacc
   have h3 : w.take i ++ w.drop j ∈ wordsL d (i + (k - j)) d.s := (wordsL_mem hv _ _ _).2 ⟨by rw [List.length_append, List.length_take, List.length_drop, hlen]; omega, h2⟩
   rw [ih (i + (k - j)) (by omega) (by omega)] at h3
   exact absurd h3 List.not_mem_nil
  ·exact h k hk h1
end
end Go.Proofs.Ytpcbmhfnefhenaa

set_option linter.unusedVariables false
namespace Go.Proofs.Ytpcbmhfnefhenaa
section
variable {d : Dfa}
theorem allW_mem (hv : ValidD d) (k : Nat) (w : List Int) : w ∈ allW d k ↔ w.length < k ∧ accQ d d.s w = true := by
 unfold allW
 rw [List.mem_flatMap]
 constructor
 ·rintro ⟨i, hi, hw⟩
  have := (wordsL_mem hv i d.s w).1 hw
  have := List.mem_range.1 hi
  exact ⟨by omega, by simp_all⟩
 ·rintro ⟨h1, h2⟩
  exact ⟨w.length, List.mem_range.2 h1, (wordsL_mem hv _ _ _).2 ⟨rfl, h2⟩⟩
theorem allW_asc (hv : ValidD d) (k : Nat) : (allW d k).Pairwise SL := by
 unfold allW
 rw [List.pairwise_flatMap]
 refine ⟨fun i _ => ?_, ?_⟩
 ·have h := wordsL_asc hv i d.s
  rw [List.pairwise_iff_forall_sublist] at h ⊢
  intro u v huv
  have hu := huv.subset (List.mem_cons_self : u ∈ [u, v])
  have hw := huv.subset (by simp : v ∈ [u, v])
  exact .inr ⟨((wordsL_mem hv _ _ _).1 hu).1.trans ((wordsL_mem hv _ _ _).1 hw).1.symm, h huv⟩
 ·refine List.Pairwise.imp ?_ List.pairwise_lt_range
  intro i j hij u hu v hw
  exact .inl (by rw [((wordsL_mem hv _ _ _).1 hu).1, ((wordsL_mem hv _ _ _).1 hw).1]; exact hij)
theorem wordsD_eq (n most : Int) : wordsD d n most = (allW d (n + 1).toNat).take (min most 1000).toNat := tk_zero _ _
theorem wordsD_mem (hv : ValidD d) {n most : Int} {w : List Int} (h : w ∈ wordsD d n most) : (w.length : Int) ≤ n ∧ accQ d d.s w = true := by
 rw [wordsD_eq] at h
 have := (allW_mem hv _ _).1 (List.mem_of_mem_take h)
 exact ⟨by omega, this.2⟩
theorem wordsD_asc (hv : ValidD d) (n most : Int) : (wordsD d n most).Pairwise SL := by
 rw [wordsD_eq]
 exact (allW_asc hv _).sublist (List.take_sublist _ _)
theorem wordsD_len (n most : Int) : (wordsD d n most).length ≤ (min most 1000).toNat := by
 rw [wordsD_eq, List.length_take]
 omega
theorem wordsD_behind (hv : ValidD d) {n most : Int} {w : List Int} (hn : (w.length : Int) ≤ n) (ha : accQ d d.s w = true) (hno : w ∉ wordsD d n most) : (wordsD d n most).length = (min most 1000).toNat ∧ ∀ u ∈ wordsD d n most, SL u w := by
 rw [wordsD_eq] at hno ⊢
 have hm : w ∈ allW d (n + 1).toNat := (allW_mem hv _ _).2 ⟨by omega, ha⟩
 have hasc := allW_asc hv (n + 1).toNat
 generalize allW d (n + 1).toNat = l at *
 generalize (min most 1000).toNat = m at *
 rw [← List.take_append_drop m l, List.mem_append] at hm
 have hd : w ∈ l.drop m := hm.resolve_left hno
 have hlen := List.length_pos_of_mem hd
 rw [List.length_drop] at hlen
 rw [← List.take_append_drop m l, List.pairwise_append] at hasc
 exact ⟨by rw [List.length_take]; omega, fun u hu => hasc.2.2 u hu w hd⟩
end
end Go.Proofs.Ytpcbmhfnefhenaa
