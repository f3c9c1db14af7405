import Derived.Test.YtpcbmhfnefhenaaMG9
/-
  DfaTr, CmpL
-/
set_option linter.unusedVariables false
namespace Go.Proofs.Ytpcbmhfnefhenaa

noncomputable def keepU (d : Dfa) : List Bool := (List.range d.n.toNat).map fun (i : Nat) => @decide (∃ w, accQ d i w = true) (Classical.propDecidable _)
noncomputable def trimD (d : Dfa) : Dfa := canD d (keepU d)
theorem keepU_len (d : Dfa) : (keepU d).length = d.n.toNat := by simp [keepU]
theorem keepU_at {d : Dfa} {i : Nat} (hi : (i : Int) < d.n) : gb (keepU d) i = true ↔ ∃ w, accQ d i w = true := by
 have hl : i < (keepU d).length := by rw [keepU_len]; omega
 rw [gb_eq _ _ hl]
 simp [keepU]
theorem keepU_no {d : Dfa} {i : Nat} (hi : (i : Int) < d.n) (h : gb (keepU d) i = false) (w : List Int) : accQ d i w = false := by
 cases hw : accQ d i w with
 | false => rfl
 | true => rw [(keepU_at hi).2 ⟨w, hw⟩] at h; cases h
theorem keepU_eq {d : Dfa} (hv : ValidD d) {out : List Bool} (hl : (out.length : Int) = d.n) (h1 : ∀ i : Nat, (i : Int) < d.n → gb d.fin i = true → gb out i = true)
  (h2 : ∀ x ∈ d.arcs, gb out x.t.toNat = true → gb out x.f.toNat = true) (h3 : ∀ i : Nat, (i : Int) < d.n → gb out i = true → ∃ w, accQ d i w = true) : out = keepU d := by
 have up : ∀ (w : List Int) (i : Nat), (i : Int) < d.n → accQ d i w = true → gb out i = true := by
  intro w
  induction w with
  | nil => intro i hi h; rw [accQ_nil, Int.toNat_natCast] at h; exact h1 i hi h
  | cons c w ih =>
   intro i hi h
   cases hx : nxtD d.arcs i c with
   | none => rw [accQ_none hx] at h; cases h
   | some x =>
    rw [accQ_some hx] at h
    obtain ⟨k1, k2, k3⟩ := nxtD_mem hx
    have ha := (hv.arc k1).1.2
    have := h2 x k1 (ih x.t.toNat (by omega) (by rw [Int.toNat_of_nonneg ha.1]; exact h))
    rwa [k2, Int.toNat_natCast] at this
 refine gb_ext (by rw [keepU_len]; omega) fun i hi => ?_
 have hin : (i : Int) < d.n := by omega
 cases ho : gb out i with
 | true => exact ((keepU_at hin).2 (h3 i hin ho)).symm
 | false =>
  cases hk : gb (keepU d) i with
  | false => rfl
  | true =>
   obtain ⟨w, hw⟩ := (keepU_at hin).1 hk
   rw [up w i hin hw] at ho
   cases ho
def noneD : Dfa := ⟨1, 0, [false], []⟩
theorem noneD_valid : ValidD noneD := ⟨⟨Int.le_refl _, by decide⟩, ⟨Int.le_refl _, by decide⟩, rfl, Nat.zero_le _, fun i hi => absurd hi (Nat.not_lt_zero _)⟩
theorem noneD_acc (w : List Int) : accQ noneD 0 w = false := by
 cases w with
 | nil => rfl
 | cons c w => exact accQ_none rfl w
section
variable {d : Dfa}
theorem canD_valid (hv : ValidD d) (keep : List Bool) : ValidD (canD d keep) := by
 unfold canD
 split
 ·exact numD_valid hv
 ·exact noneD_valid
theorem canD_n (hv : ValidD d) (keep : List Bool) : (canD d keep).n ≤ d.n := by
 unfold canD
 have h1 := lastD_len (keep := keep) hv
 have h2 := hv.1
 split
 ·show (((lastD d keep).q.length : Nat) : Int) ≤ _; omega
 ·exact h2.1
theorem canD_s (keep : List Bool) : (canD d keep).s = 0 := by
 unfold canD
 split <;> rfl
theorem canD_lang (hv : ValidD d) {keep : List Bool} (hk : ∀ i : Nat, (i : Int) < d.n → gb keep i = false → ∀ w, accQ d i w = false) : lgD (canD d keep) 0 = lgD d d.s := by
 have hs := hv.2.1
 funext w
 unfold canD
 split
 ·rename_i h
  have := numD_acc hv (keep := keep) (fun x hx h w => by
   have ha := (hv.arc hx).1.2
   have := hk x.t.toNat (by omega) h w
   rwa [Int.toNat_of_nonneg ha.1] at this) w 0 lastD_pos
  show accQ (numD d keep) (0 : Nat) w = _
  rw [this, lastD_start]
  rfl
 ·rename_i h
  have := hk d.s.toNat (by omega) (by simpa using h) w
  rw [Int.toNat_of_nonneg hs.1] at this
  show accQ noneD 0 w = accQ d d.s w
  rw [this, noneD_acc]
theorem canD_lang_all (hv : ValidD d) : lgD (canD d (allK d.n.toNat)) 0 = lgD d d.s := canD_lang hv fun i hi h => by rw [gb_allK (by omega)] at h; cases h
theorem trimD_valid (hv : ValidD d) : ValidD (trimD d) := canD_valid hv _
theorem trimD_n (hv : ValidD d) : (trimD d).n ≤ d.n := canD_n hv _
theorem trimD_s : (trimD d).s = 0 := canD_s _
theorem trimD_lang (hv : ValidD d) : lgD (trimD d) 0 = lgD d d.s := canD_lang hv fun i hi h w => keepU_no hi h w
theorem trimD_useful (hv : ValidD d) : Useful (trimD d) := by
 unfold trimD canD
 split
 ·rename_i h
  intro x hx
  have hx : x ∈ (lastD d (keepU d)).a := hx
  obtain ⟨i, hi, e1, y, hy, e2, e3, e4, e5⟩ := (lastD_mem hv).1 hx
  have hm := lastD_closed hv hi (y.l, y.t) (oD_iff.2 ⟨y, hy, e2, rfl, rfl, e3⟩)
  have hlt := List.idxOf_lt_length_of_mem hm
  have ha := (hv.arc hy).1.2
  obtain ⟨w, hw⟩ := (keepU_at (d := d) (i := y.t.toNat) (by omega)).1 e3
  rw [Int.toNat_of_nonneg ha.1] at hw
  refine ⟨w, ?_⟩
  rw [e5, numD_acc hv (fun z hz h w => by
   have ha := (hv.arc hz).1.2
   have := keepU_no (d := d) (i := z.t.toNat) (by omega) h w
   rwa [Int.toNat_of_nonneg ha.1] at this) w _ hlt, gi_eq _ _ hlt, List.getElem_idxOf]
  exact hw
 ·intro x hx
  cases hx
noncomputable def minD (d : Dfa) : Dfa := minL (lgD d d.s)
theorem prog_classes (hv : ValidD d) {k : Nat} (h : ctK (trimD d).arcs (trimD d).n.toNat (trimD d).fin (k + 1) = ctK (trimD d).arcs (trimD d).n.toNat (trimD d).fin k) :
  Classes (trimD d) (clK (trimD d).arcs (trimD d).n.toNat (trimD d).fin (k + 1)) (ctK (trimD d).arcs (trimD d).n.toNat (trimD d).fin (k + 1)) ∧ ByLang (trimD d) (clK (trimD d).arcs (trimD d).n.toNat (trimD d).fin (k + 1)) := by
 have ht := trimD_valid hv
 have h1 := ht.1
 have h2 := ht.2.2.1
 refine ⟨⟨?_, fun i hi => clK_range (by omega) k, fun v hv => ?_⟩, clK_byLang ht (trimD_useful hv) h⟩
 ·rw [clK_len (by omega)]; omega
 ·obtain ⟨i, hi, e⟩ := clK_cover hv
  exact ⟨i, by omega, e⟩
theorem prog_minD (hv : ValidD d) {C : List Int} {m : Nat} (hC : Classes (trimD d) C m) (hL : ByLang (trimD d) C) : canD (qD (trimD d) C m) (allK m) = minD d := by
 have ht := trimD_valid hv
 have hq := qD_valid ht hC
 have h1 : canD (qD (trimD d) C m) (allK m) = numD (qD (trimD d) C m) (allK m) := canD_all (d := qD (trimD d) C m) hq
 rw [h1, qD_minL ht (trimD_useful hv) hC hL, trimD_s, trimD_lang hv]
 rfl
end
end Go.Proofs.Ytpcbmhfnefhenaa

set_option linter.unusedVariables false
namespace Go.Proofs.Ytpcbmhfnefhenaa

def cmpL : List Int → List Int → Int
 | [], [] => 0
 | [], _ :: _ => -1
 | _ :: _, [] => 1
 | x :: xs, y :: ys => if x < y then -1 else if y < x then 1 else cmpL xs ys

theorem cmpL_cons (x y : Int) (xs ys : List Int) : cmpL (x :: xs) (y :: ys) = if x < y then -1 else if y < x then 1 else cmpL xs ys := rfl
theorem cmpL_range : ∀ xs ys : List Int, cmpL xs ys = -1 ∨ cmpL xs ys = 0 ∨ cmpL xs ys = 1
 | [], [] => .inr (.inl rfl)
 | [], _ :: _ => .inl rfl
 | _ :: _, [] => .inr (.inr rfl)
 | x :: xs, y :: ys => by
  have := cmpL_range xs ys
  rw [cmpL_cons]
  split
  ·exact .inl rfl
  ·split
   ·exact .inr (.inr rfl)
   ·exact this
theorem cmpL_anti : ∀ xs ys : List Int, cmpL ys xs = -cmpL xs ys
 | [], [] => rfl
 | [], _ :: _ => rfl
 | _ :: _, [] => rfl
 | x :: xs, y :: ys => by
  have := cmpL_anti xs ys
  rw [cmpL_cons, cmpL_cons]
  rcases Int.lt_trichotomy x y with h | h | h
  ·rw [if_neg (by omega : ¬ y < x), if_pos h, if_pos h]; rfl
  ·rw [if_neg (by omega : ¬ y < x), if_neg (by omega : ¬ x < y), if_neg (by omega : ¬ x < y), if_neg (by omega : ¬ y < x)]; exact this
  ·rw [if_pos h, if_neg (by omega : ¬ x < y), if_pos h]
theorem cmpL_zero : ∀ xs ys : List Int, cmpL xs ys = 0 ↔ xs = ys
 | [], [] => by simp [cmpL]
 | [], _ :: _ => by simp [cmpL]
 | _ :: _, [] => by simp [cmpL]
 | x :: xs, y :: ys => by
  have := cmpL_zero xs ys
  rw [cmpL_cons]
  split
  ·rename_i h
   constructor
   ·intro h0; cases h0
   ·intro e; injection e; omega
  ·split
   ·constructor
    ·intro h0; cases h0
    ·intro e; injection e; omega
   ·rw [this, List.cons.injEq]
    constructor
    ·intro e; exact ⟨by omega, e⟩
    ·intro e; exact e.2
theorem cmpL_trans : ∀ xs ys zs : List Int, cmpL xs ys ≤ 0 → cmpL ys zs ≤ 0 → cmpL xs zs ≤ 0
 | [], _, [], _, _ => by decide
 | [], _, _ :: _, _, _ => by show (-1 : Int) ≤ 0; decide
 | x :: xs, [], _, h, _ => by exact absurd h (by show ¬ (1 : Int) ≤ 0; decide)
 | x :: xs, y :: ys, [], _, h => by exact absurd h (by show ¬ (1 : Int) ≤ 0; decide)
 | x :: xs, y :: ys, z :: zs, h1, h2 => by
  have ih := cmpL_trans xs ys zs
  rw [cmpL_cons] at h1 h2 ⊢
  split
  ·decide
  ·rename_i ha
   split
   ·rename_i hb
    split at h1
    ·split at h2
     ·omega
     ·split at h2
      ·omega
      ·omega
    ·split at h1
     ·omega
     ·split at h2
      ·omega
      ·split at h2
       ·omega
       ·omega
   ·rename_i hb
    split at h1
    ·split at h2
     ·omega
     ·split at h2
      ·omega
      ·omega
    ·split at h1
     ·omega
     ·split at h2
      ·omega
      ·split at h2
       ·omega
       ·exact ih h1 h2
theorem cmpL_nil (ys : List Int) : cmpL [] ys ≤ 0 := by
 cases ys
 ·decide
 ·show (-1 : Int) ≤ 0; decide
theorem cmpL_snoc (c d : Int) : ∀ xs ys : List Int, xs.length = ys.length → cmpL (xs ++ [c]) (ys ++ [d]) = if cmpL xs ys = 0 then cmpL [c] [d] else cmpL xs ys
 | [], [], _ => by rw [if_pos (by rfl)]; rfl
 | [], _ :: _, h => by simp at h
 | _ :: _, [], h => by simp at h
 | x :: xs, y :: ys, h => by
  have ih := cmpL_snoc c d xs ys (by simpa using h)
  rw [List.cons_append, List.cons_append, cmpL_cons, cmpL_cons]
  split
  ·rw [if_neg (by decide)]
  ·split
   ·rw [if_neg (by decide)]
   ·exact ih
def SL (u v : List Int) : Prop := u.length < v.length ∨ (u.length = v.length ∧ cmpL u v < 0)
def SLe (u v : List Int) : Prop := u.length < v.length ∨ (u.length = v.length ∧ cmpL u v ≤ 0)
theorem SL.le {u v : List Int} (h : SL u v) : SLe u v := by unfold SL at h; unfold SLe; omega
theorem SLe.refl (u : List Int) : SLe u u := .inr ⟨rfl, by rw [(cmpL_zero u u).2 rfl]; exact Int.le_refl 0⟩
theorem cmpL_lt_trans {x y z : List Int} (h1 : cmpL x y < 0) (h2 : cmpL y z ≤ 0) : cmpL x z < 0 := by
 have h := cmpL_trans x y z (by omega) h2
 rcases Int.lt_or_eq_of_le h with h | h
 ·exact h
 ·have e := (cmpL_zero x z).1 h
  subst e
  have := cmpL_anti x y
  omega
theorem SL.trans_le {x y z : List Int} (h1 : SL x y) (h2 : SLe y z) : SL x z := by
 unfold SL SLe at *
 rcases h1 with h1 | ⟨h1, h3⟩
 ·rcases h2 with h2 | ⟨h2, _⟩
  ·exact .inl (by omega)
  ·exact .inl (by omega)
 ·rcases h2 with h2 | ⟨h2, h4⟩
  ·exact .inl (by omega)
  ·exact .inr ⟨by omega, cmpL_lt_trans h3 h4⟩
theorem SL.trans {x y z : List Int} (h1 : SL x y) (h2 : SL y z) : SL x z := h1.trans_le h2.le
theorem SLe.trans {x y z : List Int} (h1 : SLe x y) (h2 : SLe y z) : SLe x z := by
 unfold SLe at *
 rcases h1 with h1 | ⟨h1, h3⟩
 ·rcases h2 with h2 | ⟨h2, _⟩
  ·exact .inl (by omega)
  ·exact .inl (by omega)
 ·rcases h2 with h2 | ⟨h2, h4⟩
  ·exact .inl (by omega)
  ·exact .inr ⟨by omega, cmpL_trans _ _ _ h3 h4⟩
theorem SL.irrefl {x : List Int} : ¬ SL x x := by
 rintro (h | ⟨_, h⟩)
 ·exact absurd h (Nat.lt_irrefl _)
 ·rw [(cmpL_zero x x).2 rfl] at h; exact absurd h (Int.lt_irrefl 0)
theorem SL.snoc {u v : List Int} (h : SL u v) (c d : Int) : SL (u ++ [c]) (v ++ [d]) := by
 unfold SL at *
 simp only [List.length_append, List.length_singleton]
 rcases h with h | ⟨h, h'⟩
 ·exact .inl (by omega)
 ·refine .inr ⟨by omega, ?_⟩
  rw [cmpL_snoc _ _ _ _ h, if_neg (by omega)]
  exact h'
theorem SL.last {u : List Int} {c d : Int} (h : c < d) : SL (u ++ [c]) (u ++ [d]) := by
 refine .inr ⟨by simp, ?_⟩
 rw [cmpL_snoc _ _ _ _ rfl, if_pos ((cmpL_zero u u).2 rfl), cmpL_cons, if_pos h]
 decide
theorem SLe.snoc {u v : List Int} (h : SLe u v) (c : Int) : SLe (u ++ [c]) (v ++ [c]) := by
 rcases h with h | ⟨h, h'⟩
 ·exact (SL.snoc (.inl h) c c).le
 ·rcases Int.lt_or_eq_of_le h' with h' | h'
  ·exact (SL.snoc (.inr ⟨h, h'⟩) c c).le
  ·have e := (cmpL_zero u v).1 h'
   subst e
   exact SLe.refl _
theorem SL.of_len {u v : List Int} (h : u.length < v.length) : SL u v := .inl h
end Go.Proofs.Ytpcbmhfnefhenaa
