import Derived.Test.YtpcbmhfnefhenaaMG29
/-
  CmpL, DfaIn
-/
set_option linter.unusedVariables false
namespace Go.Proofs.Ytpcbmhfnefhenaa

def cmpL : List Int → List Int → Int
 | [], [] => 0
 | [], _ :: _ => -1
 | _ :: _, [] => 1
 | x :: xs, y :: ys => if x < y then -1 else if y < x then 1 else cmpL xs ys

theorem cmpL_cons (x y : Int) (xs ys : List Int) : cmpL (x :: xs) (y :: ys) = if x < y then -1 else if y < x then 1 else cmpL xs ys := rfl
theorem cmpL_range : ∀ xs ys : List Int, cmpL xs ys = -1 ∨ cmpL xs ys = 0 ∨ cmpL xs ys = 1
 | [], [] => .inr (.inl rfl)
 | [], _ :: _ => .inl rfl
 | _ :: _, [] => .inr (.inr rfl)
 | x :: xs, y :: ys => by
  have := cmpL_range xs ys
  rw [cmpL_cons]
  split
  ·exact .inl rfl
  ·split
   ·exact .inr (.inr rfl)
   ·exact this
theorem cmpL_anti : ∀ xs ys : List Int, cmpL ys xs = -cmpL xs ys
 | [], [] => rfl
 | [], _ :: _ => rfl
 | _ :: _, [] => rfl
 | x :: xs, y :: ys => by
  have := cmpL_anti xs ys
  rw [cmpL_cons, cmpL_cons]
  rcases Int.lt_trichotomy x y with h | h | h
  ·rw [if_neg (by omega : ¬ y < x), if_pos h, if_pos h]; rfl
  ·rw [if_neg (by omega : ¬ y < x), if_neg (by omega : ¬ x < y), if_neg (by omega : ¬ x < y), if_neg (by omega : ¬ y < x)]; exact this
  ·rw [if_pos h, if_neg (by omega : ¬ x < y), if_pos h]
theorem cmpL_zero : ∀ xs ys : List Int, cmpL xs ys = 0 ↔ xs = ys
 | [], [] => by simp [cmpL]
 | [], _ :: _ => by simp [cmpL]
 | _ :: _, [] => by simp [cmpL]
 | x :: xs, y :: ys => by
  have := cmpL_zero xs ys
  rw [cmpL_cons]
  split
  ·rename_i h
   constructor
   ·intro h0; cases h0
   ·intro e; injection e; omega
  ·split
   ·constructor
    ·intro h0; cases h0
    ·intro e; injection e; omega
   ·rw [this, List.cons.injEq]
    constructor
    ·intro e; exact ⟨by omega, e⟩
    ·intro e; exact e.2
theorem cmpL_trans : ∀ xs ys zs : List Int, cmpL xs ys ≤ 0 → cmpL ys zs ≤ 0 → cmpL xs zs ≤ 0
 | [], _, [], _, _ => by decide
 | [], _, _ :: _, _, _ => by show (-1 : Int) ≤ 0; decide
 | x :: xs, [], _, h, _ => by exact absurd h (by show ¬ (1 : Int) ≤ 0; decide)
 | x :: xs, y :: ys, [], _, h => by exact absurd h (by show ¬ (1 : Int) ≤ 0; decide)
 | x :: xs, y :: ys, z :: zs, h1, h2 => by
  have ih := cmpL_trans xs ys zs
  rw [cmpL_cons] at h1 h2 ⊢
  split
  ·decide
  ·rename_i ha
   split
   ·rename_i hb
    split at h1
    ·split at h2
     ·omega
     ·split at h2
      ·omega
      ·omega
    ·split at h1
     ·omega
     ·split at h2
      ·omega
      ·split at h2
       ·omega
       ·omega
   ·rename_i hb
    split at h1
    ·split at h2
     ·omega
     ·split at h2
      ·omega
      ·omega
    ·split at h1
     ·omega
     ·split at h2
      ·omega
      ·split at h2
       ·omega
       ·exact ih h1 h2
theorem cmpL_nil (ys : List Int) : cmpL [] ys ≤ 0 := by
 cases ys
 ·decide
 ·show (-1 : Int) ≤ 0; decide
theorem cmpL_snoc (c d : Int) : ∀ xs ys : List Int, xs.length = ys.length → cmpL (xs ++ [c]) (ys ++ [d]) = if cmpL xs ys = 0 then cmpL [c] [d] else cmpL xs ys
 | [], [], _ => by rw [if_pos (by rfl)]; rfl
 | [], _ :: _, h => by simp at h
 | _ :: _, [], h => by simp at h
 | x :: xs, y :: ys, h => by
  have ih := cmpL_snoc c d xs ys (by simpa using h)
  rw [List.cons_append, List.cons_append, cmpL_cons, cmpL_cons]
  split
  ·rw [if_neg (by decide)]
  ·split
   ·rw [if_neg (by decide)]
   ·exact ih
def SL (u v : List Int) : Prop := u.length < v.length ∨ (u.length = v.length ∧ cmpL u v < 0)
def SLe (u v : List Int) : Prop := u.length < v.length ∨ (u.length = v.length ∧ cmpL u v ≤ 0)
theorem SL.le {u v : List Int} (h : SL u v) : SLe u v := by unfold SL at h; unfold SLe; omega
theorem SLe.refl (u : List Int) : SLe u u := .inr ⟨rfl, by rw [(cmpL_zero u u).2 rfl]; exact Int.le_refl 0⟩
theorem cmpL_lt_trans {x y z : List Int} (h1 : cmpL x y < 0) (h2 : cmpL y z ≤ 0) : cmpL x z < 0 := by
 have h := cmpL_trans x y z (by omega) h2
 rcases Int.lt_or_eq_of_le h with h | h
 ·exact h
 ·have e := (cmpL_zero x z).1 h
  subst e
  have := cmpL_anti x y
  omega
theorem SL.trans_le {x y z : List Int} (h1 : SL x y) (h2 : SLe y z) : SL x z := by
 unfold SL SLe at *
 rcases h1 with h1 | ⟨h1, h3⟩
 ·rcases h2 with h2 | ⟨h2, _⟩
  ·exact .inl (by omega)
  ·exact .inl (by omega)
 ·rcases h2 with h2 | ⟨h2, h4⟩
  ·exact .inl (by omega)
  ·exact .inr ⟨by omega, cmpL_lt_trans h3 h4⟩
theorem SL.trans {x y z : List Int} (h1 : SL x y) (h2 : SL y z) : SL x z := h1.trans_le h2.le
theorem SLe.trans {x y z : List Int} (h1 : SLe x y) (h2 : SLe y z) : SLe x z := by
 unfold SLe at *
 rcases h1 with h1 | ⟨h1, h3⟩
 ·rcases h2 with h2 | ⟨h2, _⟩
  ·exact .inl (by omega)
  ·exact .inl (by omega)
 ·rcases h2 with h2 | ⟨h2, h4⟩
  ·exact .inl (by omega)
  ·exact .inr ⟨by omega, cmpL_trans _ _ _ h3 h4⟩
theorem SL.irrefl {x : List Int} : ¬ SL x x := by
 rintro (h | ⟨_, h⟩)
 ·exact absurd h (Nat.lt_irrefl _)
 ·rw [(cmpL_zero x x).2 rfl] at h; exact absurd h (Int.lt_irrefl 0)
theorem SL.snoc {u v : List Int} (h : SL u v) (c d : Int) : SL (u ++ [c]) (v ++ [d]) := by
 unfold SL at *
 simp only [List.length_append, List.length_singleton]
 rcases h with h | ⟨h, h'⟩
 ·exact .inl (by omega)
 ·refine .inr ⟨by omega, ?_⟩
  rw [cmpL_snoc _ _ _ _ h, if_neg (by omega)]
  exact h'
theorem SL.last {u : List Int} {c d : Int} (h : c < d) : SL (u ++ [c]) (u ++ [d]) := by
 refine .inr ⟨by simp, ?_⟩
 rw [cmpL_snoc _ _ _ _ rfl, if_pos ((cmpL_zero u u).2 rfl), cmpL_cons, if_pos h]
 decide
theorem SLe.snoc {u v : List Int} (h : SLe u v) (c : Int) : SLe (u ++ [c]) (v ++ [c]) := by
 rcases h with h | ⟨h, h'⟩
 ·exact (SL.snoc (.inl h) c c).le
 ·rcases Int.lt_or_eq_of_le h' with h' | h'
  ·exact (SL.snoc (.inr ⟨h, h'⟩) c c).le
  ·have e := (cmpL_zero u v).1 h'
   subst e
   exact SLe.refl _
theorem SL.of_len {u v : List Int} (h : u.length < v.length) : SL u v := .inl h
end Go.Proofs.Ytpcbmhfnefhenaa

set_option linter.unusedVariables false
set_option linter.unusedSectionVars false
namespace Go.Proofs.Ytpcbmhfnefhenaa

section
variable {α : Type} [DecidableEq α] {o : α → List (Int × α)} {s : α} {N : Nat}
theorem pre_some {β : Type} {xs ys : List β} (h : xs <+: ys) {i : Nat} {y : β} (hi : xs[i]? = some y) : ys[i]? = some y := by
 obtain ⟨t, rfl⟩ := h
 have := (List.getElem?_eq_some_iff.1 hi).1
 rw [List.getElem?_append_left this]; exact hi
theorem pre_getD {β : Type} {xs ys : List β} (h : xs <+: ys) {i : Nat} (hi : i < xs.length) (z : β) : ys.getD i z = xs.getD i z := by
 obtain ⟨t, rfl⟩ := h
 rw [List.getD_eq_getElem?_getD, List.getD_eq_getElem?_getD, List.getElem?_append_left hi]
theorem bq1_wpre (h : Nat) (st : Bq α) (x : Int × α) : st.w <+: (bq1 h st x).w := by
 unfold bq1
 by_cases hx : x.2 ∈ st.q
 ·simp only [if_pos hx]; exact List.prefix_refl _
 ·simp only [if_neg hx]; exact List.prefix_append _ _
theorem bqs_wpre (h : Nat) : ∀ (l : List (Int × α)) (st : Bq α), st.w <+: (bqs h st l).w
 | [], st => List.prefix_refl _
 | x :: l, st => (bq1_wpre h st x).trans (bqs_wpre h l (bq1 h st x))
theorem bqh_wpre (o : α → List (Int × α)) (h : Nat) (st : Bq α) : st.w <+: (bqh o h st).w := by
 unfold bqh
 split
 ·exact bqs_wpre h _ st
 ·exact List.prefix_refl _
theorem bq_wpre (o : α → List (Int × α)) (s : α) {j k : Nat} (h : j ≤ k) : (bq o s j).w <+: (bq o s k).w := by
 induction k with
 | zero => rw [show j = 0 by omega]; exact List.prefix_refl _
 | succ k ih =>
  rcases Nat.lt_or_ge k j with h1 | h1
  ·rw [show j = k + 1 by omega]; exact List.prefix_refl _
  ·exact (ih h1).trans (bqh_wpre o k (bq o s k))
theorem bq1_yes {h : Nat} {st : Bq α} {x : Int × α} (hx : x.2 ∈ st.q) : (bq1 h st x).q = st.q ∧ (bq1 h st x).w = st.w := by
 unfold bq1; simp only [if_pos hx, and_self]
theorem bq1_no {h : Nat} {st : Bq α} {x : Int × α} (hx : x.2 ∉ st.q) : (bq1 h st x).q = st.q ++ [x.2] ∧ (bq1 h st x).w = st.w ++ [st.w.getD h [] ++ [x.1]] := by
 unfold bq1; simp only [if_neg hx, and_self]
theorem bq1_allw {P : α → List Int → Prop} {h : Nat} {st : Bq α} {x : Int × α} (hl : st.w.length = st.q.length) (hP : ∀ i y, st.q[i]? = some y → P y (st.w.getD i [])) (hx : P x.2 (st.w.getD h [] ++ [x.1])) : ∀ i y, (bq1 h st x).q[i]? = some y → P y ((bq1 h st x).w.getD i []) := by
 by_cases hm : x.2 ∈ st.q
 ·rw [(bq1_yes (h := h) hm).1, (bq1_yes (h := h) hm).2]; exact hP
 ·rw [(bq1_no (h := h) hm).1, (bq1_no (h := h) hm).2]
  intro i y hy
  rcases Nat.lt_trichotomy i st.q.length with hi | hi | hi
  ·rw [List.getElem?_append_left hi] at hy
   rw [pre_getD (List.prefix_append _ _) (by omega)]
   exact hP i y hy
  ·subst hi
   simp at hy
   rw [← hy, ← hl, List.getD_eq_getElem?_getD]
   simpa using hx
  ·rw [List.getElem?_eq_none (by simp; omega)] at hy; cases hy
theorem bqs_allw {P : α → List Int → Prop} {h : Nat} : ∀ (l : List (Int × α)) (st : Bq α), st.w.length = st.q.length → h < st.q.length → (∀ i y, st.q[i]? = some y → P y (st.w.getD i [])) → (∀ x ∈ l, P x.2 (st.w.getD h [] ++ [x.1])) → ∀ i y, (bqs h st l).q[i]? = some y → P y ((bqs h st l).w.getD i [])
 | [], st, hl, hh, hP, hx => hP
 | x :: l, st, hl, hh, hP, hx => by
  rw [bqs_cons]
  refine bqs_allw l (bq1 h st x) (bq1_wlen h st x hl) (Nat.lt_of_lt_of_le hh (bq1_pre h st x).length_le) (bq1_allw hl hP (hx x List.mem_cons_self)) fun y hy => ?_
  rw [pre_getD (bq1_wpre h st x) (by omega)]
  exact hx y (List.mem_cons_of_mem _ hy)
theorem bq_allw {P : α → List Int → Prop} (hs : P s []) (ho : ∀ y u, P y u → ∀ x ∈ o y, P x.2 (u ++ [x.1])) : ∀ k i y, (bq o s k).q[i]? = some y → P y ((bq o s k).w.getD i [])
 | 0, i, y, h => by
  have h : [s][i]? = some y := h
  cases i with
  | zero => simp at h; rw [← h]; exact hs
  | succ i => simp at h
 | k + 1, i, y, h => by
  have ih := bq_allw (P := P) hs ho k
  have e : bq o s (k + 1) = bqh o k (bq o s k) := rfl
  rw [e] at h ⊢
  rcases Nat.lt_or_ge k (bq o s k).q.length with hk | hk
  ·rw [bqh_at hk] at h ⊢
   exact bqs_allw _ _ (bq_wlen o s k) hk ih (ho _ _ (ih k _ (List.getElem?_eq_getElem hk))) i y h
  ·rw [bqh_over hk] at h ⊢
   exact ih i y h
def AscW (h : Nat) (c : Int) (st : Bq α) : Prop := st.w.Pairwise SL ∧ ∀ u ∈ st.w, u = [] ∨ ∃ p d, p < st.w.length ∧ u = st.w.getD p [] ++ [d] ∧ (p < h ∨ (p = h ∧ d < c))
def AscH (h : Nat) (st : Bq α) : Prop := st.w.Pairwise SL ∧ ∀ u ∈ st.w, u = [] ∨ ∃ p d, p < st.w.length ∧ u = st.w.getD p [] ++ [d] ∧ p < h
theorem AscH.at {h : Nat} {st : Bq α} (ha : AscH h st) (c : Int) : AscW h c st := ⟨ha.1, fun u hu => (ha.2 u hu).imp id fun ⟨p, d, h1, h2, h3⟩ => ⟨p, d, h1, h2, .inl h3⟩⟩
theorem AscW.up {h : Nat} {c : Int} {st : Bq α} (ha : AscW h c st) : AscH (h + 1) st := ⟨ha.1, fun u hu => (ha.2 u hu).imp id fun ⟨p, d, h1, h2, h3⟩ => ⟨p, d, h1, h2, by omega⟩⟩
theorem AscW.more {h : Nat} {c c' : Int} {st : Bq α} (ha : AscW h c st) (hc : c ≤ c') : AscW h c' st := ⟨ha.1, fun u hu => (ha.2 u hu).imp id fun ⟨p, d, h1, h2, h3⟩ => ⟨p, d, h1, h2, by omega⟩⟩
theorem AscW.lt {h : Nat} {c : Int} {st : Bq α} (ha : AscW h c st) (hh : h < st.w.length) {d : Int} (hd : c ≤ d) {u : List Int} (hu : u ∈ st.w) : SL u (st.w.getD h [] ++ [d]) := by
 rcases ha.2 u hu with rfl | ⟨p, e, hp, rfl, hpe⟩
 ·exact SL.of_len (by simp)
 ·rcases hpe with hpe | ⟨rfl, hpe⟩
  ·have := List.pairwise_iff_getElem.1 ha.1 p h hp hh hpe
   rw [List.getD_eq_getElem?_getD, List.getD_eq_getElem?_getD, List.getElem?_eq_getElem hp, List.getElem?_eq_getElem hh]
   exact this.snoc e d
  ·exact SL.last (by omega)
theorem AscW.push {h : Nat} {c : Int} {st : Bq α} (ha : AscW h c st) (hh : h < st.w.length) {x : Int × α} (hx : c ≤ x.1) : AscW h (x.1 + 1) (bq1 h st x) := by
 by_cases hm : x.2 ∈ st.q
 ·have e := bq1_yes (h := h) hm
  unfold AscW
  rw [e.2]
  exact ha.more (by omega)
 ·have e := bq1_no (h := h) hm
  unfold AscW
  rw [e.2]
  refine ⟨?_, ?_⟩
  ·rw [List.pairwise_append]
   refine ⟨ha.1, List.pairwise_singleton _ _, fun u hu v hv => ?_⟩
   rw [List.mem_singleton.1 hv]
   exact ha.lt hh hx hu
  ·intro u hu
   rcases List.mem_append.1 hu with hu | hu
   ·rcases ha.2 u hu with h0 | ⟨p, d, hp, h2, h3⟩
    ·exact .inl h0
    ·refine .inr ⟨p, d, by rw [List.length_append]; omega, ?_, by omega⟩
     rw [pre_getD (List.prefix_append _ _) hp]; exact h2
   ·refine .inr ⟨h, x.1, by rw [List.length_append]; omega, ?_, .inr ⟨rfl, by omega⟩⟩
    rw [pre_getD (List.prefix_append _ _) hh]; exact List.mem_singleton.1 hu
theorem bqs_asc {h : Nat} : ∀ (l : List (Int × α)) (st : Bq α) (c : Int), AscW h c st → h < st.w.length → st.w.length = st.q.length → l.Pairwise (fun x y => x.1 < y.1) → (∀ x ∈ l, c ≤ x.1) → (∃ c', AscW h c' (bqs h st l)) ∧ ∀ x ∈ l, ∃ j, (bqs h st l).q[j]? = some x.2 ∧ SLe ((bqs h st l).w.getD j []) (st.w.getD h [] ++ [x.1])
 | [], st, c, ha, hh, hl, hp, hc => ⟨⟨c, ha⟩, fun x hx => absurd hx List.not_mem_nil⟩
 | x :: l, st, c, ha, hh, hl, hp, hc => by
  have hp := List.pairwise_cons.1 hp
  have h1 := ha.push hh (hc x List.mem_cons_self)
  have hwl := bq1_wlen h st x hl
  have hpre := (bq1_wpre h st x).length_le
  obtain ⟨i1, i2⟩ := bqs_asc l (bq1 h st x) (x.1 + 1) h1 (by omega) hwl hp.2 (fun y hy => by have := hp.1 y hy; omega)
  rw [bqs_cons]
  refine ⟨i1, fun y hy => ?_⟩
  rcases List.mem_cons.1 hy with rfl | hy
  ·have key : ∃ j, (bq1 h st y).q[j]? = some y.2 ∧ SLe ((bq1 h st y).w.getD j []) (st.w.getD h [] ++ [y.1]) := by
    by_cases hm : y.2 ∈ st.q
    ·have e := bq1_yes (h := h) hm
     obtain ⟨j, hj, hjy⟩ := List.getElem_of_mem hm
     refine ⟨j, by rw [e.1, List.getElem?_eq_getElem hj, hjy], ?_⟩
     rw [e.2]
     have hj' : j < st.w.length := by omega
     refine (ha.lt hh (hc y List.mem_cons_self) ?_).le
     rw [List.getD_eq_getElem?_getD, List.getElem?_eq_getElem hj']
     exact List.getElem_mem hj'
    ·have e := bq1_no (h := h) hm
     refine ⟨st.q.length, by rw [e.1]; simp, ?_⟩
     rw [e.2, ← hl, List.getD_eq_getElem?_getD]
     simp only [List.getElem?_concat_length, Option.getD_some]
     exact SLe.refl _
   obtain ⟨j, hj1, hj2⟩ := key
   refine ⟨j, pre_some (bqs_pre h l _) hj1, ?_⟩
   have := (List.getElem?_eq_some_iff.1 hj1).1
   rw [pre_getD (bqs_wpre h l _) (by omega)]
   exact hj2
  ·obtain ⟨j, hj1, hj2⟩ := i2 y hy
   refine ⟨j, hj1, ?_⟩
   rw [pre_getD (bq1_wpre h st x) hh] at hj2
   exact hj2
theorem bq_asch (ha : ∀ q, (o q).Pairwise fun x y => x.1 < y.1) : ∀ k, AscH k (bq o s k)
 | 0 => ⟨List.pairwise_singleton _ _, fun u hu => .inl (List.mem_singleton.1 hu)⟩
 | k + 1 => by
  have ih := bq_asch ha k
  show AscH (k + 1) (bqh o k (bq o s k))
  rcases Nat.lt_or_ge k (bq o s k).q.length with hk | hk
  ·rw [bqh_at hk]
   have hw := bq_wlen o s k
   obtain ⟨c, hc⟩ : ∃ c : Int, ∀ x ∈ o (bq o s k).q[k], c ≤ x.1 := by
    cases h : o (bq o s k).q[k] with
    | nil => exact ⟨0, fun x hx => absurd hx List.not_mem_nil⟩
    | cons y l =>
     have hp := ha (bq o s k).q[k]
     rw [h] at hp
     refine ⟨y.1, fun x hx => ?_⟩
     rcases List.mem_cons.1 hx with rfl | hx
     ·exact Int.le_refl _
     ·have := (List.pairwise_cons.1 hp).1 x hx; omega
   obtain ⟨⟨c', hc'⟩, _⟩ := bqs_asc _ _ c (ih.at c) (by omega) hw (ha _) hc
   exact hc'.up
  ·rw [bqh_over hk]
   exact ⟨ih.1, fun u hu => (ih.2 u hu).imp id fun ⟨p, d, h1, h2, h3⟩ => ⟨p, d, h1, h2, by omega⟩⟩
inductive Reach (o : α → List (Int × α)) (s : α) : List Int → α → Prop
 | nil : Reach o s [] s
 | snoc {u : List Int} {q : α} {x : Int × α} : Reach o s u q → x ∈ o q → Reach o s (u ++ [x.1]) x.2
theorem bq_least (ha : ∀ q, (o q).Pairwise fun x y => x.1 < y.1) (hl : (bq o s N).q.length ≤ N) {u : List Int} {q : α} (h : Reach o s u q) : ∃ i, (bq o s N).q[i]? = some q ∧ SLe ((bq o s N).w.getD i []) u := by
 induction h with
 | nil =>
  refine ⟨0, pre_some (bq_pre o s (Nat.zero_le N)) (by rfl), ?_⟩
  rw [pre_getD (bq_wpre o s (Nat.zero_le N)) (by show 0 < [([] : List Int)].length; simp)]
  exact SLe.refl _
 | @snoc u q x hu hx ih =>
  obtain ⟨i, hi, hw⟩ := ih
  have hil := (List.getElem?_eq_some_iff.1 hi).1
  have e1 : (bq o s (i + 1)) = bqh o i (bq o s i) := rfl
  have hii : i < (bq o s i).q.length := by
   rcases Nat.lt_or_ge i (bq o s i).q.length with h1 | h1
   ·exact h1
   ·have := bq_stay o s h1 (N - i)
    rw [show i + (N - i) = N by omega] at this
    rw [this] at hil
    omega
  have hqi : (bq o s i).q[i] = q := by
   have := pre_some (bq_pre o s (show i ≤ N by omega)) (List.getElem?_eq_getElem hii)
   rw [hi] at this
   injection this with this
   exact this.symm
  have hwl := bq_wlen o s i
  obtain ⟨c, hc⟩ : ∃ c : Int, ∀ x ∈ o q, c ≤ x.1 := by
   cases h : o q with
   | nil => exact ⟨0, fun x hx => absurd hx List.not_mem_nil⟩
   | cons y l =>
    have hp := ha q
    rw [h] at hp
    refine ⟨y.1, fun x hx => ?_⟩
    rcases List.mem_cons.1 hx with rfl | hx
    ·exact Int.le_refl _
    ·have := (List.pairwise_cons.1 hp).1 x hx; omega
  obtain ⟨_, h2⟩ := bqs_asc (o q) _ c ((bq_asch ha i).at c) (by omega) hwl (ha _) hc
  obtain ⟨j, hj1, hj2⟩ := h2 x hx
  have e2 : bq o s (i + 1) = bqs i (bq o s i) (o q) := by rw [e1, bqh_at hii, hqi]
  rw [← e2] at hj1 hj2
  have hjl := (List.getElem?_eq_some_iff.1 hj1).1
  have hwl' := bq_wlen o s (i + 1)
  refine ⟨j, pre_some (bq_pre o s (show i + 1 ≤ N by omega)) hj1, ?_⟩
  rw [pre_getD (bq_wpre o s (show i + 1 ≤ N by omega)) (by omega)]
  refine hj2.trans ?_
  rw [pre_getD (bq_wpre o s (show i ≤ N by omega)) (by omega)] at hw
  exact hw.snoc x.1
theorem bq_asc (ha : ∀ q, (o q).Pairwise fun x y => x.1 < y.1) {k i j : Nat} (hij : i ≤ j) (hj : j < (bq o s k).q.length) : SLe ((bq o s k).w.getD i []) ((bq o s k).w.getD j []) := by
 have hw := bq_wlen o s k
 rcases Nat.lt_or_ge i j with h | h
 ·have := List.pairwise_iff_getElem.1 (bq_asch (s := s) ha k).1 i j (by omega) (by omega) h
  rw [List.getD_eq_getElem?_getD, List.getD_eq_getElem?_getD, List.getElem?_eq_getElem (show i < (bq o s k).w.length by omega), List.getElem?_eq_getElem (show j < (bq o s k).w.length by omega)]
  exact this.le
 ·rw [show i = j by omega]; exact SLe.refl _
end
def tgI (b : Dfa) (q2 l : Int) : Int := if 0 ≤ q2 then (match nxtD b.arcs q2 l with | some y => y.t | none => -1) else -1
def ki (b : Dfa) (q2 : Int) (l : List A3) : List (Int × P2) := l.map fun x => (x.l, ⟨x.t, tgI b q2 x.l⟩)
theorem ki_take (b : Dfa) (q2 : Int) (l : List A3) {j : Nat} (hj : j < l.length) : ki b q2 (l.take (j + 1)) = ki b q2 (l.take j) ++ [((g3 l j).l, ⟨(g3 l j).t, tgI b q2 (g3 l j).l⟩)] := by
 rw [take_succ_g3 l j hj]
 unfold ki
 rw [List.map_append]
 rfl
def oI (a b : Dfa) (q : P2) : List (Int × P2) := ki b q.b (outsD a.arcs q.a)
theorem oI_iff {a b : Dfa} {q : P2} {x : Int × P2} : x ∈ oI a b q ↔ ∃ y ∈ a.arcs, y.f = q.a ∧ x = (y.l, ⟨y.t, tgI b q.b y.l⟩) := by
 unfold oI ki
 rw [List.mem_map]
 constructor
 ·rintro ⟨y, hy, e⟩
  obtain ⟨h1, h2⟩ := outsD_mem.1 hy
  exact ⟨y, h1, h2, e.symm⟩
 ·rintro ⟨y, h1, h2, e⟩
  exact ⟨y, outsD_mem.2 ⟨h1, h2⟩, e.symm⟩
def InI (a b : Dfa) (q : P2) : Prop := InD a q.a ∧ (-1 ≤ q.b ∧ q.b < b.n)
def badI (a b : Dfa) (q : P2) : Bool := gb a.fin q.a.toNat && (decide (q.b < 0) || !gb b.fin q.b.toNat)
def nI (a b : Dfa) : Nat := a.n.toNat * (b.n.toNat + 1)
def lastI (a b : Dfa) : Bq P2 := bq (oI a b) ⟨a.s, b.s⟩ (nI a b)
def incI (a b : Dfa) : Option Nat := (lastI a b).q.findIdx? (badI a b)
def incW (a b : Dfa) : Option (List Int) := (incI a b).map fun i => (lastI a b).w.getD i []
section
variable {a b : Dfa}
theorem tgI_in (hb : ValidD b) (q2 l : Int) : -1 ≤ tgI b q2 l ∧ tgI b q2 l < b.n := by
 have := hb.1
 unfold tgI
 split
 ·split
  ·rename_i y h
   have := (hb.arc (nxtD_mem h).1).1.2
   omega
  ·omega
 ·omega
theorem oI_asc (ha : ValidD a) (q : P2) : (oI a b q).Pairwise fun x y => x.1 < y.1 := by
 unfold oI ki
 rw [List.pairwise_map]
 exact outsD_asc ha.sorted q.a
theorem oI_in (ha : ValidD a) (hb : ValidD b) : ∀ y, InI a b y → ∀ x ∈ oI a b y, InI a b x.2 := fun y _ x hx => by
 obtain ⟨u, hu, _, rfl⟩ := oI_iff.1 hx
 exact ⟨(ha.arc hu).1.2, tgI_in hb _ _⟩
theorem start_in (ha : ValidD a) (hb : ValidD b) : InI a b ⟨a.s, b.s⟩ := ⟨ha.2.1, by have := hb.2.1; show -1 ≤ b.s; omega, hb.2.1.2⟩
theorem bqI_in (ha : ValidD a) (hb : ValidD b) (k : Nat) : ∀ y ∈ (bq (oI a b) ⟨a.s, b.s⟩ k).q, InI a b y := bq_all (P := InI a b) (start_in ha hb) (oI_in ha hb) k
theorem bqI_len (ha : ValidD a) (hb : ValidD b) (k : Nat) : (bq (oI a b) ⟨a.s, b.s⟩ k).q.length ≤ nI a b := by
 have hn : ((bq (oI a b) ⟨a.s, b.s⟩ k).q.map fun q => (⟨q.a, q.b + 1⟩ : P2)).Nodup := by
  rw [List.nodup_iff_pairwise_ne, List.pairwise_map]
  refine List.Pairwise.imp ?_ (List.nodup_iff_pairwise_ne.1 (bq_nodup (oI a b) ⟨a.s, b.s⟩ k))
  intro x y h e
  injection e with e1 e2
  exact h (P2.ext e1 (by omega))
 have := pairs_le (n := a.n) (m := b.n + 1) hn fun x hx => by
  obtain ⟨y, hy, rfl⟩ := List.mem_map.1 hx
  have := bqI_in ha hb k y hy
  exact ⟨this.1, by have := this.2; show 0 ≤ y.b + 1; omega, by have := this.2; show y.b + 1 < b.n + 1; omega⟩
 have h1 := hb.1
 rw [List.length_map, show (b.n + 1).toNat = b.n.toNat + 1 by omega] at this
 exact this
theorem bqI_fin (ha : ValidD a) (hb : ValidD b) {k : Nat} (h : (bq (oI a b) ⟨a.s, b.s⟩ k).q.length ≤ k) : bq (oI a b) ⟨a.s, b.s⟩ k = lastI a b := bq_fin _ _ h (bqI_len ha hb _)
theorem incW_some (ha : ValidD a) (hb : ValidD b) {k : Nat} {q : P2} (hk : (bq (oI a b) ⟨a.s, b.s⟩ k).q[k]? = some q) (hno : ∀ i p, i < k → (bq (oI a b) ⟨a.s, b.s⟩ k).q[i]? = some p → badI a b p = false) (hq : badI a b q = true) : incW a b = some ((bq (oI a b) ⟨a.s, b.s⟩ k).w.getD k []) := by
 have hkl := (List.getElem?_eq_some_iff.1 hk).1
 have hb1 := bqI_len ha hb k
 have hpre := bq_pre (oI a b) ⟨a.s, b.s⟩ (show k ≤ nI a b by omega)
 have hw := bq_wlen (oI a b) ⟨a.s, b.s⟩ k
 have : incI a b = some k := by
  unfold incI
  have hk' : (lastI a b).q[k]? = some q := pre_some hpre hk
  obtain ⟨hkl', e⟩ := List.getElem?_eq_some_iff.1 hk'
  rw [List.findIdx?_eq_some_iff_getElem]
  refine ⟨hkl', by rw [e]; exact hq, fun j hj => ?_⟩
  obtain ⟨h', hg⟩ := get_pre hpre (show j < (bq (oI a b) ⟨a.s, b.s⟩ k).q.length by omega)
  have := hno j _ hj (List.getElem?_eq_getElem (by omega))
  rw [← hg] at this
  simp only [Bool.not_eq_true]
  exact this
 unfold incW
 rw [this, Option.map_some]
 congr 1
 exact pre_getD (bq_wpre (oI a b) ⟨a.s, b.s⟩ (show k ≤ nI a b by omega)) (by omega) []
theorem incW_none (ha : ValidD a) (hb : ValidD b) {k : Nat} (hk : (bq (oI a b) ⟨a.s, b.s⟩ k).q.length ≤ k) (hno : ∀ i p, i < k → (bq (oI a b) ⟨a.s, b.s⟩ k).q[i]? = some p → badI a b p = false) : incW a b = none := by
 unfold incW incI
 rw [← bqI_fin ha hb hk, Option.map_eq_none_iff, List.findIdx?_eq_none_iff]
 intro x hx
 obtain ⟨i, hi, e⟩ := List.getElem_of_mem hx
 exact hno i x (by omega) (by rw [List.getElem?_eq_getElem hi, e])
def accN (b : Dfa) (q : Int) (w : List Int) : Bool := if 0 ≤ q then accQ b q w else false
theorem accN_cons (b : Dfa) (q c : Int) (hb : ValidD b) (w : List Int) : accN b q (c :: w) = accN b (tgI b q c) w := by
 unfold accN tgI
 by_cases h : 0 ≤ q
 ·rw [if_pos h, if_pos h]
  cases h' : nxtD b.arcs q c with
  | none => rw [accQ_none h']; simp
  | some y =>
   have := (hb.arc (nxtD_mem h').1).1.2
   simp only
   rw [accQ_some h', if_pos this.1]
 ·rw [if_neg h, if_neg h, if_neg (by omega)]
theorem bad_iff (q : P2) : badI a b q = (accQ a q.a [] && !accN b q.b []) := by
 unfold badI accN
 rw [accQ_nil]
 by_cases h : 0 ≤ q.b
 ·rw [if_pos h, accQ_nil, decide_eq_false (by omega : ¬ q.b < 0), Bool.false_or]
 ·rw [if_neg h, decide_eq_true (by omega : q.b < 0)]
  simp
theorem word_runs (ha : ValidD a) (hb : ValidD b) {k i : Nat} {q : P2} (hi : (bq (oI a b) ⟨a.s, b.s⟩ k).q[i]? = some q) (v : List Int) : accQ a a.s ((bq (oI a b) ⟨a.s, b.s⟩ k).w.getD i [] ++ v) = accQ a q.a v ∧ accN b b.s ((bq (oI a b) ⟨a.s, b.s⟩ k).w.getD i [] ++ v) = accN b q.b v := by
 refine bq_allw (o := oI a b) (s := ⟨a.s, b.s⟩) (P := fun q u => ∀ v, accQ a a.s (u ++ v) = accQ a q.a v ∧ accN b b.s (u ++ v) = accN b q.b v) (fun v => ⟨rfl, rfl⟩) (fun y u hP x hx v => ?_) k i q hi v
 obtain ⟨z, hz, h1, rfl⟩ := oI_iff.1 hx
 have := hP (z.l :: v)
 rw [List.append_assoc, List.singleton_append, this.1, this.2]
 refine ⟨accQ_some ((nxtD_iff ha.sorted).2 ⟨hz, h1, rfl⟩) v, accN_cons b y.b z.l hb v⟩
theorem runs_reach (ha : ValidD a) (hb : ValidD b) : ∀ (v u : List Int) (q : P2), Reach (oI a b) ⟨a.s, b.s⟩ u q → accQ a q.a v = true → accN b q.b v = false → ∃ p, Reach (oI a b) ⟨a.s, b.s⟩ (u ++ v) p ∧ badI a b p = true
 | [], u, q, hu, h1, h2 => ⟨q, by rw [List.append_nil]; exact hu, by rw [bad_iff, h1, h2]; rfl⟩
 | c :: v, u, q, hu, h1, h2 => by
  cases h : nxtD a.arcs q.a c with
  | none => rw [accQ_none h] at h1; cases h1
  | some x =>
   obtain ⟨hx1, hx2, hx3⟩ := nxtD_mem h
   rw [accQ_some h] at h1
   rw [accN_cons b q.b c hb] at h2
   have hm : (x.l, (⟨x.t, tgI b q.b x.l⟩ : P2)) ∈ oI a b q := oI_iff.2 ⟨x, hx1, hx2, rfl⟩
   have hr := Reach.snoc hu hm
   have := runs_reach ha hb v _ _ hr h1 (by show accN b (tgI b q.b x.l) v = false; rw [hx3]; exact h2)
   rw [List.append_assoc, List.singleton_append, hx3] at this
   exact this
theorem incW_yes (ha : ValidD a) (hb : ValidD b) {w : List Int} (h : incW a b = some w) : accQ a a.s w = true ∧ accQ b b.s w = false ∧ ∀ v, accQ a a.s v = true → accQ b b.s v = false → SLe w v := by
 have hs : ∀ v, accN b b.s v = accQ b b.s v := fun v => by unfold accN; rw [if_pos hb.2.1.1]
 unfold incW at h
 rw [Option.map_eq_some_iff] at h
 obtain ⟨i, hi, rfl⟩ := h
 unfold incI at hi
 obtain ⟨hil, hbad, hmin⟩ := List.findIdx?_eq_some_iff_getElem.1 hi
 have hw := word_runs ha hb (k := nI a b) (List.getElem?_eq_getElem hil) []
 have hb' := hbad
 rw [bad_iff, Bool.and_eq_true, Bool.not_eq_true'] at hb'
 rw [List.append_nil] at hw
 refine ⟨hw.1.trans hb'.1, (hs _).symm.trans (hw.2.trans hb'.2), fun v h1 h2 => ?_⟩
 obtain ⟨p, hp, hpb⟩ := runs_reach ha hb v [] ⟨a.s, b.s⟩ Reach.nil h1 ((hs v).trans h2)
 rw [List.nil_append] at hp
 obtain ⟨j, hj, hle⟩ := bq_least (oI_asc ha) (bqI_len ha hb _) hp
 obtain ⟨hjl, hje⟩ := List.getElem?_eq_some_iff.1 hj
 have hij : i ≤ j := by
  rcases Nat.lt_or_ge j i with h | h
  ·have := hmin j h
   rw [Bool.not_eq_true] at this
   have hje' : (lastI a b).q[j]'(show j < (lastI a b).q.length from hjl) = p := hje
   rw [hje', hpb] at this; cases this
  ·exact h
 exact (bq_asc (oI_asc ha) hij hjl).trans hle
theorem incW_no (ha : ValidD a) (hb : ValidD b) (h : incW a b = none) (v : List Int) (h1 : accQ a a.s v = true) : accQ b b.s v = true := by
 have hs : ∀ v, accN b b.s v = accQ b b.s v := fun v => by unfold accN; rw [if_pos hb.2.1.1]
 cases h2 : accQ b b.s v with
 | true => rfl
 | false =>
  obtain ⟨p, hp, hpb⟩ := runs_reach ha hb v [] ⟨a.s, b.s⟩ Reach.nil h1 ((hs v).trans h2)
  obtain ⟨j, hj, _⟩ := bq_least (oI_asc ha) (bqI_len ha hb _) hp
  unfold incW incI at h
  rw [Option.map_eq_none_iff, List.findIdx?_eq_none_iff] at h
  obtain ⟨hjl, hje⟩ := List.getElem?_eq_some_iff.1 hj
  have := h p (List.mem_of_getElem? hj)
  rw [this] at hpb; cases hpb
end
end Go.Proofs.Ytpcbmhfnefhenaa
