import Derived.Test.YtehdkcjoaogbeaaMG12
import Derived.Test.YtehdkcjoaogbeaaMG29
/-
  DfaIn, Rws
-/
set_option linter.unusedVariables false
set_option linter.unusedSectionVars false
namespace Go.Proofs.Ytehdkcjoaogbeaa

section
variable {α : Type} [DecidableEq α] {o : α → List (Int × α)} {s : α} {N : Nat}
theorem pre_some {β : Type} {xs ys : List β} (h : xs <+: ys) {i : Nat} {y : β} (hi : xs[i]? = some y) : ys[i]? = some y := by
  obtain ⟨t, rfl⟩ := h
  have := (List.getElem?_eq_some_iff.1 hi).1
  rw [List.getElem?_append_left this]; exact hi
theorem pre_getD {β : Type} {xs ys : List β} (h : xs <+: ys) {i : Nat} (hi : i < xs.length) (z : β) : ys.getD i z = xs.getD i z := by
  obtain ⟨t, rfl⟩ := h
  rw [List.getD_eq_getElem?_getD, List.getD_eq_getElem?_getD, List.getElem?_append_left hi]
theorem bq1_wpre (h : Nat) (st : Bq α) (x : Int × α) : st.w <+: (bq1 h st x).w := by
  unfold bq1
  by_cases hx : x.2 ∈ st.q
  · simp only [if_pos hx]; exact List.prefix_refl _
  · simp only [if_neg hx]; exact List.prefix_append _ _
theorem bqs_wpre (h : Nat) : ∀ (l : List (Int × α)) (st : Bq α), st.w <+: (bqs h st l).w
  | [], st => List.prefix_refl _
  | x :: l, st => (bq1_wpre h st x).trans (bqs_wpre h l (bq1 h st x))
theorem bqh_wpre (o : α → List (Int × α)) (h : Nat) (st : Bq α) : st.w <+: (bqh o h st).w := by
  unfold bqh
  split
  · exact bqs_wpre h _ st
  · exact List.prefix_refl _
theorem bq_wpre (o : α → List (Int × α)) (s : α) {j k : Nat} (h : j ≤ k) : (bq o s j).w <+: (bq o s k).w := by
  induction k with
  | zero => rw [show j = 0 by omega]; exact List.prefix_refl _
  | succ k ih =>
    rcases Nat.lt_or_ge k j with h1 | h1
    · rw [show j = k + 1 by omega]; exact List.prefix_refl _
    · exact (ih h1).trans (bqh_wpre o k (bq o s k))
theorem bq1_yes {h : Nat} {st : Bq α} {x : Int × α} (hx : x.2 ∈ st.q) : (bq1 h st x).q = st.q ∧ (bq1 h st x).w = st.w := by
  unfold bq1; simp only [if_pos hx, and_self]
theorem bq1_no {h : Nat} {st : Bq α} {x : Int × α} (hx : x.2 ∉ st.q) : (bq1 h st x).q = st.q ++ [x.2] ∧ (bq1 h st x).w = st.w ++ [st.w.getD h [] ++ [x.1]] := by
  unfold bq1; simp only [if_neg hx, and_self]
theorem bq1_allw {P : α → List Int → Prop} {h : Nat} {st : Bq α} {x : Int × α} (hl : st.w.length = st.q.length) (hP : ∀ i y, st.q[i]? = some y → P y (st.w.getD i [])) (hx : P x.2 (st.w.getD h [] ++ [x.1])) : ∀ i y, (bq1 h st x).q[i]? = some y → P y ((bq1 h st x).w.getD i []) := by
  by_cases hm : x.2 ∈ st.q
  · rw [(bq1_yes (h := h) hm).1, (bq1_yes (h := h) hm).2]; exact hP
  · rw [(bq1_no (h := h) hm).1, (bq1_no (h := h) hm).2]
    intro i y hy
    rcases Nat.lt_trichotomy i st.q.length with hi | hi | hi
    · rw [List.getElem?_append_left hi] at hy
      rw [pre_getD (List.prefix_append _ _) (by omega)]
      exact hP i y hy
    · subst hi
      simp at hy
      rw [← hy, ← hl, List.getD_eq_getElem?_getD]
      simpa using hx
    · rw [List.getElem?_eq_none (by simp; omega)] at hy; cases hy
theorem bqs_allw {P : α → List Int → Prop} {h : Nat} : ∀ (l : List (Int × α)) (st : Bq α), st.w.length = st.q.length → h < st.q.length → (∀ i y, st.q[i]? = some y → P y (st.w.getD i [])) → (∀ x ∈ l, P x.2 (st.w.getD h [] ++ [x.1])) → ∀ i y, (bqs h st l).q[i]? = some y → P y ((bqs h st l).w.getD i [])
  | [], st, hl, hh, hP, hx => hP
  | x :: l, st, hl, hh, hP, hx => by
    rw [bqs_cons]
    refine bqs_allw l (bq1 h st x) (bq1_wlen h st x hl) (Nat.lt_of_lt_of_le hh (bq1_pre h st x).length_le) (bq1_allw hl hP (hx x List.mem_cons_self)) fun y hy => ?_
    rw [pre_getD (bq1_wpre h st x) (by omega)]
    exact hx y (List.mem_cons_of_mem _ hy)
theorem bq_allw {P : α → List Int → Prop} (hs : P s []) (ho : ∀ y u, P y u → ∀ x ∈ o y, P x.2 (u ++ [x.1])) : ∀ k i y, (bq o s k).q[i]? = some y → P y ((bq o s k).w.getD i [])
  | 0, i, y, h => by
    have h : [s][i]? = some y := h
    cases i with
    | zero => simp at h; rw [← h]; exact hs
    | succ i => simp at h
  | k + 1, i, y, h => by
    have ih := bq_allw (P := P) hs ho k
    have e : bq o s (k + 1) = bqh o k (bq o s k) := rfl
    rw [e] at h ⊢
    rcases Nat.lt_or_ge k (bq o s k).q.length with hk | hk
    · rw [bqh_at hk] at h ⊢
      exact bqs_allw _ _ (bq_wlen o s k) hk ih (ho _ _ (ih k _ (List.getElem?_eq_getElem hk))) i y h
    · rw [bqh_over hk] at h ⊢
      exact ih i y h
def AscW (h : Nat) (c : Int) (st : Bq α) : Prop := st.w.Pairwise SL ∧ ∀ u ∈ st.w, u = [] ∨ ∃ p d, p < st.w.length ∧ u = st.w.getD p [] ++ [d] ∧ (p < h ∨ (p = h ∧ d < c))
def AscH (h : Nat) (st : Bq α) : Prop := st.w.Pairwise SL ∧ ∀ u ∈ st.w, u = [] ∨ ∃ p d, p < st.w.length ∧ u = st.w.getD p [] ++ [d] ∧ p < h
theorem AscH.at {h : Nat} {st : Bq α} (ha : AscH h st) (c : Int) : AscW h c st := ⟨ha.1, fun u hu => (ha.2 u hu).imp id fun ⟨p, d, h1, h2, h3⟩ => ⟨p, d, h1, h2, .inl h3⟩⟩
theorem AscW.up {h : Nat} {c : Int} {st : Bq α} (ha : AscW h c st) : AscH (h + 1) st := ⟨ha.1, fun u hu => (ha.2 u hu).imp id fun ⟨p, d, h1, h2, h3⟩ => ⟨p, d, h1, h2, by omega⟩⟩
theorem AscW.more {h : Nat} {c c' : Int} {st : Bq α} (ha : AscW h c st) (hc : c ≤ c') : AscW h c' st := ⟨ha.1, fun u hu => (ha.2 u hu).imp id fun ⟨p, d, h1, h2, h3⟩ => ⟨p, d, h1, h2, by omega⟩⟩
theorem AscW.lt {h : Nat} {c : Int} {st : Bq α} (ha : AscW h c st) (hh : h < st.w.length) {d : Int} (hd : c ≤ d) {u : List Int} (hu : u ∈ st.w) : SL u (st.w.getD h [] ++ [d]) := by
  rcases ha.2 u hu with rfl | ⟨p, e, hp, rfl, hpe⟩
  · exact SL.of_len (by simp)
  · rcases hpe with hpe | ⟨rfl, hpe⟩
    · have := List.pairwise_iff_getElem.1 ha.1 p h hp hh hpe
      rw [List.getD_eq_getElem?_getD, List.getD_eq_getElem?_getD, List.getElem?_eq_getElem hp, List.getElem?_eq_getElem hh]
      exact this.snoc e d
    · exact SL.last (by omega)
theorem AscW.push {h : Nat} {c : Int} {st : Bq α} (ha : AscW h c st) (hh : h < st.w.length) {x : Int × α} (hx : c ≤ x.1) : AscW h (x.1 + 1) (bq1 h st x) := by
  by_cases hm : x.2 ∈ st.q
  · have e := bq1_yes (h := h) hm
    unfold AscW
    rw [e.2]
    exact ha.more (by omega)
  · have e := bq1_no (h := h) hm
    unfold AscW
    rw [e.2]
    refine ⟨?_, ?_⟩
    · rw [List.pairwise_append]
      refine ⟨ha.1, List.pairwise_singleton _ _, fun u hu v hv => ?_⟩
      rw [List.mem_singleton.1 hv]
      exact ha.lt hh hx hu
    · intro u hu
      rcases List.mem_append.1 hu with hu | hu
      · rcases ha.2 u hu with h0 | ⟨p, d, hp, h2, h3⟩
        · exact .inl h0
        · refine .inr ⟨p, d, by rw [List.length_append]; omega, ?_, by omega⟩
          rw [pre_getD (List.prefix_append _ _) hp]; exact h2
      · refine .inr ⟨h, x.1, by rw [List.length_append]; omega, ?_, .inr ⟨rfl, by omega⟩⟩
        rw [pre_getD (List.prefix_append _ _) hh]; exact List.mem_singleton.1 hu
theorem bqs_asc {h : Nat} : ∀ (l : List (Int × α)) (st : Bq α) (c : Int), AscW h c st → h < st.w.length → st.w.length = st.q.length → l.Pairwise (fun x y => x.1 < y.1) → (∀ x ∈ l, c ≤ x.1) → (∃ c', AscW h c' (bqs h st l)) ∧ ∀ x ∈ l, ∃ j, (bqs h st l).q[j]? = some x.2 ∧ SLe ((bqs h st l).w.getD j []) (st.w.getD h [] ++ [x.1])
  | [], st, c, ha, hh, hl, hp, hc => ⟨⟨c, ha⟩, fun x hx => absurd hx List.not_mem_nil⟩
  | x :: l, st, c, ha, hh, hl, hp, hc => by
    have hp := List.pairwise_cons.1 hp
    have h1 := ha.push hh (hc x List.mem_cons_self)
    have hwl := bq1_wlen h st x hl
    have hpre := (bq1_wpre h st x).length_le
    obtain ⟨i1, i2⟩ := bqs_asc l (bq1 h st x) (x.1 + 1) h1 (by omega) hwl hp.2 (fun y hy => by have := hp.1 y hy; omega)
    rw [bqs_cons]
    refine ⟨i1, fun y hy => ?_⟩
    rcases List.mem_cons.1 hy with rfl | hy
    · have key : ∃ j, (bq1 h st y).q[j]? = some y.2 ∧ SLe ((bq1 h st y).w.getD j []) (st.w.getD h [] ++ [y.1]) := by
        by_cases hm : y.2 ∈ st.q
        · have e := bq1_yes (h := h) hm
          obtain ⟨j, hj, hjy⟩ := List.getElem_of_mem hm
          refine ⟨j, by rw [e.1, List.getElem?_eq_getElem hj, hjy], ?_⟩
          rw [e.2]
          have hj' : j < st.w.length := by omega
          refine (ha.lt hh (hc y List.mem_cons_self) ?_).le
          rw [List.getD_eq_getElem?_getD, List.getElem?_eq_getElem hj']
          exact List.getElem_mem hj'
        · have e := bq1_no (h := h) hm
          refine ⟨st.q.length, by rw [e.1]; simp, ?_⟩
          rw [e.2, ← hl, List.getD_eq_getElem?_getD]
          simp only [List.getElem?_concat_length, Option.getD_some]
          exact SLe.refl _
      obtain ⟨j, hj1, hj2⟩ := key
      refine ⟨j, pre_some (bqs_pre h l _) hj1, ?_⟩
      have := (List.getElem?_eq_some_iff.1 hj1).1
      rw [pre_getD (bqs_wpre h l _) (by omega)]
      exact hj2
    · obtain ⟨j, hj1, hj2⟩ := i2 y hy
      refine ⟨j, hj1, ?_⟩
      rw [pre_getD (bq1_wpre h st x) hh] at hj2
      exact hj2
theorem bq_asch (ha : ∀ q, (o q).Pairwise fun x y => x.1 < y.1) : ∀ k, AscH k (bq o s k)
  | 0 => ⟨List.pairwise_singleton _ _, fun u hu => .inl (List.mem_singleton.1 hu)⟩
  | k + 1 => by
    have ih := bq_asch ha k
    show AscH (k + 1) (bqh o k (bq o s k))
    rcases Nat.lt_or_ge k (bq o s k).q.length with hk | hk
    · rw [bqh_at hk]
      have hw := bq_wlen o s k
      obtain ⟨c, hc⟩ : ∃ c : Int, ∀ x ∈ o (bq o s k).q[k], c ≤ x.1 := by
        cases h : o (bq o s k).q[k] with
        | nil => exact ⟨0, fun x hx => absurd hx List.not_mem_nil⟩
        | cons y l =>
          have hp := ha (bq o s k).q[k]
          rw [h] at hp
          refine ⟨y.1, fun x hx => ?_⟩
          rcases List.mem_cons.1 hx with rfl | hx
          · exact Int.le_refl _
          · have := (List.pairwise_cons.1 hp).1 x hx; omega
      obtain ⟨⟨c', hc'⟩, _⟩ := bqs_asc _ _ c (ih.at c) (by omega) hw (ha _) hc
      exact hc'.up
    · rw [bqh_over hk]
      exact ⟨ih.1, fun u hu => (ih.2 u hu).imp id fun ⟨p, d, h1, h2, h3⟩ => ⟨p, d, h1, h2, by omega⟩⟩
inductive Reach (o : α → List (Int × α)) (s : α) : List Int → α → Prop
  | nil : Reach o s [] s
  | snoc {u : List Int} {q : α} {x : Int × α} : Reach o s u q → x ∈ o q → Reach o s (u ++ [x.1]) x.2
theorem bq_least (ha : ∀ q, (o q).Pairwise fun x y => x.1 < y.1) (hl : (bq o s N).q.length ≤ N) {u : List Int} {q : α} (h : Reach o s u q) : ∃ i, (bq o s N).q[i]? = some q ∧ SLe ((bq o s N).w.getD i []) u := by
  induction h with
  | nil =>
    refine ⟨0, pre_some (bq_pre o s (Nat.zero_le N)) (by rfl), ?_⟩
    rw [pre_getD (bq_wpre o s (Nat.zero_le N)) (by show 0 < [([] : List Int)].length; simp)]
    exact SLe.refl _
  | @snoc u q x hu hx ih =>
    obtain ⟨i, hi, hw⟩ := ih
    have hil := (List.getElem?_eq_some_iff.1 hi).1
    have e1 : (bq o s (i + 1)) = bqh o i (bq o s i) := rfl
    have hii : i < (bq o s i).q.length := by
      rcases Nat.lt_or_ge i (bq o s i).q.length with h1 | h1
      · exact h1
      · have := bq_stay o s h1 (N - i)
        rw [show i + (N - i) = N by omega] at this
        rw [this] at hil
        omega
    have hqi : (bq o s i).q[i] = q := by
      have := pre_some (bq_pre o s (show i ≤ N by omega)) (List.getElem?_eq_getElem hii)
      rw [hi] at this
      injection this with this
      exact this.symm
    have hwl := bq_wlen o s i
    obtain ⟨c, hc⟩ : ∃ c : Int, ∀ x ∈ o q, c ≤ x.1 := by
      cases h : o q with
      | nil => exact ⟨0, fun x hx => absurd hx List.not_mem_nil⟩
      | cons y l =>
        have hp := ha q
        rw [h] at hp
        refine ⟨y.1, fun x hx => ?_⟩
        rcases List.mem_cons.1 hx with rfl | hx
        · exact Int.le_refl _
        · have := (List.pairwise_cons.1 hp).1 x hx; omega
    obtain ⟨_, h2⟩ := bqs_asc (o q) _ c ((bq_asch ha i).at c) (by omega) hwl (ha _) hc
    obtain ⟨j, hj1, hj2⟩ := h2 x hx
    have e2 : bq o s (i + 1) = bqs i (bq o s i) (o q) := by rw [e1, bqh_at hii, hqi]
    rw [← e2] at hj1 hj2
    have hjl := (List.getElem?_eq_some_iff.1 hj1).1
    have hwl' := bq_wlen o s (i + 1)
    refine ⟨j, pre_some (bq_pre o s (show i + 1 ≤ N by omega)) hj1, ?_⟩
    rw [pre_getD (bq_wpre o s (show i + 1 ≤ N by omega)) (by omega)]
    refine hj2.trans ?_
    rw [pre_getD (bq_wpre o s (show i ≤ N by omega)) (by omega)] at hw
    exact hw.snoc x.1
theorem bq_asc (ha : ∀ q, (o q).Pairwise fun x y => x.1 < y.1) {k i j : Nat} (hij : i ≤ j) (hj : j < (bq o s k).q.length) : SLe ((bq o s k).w.getD i []) ((bq o s k).w.getD j []) := by
  have hw := bq_wlen o s k
  rcases Nat.lt_or_ge i j with h | h
  · have := List.pairwise_iff_getElem.1 (bq_asch (s := s) ha k).1 i j (by omega) (by omega) h
    rw [List.getD_eq_getElem?_getD, List.getD_eq_getElem?_getD, List.getElem?_eq_getElem (show i < (bq o s k).w.length by omega), List.getElem?_eq_getElem (show j < (bq o s k).w.length by omega)]
    exact this.le
  · rw [show i = j by omega]; exact SLe.refl _
end
def tgI (b : Dfa) (q2 l : Int) : Int := if 0 ≤ q2 then (match nxtD b.arcs q2 l with | some y => y.t | none => -1) else -1
def ki (b : Dfa) (q2 : Int) (l : List A3) : List (Int × P2) := l.map fun x => (x.l, ⟨x.t, tgI b q2 x.l⟩)
theorem ki_take (b : Dfa) (q2 : Int) (l : List A3) {j : Nat} (hj : j < l.length) : ki b q2 (l.take (j + 1)) = ki b q2 (l.take j) ++ [((g3 l j).l, ⟨(g3 l j).t, tgI b q2 (g3 l j).l⟩)] := by
  rw [take_succ_g3 l j hj]
  unfold ki
  rw [List.map_append]
  rfl
def oI (a b : Dfa) (q : P2) : List (Int × P2) := ki b q.b (outsD a.arcs q.a)
theorem oI_iff {a b : Dfa} {q : P2} {x : Int × P2} : x ∈ oI a b q ↔ ∃ y ∈ a.arcs, y.f = q.a ∧ x = (y.l, ⟨y.t, tgI b q.b y.l⟩) := by
  unfold oI ki
  rw [List.mem_map]
  constructor
  · rintro ⟨y, hy, e⟩
    obtain ⟨h1, h2⟩ := outsD_mem.1 hy
    exact ⟨y, h1, h2, e.symm⟩
  · rintro ⟨y, h1, h2, e⟩
    exact ⟨y, outsD_mem.2 ⟨h1, h2⟩, e.symm⟩
def InI (a b : Dfa) (q : P2) : Prop := InD a q.a ∧ (-1 ≤ q.b ∧ q.b < b.n)
def badI (a b : Dfa) (q : P2) : Bool := gb a.fin q.a.toNat && (decide (q.b < 0) || !gb b.fin q.b.toNat)
def nI (a b : Dfa) : Nat := a.n.toNat * (b.n.toNat + 1)
def lastI (a b : Dfa) : Bq P2 := bq (oI a b) ⟨a.s, b.s⟩ (nI a b)
def incI (a b : Dfa) : Option Nat := (lastI a b).q.findIdx? (badI a b)
def incW (a b : Dfa) : Option (List Int) := (incI a b).map fun i => (lastI a b).w.getD i []
section
variable {a b : Dfa}
theorem tgI_in (hb : ValidD b) (q2 l : Int) : -1 ≤ tgI b q2 l ∧ tgI b q2 l < b.n := by
  have := hb.1
  unfold tgI
  split
  · split
    · rename_i y h
      have := (hb.arc (nxtD_mem h).1).1.2
      omega
    · omega
  · omega
theorem oI_asc (ha : ValidD a) (q : P2) : (oI a b q).Pairwise fun x y => x.1 < y.1 := by
  unfold oI ki
  rw [List.pairwise_map]
  exact outsD_asc ha.sorted q.a
theorem oI_in (ha : ValidD a) (hb : ValidD b) : ∀ y, InI a b y → ∀ x ∈ oI a b y, InI a b x.2 := fun y _ x hx => by
  obtain ⟨u, hu, _, rfl⟩ := oI_iff.1 hx
  exact ⟨(ha.arc hu).1.2, tgI_in hb _ _⟩
theorem start_in (ha : ValidD a) (hb : ValidD b) : InI a b ⟨a.s, b.s⟩ := ⟨ha.2.1, by have := hb.2.1; show -1 ≤ b.s; omega, hb.2.1.2⟩
theorem bqI_in (ha : ValidD a) (hb : ValidD b) (k : Nat) : ∀ y ∈ (bq (oI a b) ⟨a.s, b.s⟩ k).q, InI a b y := bq_all (P := InI a b) (start_in ha hb) (oI_in ha hb) k
theorem bqI_len (ha : ValidD a) (hb : ValidD b) (k : Nat) : (bq (oI a b) ⟨a.s, b.s⟩ k).q.length ≤ nI a b := by
  have hn : ((bq (oI a b) ⟨a.s, b.s⟩ k).q.map fun q => (⟨q.a, q.b + 1⟩ : P2)).Nodup := by
    rw [List.nodup_iff_pairwise_ne, List.pairwise_map]
    refine List.Pairwise.imp ?_ (List.nodup_iff_pairwise_ne.1 (bq_nodup (oI a b) ⟨a.s, b.s⟩ k))
    intro x y h e
    injection e with e1 e2
    exact h (P2.ext e1 (by omega))
  have := pairs_le (n := a.n) (m := b.n + 1) hn fun x hx => by
    obtain ⟨y, hy, rfl⟩ := List.mem_map.1 hx
    have := bqI_in ha hb k y hy
    exact ⟨this.1, by have := this.2; show 0 ≤ y.b + 1; omega, by have := this.2; show y.b + 1 < b.n + 1; omega⟩
  have h1 := hb.1
  rw [List.length_map, show (b.n + 1).toNat = b.n.toNat + 1 by omega] at this
  exact this
theorem bqI_fin (ha : ValidD a) (hb : ValidD b) {k : Nat} (h : (bq (oI a b) ⟨a.s, b.s⟩ k).q.length ≤ k) : bq (oI a b) ⟨a.s, b.s⟩ k = lastI a b := bq_fin _ _ h (bqI_len ha hb _)
theorem incW_some (ha : ValidD a) (hb : ValidD b) {k : Nat} {q : P2} (hk : (bq (oI a b) ⟨a.s, b.s⟩ k).q[k]? = some q) (hno : ∀ i p, i < k → (bq (oI a b) ⟨a.s, b.s⟩ k).q[i]? = some p → badI a b p = false) (hq : badI a b q = true) : incW a b = some ((bq (oI a b) ⟨a.s, b.s⟩ k).w.getD k []) := by
  have hkl := (List.getElem?_eq_some_iff.1 hk).1
  have hb1 := bqI_len ha hb k
  have hpre := bq_pre (oI a b) ⟨a.s, b.s⟩ (show k ≤ nI a b by omega)
  have hw := bq_wlen (oI a b) ⟨a.s, b.s⟩ k
  have : incI a b = some k := by
    unfold incI
    have hk' : (lastI a b).q[k]? = some q := pre_some hpre hk
    obtain ⟨hkl', e⟩ := List.getElem?_eq_some_iff.1 hk'
    rw [List.findIdx?_eq_some_iff_getElem]
    refine ⟨hkl', by rw [e]; exact hq, fun j hj => ?_⟩
    obtain ⟨h', hg⟩ := get_pre hpre (show j < (bq (oI a b) ⟨a.s, b.s⟩ k).q.length by omega)
    have := hno j _ hj (List.getElem?_eq_getElem (by omega))
    rw [← hg] at this
    simp only [Bool.not_eq_true]
    exact this
  unfold incW
  rw [this, Option.map_some]
  congr 1
  exact pre_getD (bq_wpre (oI a b) ⟨a.s, b.s⟩ (show k ≤ nI a b by omega)) (by omega) []
theorem incW_none (ha : ValidD a) (hb : ValidD b) {k : Nat} (hk : (bq (oI a b) ⟨a.s, b.s⟩ k).q.length ≤ k) (hno : ∀ i p, i < k → (bq (oI a b) ⟨a.s, b.s⟩ k).q[i]? = some p → badI a b p = false) : incW a b = none := by
  unfold incW incI
  rw [← bqI_fin ha hb hk, Option.map_eq_none_iff, List.findIdx?_eq_none_iff]
  intro x hx
  obtain ⟨i, hi, e⟩ := List.getElem_of_mem hx
  exact hno i x (by omega) (by rw [List.getElem?_eq_getElem hi, e])
def accN (b : Dfa) (q : Int) (w : List Int) : Bool := if 0 ≤ q then accQ b q w else false
theorem accN_cons (b : Dfa) (q c : Int) (hb : ValidD b) (w : List Int) : accN b q (c :: w) = accN b (tgI b q c) w := by
  unfold accN tgI
  by_cases h : 0 ≤ q
  · rw [if_pos h, if_pos h]
    cases h' : nxtD b.arcs q c with
    | none => rw [accQ_none h']; simp
    | some y =>
      have := (hb.arc (nxtD_mem h').1).1.2
      simp only
      rw [accQ_some h', if_pos this.1]
  · rw [if_neg h, if_neg h, if_neg (by omega)]
theorem bad_iff (q : P2) : badI a b q = (accQ a q.a [] && !accN b q.b []) := by
  unfold badI accN
  rw [accQ_nil]
  by_cases h : 0 ≤ q.b
  · rw [if_pos h, accQ_nil, decide_eq_false (by omega : ¬ q.b < 0), Bool.false_or]
  · rw [if_neg h, decide_eq_true (by omega : q.b < 0)]
    simp
theorem word_runs (ha : ValidD a) (hb : ValidD b) {k i : Nat} {q : P2} (hi : (bq (oI a b) ⟨a.s, b.s⟩ k).q[i]? = some q) (v : List Int) : accQ a a.s ((bq (oI a b) ⟨a.s, b.s⟩ k).w.getD i [] ++ v) = accQ a q.a v ∧ accN b b.s ((bq (oI a b) ⟨a.s, b.s⟩ k).w.getD i [] ++ v) = accN b q.b v := by
  refine bq_allw (o := oI a b) (s := ⟨a.s, b.s⟩) (P := fun q u => ∀ v, accQ a a.s (u ++ v) = accQ a q.a v ∧ accN b b.s (u ++ v) = accN b q.b v) (fun v => ⟨rfl, rfl⟩) (fun y u hP x hx v => ?_) k i q hi v
  obtain ⟨z, hz, h1, rfl⟩ := oI_iff.1 hx
  have := hP (z.l :: v)
  rw [List.append_assoc, List.singleton_append, this.1, this.2]
  refine ⟨accQ_some ((nxtD_iff ha.sorted).2 ⟨hz, h1, rfl⟩) v, accN_cons b y.b z.l hb v⟩
theorem runs_reach (ha : ValidD a) (hb : ValidD b) : ∀ (v u : List Int) (q : P2), Reach (oI a b) ⟨a.s, b.s⟩ u q → accQ a q.a v = true → accN b q.b v = false → ∃ p, Reach (oI a b) ⟨a.s, b.s⟩ (u ++ v) p ∧ badI a b p = true
  | [], u, q, hu, h1, h2 => ⟨q, by rw [List.append_nil]; exact hu, by rw [bad_iff, h1, h2]; rfl⟩
  | c :: v, u, q, hu, h1, h2 => by
    cases h : nxtD a.arcs q.a c with
    | none => rw [accQ_none h] at h1; cases h1
    | some x =>
      obtain ⟨hx1, hx2, hx3⟩ := nxtD_mem h
      rw [accQ_some h] at h1
      rw [accN_cons b q.b c hb] at h2
      have hm : (x.l, (⟨x.t, tgI b q.b x.l⟩ : P2)) ∈ oI a b q := oI_iff.2 ⟨x, hx1, hx2, rfl⟩
      have hr := Reach.snoc hu hm
      have := runs_reach ha hb v _ _ hr h1 (by show accN b (tgI b q.b x.l) v = false; rw [hx3]; exact h2)
      rw [List.append_assoc, List.singleton_append, hx3] at this
      exact this
theorem incW_yes (ha : ValidD a) (hb : ValidD b) {w : List Int} (h : incW a b = some w) : accQ a a.s w = true ∧ accQ b b.s w = false ∧ ∀ v, accQ a a.s v = true → accQ b b.s v = false → SLe w v := by
  have hs : ∀ v, accN b b.s v = accQ b b.s v := fun v => by unfold accN; rw [if_pos hb.2.1.1]
  unfold incW at h
  rw [Option.map_eq_some_iff] at h
  obtain ⟨i, hi, rfl⟩ := h
  unfold incI at hi
  obtain ⟨hil, hbad, hmin⟩ := List.findIdx?_eq_some_iff_getElem.1 hi
  have hw := word_runs ha hb (k := nI a b) (List.getElem?_eq_getElem hil) []
  have hb' := hbad
  rw [bad_iff, Bool.and_eq_true, Bool.not_eq_true'] at hb'
  rw [List.append_nil] at hw
  refine ⟨hw.1.trans hb'.1, (hs _).symm.trans (hw.2.trans hb'.2), fun v h1 h2 => ?_⟩
  obtain ⟨p, hp, hpb⟩ := runs_reach ha hb v [] ⟨a.s, b.s⟩ Reach.nil h1 ((hs v).trans h2)
  rw [List.nil_append] at hp
  obtain ⟨j, hj, hle⟩ := bq_least (oI_asc ha) (bqI_len ha hb _) hp
  obtain ⟨hjl, hje⟩ := List.getElem?_eq_some_iff.1 hj
  have hij : i ≤ j := by
    rcases Nat.lt_or_ge j i with h | h
    · have := hmin j h
      rw [Bool.not_eq_true] at this
      have hje' : (lastI a b).q[j]'(show j < (lastI a b).q.length from hjl) = p := hje
      rw [hje', hpb] at this; cases this
    · exact h
  exact (bq_asc (oI_asc ha) hij hjl).trans hle
theorem incW_no (ha : ValidD a) (hb : ValidD b) (h : incW a b = none) (v : List Int) (h1 : accQ a a.s v = true) : accQ b b.s v = true := by
  have hs : ∀ v, accN b b.s v = accQ b b.s v := fun v => by unfold accN; rw [if_pos hb.2.1.1]
  cases h2 : accQ b b.s v with
  | true => rfl
  | false =>
    obtain ⟨p, hp, hpb⟩ := runs_reach ha hb v [] ⟨a.s, b.s⟩ Reach.nil h1 ((hs v).trans h2)
    obtain ⟨j, hj, _⟩ := bq_least (oI_asc ha) (bqI_len ha hb _) hp
    unfold incW incI at h
    rw [Option.map_eq_none_iff, List.findIdx?_eq_none_iff] at h
    obtain ⟨hjl, hje⟩ := List.getElem?_eq_some_iff.1 hj
    have := h p (List.mem_of_getElem? hj)
    rw [this] at hpb; cases hpb
end
end Go.Proofs.Ytehdkcjoaogbeaa

set_option linter.unusedVariables false
namespace Go.Proofs.Ytehdkcjoaogbeaa
open Go.RowKit

theorem owns_cells {w : World} {B e size n cap g : Nat} {xs : List Value} (h : w.ownsRow B e size (.slice (some ⟨g, 0, none⟩) n cap) n xs) (j : Nat) (hj : j < n * size) : w.cell? ⟨g, j, none⟩ = xs[j]? := by
  obtain ⟨hl, h⟩ := h
  rcases h with ⟨e1, _⟩ | ⟨g', c, cur, e1, hg, hh, hn, hc, hs, ht⟩
  · cases e1
  · cases e1
    have := congrArg (fun l => l[j]?) ht
    simp only [List.getElem?_take, if_pos hj] at this
    simp only [World.cell?, hh]
    simpa using this
theorem owns_addr {w : World} {B e size n cap : Nat} {a : Option Addr} {xs : List Value} (h : w.ownsRow B e size (.slice a n cap) n xs) (hn : 0 < n) : ∃ g, a = some ⟨g, 0, none⟩ ∧ B ≤ g ∧ g < w.heap.size := by
  have h' := h
  obtain ⟨hl, h⟩ := h
  rcases h with ⟨e1, e2⟩ | ⟨g', c, cur, e1, hg, hh, _⟩
  · omega
  · cases e1
    exact ⟨g', rfl, hg, (Array.getElem?_eq_some_iff.1 hh).1⟩
def gp2 (ps : List P2) (i : Nat) : P2 := ps.getD i ⟨0, 0⟩
theorem gp2_eq (ps : List P2) (i : Nat) (h : i < ps.length) : gp2 ps i = ps[i] := by simp [gp2, List.getD, h]
theorem gp2_some {ps : List P2} {i : Nat} (h : i < ps.length) : ps[i]? = some (gp2 ps i) := by rw [gp2_eq _ _ h]; exact List.getElem?_eq_getElem h
theorem gp2_mem (ps : List P2) (i : Nat) (h : i < ps.length) : gp2 ps i ∈ ps := by rw [gp2_eq ps i h]; exact List.getElem_mem h
def pv2 (ps : List P2) : List Value := ps.flatMap fun p => [.int .i64 p.a, .int .i64 p.b]
theorem pv2_nil : pv2 [] = [] := rfl
theorem pv2_cons (e : P2) (ps : List P2) : pv2 (e :: ps) = .int .i64 e.a :: .int .i64 e.b :: pv2 ps := rfl
theorem pv2_append (xs ys : List P2) : pv2 (xs ++ ys) = pv2 xs ++ pv2 ys := by simp [pv2]
theorem pv2_length : ∀ ps : List P2, (pv2 ps).length = ps.length * 2
  | [] => rfl
  | e :: ps => by
    have := pv2_length ps
    rw [pv2_cons, List.length_cons, List.length_cons, List.length_cons]
    omega
theorem pv2_get : ∀ (ps : List P2) (i : Nat), i < ps.length → (pv2 ps)[i * 2]? = some (.int .i64 (gp2 ps i).a) ∧ (pv2 ps)[i * 2 + 1]? = some (.int .i64 (gp2 ps i).b)
  | [], i, h => absurd h (Nat.not_lt_zero _)
  | e :: ps, 0, _ => ⟨rfl, rfl⟩
  | e :: ps, i + 1, h => by
    have ih := pv2_get ps i (by simpa using h)
    rw [show (i + 1) * 2 = i * 2 + 1 + 1 by omega, pv2_cons]
    exact ih
theorem own_pair {w : World} {B e n cap g : Nat} {ps : List P2} (h : w.ownsRow B e 2 (.slice (some ⟨g, 0, none⟩) n cap) n (pv2 ps)) (i : Nat) (hi : i < n) : w.cell? ⟨g, i * 2, none⟩ = some (.int .i64 (gp2 ps i).a) ∧ w.cell? ⟨g, i * 2 + 1, none⟩ = some (.int .i64 (gp2 ps i).b) := by
  have hl : ps.length = n := by
    have := h.1
    rw [pv2_length] at this
    omega
  have := pv2_get ps i (by omega)
  exact ⟨(owns_cells h _ (by omega)).trans this.1, (owns_cells h _ (by omega)).trans this.2⟩
structure V4 where
  p : P2
  h : Int
  l : Int
def gv4 (ps : List V4) (i : Nat) : V4 := ps.getD i ⟨⟨0, 0⟩, 0, 0⟩
theorem gv4_eq (ps : List V4) (i : Nat) (h : i < ps.length) : gv4 ps i = ps[i] := by simp [gv4, List.getD, h]
theorem gv4_left {xs ys : List V4} {i : Nat} (h : i < xs.length) : gv4 (xs ++ ys) i = gv4 xs i := by
  unfold gv4; rw [List.getD_eq_getElem?_getD, List.getD_eq_getElem?_getD, List.getElem?_append_left h]
theorem gv4_last (xs : List V4) (v : V4) : gv4 (xs ++ [v]) xs.length = v := by unfold gv4; rw [List.getD_eq_getElem?_getD]; simp
theorem gp2_map {vs : List V4} {i : Nat} (h : i < vs.length) : gp2 (vs.map V4.p) i = (gv4 vs i).p := by
  rw [gp2_eq _ _ (by rw [List.length_map]; exact h), gv4_eq _ _ h, List.getElem_map]
def qv4 (ps : List V4) : List Value := ps.flatMap fun v => [.int .i64 v.p.a, .int .i64 v.p.b, .int .i64 v.h, .int .i64 v.l]
theorem qv4_cons (e : V4) (ps : List V4) : qv4 (e :: ps) = .int .i64 e.p.a :: .int .i64 e.p.b :: .int .i64 e.h :: .int .i64 e.l :: qv4 ps := rfl
theorem qv4_append (xs ys : List V4) : qv4 (xs ++ ys) = qv4 xs ++ qv4 ys := by simp [qv4]
theorem qv4_length : ∀ ps : List V4, (qv4 ps).length = ps.length * 4
  | [] => rfl
  | e :: ps => by
    have := qv4_length ps
    rw [qv4_cons, List.length_cons, List.length_cons, List.length_cons, List.length_cons, List.length_cons]
    omega
theorem qv4_get : ∀ (ps : List V4) (i : Nat), i < ps.length → (qv4 ps)[i * 4]? = some (.int .i64 (gv4 ps i).p.a) ∧ (qv4 ps)[i * 4 + 1]? = some (.int .i64 (gv4 ps i).p.b) ∧ (qv4 ps)[i * 4 + 2]? = some (.int .i64 (gv4 ps i).h) ∧ (qv4 ps)[i * 4 + 3]? = some (.int .i64 (gv4 ps i).l)
  | [], i, h => absurd h (Nat.not_lt_zero _)
  | e :: ps, 0, _ => ⟨rfl, rfl, rfl, rfl⟩
  | e :: ps, i + 1, h => by
    have ih := qv4_get ps i (by simpa using h)
    rw [show (i + 1) * 4 = i * 4 + 1 + 1 + 1 + 1 by omega, qv4_cons]
    exact ih
theorem own_quad {w : World} {B e n cap g : Nat} {ps : List V4} (h : w.ownsRow B e 4 (.slice (some ⟨g, 0, none⟩) n cap) n (qv4 ps)) (i : Nat) (hi : i < n) : w.cell? ⟨g, i * 4, none⟩ = some (.int .i64 (gv4 ps i).p.a) ∧ w.cell? ⟨g, i * 4 + 1, none⟩ = some (.int .i64 (gv4 ps i).p.b) ∧ w.cell? ⟨g, i * 4 + 2, none⟩ = some (.int .i64 (gv4 ps i).h) ∧ w.cell? ⟨g, i * 4 + 3, none⟩ = some (.int .i64 (gv4 ps i).l) := by
  have hl : ps.length = n := by
    have := h.1
    rw [qv4_length] at this
    omega
  obtain ⟨h0, h1, h2, h3⟩ := qv4_get ps i (by omega)
  exact ⟨(owns_cells h _ (by omega)).trans h0, (owns_cells h _ (by omega)).trans h1, (owns_cells h _ (by omega)).trans h2, (owns_cells h _ (by omega)).trans h3⟩
def Ways (vs : List V4) (st : Bq P2) : Prop := vs.map V4.p = st.q ∧ (gv4 vs 0).h = -1 ∧ st.w.getD 0 [] = [] ∧ ∀ i, 0 < i → i < vs.length → 0 ≤ (gv4 vs i).h ∧ (gv4 vs i).h < i ∧ st.w.getD i [] = st.w.getD (gv4 vs i).h.toNat [] ++ [(gv4 vs i).l]
theorem Ways.len {vs : List V4} {st : Bq P2} (h : Ways vs st) : vs.length = st.q.length := by rw [← h.1, List.length_map]
theorem Ways.start (s : P2) : Ways [⟨s, -1, 0⟩] ⟨[s], [[]], []⟩ := ⟨rfl, rfl, rfl, fun i h0 hi => by simp at hi; omega⟩
theorem Ways.old {vs : List V4} {st : Bq P2} (hw : Ways vs st) {h : Nat} {x : Int × P2} (hm : x.2 ∈ st.q) : Ways vs (bq1 h st x) := by
  have e := bq1_yes (h := h) hm
  unfold Ways at hw ⊢
  rw [e.1, e.2]
  exact hw
theorem Ways.new {vs : List V4} {st : Bq P2} (hw : Ways vs st) (hl : st.w.length = st.q.length) {h : Nat} (hh : h < st.q.length) {x : Int × P2} (hm : x.2 ∉ st.q) : Ways (vs ++ [⟨x.2, h, x.1⟩]) (bq1 h st x) := by
  have hlen := hw.len
  obtain ⟨h1, h2, h3, h4⟩ := hw
  have e := bq1_no (h := h) hm
  refine ⟨by rw [e.1, List.map_append, h1]; rfl, by rw [gv4_left (by omega)]; exact h2, by rw [e.2, pre_getD (List.prefix_append _ _) (by omega)]; exact h3, fun i h0 hi => ?_⟩
  rw [List.length_append, List.length_singleton] at hi
  rw [e.2]
  rcases Nat.lt_or_ge i vs.length with hlt | hge
  · obtain ⟨g1, g2, g3⟩ := h4 i h0 hlt
    rw [gv4_left hlt]
    refine ⟨g1, g2, ?_⟩
    rw [pre_getD (List.prefix_append _ _) (by omega), pre_getD (List.prefix_append _ _) (by omega)]
    exact g3
  · have hi' : i = vs.length := by omega
    rw [hi', gv4_last]
    refine ⟨Int.natCast_nonneg h, by show (h : Int) < _; omega, ?_⟩
    rw [show (vs.length : Nat) = st.w.length by omega, List.getD_eq_getElem?_getD]
    simp only [List.getElem?_concat_length, Option.getD_some, Int.toNat_natCast]
    rw [pre_getD (List.prefix_append _ _) (by omega)]
theorem Ways.word_le {vs : List V4} {st : Bq P2} (hw : Ways vs st) : ∀ n i, i ≤ n → i < vs.length → (st.w.getD i []).length ≤ i := by
  intro n
  induction n with
  | zero => intro i hi _; rw [show i = 0 by omega, hw.2.2.1]; exact Nat.le_refl _
  | succ n ih =>
    intro i hi hl
    rcases Nat.eq_zero_or_pos i with rfl | h0
    · rw [hw.2.2.1]; exact Nat.le_refl _
    · obtain ⟨g1, g2, g3⟩ := hw.2.2.2 i h0 hl
      rw [g3, List.length_append, List.length_singleton]
      have := ih (gv4 vs i).h.toNat (by omega) (by omega)
      omega
end Go.Proofs.Ytehdkcjoaogbeaa
