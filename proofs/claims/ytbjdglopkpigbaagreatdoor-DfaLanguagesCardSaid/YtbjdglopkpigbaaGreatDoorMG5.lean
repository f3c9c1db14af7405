import Derived.Test.YtbjdglopkpigbaaGreatDoorMG4
/-
  NaSh, NaSr, NaCl
-/
set_option linter.unusedVariables false
namespace Go.Proofs.YtbjdglopkpigbaaGreatDoor.Na
def AccQ (a : Nfa) (q : Int) (w : List Int) : Prop := ∃ z, Rd a.arcs q w z ∧ gb a.fin z.toNat = true
def AccF (a : Nfa) (S w : List Int) : Prop := ∃ y ∈ S, AccQ a y w
def LeastF (a : Nfa) (S w : List Int) : Prop := AccF a S w ∧ ∀ v, AccF a S v → SLe w v
theorem _root_.Go.Proofs.YtbjdglopkpigbaaGreatDoor.SLe.antisymm {u v : List Int} (h : SLe u v) (h' : SLe v u) : u = v := by
 unfold SLe at h h'
 have h1 : u.length = v.length ∧ cmpL u v ≤ 0 := by omega
 have h2 : cmpL v u ≤ 0 := by omega
 rw [cmpL_anti] at h2
 exact (cmpL_zero u v).1 (by omega)
theorem LeastF.uniq {a : Nfa} {S u v : List Int} (h : LeastF a S u) (h' : LeastF a S v) : u = v := (h.2 v h'.1).antisymm (h'.2 u h.1)
section
variable {a : Nfa} {n : Int}
def lvL (ar : List A3) (S : List Int) : List Int := ((List.range 10001).filter fun c : Nat => decide (0 < c) && ar.any fun x => decide (x.l = (c : Int)) && decide (x.f ∈ S)).map fun c : Nat => (c : Int)
theorem mem_lvL {ar : List A3} {S : List Int} {c : Int} : c ∈ lvL ar S ↔ (0 < c ∧ c ≤ 10000) ∧ ∃ x ∈ ar, x.l = c ∧ x.f ∈ S := by
 unfold lvL
 rw [List.mem_map]
 constructor
 ·rintro ⟨k, hk, rfl⟩
  rw [List.mem_filter, List.mem_range] at hk
  simp only [Bool.and_eq_true, decide_eq_true_eq, List.any_eq_true] at hk
  obtain ⟨h1, h2, x, hx, h3, h4⟩ := hk
  exact ⟨⟨by omega, by omega⟩, x, hx, h3, h4⟩
 ·rintro ⟨⟨h1, h2⟩, x, hx, h3, h4⟩
  refine ⟨c.toNat, ?_, by omega⟩
  rw [List.mem_filter, List.mem_range]
  simp only [Bool.and_eq_true, decide_eq_true_eq, List.any_eq_true]
  exact ⟨by omega, by omega, x, hx, by omega, h4⟩
theorem lvL_asc (ar : List A3) (S : List Int) : (lvL ar S).Pairwise (· < ·) := by
 unfold lvL
 rw [List.pairwise_map]
 exact (List.pairwise_lt_range.filter _).imp fun h => by omega
def NearIs (a : Nfa) (S : List Int) (r : Int) : Prop := (r = -1 ∧ ∀ w, ¬ AccF a S w) ∨ (0 ≤ r ∧ r < a.n ∧ (∃ w : List Int, (w.length : Int) = r ∧ AccF a S w) ∧ ∀ w, AccF a S w → r ≤ (w.length : Int))
theorem NearIs.uniq {S : List Int} {r r' : Int} (h : NearIs a S r) (h' : NearIs a S r') : r = r' := by
 rcases h with ⟨h1, h2⟩ | ⟨h0, _, ⟨w, h1, h2⟩, h3⟩
 ·rcases h' with ⟨h1', h2'⟩ | ⟨_, _, ⟨w', h1', h2'⟩, h3'⟩
  ·omega
  ·exact absurd h2' (h2 w')
 ·rcases h' with ⟨h1', h2'⟩ | ⟨_, _, ⟨w', h1', h2'⟩, h3'⟩
  ·exact absurd h2 (h2' w)
  ·have e1 := h3 w' h2'
   have e2 := h3' w h2
   omega
/-! The table of distances. -/
end
end Go.Proofs.YtbjdglopkpigbaaGreatDoor.Na
namespace Go.Proofs.YtbjdglopkpigbaaGreatDoor.Na
def letL (ar : List A3) : List Int := ((List.range 10001).filter fun c : Nat => decide (0 < c) && ar.any fun x => decide (x.l = (c : Int))).map fun c : Nat => (c : Int)
theorem mem_letL {ar : List A3} {c : Int} : c ∈ letL ar ↔ (0 < c ∧ c ≤ 10000) ∧ ∃ x ∈ ar, x.l = c := by
 unfold letL
 rw [List.mem_map]
 constructor
 ·rintro ⟨k, hk, rfl⟩
  rw [List.mem_filter, List.mem_range] at hk
  simp only [Bool.and_eq_true, decide_eq_true_eq, List.any_eq_true] at hk
  obtain ⟨h1, h2, x, hx, h3⟩ := hk
  exact ⟨⟨by omega, by omega⟩, x, hx, h3⟩
 ·rintro ⟨⟨h1, h2⟩, x, hx, h3⟩
  refine ⟨c.toNat, ?_, by omega⟩
  rw [List.mem_filter, List.mem_range]
  simp only [Bool.and_eq_true, decide_eq_true_eq, List.any_eq_true]
  exact ⟨by omega, by omega, x, hx, by omega⟩
theorem cloL_mono {n : Int} {ar : List A3} (ha : ArcsIn n ar) {l l' : List Int} (hl : Bd n l) (hl' : Bd n l') (h : ∀ z ∈ l, z ∈ l') : ∀ z ∈ cloL ar l, z ∈ cloL ar l' := fun z hz => by
 obtain ⟨y, hy, he⟩ := (mem_cloL ha hl).1 hz
 exact (mem_cloL ha hl').2 ⟨y, h y hy, he⟩
theorem tgtL_mono {ar : List A3} {S T : List Int} (h : ∀ z ∈ S, z ∈ T) (c : Int) : ∀ z ∈ tgtL ar S c, z ∈ tgtL ar T c := fun z hz => by
 obtain ⟨h0, x, hx, h1, h2, h3⟩ := mem_tgtL.1 hz
 exact mem_tgtL.2 ⟨h0, x, hx, h1, h _ h2, h3⟩
theorem movL_mono {n : Int} {ar : List A3} (ha : ArcsIn n ar) {S T : List Int} (h : ∀ z ∈ S, z ∈ T) (c : Int) : ∀ z ∈ movL ar S c, z ∈ movL ar T c :=
 cloL_mono ha (tgtL_bd ha S c) (tgtL_bd ha T c) (tgtL_mono h c)
theorem self_cloL {n : Int} {ar : List A3} (ha : ArcsIn n ar) {l : List Int} (hl : Bd n l) : ∀ z ∈ l, z ∈ cloL ar l := fun z hz => (mem_cloL ha hl).2 (.of_mem hz)
/-! The search. -/
def gw (l : List (List Int)) (i : Nat) : List Int := l.getD i []
theorem gw_eq (l : List (List Int)) (i : Nat) (h : i < l.length) : gw l i = l[i] := by simp [gw, List.getD, h]
theorem gw_mem {l : List (List Int)} {i : Nat} (h : i < l.length) : gw l i ∈ l := by rw [gw_eq l i h]; exact List.getElem_mem h
theorem gw_left {l t : List (List Int)} {i : Nat} (h : i < l.length) : gw (l ++ t) i = gw l i := by
 unfold gw
 rw [List.getD_eq_getElem?_getD, List.getD_eq_getElem?_getD, List.getElem?_append_left h]
structure Sh where
 sets : List (List Int)
 words : List (List Int)
def seenN (sets : List (List Int)) (i : Nat) : List Int := setN fun n => (sets.take i).any fun s => decide ((n : Int) ∈ s)
def freshN (sets : List (List Int)) (i : Nat) : List Int := (gw sets i).filter fun z => !decide (z ∈ seenN sets i)
noncomputable def setAt (ar : List A3) (fresh seen : List Int) (c : Int) : List Int := (stpL ar fresh c).filter fun z => !decide (z ∈ seen)
noncomputable def sh1 (ar : List A3) (fresh seen u : List Int) (st : Sh) (c : Int) : Sh :=
 if setAt ar fresh seen c = [] then st else ⟨st.sets ++ [setAt ar fresh seen c], st.words ++ [u ++ [c]]⟩
noncomputable def shs (ar : List A3) (fresh seen u : List Int) (st : Sh) (l : List Int) : Sh := l.foldl (sh1 ar fresh seen u) st
noncomputable def shk (ar : List A3) (start lets : List Int) : Nat → Sh
 | 0 => ⟨[cloL ar start], [[]]⟩
 | k + 1 => if k < (shk ar start lets k).sets.length ∧ freshN (shk ar start lets k).sets k ≠ [] then shs ar (freshN (shk ar start lets k).sets k) (seenN (shk ar start lets k).sets (k + 1)) (gw (shk ar start lets k).words k) (shk ar start lets k) lets else shk ar start lets k
theorem shk_zero (ar : List A3) (start lets : List Int) : shk ar start lets 0 = ⟨[cloL ar start], [[]]⟩ := by rw [shk]
theorem shk_succ (ar : List A3) (start lets : List Int) (k : Nat) : shk ar start lets (k + 1) = if k < (shk ar start lets k).sets.length ∧ freshN (shk ar start lets k).sets k ≠ [] then shs ar (freshN (shk ar start lets k).sets k) (seenN (shk ar start lets k).sets (k + 1)) (gw (shk ar start lets k).words k) (shk ar start lets k) lets else shk ar start lets k := by rw [shk]
noncomputable def newsL (ar : List A3) (fresh seen : List Int) (l : List Int) : List Int := l.filter fun c => !decide (setAt ar fresh seen c = [])
theorem shs_eq (ar : List A3) (fresh seen u : List Int) : ∀ (l : List Int) (st : Sh), shs ar fresh seen u st l = ⟨st.sets ++ (newsL ar fresh seen l).map (setAt ar fresh seen), st.words ++ (newsL ar fresh seen l).map fun c => u ++ [c]⟩
 | [], st => by unfold shs newsL; simp
 | c :: l, st => by
  have ih := shs_eq ar fresh seen u l (sh1 ar fresh seen u st c)
  unfold shs at ih ⊢
  rw [List.foldl_cons, ih]
  unfold sh1 newsL
  by_cases h : setAt ar fresh seen c = []
  ·rw [if_pos h, List.filter_cons_of_neg (by simp [h])]
  ·rw [if_neg h, List.filter_cons_of_pos (by simp [h])]
   simp
theorem mem_seenN {n : Int} {sets : List (List Int)} (hn : n ≤ 4096) (hb : ∀ s ∈ sets, Bd n s) {i : Nat} {z : Int} : z ∈ seenN sets i ↔ ∃ j, j < i ∧ j < sets.length ∧ z ∈ gw sets j := by
 unfold seenN
 rw [mem_setN]
 constructor
 ·rintro ⟨k, _, h, rfl⟩
  rw [List.any_eq_true] at h
  obtain ⟨s, hs, hk⟩ := h
  obtain ⟨j, hj, e⟩ := List.getElem_of_mem hs
  rw [List.length_take] at hj
  rw [List.getElem_take] at e
  exact ⟨j, by omega, by omega, by rw [gw_eq _ _ (by omega), e]; exact of_decide_eq_true hk⟩
 ·rintro ⟨j, hji, hj, hz⟩
  have hm := gw_mem hj
  have := hb _ hm z hz
  refine ⟨z.toNat, by omega, ?_, by omega⟩
  rw [List.any_eq_true]
  refine ⟨gw sets j, ?_, by rw [decide_eq_true_iff, Int.toNat_of_nonneg this.1]; exact hz⟩
  rw [gw_eq _ _ hj]
  have h1 : j < (sets.take i).length := by rw [List.length_take]; omega
  have h2 := List.getElem_mem h1
  rw [List.getElem_take] at h2
  exact h2
theorem seenN_left {s t : List (List Int)} {i : Nat} (h : i ≤ s.length) : seenN (s ++ t) i = seenN s i := by
 unfold seenN
 rw [List.take_append_of_le_length h]
theorem freshN_left {s t : List (List Int)} {i : Nat} (h : i < s.length) : freshN (s ++ t) i = freshN s i := by
 unfold freshN
 rw [seenN_left (by omega), gw_left h]
structure ShI (a : Nfa) (lets : List Int) (k : Nat) (st : Sh) : Prop where
 len : st.words.length = st.sets.length
 pos : 0 < st.sets.length
 zero : gw st.words 0 = [] ∧ gw st.sets 0 = cloL a.arcs a.s
 bd : ∀ s ∈ st.sets, Bd a.n s
 asc : st.words.Pairwise SL
 par : ∀ u ∈ st.words, u = [] ∨ ∃ p d, p < k ∧ p < st.words.length ∧ u = gw st.words p ++ [d]
 sound : ∀ j, j < st.sets.length → ∀ q ∈ gw st.sets j, q ∈ runL a.arcs a.s (gw st.words j)
 comp : ∀ p, p < k → p < st.sets.length → ∀ c ∈ lets, ∀ q ∈ stpL a.arcs (freshN st.sets p) c, ∃ j, j < st.sets.length ∧ q ∈ gw st.sets j ∧ (j ≤ p ∨ gw st.words j = gw st.words p ++ [c])
 short : ∀ u ∈ st.words, u.length ≤ k
theorem ShI.start {a : Nfa} (hv : ValidN a) (lets : List Int) : ShI a lets 0 (shk a.arcs a.s lets 0) := by
 rw [shk_zero]
 obtain ⟨C, hC⟩ : ∃ C, cloL a.arcs a.s = C := ⟨_, rfl⟩
 have hb := cloL_bd hv.arcsIn hv.startIn
 rw [hC] at hb ⊢
 refine ⟨rfl, Nat.zero_lt_one, ⟨rfl, hC.symm⟩, fun s hs => ?_, List.pairwise_singleton _ _, fun u hu => .inl ?_, fun j hj q hq => ?_, fun p hp => absurd hp (Nat.not_lt_zero _), fun u hu => ?_⟩
 ·simp only at hs
  rw [List.mem_singleton.1 hs]
  exact hb
 ·exact List.mem_singleton.1 hu
 ·simp only [List.length_singleton] at hj
  obtain rfl : j = 0 := by omega
  have e : gw [([] : List Int)] 0 = [] := rfl
  simp only
  rw [e, runL_nil, hC]
  exact hq
 ·rw [List.mem_singleton.1 hu]
  exact Nat.le_refl _
theorem stpL_mono {n : Int} {ar : List A3} (ha : ArcsIn n ar) {l l' : List Int} (hl : Bd n l) (hl' : Bd n l') (h : ∀ z ∈ l, z ∈ l') (c : Int) : ∀ z ∈ stpL ar l c, z ∈ stpL ar l' c :=
 movL_mono ha (cloL_mono ha hl hl' h) c
theorem freshN_sub {sets : List (List Int)} {i : Nat} : ∀ z ∈ freshN sets i, z ∈ gw sets i := fun z hz => (List.mem_filter.1 hz).1
theorem ShI.next {a : Nfa} (hv : ValidN a) {lets : List Int} (hl : lets.Pairwise (· < ·)) {k : Nat} (h : ShI a lets k (shk a.arcs a.s lets k)) : ShI a lets (k + 1) (shk a.arcs a.s lets (k + 1)) := by
 have ha := hv.arcsIn
 rw [shk_succ]
 obtain ⟨st, hst⟩ : ∃ st, shk a.arcs a.s lets k = st := ⟨_, rfl⟩
 rw [hst] at h ⊢
 clear hst
 by_cases hc : k < st.sets.length ∧ freshN st.sets k ≠ []
 ·rw [if_pos hc, shs_eq]
  obtain ⟨hk, -⟩ := hc
  obtain ⟨S, W⟩ := st
  obtain ⟨h1, h2, h3, h4, h5, h6, h7, h8, h9⟩ := h
  simp only at h1 h2 h3 h4 h5 h6 h7 h8 h9 hk ⊢
  obtain ⟨F, hF⟩ : ∃ F, freshN S k = F := ⟨_, rfl⟩
  obtain ⟨N, hN⟩ : ∃ N, seenN S (k + 1) = N := ⟨_, rfl⟩
  obtain ⟨u, hu⟩ : ∃ u, gw W k = u := ⟨_, rfl⟩
  rw [hF, hN, hu]
  have hFb : Bd a.n F := fun z hz => h4 _ (gw_mem hk) z (freshN_sub (sets := S) (i := k) z (by rw [hF]; exact hz))
  have hFr : ∀ z ∈ F, z ∈ runL a.arcs a.s u := fun z hz => by
   have := h7 k hk z (freshN_sub z (by rw [hF]; exact hz))
   rw [hu] at this
   exact this
  obtain ⟨nw, hnw⟩ : ∃ nw, newsL a.arcs F N lets = nw := ⟨_, rfl⟩
  have hnl : ∀ c ∈ nw, c ∈ lets := fun c hc => by rw [← hnw] at hc; exact (List.mem_filter.1 hc).1
  have hna : nw.Pairwise (· < ·) := by rw [← hnw]; exact hl.filter _
  rw [hnw]
  have hgi : ∀ j (hj : j < nw.length), nw[j] = gi nw j := fun j hj => by simp [gi, List.getD, hj]
  have gS : ∀ j, j < nw.length → gw (S ++ nw.map (setAt a.arcs F N)) (S.length + j) = setAt a.arcs F N (gi nw j) := fun j hj => by
   rw [gw_eq _ _ (by rw [List.length_append, List.length_map]; omega), List.getElem_append_right (by omega), List.getElem_map, hgi _ (by omega)]
   rw [show S.length + j - S.length = j by omega]
  have gW : ∀ j, j < nw.length → gw (W ++ nw.map fun c => u ++ [c]) (S.length + j) = u ++ [gi nw j] := fun j hj => by
   rw [gw_eq _ _ (by rw [List.length_append, List.length_map]; omega), List.getElem_append_right (by omega), List.getElem_map, hgi _ (by omega)]
   rw [show S.length + j - W.length = j by omega]
  have hgm : ∀ j, j < nw.length → gi nw j ∈ nw := fun j hj => by
   have : gi nw j = nw[j] := by simp [gi, List.getD, hj]
   rw [this]; exact List.getElem_mem hj
  refine ⟨?_, ?_, ⟨?_, ?_⟩, ?_, ?_, ?_, ?_, ?_, ?_⟩
  ·simp [h1]
  ·simp; omega
  ·rw [gw_left (by omega)]; exact h3.1
  ·rw [gw_left (by omega)]; exact h3.2
  ·intro s hs
   rcases List.mem_append.1 hs with hs | hs
   ·exact h4 s hs
   ·obtain ⟨c, _, rfl⟩ := List.mem_map.1 hs
    exact fun z hz => stpL_bd ha F c z (List.mem_filter.1 hz).1
  ·rw [List.pairwise_append]
   refine ⟨h5, ?_, fun x hx y hy => ?_⟩
   ·rw [List.pairwise_map]
    exact hna.imp fun hcd => SL.last hcd
   ·obtain ⟨c, _, rfl⟩ := List.mem_map.1 hy
    rcases h6 x hx with rfl | ⟨p, d, hp, hpl, rfl⟩
    ·exact .inl (by simp)
    ·have h10 : SL (gw W p) u := by
      rw [← hu, gw_eq _ _ hpl, gw_eq _ _ (by omega)]
      exact List.pairwise_iff_getElem.1 h5 p k hpl (by omega) hp
     exact h10.snoc d c
  ·intro x hx
   rcases List.mem_append.1 hx with hx | hx
   ·rcases h6 x hx with h | ⟨p, d, hp, hpl, hq⟩
    ·exact .inl h
    ·exact .inr ⟨p, d, by omega, by rw [List.length_append]; omega, by rw [gw_left hpl]; exact hq⟩
   ·obtain ⟨c, _, rfl⟩ := List.mem_map.1 hx
    exact .inr ⟨k, c, by omega, by rw [List.length_append]; omega, by rw [gw_left (by omega), hu]⟩
  ·intro j hj q hq
   rw [List.length_append, List.length_map] at hj
   rcases Nat.lt_or_ge j S.length with hjs | hjs
   ·rw [gw_left hjs] at hq
    rw [gw_left (by omega)]
    exact h7 j hjs q hq
   ·obtain ⟨i, rfl⟩ : ∃ i, j = S.length + i := ⟨j - S.length, by omega⟩
    rw [gS i (by omega)] at hq
    rw [gW i (by omega), ← stpL_runL ha hv.startIn]
    exact stpL_mono ha hFb (runL_bd ha u hv.startIn) hFr _ q (List.mem_filter.1 hq).1
  ·intro p hp hpl c hc q hq
   rcases Nat.lt_or_ge p k with hpk | hpk
   ·rw [freshN_left (by omega)] at hq
    obtain ⟨j, hj, hqj, hor⟩ := h8 p hpk (by omega) c hc q hq
    exact ⟨j, by rw [List.length_append]; omega, by rw [gw_left hj]; exact hqj, by rw [gw_left (by omega), gw_left (by omega)]; exact hor⟩
   ·obtain rfl : p = k := by omega
    rw [freshN_left hk, hF] at hq
    by_cases hsn : q ∈ N
    ·rw [← hN] at hsn
     obtain ⟨j, hj, hjl, hqj⟩ := (mem_seenN ha.1 h4).1 hsn
     exact ⟨j, by rw [List.length_append]; omega, by rw [gw_left hjl]; exact hqj, .inl (by omega)⟩
    ·have hqs : q ∈ setAt a.arcs F N c := List.mem_filter.2 ⟨hq, by simpa using hsn⟩
     have hcn : c ∈ nw := by
      rw [← hnw]
      refine List.mem_filter.2 ⟨hc, ?_⟩
      have : setAt a.arcs F N c ≠ [] := fun e0 => by rw [e0] at hqs; simp at hqs
      simpa using this
     obtain ⟨i, hi, ei⟩ := List.getElem_of_mem hcn
     have egi : gi nw i = c := by rw [← ei]; simp [gi, List.getD, hi]
     refine ⟨S.length + i, by rw [List.length_append, List.length_map]; omega, by rw [gS i hi, egi]; exact hqs, .inr ?_⟩
     rw [gW i hi, egi, gw_left (by omega), hu]
  ·intro x hx
   rcases List.mem_append.1 hx with hx | hx
   ·have := h9 x hx; omega
   ·obtain ⟨c, _, rfl⟩ := List.mem_map.1 hx
    have := h9 u (by rw [← hu]; exact gw_mem (by omega))
    simp only [List.length_append, List.length_singleton]
    omega
 ·rw [if_neg hc]
  refine ⟨h.len, h.pos, h.zero, h.bd, h.asc, fun u hu => ?_, h.sound, fun p hp hpl c hc' q hq => ?_, fun u hu => Nat.le_succ_of_le (h.short u hu)⟩
  ·rcases h.par u hu with h1 | ⟨p, d, hp, h2⟩
   ·exact .inl h1
   ·exact .inr ⟨p, d, by omega, h2⟩
  ·rcases Nat.lt_or_ge p k with hpk | hpk
   ·exact h.comp p hpk hpl c hc' q hq
   ·obtain rfl : p = k := by omega
    have hf : freshN st.sets p = [] := Classical.byContradiction fun hne => hc ⟨hpl, hne⟩
    rw [hf] at hq
    exfalso
    have hnil : Bd a.n ([] : List Int) := fun z hz => absurd hz List.not_mem_nil
    unfold stpL movL at hq
    obtain ⟨y, hy, _⟩ := (mem_cloL ha (tgtL_bd ha _ c)).1 hq
    obtain ⟨_, x, _, _, hx, _⟩ := mem_tgtL.1 hy
    obtain ⟨y, hy, _⟩ := (mem_cloL ha hnil).1 hx
    exact absurd hy List.not_mem_nil
theorem ShI.all {a : Nfa} (hv : ValidN a) {lets : List Int} (hl : lets.Pairwise (· < ·)) : ∀ k, ShI a lets k (shk a.arcs a.s lets k)
 | 0 => .start hv lets
 | k + 1 => .next hv hl (.all hv hl k)
theorem ShI.reach {a : Nfa} (hv : ValidN a) {lets : List Int} (hlet : lets = letL a.arcs) {i : Nat} {st : Sh} (h : ShI a lets i st) : ∀ (n : Nat) (v : List Int), v.length = n → ∀ q ∈ runL a.arcs a.s v, (∃ j, j < i ∧ j < st.sets.length ∧ q ∈ gw st.sets j ∧ SLe (gw st.words j) v) ∨ (i < st.sets.length ∧ SLe (gw st.words i) v) := by
 have ha := hv.arcsIn
 have up : ∀ j j', j ≤ j' → j' < st.sets.length → SLe (gw st.words j) (gw st.words j') := fun j j' h1 h2 => by
  have h3 := h.len
  rcases Nat.lt_or_ge j j' with h4 | h4
  ·rw [gw_eq _ _ (by omega), gw_eq _ _ (by omega)]
   exact (List.pairwise_iff_getElem.1 h.asc j j' (by omega) (by omega) h4).le
  ·rw [show j = j' by omega]; exact .refl _
 intro n
 induction n with
 | zero =>
  intro v hv0 q hq
  obtain rfl := List.eq_nil_of_length_eq_zero hv0
  rcases Nat.eq_zero_or_pos i with rfl | hi
  ·exact .inr ⟨h.pos, by rw [h.zero.1]; exact .refl _⟩
  ·rw [runL_nil, ← h.zero.2] at hq
   exact .inl ⟨0, hi, h.pos, hq, by rw [h.zero.1]; exact .refl _⟩
 | succ n ih =>
  intro v hvn q hq
  rcases List.eq_nil_or_concat v with rfl | ⟨u, c, rfl⟩
  ·cases hvn
  rw [List.concat_eq_append] at hvn hq ⊢
  rw [List.length_append, List.length_singleton] at hvn
  rw [runL_snoc] at hq
  have hlen : ∀ x : List Int, SLe x u → SLe x (u ++ [c]) := fun x hx => .inl (by
   have := hx
   unfold SLe at this
   rw [List.length_append, List.length_singleton]
   omega)
  obtain ⟨y, hy, he⟩ := (mem_cloL ha (tgtL_bd ha _ c)).1 hq
  obtain ⟨hc0, x, hx, hxl, hxf, rfl⟩ := mem_tgtL.1 hy
  have hcl : c ∈ lets := by
   have := (hv.arc hx).2
   rw [hlet]
   exact mem_letL.2 ⟨⟨hc0, by omega⟩, x, hx, hxl⟩
  rcases ih u (by omega) x.f hxf with h1 | ⟨h1, h2⟩
  ·
   obtain ⟨j, hj, hjl, hxj, hle⟩ := h1
   have hfst : ∃ j, j < i ∧ j < st.sets.length ∧ x.f ∈ gw st.sets j ∧ SLe (gw st.words j) u ∧ ∀ j', j' < j → x.f ∉ gw st.sets j' := by
    induction j using Nat.strongRecOn with
    | ind j ihj =>
     by_cases hb : ∃ j', j' < j ∧ x.f ∈ gw st.sets j'
     ·obtain ⟨j', h3, h4⟩ := hb
      exact ihj j' h3 (by omega) (by omega) h4 ((up j' j (by omega) hjl).trans hle)
     ·exact ⟨j, hj, hjl, hxj, hle, fun j' h3 h4 => hb ⟨j', h3, h4⟩⟩
   obtain ⟨j, hj, hjl, hxj, hle, hmin⟩ := hfst
   have hfr : x.f ∈ freshN st.sets j := List.mem_filter.2 ⟨hxj, by
    have : x.f ∉ seenN st.sets j := fun hs => by
     obtain ⟨j', h3, _, h4⟩ := (mem_seenN ha.1 h.bd).1 hs
     exact hmin j' h3 h4
    simpa using this⟩
   have hfb : Bd a.n (freshN st.sets j) := fun z hz => h.bd _ (gw_mem hjl) z (freshN_sub z hz)
   have hqs : q ∈ stpL a.arcs (freshN st.sets j) c := by
    unfold stpL movL
    exact (mem_cloL ha (tgtL_bd ha _ c)).2 ⟨x.t, mem_tgtL.2 ⟨hc0, x, hx, hxl, self_cloL ha hfb _ hfr, rfl⟩, he⟩
   obtain ⟨j', hj', hqj, hor⟩ := h.comp j hj hjl c hcl q hqs
   have hw : SLe (gw st.words j') (u ++ [c]) := by
    rcases hor with hor | hor
    ·exact hlen _ ((up j' j hor hjl).trans hle)
    ·rw [hor]; exact hle.snoc c
   rcases Nat.lt_or_ge j' i with h3 | h3
   ·exact .inl ⟨j', h3, hj', hqj, hw⟩
   ·exact .inr ⟨by omega, (up i j' h3 hj').trans hw⟩
  ·exact .inr ⟨h1, hlen _ h2⟩
theorem ShI.found {a : Nfa} (hv : ValidN a) {i : Nat} {st : Sh} (h : ShI a (letL a.arcs) i st) (hi : i < st.sets.length) (hno : ∀ j, j < i → finL a.fin (gw st.sets j) = false) (hf : finL a.fin (gw st.sets i) = true) : LeastF a a.s (gw st.words i) := by
 have ha := hv.arcsIn
 constructor
 ·obtain ⟨z, hz, hf⟩ := finL_iff.1 hf
  obtain ⟨y, hy, hr⟩ := (mem_runL ha _ hv.startIn z).1 (h.sound i hi z hz)
  exact ⟨y, hy, z, hr, hf⟩
 ·rintro v ⟨y, hy, z, hr, hfz⟩
  have hz := (mem_runL ha v hv.startIn z).2 ⟨y, hy, hr⟩
  rcases h.reach hv rfl v.length v rfl z hz with ⟨j, hj, _, hzj, _⟩ | ⟨_, h1⟩
  ·have := hno j hj
   rw [finL_iff.2 ⟨z, hzj, hfz⟩] at this
   cases this
  ·exact h1
theorem ShI.none {a : Nfa} (hv : ValidN a) {i : Nat} {st : Sh} (h : ShI a (letL a.arcs) i st) (hi : st.sets.length ≤ i) (hno : ∀ j, j < i → finL a.fin (gw st.sets j) = false) : ∀ w, ¬ AccF a a.s w := by
 rintro v ⟨y, hy, z, hr, hfz⟩
 have hz := (mem_runL hv.arcsIn v hv.startIn z).2 ⟨y, hy, hr⟩
 rcases h.reach hv rfl v.length v rfl z hz with ⟨j, hj, _, hzj, _⟩ | ⟨h1, _⟩
 ·have := hno j hj
  rw [finL_iff.2 ⟨z, hzj, hfz⟩] at this
  cases this
 ·omega
theorem pw_nodup {l : List Int} (h : l.Pairwise (· < ·)) : l.Nodup := h.imp fun h e => by omega
theorem bd_len {l : List Int} {n : Int} (h : l.Pairwise (· < ·)) (hb : Bd n l) : l.length ≤ n.toNat := by
 have := (pw_nodup h).length_le_of_subset (l₂ := (List.range n.toNat).map Int.ofNat) fun x hx => by
  have := hb x hx
  refine List.mem_map.2 ⟨x.toNat, List.mem_range.2 (by omega), by show ((x.toNat : Nat) : Int) = x; omega⟩
 simpa using this
end Go.Proofs.YtbjdglopkpigbaaGreatDoor.Na
namespace Go.Proofs.YtbjdglopkpigbaaGreatDoor.Na
structure WithLaw (wl : List Int → Int → List Int) : Prop where
 asc : ∀ l n, l.Pairwise (· < ·) → (wl l n).Pairwise (· < ·)
 mem : ∀ l n z, l.Pairwise (· < ·) → (z ∈ wl l n ↔ z ∈ l ∨ z = n)
section
variable {wl : List Int → Int → List Int} (H : WithLaw wl)
include H
theorem WithLaw.old {l : List Int} (h : l.Pairwise (· < ·)) {n : Int} (hn : n ∈ l) : wl l n = l := pairwise_ext (H.asc l n h) h fun z => by
 rw [H.mem l n z h]
 exact ⟨fun e => e.elim id fun e => e ▸ hn, .inl⟩
theorem WithLaw.new {l : List Int} (h : l.Pairwise (· < ·)) {n : Int} (hn : n ∉ l) : (wl l n).length = l.length + 1 := by
 have h1 : (wl l n).Perm (n :: l) := by
  rw [List.perm_ext_iff_of_nodup (pw_nodup (H.asc l n h)) (List.nodup_cons.2 ⟨hn, pw_nodup h⟩)]
  intro z
  rw [H.mem l n z h, List.mem_cons]
  exact Or.comm
 rw [h1.length_eq, List.length_cons]
end
def sortW (wl : List Int → Int → List Int) (l : List Int) : List Int := l.foldl wl []
theorem sortW_facts {wl : List Int → Int → List Int} (H : WithLaw wl) (l : List Int) : (sortW wl l).Pairwise (· < ·) ∧ ∀ z, z ∈ sortW wl l ↔ z ∈ l := by
 obtain ⟨T, hT⟩ : ∃ T, l.reverse = T := ⟨_, rfl⟩
 obtain rfl : T.reverse = l := by rw [← hT, List.reverse_reverse]
 clear hT
 induction T with
 | nil => exact ⟨List.Pairwise.nil, fun z => by simp [sortW]⟩
 | cons x T ih =>
  have e : sortW wl ((x :: T).reverse) = wl (sortW wl T.reverse) x := by unfold sortW; simp only [List.reverse_cons, List.foldl_append, List.foldl_cons, List.foldl_nil]
  rw [e]
  refine ⟨H.asc _ _ ih.1, fun z => ?_⟩
  rw [H.mem _ _ z ih.1, ih.2]
  simp
def CloI (ar : List A3) (l out : List Int) : Prop := out.Pairwise (· < ·) ∧ (∀ z ∈ l, z ∈ out) ∧ ∀ z ∈ out, Clo ar l z
section
variable {wl : List Int → Int → List Int} (H : WithLaw wl) {ar : List A3} {l : List Int} {n : Int}
include H
theorem CloI.start (l : List Int) (ar : List A3) : CloI ar l (sortW wl l) :=
 ⟨(sortW_facts H l).1, fun z hz => ((sortW_facts H l).2 z).2 hz, fun z hz => .of_mem (((sortW_facts H l).2 z).1 hz)⟩
end
section
variable {ar : List A3} {l out : List Int} {n : Int}
theorem CloI.bd (ha : ArcsIn n ar) (hl : Bd n l) (h : CloI ar l out) : Bd n out := fun z hz => clo_bd ha hl (h.2.2 z hz)
theorem CloI.closed (ha : ArcsIn n ar) (hl : Bd n l) (h : CloI ar l out) (hc : ∀ x ∈ ar, x.l = 0 → x.f ∈ out → x.t ∈ out) : out = cloL ar l :=
 cloL_uniq ha hl h.1 fun z => ⟨h.2.2 z, fun hz => hz.least (P := fun z => z ∈ out) h.2.1 hc⟩
end
/-! The program's queue: the states that are in, as Booleans and as a list. -/
def tdN (os : List Bool) (td : List Int) (n : Nat) : List Int := if gb os n = true then td else td ++ [(n : Int)]
theorem gb_set' {os : List Bool} {n : Nat} (hn : n < os.length) (v : Bool) (i : Nat) : gb (os.set n v) i = if i = n then v else gb os i := by
 by_cases e : i = n
 ·subst e; rw [if_pos rfl]; simp [gb, List.getD, hn]
 ·rw [if_neg e]; simp [gb, List.getD, List.getElem?_set_ne (Ne.symm e)]
structure VisI (ar : List A3) (l : List Int) (n : Int) (os : List Bool) (td : List Int) : Prop where
 len : (os.length : Int) = n
 nd : td.Nodup
 iff : ∀ i : Nat, (i : Int) < n → (gb os i = true ↔ (i : Int) ∈ td)
 rng : ∀ z ∈ td, 0 ≤ z ∧ z < n
 use : ∀ z ∈ td, Clo ar l z
section
variable {ar : List A3} {l : List Int} {n : Int} {os : List Bool} {td : List Int}
theorem VisI.start (h0 : 0 ≤ n) : VisI ar l n (List.replicate n.toNat false) [] := by
 refine ⟨by rw [List.length_replicate]; omega, List.nodup_nil, fun i hi => ?_, fun z hz => by simp at hz, fun z hz => by simp at hz⟩
 have : gb (List.replicate n.toNat false) i = false := by simp [gb, List.getD, show i < n.toNat by omega]
 rw [this]
 simp
theorem VisI.tlen (h : VisI ar l n os td) : td.length ≤ n.toNat := by
 have := h.nd.length_le_of_subset (l₂ := (List.range n.toNat).map Int.ofNat) fun x hx => by
  have := h.rng x hx
  exact List.mem_map.2 ⟨x.toNat, List.mem_range.2 (by omega), by show ((x.toNat : Nat) : Int) = x; omega⟩
 simpa using this
theorem VisI.visit (h : VisI ar l n os td) {m : Nat} (hm : (m : Int) < n) (hu : Clo ar l m) : VisI ar l n (os.set m true) (tdN os td m) := by
 have hl := h.len
 unfold tdN
 by_cases hg : gb os m = true
 ·rw [if_pos hg]
  have e : os.set m true = os := by
   apply List.ext_getElem?
   intro j
   by_cases e : j = m
   ·subst e
    have hj : j < os.length := by omega
    rw [List.getElem?_set_self hj, List.getElem?_eq_getElem hj]
    have : gb os j = os[j] := by simp [gb, List.getD, hj]
    rw [← this, hg]
   ·rw [List.getElem?_set_ne (Ne.symm e)]
  rw [e]; exact h
 ·have hno : (m : Int) ∉ td := fun hh => hg ((h.iff m hm).2 hh)
  rw [if_neg hg]
  refine ⟨by rw [List.length_set]; exact hl, ?_, fun i hi => ?_, fun z hz => ?_, fun z hz => ?_⟩
  ·rw [List.nodup_append]
   refine ⟨h.nd, by simp, fun a ha b hb => ?_⟩
   rw [List.mem_singleton.1 hb]
   rintro rfl
   exact hno ha
  ·rw [gb_set' (by omega), List.mem_append, List.mem_singleton, ← h.iff i hi]
   by_cases e : i = m
   ·subst e; simp
   ·rw [if_neg e]
    exact ⟨.inl, fun h => h.elim id fun e' => absurd (by omega) e⟩
  ·rcases List.mem_append.1 hz with hz | hz
   ·exact h.rng z hz
   ·rw [List.mem_singleton.1 hz]; omega
  ·rcases List.mem_append.1 hz with hz | hz
   ·exact h.use z hz
   ·rw [List.mem_singleton.1 hz]; exact hu
theorem tdN_pre (os : List Bool) (td : List Int) (m : Nat) : td <+: tdN os td m := by
 unfold tdN
 split
 ·exact List.prefix_refl _
 ·exact List.prefix_append _ _
theorem tdN_mem (h : VisI ar l n os td) {m : Nat} (hm : (m : Int) < n) : (m : Int) ∈ tdN os td m := by
 unfold tdN
 split
 ·rename_i hg; exact (h.iff m hm).1 hg
 ·simp
theorem VisI.done (h : VisI ar l n os td) (ha : ArcsIn n ar) (hl : Bd n l) (h0 : ∀ z ∈ l, z ∈ td) (hc : ∀ z ∈ td, ∀ x ∈ ar, x.l = 0 → x.f = z → x.t ∈ td) (z : Int) : z ∈ td ↔ z ∈ cloL ar l := by
 rw [mem_cloL ha hl]
 exact ⟨h.use z, fun hz => hz.least (P := fun z => z ∈ td) h0 fun x hx h1 h2 => hc _ h2 x hx h1 rfl⟩
end
end Go.Proofs.YtbjdglopkpigbaaGreatDoor.Na
