/-
  Depth first: the order in which nodes are left; components from it. No walk.
-/
import Derived.Test.YtlogmgkjikamaaaGraM
set_option linter.unusedVariables false
namespace Go.Proofs.Ytlogmgkjikamaaa

/-- Walks of n edges. -/
inductive RchN (E : Nat → Nat → Prop) : Nat → Nat → Nat → Prop
  | zero (a : Nat) : RchN E 0 a a
  | cons {n a b c : Nat} : E a b → RchN E n b c → RchN E (n + 1) a c
theorem RchN.rch {E : Nat → Nat → Prop} {n a b : Nat} (h : RchN E n a b) : Rch E a b := by
  induction h with
  | zero => exact .refl _
  | cons e _ ih => exact .cons e ih
theorem RchN.snoc {E : Nat → Nat → Prop} {n a b c : Nat} (h : RchN E n a b) (e : E b c) : RchN E (n + 1) a c := by
  induction h with
  | zero => exact .cons e (.zero _)
  | cons e' _ ih => exact .cons e' (ih e)
theorem Rch.num {E : Nat → Nat → Prop} {a b : Nat} (h : Rch E a b) : ∃ n, RchN E n a b := by
  induction h with
  | refl => exact ⟨0, .zero _⟩
  | snoc _ e ih =>
    obtain ⟨n, h⟩ := ih
    exact ⟨n + 1, h.snoc e⟩

/-- What the order of leaving gives. -/
def FinP (E : Nat → Nat → Prop) (out : List Nat) : Prop := ∀ p, p < out.length → ∀ u, u ∈ out.take (p + 1) → ∀ v, E u v → v ∉ out.take (p + 1) → Rch E v (nq out p)
theorem FinP.nil (E : Nat → Nat → Prop) : FinP E [] := fun p hp => absurd hp (Nat.not_lt_zero _)
theorem FinP.snoc {E : Nat → Nat → Prop} {out : List Nat} {x : Nat} (h : FinP E out) (hx : ∀ u, u ∈ out ++ [x] → ∀ v, E u v → v ∉ out ++ [x] → Rch E v x) : FinP E (out ++ [x]) := by
  intro p hp u hu v e hv
  rw [List.length_append, List.length_singleton] at hp
  rcases Nat.lt_or_ge p out.length with h1 | h1
  · rw [List.take_append_of_le_length (by omega)] at hu hv
    rw [nq_left h1]
    exact h p h1 u hu v e hv
  · obtain rfl : p = out.length := by omega
    rw [List.take_of_length_le (by simp)] at hu hv
    rw [nq_last]
    exact hx u hu v e hv

section
variable {E : Nat → Nat → Prop} {out : List Nat} {A : Nat → Prop}
theorem closed_rch (hA : ∀ x y, E x y → A y → A x) {a b : Nat} (h : Rch E a b) (hb : A b) : A a := by
  induction h with
  | refl => exact hb
  | snoc _ e ih => exact ih (hA _ _ e hb)
theorem cut_walk (T : Nat → Prop) : ∀ (n z r : Nat), RchN E n z r → T z → ¬ T r → ∃ a b m, m < n ∧ E a b ∧ T a ∧ ¬ T b ∧ RchN E m b r ∧ Rch E z b
  | 0, z, r, h, hz, hr => by cases h; exact absurd hz hr
  | n + 1, z, r, .cons (b := y) e h, hz, hr => by
    by_cases hy : T y
    · obtain ⟨a, b, m, h1, h2, h3, h4, h5, h6⟩ := cut_walk T n y r h hy hr
      exact ⟨a, b, m, by omega, h2, h3, h4, h5, .cons e h6⟩
    · exact ⟨z, y, n, by omega, e, hz, hy, h, .one e⟩
theorem kos (hF : FinP E out) (hn : out.Nodup) {p : Nat} (hp : p < out.length) (hall : ∀ x, x ∈ out ∨ A x) (hlater : ∀ j, p < j → j < out.length → A (nq out j)) (hA : ∀ x y, E x y → A y → A x) :
    ∀ (n z : Nat), RchN E n z (nq out p) → ¬ A z → Rch E (nq out p) z := by
  intro n
  induction n using Nat.strongRecOn with
  | _ n ih =>
    intro z hw hz
    have hpos : ∀ x, ¬ A x → ∃ j, j ≤ p ∧ j < out.length ∧ nq out j = x := fun x hx => by
      rcases hall x with h1 | h1
      · obtain ⟨j, hj, e⟩ := mem_nq h1
        refine ⟨j, ?_, hj, e⟩
        refine Nat.le_of_not_lt fun hc => hx ?_
        rw [← e]; exact hlater j hc hj
      · exact absurd h1 hx
    obtain ⟨q, hqp, hq, rfl⟩ := hpos z hz
    by_cases hqp' : q = p
    · subst hqp'; exact .refl _
    have hzt : nq out q ∈ out.take (q + 1) := by
      rw [nq_eq out q hq]
      exact List.mem_iff_getElem.2 ⟨q, by rw [List.length_take]; omega, by rw [List.getElem_take]⟩
    have hrt : nq out p ∉ out.take (q + 1) := by
      intro hm
      obtain ⟨j, hj, e⟩ := List.mem_iff_getElem.1 hm
      rw [List.length_take] at hj
      rw [List.getElem_take, nq_eq out p hp] at e
      have h1 := hn.idxOf_getElem j (by omega)
      have h2 := hn.idxOf_getElem p hp
      rw [e, h2] at h1
      omega
    obtain ⟨a, b, m, h1, h2, h3, h4, h5, h6⟩ := cut_walk (fun x => x ∈ out.take (q + 1)) n _ _ hw hzt hrt
    have hb : ¬ A b := fun hb => hz (closed_rch hA h6 hb)
    exact (ih m h1 b h5 hb).trans (hF q hq a h3 b h2 h4)
end

/-- The search: what has been seen, what has been left, the stack. -/
structure Dfs (g : List (List Int)) (N : Nat) (seen : Nat → Prop) (out : List Nat) (st : List (Nat × Nat)) : Prop where
  nodup : (out ++ st.map Prod.fst).Nodup
  lt : ∀ n, n ∈ out ∨ n ∈ st.map Prod.fst → n < N
  mem : ∀ n, n < N → (seen n ↔ n ∈ out ∨ n ∈ st.map Prod.fst)
  up : ∀ i j, i ≤ j → j < (st.map Prod.fst).length → Rch (GE g) (nq (st.map Prod.fst) i) (nq (st.map Prod.fst) j)
  outE : ∀ u, u ∈ out → ∀ v, GE g u v → v ∈ out ∨ v ∈ st.map Prod.fst
  stE : ∀ p, p ∈ st → ∀ v : Nat, (v : Int) ∈ (gr g p.1).take p.2 → v ∈ out ∨ v ∈ st.map Prod.fst
  fin : FinP (GE g) out
section
variable {g : List (List Int)} {N : Nat} {seen seen' : Nat → Prop} {out : List Nat} {st : List (Nat × Nat)}
theorem Dfs.nil (g : List (List Int)) (N : Nat) {seen : Nat → Prop} (h : ∀ n, n < N → ¬ seen n) : Dfs g N seen [] [] where
  nodup := List.nodup_nil
  lt n h := by rcases h with h | h <;> cases h
  mem n hn := ⟨fun hs => absurd hs (h n hn), fun hs => by rcases hs with h | h <;> cases h⟩
  up i j _ h := absurd h (Nat.not_lt_zero _)
  outE u h := by cases h
  stE p h := by cases h
  fin := FinP.nil _
theorem Dfs.len (b : Dfs g N seen out st) : out.length + st.length ≤ N := by
  have := nodup_sub_length _ (List.range N) b.nodup fun x hx => List.mem_range.2 (b.lt x (List.mem_append.1 hx))
  rw [List.length_range, List.length_append, List.length_map] at this
  exact this
theorem Dfs.root (b : Dfs g N seen out []) {x : Nat} (hx : x < N) (hs : ¬ seen x) (hs' : ∀ n, n < N → (seen' n ↔ seen n ∨ n = x)) : Dfs g N seen' out [(x, 0)] where
  nodup := by
    have h1 := b.nodup
    have h2 := (b.mem x hx)
    simp only [List.map_nil, List.append_nil] at h1
    refine List.nodup_append.2 ⟨h1, List.pairwise_singleton _ _, fun a ha c hc e => ?_⟩
    refine hs (h2.2 (.inl ?_))
    have : c = x := by simpa using hc
    rw [← this, ← e]; exact ha
  lt n h := by
    rcases h with h | h
    · exact b.lt n (.inl h)
    · have : n = x := by simpa using h
      omega
  mem n hn := by rw [hs' n hn, b.mem n hn]; simp
  up i j hij h := by
    have hj : j = 0 := by simpa using h
    have hi : i = 0 := by omega
    subst hj hi
    exact .refl _
  outE u hu v e := by
    rcases b.outE u hu v e with h | h
    · exact .inl h
    · cases h
  stE p hp v hv := by
    have : p = (x, 0) := by simpa using hp
    subst this
    simp at hv
  fin := b.fin
theorem Dfs.skip {s0 : List (Nat × Nat)} {u k : Nat} (b : Dfs g N seen out (s0 ++ [(u, k)])) {x : Nat} (hx : x < N) (hk : k < (gr g u).length) (hg : gi (gr g u) k = (x : Int)) (hs : seen x) : Dfs g N seen out (s0 ++ [(u, k + 1)]) := by
  have em : (s0 ++ [(u, k + 1)]).map Prod.fst = (s0 ++ [(u, k)]).map Prod.fst := by simp
  refine ⟨by rw [em]; exact b.nodup, fun n h => b.lt n (by rwa [em] at h), fun n hn => by rw [em]; exact b.mem n hn, by rw [em]; exact b.up, fun a ha v e => by rw [em]; exact b.outE a ha v e, fun p hp v hv => ?_, b.fin⟩
  rw [em]
  rcases List.mem_append.1 hp with h | h
  · exact b.stE p (List.mem_append_left _ h) v hv
  · have : p = (u, k + 1) := by simpa using h
    subst this
    simp only at hv
    rw [List.take_succ_eq_append_getElem hk, ← gi_eq _ k hk, hg] at hv
    rcases List.mem_append.1 hv with h | h
    · exact b.stE (u, k) (List.mem_append_right _ (List.mem_singleton.2 rfl)) v h
    · have : v = x := Int.ofNat.inj (by simpa using h)
      subst this
      exact (b.mem v hx).1 hs
theorem Dfs.push {s0 : List (Nat × Nat)} {u k : Nat} (b : Dfs g N seen out (s0 ++ [(u, k)])) {x : Nat} (hx : x < N) (hk : k < (gr g u).length) (hg : gi (gr g u) k = (x : Int)) (hs : ¬ seen x) (hs' : ∀ n, n < N → (seen' n ↔ seen n ∨ n = x)) :
    Dfs g N seen' out (s0 ++ [(u, k + 1)] ++ [(x, 0)]) := by
  have em : (s0 ++ [(u, k + 1)] ++ [(x, 0)]).map Prod.fst = (s0 ++ [(u, k)]).map Prod.fst ++ [x] := by simp
  have hnew := fun h => hs ((b.mem x hx).2 h)
  have hue : GE g u x := by unfold GE; rw [← hg, gi_eq _ k hk]; exact List.getElem_mem hk
  have hl : ((s0 ++ [(u, k)]).map Prod.fst).length = s0.length + 1 := by simp
  have htop : nq ((s0 ++ [(u, k)]).map Prod.fst) s0.length = u := by
    have := nq_last (s0.map Prod.fst) u
    rw [List.length_map] at this
    simpa using this
  refine ⟨?_, fun n h => ?_, fun n hn => ?_, fun i j hij hj => ?_, fun a ha v e => ?_, fun p hp v hv => ?_, b.fin⟩
  · rw [em, ← List.append_assoc]
    refine List.nodup_append.2 ⟨b.nodup, List.pairwise_singleton _ _, fun a ha c hc e => ?_⟩
    rw [List.mem_singleton] at hc
    subst hc; subst e
    exact hnew (List.mem_append.1 ha)
  · rw [em, List.mem_append, List.mem_singleton] at h
    rcases h with h | h | h
    · exact b.lt n (.inl h)
    · exact b.lt n (.inr h)
    · omega
  · rw [hs' n hn, b.mem n hn, em, List.mem_append, List.mem_singleton, or_assoc]
  · rw [em] at hj ⊢
    rw [List.length_append, hl, List.length_singleton] at hj
    rcases Nat.lt_or_ge j (s0.length + 1) with h1 | h1
    · rw [nq_left (by rw [hl]; omega), nq_left (by rw [hl]; omega)]
      exact b.up i j hij (by rw [hl]; omega)
    · obtain rfl : j = s0.length + 1 := by omega
      have e1 := nq_last ((s0 ++ [(u, k)]).map Prod.fst) x
      rw [hl] at e1
      rw [e1]
      rcases Nat.lt_or_ge i (s0.length + 1) with h2 | h2
      · rw [nq_left (by rw [hl]; omega)]
        have := b.up i s0.length (by omega) (by rw [hl]; omega)
        rw [htop] at this
        exact .snoc this hue
      · obtain rfl : i = s0.length + 1 := by omega
        rw [e1]; exact .refl _
  · rw [em, List.mem_append]
    rcases b.outE a ha v e with h | h
    · exact .inl h
    · exact .inr (.inl h)
  · rw [em, List.mem_append, List.mem_singleton, ← or_assoc]
    rcases List.mem_append.1 hp with h | h
    · rcases List.mem_append.1 h with h | h
      · exact .inl (b.stE p (List.mem_append_left _ h) v hv)
      · have : p = (u, k + 1) := by simpa using h
        subst this
        simp only at hv
        rw [List.take_succ_eq_append_getElem hk, ← gi_eq _ k hk, hg] at hv
        rcases List.mem_append.1 hv with h | h
        · exact .inl (b.stE (u, k) (List.mem_append_right _ (List.mem_singleton.2 rfl)) v h)
        · exact .inr (Int.ofNat.inj (by simpa using h))
    · have : p = (x, 0) := by simpa using h
      subst this
      simp at hv
theorem Dfs.pop {s0 : List (Nat × Nat)} {u k : Nat} (b : Dfs g N seen out (s0 ++ [(u, k)])) (hk : (gr g u).length ≤ k) : Dfs g N seen (out ++ [u]) s0 := by
  have em : (s0 ++ [(u, k)]).map Prod.fst = s0.map Prod.fst ++ [u] := by simp
  have hn := b.nodup
  rw [em] at hn
  have hiff : ∀ n, n ∈ out ∨ n ∈ (s0 ++ [(u, k)]).map Prod.fst ↔ n ∈ out ++ [u] ∨ n ∈ s0.map Prod.fst := fun n => by
    rw [em, List.mem_append, List.mem_append]
    constructor
    · rintro (h | h | h)
      · exact .inl (.inl h)
      · exact .inr h
      · exact .inl (.inr h)
    · rintro ((h | h) | h)
      · exact .inl h
      · exact .inr (.inr h)
      · exact .inr (.inl h)
  have hl : ((s0 ++ [(u, k)]).map Prod.fst).length = s0.length + 1 := by simp
  have htop : nq ((s0 ++ [(u, k)]).map Prod.fst) s0.length = u := by
    rw [em]
    have := nq_last (s0.map Prod.fst) u
    rwa [List.length_map] at this
  have huE : ∀ v, GE g u v → v ∈ out ∨ v ∈ (s0 ++ [(u, k)]).map Prod.fst := fun v e =>
    b.stE (u, k) (List.mem_append_right _ (List.mem_singleton.2 rfl)) v (by rw [List.take_of_length_le hk]; exact e)
  refine ⟨?_, fun n h => b.lt n ((hiff n).2 h), fun n hn => (b.mem n hn).trans (hiff n), fun i j hij hj => ?_, fun a ha v e => ?_, fun p hp v hv => (hiff v).1 (b.stE p (List.mem_append_left _ hp) v hv), b.fin.snoc ?_⟩
  · rw [List.append_assoc]
    refine (List.Perm.nodup_iff ?_).1 hn
    exact List.perm_append_comm.append_left out
  · rw [List.length_map] at hj
    have := b.up i j hij (by rw [hl]; omega)
    rw [em, nq_left (by rw [List.length_map]; omega), nq_left (by rw [List.length_map]; omega)] at this
    exact this
  · refine (hiff v).1 ?_
    rcases List.mem_append.1 ha with h | h
    · exact b.outE a h v e
    · rw [List.mem_singleton.1 h] at e
      exact huE v e
  · intro a ha v e hv
    have h1 : v ∈ out ∨ v ∈ (s0 ++ [(u, k)]).map Prod.fst := by
      rcases List.mem_append.1 ha with h | h
      · exact b.outE a h v e
      · rw [List.mem_singleton.1 h] at e
        exact huE v e
    rcases h1 with h1 | h1
    · exact absurd (List.mem_append_left _ h1) hv
    · obtain ⟨i, hi, e2⟩ := mem_nq h1
      have := b.up i s0.length (by rw [hl] at hi; omega) (by rw [hl]; omega)
      rw [htop, e2] at this
      exact this
theorem Dfs.top {s0 : List (Nat × Nat)} {u k : Nat} (b : Dfs g N seen out (s0 ++ [(u, k)])) : u < N := b.lt u (.inr (by simp))
/-- All has been seen and left. -/
theorem Dfs.full (b : Dfs g N seen out []) (hs : ∀ n, n < N → seen n) : out.Nodup ∧ (∀ n, n ∈ out ↔ n < N) ∧ FinP (GE g) out := by
  refine ⟨by have := b.nodup; simpa using this, fun n => ⟨fun h => b.lt n (.inl h), fun h => ?_⟩, b.fin⟩
  rcases (b.mem n h).1 (hs n h) with h | h
  · exact h
  · cases h
end
end Go.Proofs.Ytlogmgkjikamaaa
