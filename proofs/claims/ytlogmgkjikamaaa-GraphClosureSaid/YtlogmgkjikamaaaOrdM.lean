/-
  Finite orders: paths, the closure by Warshall's steps, least elements.
-/
import Derived.Test.YtlogmgkjikamaaaLib
set_option linter.unusedVariables false
namespace Go.Proofs.Ytlogmgkjikamaaa

/-- One edge or more. -/
inductive Path (E : Nat → Nat → Prop) : Nat → Nat → Prop
  | one {a b : Nat} : E a b → Path E a b
  | cons {a b c : Nat} : E a b → Path E b c → Path E a c
theorem Path.trans {E : Nat → Nat → Prop} {a b c : Nat} (h : Path E a b) (h' : Path E b c) : Path E a c := by
  induction h with
  | one e => exact .cons e h'
  | cons e _ ih => exact .cons e (ih h')
theorem Path.last {E : Nat → Nat → Prop} {a c : Nat} (h : Path E a c) : E a c ∨ ∃ b, Path E a b ∧ E b c := by
  induction h with
  | one e => exact .inl e
  | cons e p ih =>
    rcases ih with h | ⟨b, h1, h2⟩
    · exact .inr ⟨_, .one e, h⟩
    · exact .inr ⟨b, .cons e h1, h2⟩
theorem Path.first {E : Nat → Nat → Prop} {a c : Nat} (h : Path E a c) : ∃ b, E a b := by
  cases h with
  | one e => exact ⟨_, e⟩
  | cons e _ => exact ⟨_, e⟩

/-- A path whose inner events are below k. -/
inductive PathB (E : Nat → Nat → Prop) (k : Nat) : Nat → Nat → Prop
  | one {a b : Nat} : E a b → PathB E k a b
  | cons {a b c : Nat} : E a b → b < k → PathB E k b c → PathB E k a c
theorem PathB.mono {E : Nat → Nat → Prop} {k k' a b : Nat} (h : PathB E k a b) (hk : k ≤ k') : PathB E k' a b := by
  induction h with
  | one e => exact .one e
  | cons e h _ ih => exact .cons e (by omega) ih
theorem PathB.trans {E : Nat → Nat → Prop} {k a b c : Nat} (h : PathB E k a b) (hb : b < k) (h' : PathB E k b c) : PathB E k a c := by
  induction h with
  | one e => exact .cons e hb h'
  | cons e h _ ih => exact .cons e h (ih hb h')
theorem PathB.succ {E : Nat → Nat → Prop} {k a c : Nat} : PathB E (k + 1) a c ↔ PathB E k a c ∨ (PathB E k a k ∧ PathB E k k c) := by
  constructor
  · intro h
    induction h with
    | one e => exact .inl (.one e)
    | @cons x y z e h _ ih =>
      rcases Nat.lt_or_ge y k with hl | hg
      · rcases ih with h1 | ⟨h1, h2⟩
        · exact .inl (.cons e hl h1)
        · exact .inr ⟨.cons e hl h1, h2⟩
      · obtain rfl : y = k := by omega
        rcases ih with h1 | ⟨_, h2⟩
        · exact .inr ⟨.one e, h1⟩
        · exact .inr ⟨.one e, h2⟩
  · rintro (h | ⟨h1, h2⟩)
    · exact h.mono (by omega)
    · exact (h1.mono (by omega)).trans (by omega) (h2.mono (by omega))
theorem PathB.zero {E : Nat → Nat → Prop} {a c : Nat} : PathB E 0 a c ↔ E a c := by
  constructor
  · intro h
    cases h with
    | one e => exact e
    | cons _ h _ => omega
  · exact .one
theorem PathB.path {E : Nat → Nat → Prop} {N a c : Nat} (hE : ∀ a b, E a b → a < N ∧ b < N) : PathB E N a c ↔ Path E a c := by
  constructor
  · intro h
    induction h with
    | one e => exact .one e
    | cons e _ _ ih => exact .cons e ih
  · intro h
    induction h with
    | one e => exact .one e
    | cons e _ ih => exact .cons e (hE _ _ e).2 ih

/-- Among finitely many events there is one that no other is before. -/
theorem least_of {T : Nat → Nat → Prop} (irr : ∀ a, ¬ T a a) (tr : ∀ a b c, T a b → T b c → T a c) : ∀ (S : List Nat), S ≠ [] → ∃ m ∈ S, ∀ a ∈ S, ¬ T a m
  | [], h => absurd rfl h
  | [x], _ => ⟨x, List.mem_singleton.2 rfl, fun a ha => by rw [List.mem_singleton.1 ha]; exact irr x⟩
  | x :: y :: S, _ => by
    obtain ⟨m, hm, hmin⟩ := least_of irr tr (y :: S) (by simp)
    by_cases h : T x m
    · refine ⟨x, List.mem_cons_self, fun a ha hx => ?_⟩
      rcases List.mem_cons.1 ha with rfl | ha
      · exact irr _ hx
      · exact hmin a ha (tr _ _ _ hx h)
    · refine ⟨m, List.mem_cons_of_mem _ hm, fun a ha hx => ?_⟩
      rcases List.mem_cons.1 ha with rfl | ha
      · exact h hx
      · exact hmin a ha hx

theorem nodup_sub_length : ∀ (xs l : List Nat), xs.Nodup → (∀ x ∈ xs, x ∈ l) → xs.length ≤ l.length
  | [], _, _, _ => Nat.zero_le _
  | x :: xs, l, hn, hs => by
    have hn' := List.nodup_cons.1 hn
    have hx := hs x List.mem_cons_self
    have ih := nodup_sub_length xs (l.erase x) hn'.2 fun y hy => (List.mem_erase_of_ne (fun e => hn'.1 (by rw [← e]; exact hy))).2 (hs y (List.mem_cons_of_mem _ hy))
    rw [List.length_erase_of_mem hx] at ih
    have : 0 < l.length := List.length_pos_of_mem hx
    rw [List.length_cons]
    omega

/-- A list that grows by events whose predecessors all stand in it. -/
inductive Topo (E : Nat → Nat → Prop) (N : Nat) : List Nat → Prop
  | nil : Topo E N []
  | snoc {l : List Nat} {x : Nat} : Topo E N l → x ∉ l → x < N → (∀ a, E a x → a ∈ l) → Topo E N (l ++ [x])
theorem Topo.nodup {E : Nat → Nat → Prop} {N : Nat} {l : List Nat} (h : Topo E N l) : l.Nodup := by
  induction h with
  | nil => exact List.nodup_nil
  | snoc _ hx _ _ ih => exact List.nodup_append.2 ⟨ih, List.pairwise_singleton _ _, fun a ha b hb e => hx (by rw [← List.mem_singleton.1 hb, ← e]; exact ha)⟩
theorem Topo.lt {E : Nat → Nat → Prop} {N : Nat} {l : List Nat} (h : Topo E N l) : ∀ x ∈ l, x < N := by
  induction h with
  | nil => intro x hx; cases hx
  | snoc _ _ hx _ ih =>
    intro y hy
    rcases List.mem_append.1 hy with hy | hy
    · exact ih y hy
    · rw [List.mem_singleton.1 hy]; exact hx
theorem Topo.length_le {E : Nat → Nat → Prop} {N : Nat} {l : List Nat} (h : Topo E N l) : l.length ≤ N := by
  have := nodup_sub_length l (List.range N) h.nodup fun x hx => List.mem_range.2 (h.lt x hx)
  rwa [List.length_range] at this
theorem Topo.full {E : Nat → Nat → Prop} {N : Nat} {l : List Nat} (h : Topo E N l) (hl : l.length = N) : ∀ i, i < N → i ∈ l := by
  intro i hi
  refine Classical.byContradiction fun hc => ?_
  have := nodup_sub_length (i :: l) (List.range N) (List.nodup_cons.2 ⟨hc, h.nodup⟩) fun x hx => by
    rcases List.mem_cons.1 hx with rfl | hx
    · exact List.mem_range.2 hi
    · exact List.mem_range.2 (h.lt x hx)
  rw [List.length_range, List.length_cons] at this
  omega
theorem Topo.down {E : Nat → Nat → Prop} {N : Nat} {l : List Nat} (h : Topo E N l) : ∀ a b, b ∈ l → E a b → a ∈ l ∧ l.idxOf a < l.idxOf b := by
  induction h with
  | nil => intro a b hb; cases hb
  | @snoc l x _ hx _ hp ih =>
    intro a b hb e
    by_cases hbl : b ∈ l
    · obtain ⟨h1, h2⟩ := ih a b hbl e
      refine ⟨List.mem_append_left _ h1, ?_⟩
      rw [List.idxOf_append, List.idxOf_append, if_pos h1, if_pos hbl]
      exact h2
    · have hbx : b = x := by
        rcases List.mem_append.1 hb with h | h
        · exact absurd h hbl
        · exact List.mem_singleton.1 h
      subst hbx
      have ha := hp a e
      refine ⟨List.mem_append_left _ ha, ?_⟩
      rw [List.idxOf_append, List.idxOf_append, if_pos ha, if_neg hbl]
      have := List.idxOf_lt_length_of_mem ha
      omega
theorem Topo.path {E : Nat → Nat → Prop} {N : Nat} {l : List Nat} (h : Topo E N l) {a b : Nat} (p : Path E a b) (hb : b ∈ l) : a ∈ l ∧ l.idxOf a < l.idxOf b := by
  induction p with
  | one e => exact h.down _ _ hb e
  | cons e _ ih =>
    obtain ⟨h1, h2⟩ := ih hb
    obtain ⟨h3, h4⟩ := h.down _ _ h1 e
    exact ⟨h3, by omega⟩
theorem Topo.acyclic {E : Nat → Nat → Prop} {N : Nat} {l : List Nat} (h : Topo E N l) (hl : l.length = N) (hE : ∀ a b, E a b → a < N ∧ b < N) : ∀ a, ¬ Path E a a := by
  intro a p
  obtain ⟨b, e⟩ := p.first
  have := (h.path p (h.full hl a (hE _ _ e).1)).2
  omega
/-- While events are missing, an order without circles has a next one. -/
theorem Topo.next {E : Nat → Nat → Prop} {N : Nat} {l : List Nat} (h : Topo E N l) (hl : l.length < N) (hE : ∀ a b, E a b → a < N ∧ b < N) (irr : ∀ a, ¬ Path E a a) : ∃ i, i < N ∧ i ∉ l ∧ ∀ a, E a i → a ∈ l := by
  obtain ⟨m, hm, hmin⟩ := least_of (T := Path E) irr (fun _ _ _ h h' => h.trans h') ((List.range N).filter fun i => !l.contains i) (by
    intro h0
    have := nodup_sub_length (List.range N) l List.nodup_range fun x hx => by
      refine Classical.byContradiction fun hc => ?_
      have hm : x ∈ (List.range N).filter fun i => !l.contains i := List.mem_filter.2 ⟨hx, by simpa using hc⟩
      rw [h0] at hm
      cases hm
    rw [List.length_range] at this
    omega)
  have hm' := List.mem_filter.1 hm
  refine ⟨m, List.mem_range.1 hm'.1, by simpa using hm'.2, fun a e => ?_⟩
  refine Classical.byContradiction fun hc => ?_
  exact hmin a (List.mem_filter.2 ⟨List.mem_range.2 (hE _ _ e).1, by simpa using hc⟩) (.one e)
end Go.Proofs.Ytlogmgkjikamaaa
