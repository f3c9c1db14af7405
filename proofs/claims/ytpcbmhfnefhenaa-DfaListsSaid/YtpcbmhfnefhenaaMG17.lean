import Derived.Test.YtpcbmhfnefhenaaMG0
/-
  OrdM, GraM
-/
set_option linter.unusedVariables false
namespace Go.Proofs.Ytpcbmhfnefhenaa

inductive Path (E : Nat → Nat → Prop) : Nat → Nat → Prop
 | one {a b : Nat} : E a b → Path E a b
 | cons {a b c : Nat} : E a b → Path E b c → Path E a c
theorem Path.trans {E : Nat → Nat → Prop} {a b c : Nat} (h : Path E a b) (h' : Path E b c) : Path E a c := by
 induction h with
 | one e => exact .cons e h'
 | cons e _ ih => exact .cons e (ih h')
theorem Path.last {E : Nat → Nat → Prop} {a c : Nat} (h : Path E a c) : E a c ∨ ∃ b, Path E a b ∧ E b c := by
 induction h with
 | one e => exact .inl e
 | cons e p ih =>
  rcases ih with h | ⟨b, h1, h2⟩
  ·exact .inr ⟨_, .one e, h⟩
  ·exact .inr ⟨b, .cons e h1, h2⟩
theorem Path.first {E : Nat → Nat → Prop} {a c : Nat} (h : Path E a c) : ∃ b, E a b := by
 cases h with
 | one e => exact ⟨_, e⟩
 | cons e _ => exact ⟨_, e⟩

inductive PathB (E : Nat → Nat → Prop) (k : Nat) : Nat → Nat → Prop
 | one {a b : Nat} : E a b → PathB E k a b
 | cons {a b c : Nat} : E a b → b < k → PathB E k b c → PathB E k a c
theorem PathB.mono {E : Nat → Nat → Prop} {k k' a b : Nat} (h : PathB E k a b) (hk : k ≤ k') : PathB E k' a b := by
 induction h with
 | one e => exact .one e
 | cons e h _ ih => exact .cons e (by omega) ih
theorem PathB.trans {E : Nat → Nat → Prop} {k a b c : Nat} (h : PathB E k a b) (hb : b < k) (h' : PathB E k b c) : PathB E k a c := by
 induction h with
 | one e => exact .cons e hb h'
 | cons e h _ ih => exact .cons e h (ih hb h')
theorem PathB.succ {E : Nat → Nat → Prop} {k a c : Nat} : PathB E (k + 1) a c ↔ PathB E k a c ∨ (PathB E k a k ∧ PathB E k k c) := by
 constructor
 ·intro h
  induction h with
  | one e => exact .inl (.one e)
  | @cons x y z e h _ ih =>
   rcases Nat.lt_or_ge y k with hl | hg
   ·rcases ih with h1 | ⟨h1, h2⟩
    ·exact .inl (.cons e hl h1)
    ·exact .inr ⟨.cons e hl h1, h2⟩
   ·obtain rfl : y = k := by omega
    rcases ih with h1 | ⟨_, h2⟩
    ·exact .inr ⟨.one e, h1⟩
    ·exact .inr ⟨.one e, h2⟩
 ·rintro (h | ⟨h1, h2⟩)
  ·exact h.mono (by omega)
  ·exact (h1.mono (by omega)).trans (by omega) (h2.mono (by omega))
theorem PathB.zero {E : Nat → Nat → Prop} {a c : Nat} : PathB E 0 a c ↔ E a c := by
 constructor
 ·intro h
  cases h with
  | one e => exact e
  | cons _ h _ => omega
 ·exact .one
theorem PathB.path {E : Nat → Nat → Prop} {N a c : Nat} (hE : ∀ a b, E a b → a < N ∧ b < N) : PathB E N a c ↔ Path E a c := by
 constructor
 ·intro h
  induction h with
  | one e => exact .one e
  | cons e _ _ ih => exact .cons e ih
 ·intro h
  induction h with
  | one e => exact .one e
  | cons e _ ih => exact .cons e (hE _ _ e).2 ih

theorem least_of {T : Nat → Nat → Prop} (irr : ∀ a, ¬ T a a) (tr : ∀ a b c, T a b → T b c → T a c) : ∀ (S : List Nat), S ≠ [] → ∃ m ∈ S, ∀ a ∈ S, ¬ T a m
 | [], h => absurd rfl h
 | [x], _ => ⟨x, List.mem_singleton.2 rfl, fun a ha => by rw [List.mem_singleton.1 ha]; exact irr x⟩
 | x :: y :: S, _ => by
  obtain ⟨m, hm, hmin⟩ := least_of irr tr (y :: S) (by simp)
  by_cases h : T x m
  ·refine ⟨x, List.mem_cons_self, fun a ha hx => ?_⟩
   rcases List.mem_cons.1 ha with rfl | ha
   ·exact irr _ hx
   ·exact hmin a ha (tr _ _ _ hx h)
  ·refine ⟨m, List.mem_cons_of_mem _ hm, fun a ha hx => ?_⟩
   rcases List.mem_cons.1 ha with rfl | ha
   ·exact h hx
   ·exact hmin a ha hx

theorem nodup_sub_length : ∀ (xs l : List Nat), xs.Nodup → (∀ x ∈ xs, x ∈ l) → xs.length ≤ l.length
 | [], _, _, _ => Nat.zero_le _
 | x :: xs, l, hn, hs => by
  have hn' := List.nodup_cons.1 hn
  have hx := hs x List.mem_cons_self
  have ih := nodup_sub_length xs (l.erase x) hn'.2 fun y hy => (List.mem_erase_of_ne (fun e => hn'.1 (by rw [← e]; exact hy))).2 (hs y (List.mem_cons_of_mem _ hy))
  rw [List.length_erase_of_mem hx] at ih
  have : 0 < l.length := List.length_pos_of_mem hx
  rw [List.length_cons]
  omega

inductive Topo (E : Nat → Nat → Prop) (N : Nat) : List Nat → Prop
 | nil : Topo E N []
 | snoc {l : List Nat} {x : Nat} : Topo E N l → x ∉ l → x < N → (∀ a, E a x → a ∈ l) → Topo E N (l ++ [x])
theorem Topo.nodup {E : Nat → Nat → Prop} {N : Nat} {l : List Nat} (h : Topo E N l) : l.Nodup := by
 induction h with
 | nil => exact List.nodup_nil
 | snoc _ hx _ _ ih => exact List.nodup_append.2 ⟨ih, List.pairwise_singleton _ _, fun a ha b hb e => hx (by rw [← List.mem_singleton.1 hb, ← e]; exact ha)⟩
theorem Topo.lt {E : Nat → Nat → Prop} {N : Nat} {l : List Nat} (h : Topo E N l) : ∀ x ∈ l, x < N := by
 induction h with
 | nil => intro x hx; cases hx
 | snoc _ _ hx _ ih =>
  intro y hy
  rcases List.mem_append.1 hy with hy | hy
  ·exact ih y hy
  ·rw [List.mem_singleton.1 hy]; exact hx
theorem Topo.length_le {E : Nat → Nat → Prop} {N : Nat} {l : List Nat} (h : Topo E N l) : l.length ≤ N := by
 have := nodup_sub_length l (List.range N) h.nodup fun x hx => List.mem_range.2 (h.lt x hx)
 rwa [List.length_range] at this
theorem Topo.full {E : Nat → Nat → Prop} {N : Nat} {l : List Nat} (h : Topo E N l) (hl : l.length = N) : ∀ i, i < N → i ∈ l := by
 intro i hi
 refine Classical.byContradiction fun hc => ?_
 have := nodup_sub_length (i :: l) (List.range N) (List.nodup_cons.2 ⟨hc, h.nodup⟩) fun x hx => by
  rcases List.mem_cons.1 hx with rfl | hx
  ·exact List.mem_range.2 hi
  ·exact List.mem_range.2 (h.lt x hx)
 rw [List.length_range, List.length_cons] at this
 omega
theorem Topo.down {E : Nat → Nat → Prop} {N : Nat} {l : List Nat} (h : Topo E N l) : ∀ a b, b ∈ l → E a b → a ∈ l ∧ l.idxOf a < l.idxOf b := by
 induction h with
 | nil => intro a b hb; cases hb
 | @snoc l x _ hx _ hp ih =>
  intro a b hb e
  by_cases hbl : b ∈ l
  ·obtain ⟨h1, h2⟩ := ih a b hbl e
   refine ⟨List.mem_append_left _ h1, ?_⟩
   rw [List.idxOf_append, List.idxOf_append, if_pos h1, if_pos hbl]
   exact h2
  ·have hbx : b = x := by
    rcases List.mem_append.1 hb with h | h
    ·exact absurd h hbl
    ·exact List.mem_singleton.1 h
   subst hbx
   have ha := hp a e
   refine ⟨List.mem_append_left _ ha, ?_⟩
   rw [List.idxOf_append, List.idxOf_append, if_pos ha, if_neg hbl]
   have := List.idxOf_lt_length_of_mem ha
   omega
theorem Topo.path {E : Nat → Nat → Prop} {N : Nat} {l : List Nat} (h : Topo E N l) {a b : Nat} (p : Path E a b) (hb : b ∈ l) : a ∈ l ∧ l.idxOf a < l.idxOf b := by
 induction p with
 | one e => exact h.down _ _ hb e
 | cons e _ ih =>
  obtain ⟨h1, h2⟩ := ih hb
  obtain ⟨h3, h4⟩ := h.down _ _ h1 e
  exact ⟨h3, by omega⟩
theorem Topo.acyclic {E : Nat → Nat → Prop} {N : Nat} {l : List Nat} (h : Topo E N l) (hl : l.length = N) (hE : ∀ a b, E a b → a < N ∧ b < N) : ∀ a, ¬ Path E a a := by
 intro a p
 obtain ⟨b, e⟩ := p.first
 have := (h.path p (h.full hl a (hE _ _ e).1)).2
 omega
theorem Topo.next {E : Nat → Nat → Prop} {N : Nat} {l : List Nat} (h : Topo E N l) (hl : l.length < N) (hE : ∀ a b, E a b → a < N ∧ b < N) (irr : ∀ a, ¬ Path E a a) : ∃ i, i < N ∧ i ∉ l ∧ ∀ a, E a i → a ∈ l := by
 obtain ⟨m, hm, hmin⟩ := least_of (T := Path E) irr (fun _ _ _ h h' => h.trans h') ((List.range N).filter fun i => !l.contains i) (by
  intro h0
  have := nodup_sub_length (List.range N) l List.nodup_range fun x hx => by
   refine Classical.byContradiction fun hc => ?_
   have hm : x ∈ (List.range N).filter fun i => !l.contains i := List.mem_filter.2 ⟨hx, by simpa using hc⟩
   rw [h0] at hm
   cases hm
  rw [List.length_range] at this
  omega)
 have hm' := List.mem_filter.1 hm
 refine ⟨m, List.mem_range.1 hm'.1, by simpa using hm'.2, fun a e => ?_⟩
 refine Classical.byContradiction fun hc => ?_
 exact hmin a (List.mem_filter.2 ⟨List.mem_range.2 (hE _ _ e).1, by simpa using hc⟩) (.one e)
end Go.Proofs.Ytpcbmhfnefhenaa

set_option linter.unusedVariables false
namespace Go.Proofs.Ytpcbmhfnefhenaa

def gr (g : List (List Int)) (i : Nat) : List Int := g.getD i []
theorem gr_eq (g : List (List Int)) (i : Nat) (h : i < g.length) : gr g i = g[i] := by simp [gr, List.getD, h]
theorem gr_over {g : List (List Int)} {i : Nat} (h : g.length ≤ i) : gr g i = [] := by simp [gr, List.getD, h]
theorem gr_mem {g : List (List Int)} {i : Nat} (h : i < g.length) : gr g i ∈ g := by rw [gr_eq g i h]; exact List.getElem_mem h
def GE (g : List (List Int)) (a b : Nat) : Prop := (b : Int) ∈ gr g a
def Asc (l : List Int) : Prop := l.Pairwise (· < ·)
def ValidG (g : List (List Int)) : Prop := g.length ≤ 400 ∧ ∀ l ∈ g, Asc l ∧ ∀ z ∈ l, 0 ≤ z ∧ z < (g.length : Int)
theorem GE.lt {g : List (List Int)} (hv : ValidG g) {a b : Nat} (h : GE g a b) : a < g.length ∧ b < g.length := by
 unfold GE at h
 rcases Nat.lt_or_ge a g.length with ha | ha
 ·refine ⟨ha, ?_⟩
  have := (hv.2 _ (gr_mem ha)).2 _ h
  omega
 ·rw [gr_over ha] at h; cases h

inductive Rch (E : Nat → Nat → Prop) : Nat → Nat → Prop
 | refl (a : Nat) : Rch E a a
 | snoc {a b c : Nat} : Rch E a b → E b c → Rch E a c
theorem Rch.one {E : Nat → Nat → Prop} {a b : Nat} (h : E a b) : Rch E a b := .snoc (.refl a) h
theorem Rch.trans {E : Nat → Nat → Prop} {a b c : Nat} (h : Rch E a b) (h' : Rch E b c) : Rch E a c := by
 induction h' with
 | refl => exact h
 | snoc _ e ih => exact .snoc ih e
theorem Rch.cons {E : Nat → Nat → Prop} {a b c : Nat} (e : E a b) (h : Rch E b c) : Rch E a c := (Rch.one e).trans h
theorem Rch.first {E : Nat → Nat → Prop} {a c : Nat} (h : Rch E a c) : a = c ∨ ∃ b, E a b ∧ Rch E b c := by
 induction h with
 | refl => exact .inl rfl
 | @snoc b c h e ih =>
  rcases ih with rfl | ⟨d, h1, h2⟩
  ·exact .inr ⟨c, e, .refl c⟩
  ·exact .inr ⟨d, h1, .snoc h2 e⟩
theorem Rch.rev {E : Nat → Nat → Prop} {a b : Nat} (h : Rch E a b) : Rch (fun x y => E y x) b a := by
 induction h with
 | refl => exact .refl _
 | snoc _ e ih => exact .cons e ih
theorem Rch.mono {E E' : Nat → Nat → Prop} (hE : ∀ a b, E a b → E' a b) {a b : Nat} (h : Rch E a b) : Rch E' a b := by
 induction h with
 | refl => exact .refl _
 | snoc _ e ih => exact .snoc ih (hE _ _ e)

structure LocD (E : Nat → Nat → Prop) (S : Nat → Prop) (N : Nat) (d : Nat → Int) : Prop where
 lo : ∀ n, n < N → -1 ≤ d n
 src : ∀ n, n < N → (d n = 0 ↔ S n)
 step : ∀ u v, u < N → 0 ≤ d u → E u v → 0 ≤ d v ∧ d v ≤ d u + 1
 pred : ∀ v, v < N → ∀ k : Nat, d v = (k : Int) + 1 → ∃ u, u < N ∧ E u v ∧ d u = k

section
variable {E : Nat → Nat → Prop} {S : Nat → Prop} {N : Nat} {d d' : Nat → Int}
theorem LocD.le (h : LocD E S N d) (h' : LocD E S N d') : ∀ (k n : Nat), n < N → d n = k → 0 ≤ d' n ∧ d' n ≤ k
 | 0, n, hn, e => by
  have := (h'.src n hn).2 ((h.src n hn).1 (by simpa using e))
  omega
 | k + 1, n, hn, e => by
  obtain ⟨u, hu, he, hk⟩ := h.pred n hn k (by omega)
  have ih := h.le h' k u hu hk
  have := h'.step u n hu ih.1 he
  omega
theorem LocD.uniq (h : LocD E S N d) (h' : LocD E S N d') (n : Nat) (hn : n < N) : d n = d' n := by
 have l1 := h.lo n hn
 have l2 := h'.lo n hn
 by_cases h0 : 0 ≤ d n
 ·obtain ⟨k, hk⟩ := Int.eq_ofNat_of_zero_le h0
  have a1 := h.le h' k n hn hk
  obtain ⟨k', hk'⟩ := Int.eq_ofNat_of_zero_le a1.1
  have a2 := h'.le h k' n hn hk'
  omega
 ·by_cases h0' : 0 ≤ d' n
  ·obtain ⟨k', hk'⟩ := Int.eq_ofNat_of_zero_le h0'
   have a2 := h'.le h k' n hn hk'
   omega
  ·omega
theorem LocD.reach (h : LocD E S N d) : ∀ (k n : Nat), n < N → d n = k → ∃ s, S s ∧ Rch E s n
 | 0, n, hn, e => ⟨n, (h.src n hn).1 (by simpa using e), .refl n⟩
 | k + 1, n, hn, e => by
  obtain ⟨u, hu, he, hk⟩ := h.pred n hn k (by omega)
  obtain ⟨s, hs, hr⟩ := h.reach k u hu hk
  exact ⟨s, hs, .snoc hr he⟩
theorem LocD.of_reach (h : LocD E S N d) (hE : ∀ a b, E a b → a < N ∧ b < N) {s n : Nat} (hs : S s) (hsN : s < N) (hr : Rch E s n) : 0 ≤ d n := by
 induction hr with
 | refl => have := (h.src s hsN).2 hs; omega
 | snoc _ e ih => exact (h.step _ _ (hE _ _ e).1 (ih) e).1
theorem LocD.reach_iff (h : LocD E S N d) (hE : ∀ a b, E a b → a < N ∧ b < N) (hS : ∀ s, S s → s < N) {n : Nat} (hn : n < N) : 0 ≤ d n ↔ ∃ s, S s ∧ Rch E s n := by
 constructor
 ·intro h0
  obtain ⟨k, hk⟩ := Int.eq_ofNat_of_zero_le h0
  exact h.reach k n hn hk
 ·rintro ⟨s, hs, hr⟩
  exact h.of_reach hE hs (hS s hs) hr
theorem LocD.congr (h : LocD E S N d) {E' : Nat → Nat → Prop} {S' : Nat → Prop} (hE : ∀ a b, E a b ↔ E' a b) (hS : ∀ a, a < N → (S a ↔ S' a)) : LocD E' S' N d :=
 ⟨h.lo, fun n hn => (h.src n hn).trans (hS n hn), fun u v hu h0 e => h.step u v hu h0 ((hE _ _).2 e), fun v hv k e => by
  obtain ⟨u, h1, h2, h3⟩ := h.pred v hv k e
  exact ⟨u, h1, (hE _ _).1 h2, h3⟩⟩
theorem pred_lt {d : Nat → Int} (hp : ∀ v, v < N → ∀ k : Nat, d v = (k : Int) + 1 → ∃ u, u < N ∧ E u v ∧ d u = k) : ∀ (k v : Nat), v < N → d v = (k : Int) → ∃ l : List Nat, l.length = k + 1 ∧ l.Nodup ∧ ∀ x ∈ l, x < N ∧ d x ≤ k
 | 0, v, hv, e => ⟨[v], rfl, List.pairwise_singleton _ _, fun x hx => by rw [List.mem_singleton.1 hx]; exact ⟨hv, by omega⟩⟩
 | k + 1, v, hv, e => by
  obtain ⟨u, hu, _, hk⟩ := hp v hv k (by omega)
  obtain ⟨l, h1, h2, h3⟩ := pred_lt hp k u hu hk
  refine ⟨v :: l, by rw [List.length_cons, h1], List.nodup_cons.2 ⟨fun hm => ?_, h2⟩, fun x hx => ?_⟩
  ·have := (h3 v hm).2
   omega
  ·rcases List.mem_cons.1 hx with rfl | hx
   ·exact ⟨hv, by omega⟩
   ·have := h3 x hx
    exact ⟨this.1, by omega⟩
theorem pred_bound {d : Nat → Int} (hp : ∀ v, v < N → ∀ k : Nat, d v = (k : Int) + 1 → ∃ u, u < N ∧ E u v ∧ d u = k) {v : Nat} (hv : v < N) : d v < N := by
 by_cases h0 : 0 ≤ d v
 ·obtain ⟨k, hk⟩ := Int.eq_ofNat_of_zero_le h0
  obtain ⟨l, h1, h2, h3⟩ := pred_lt hp k v hv hk
  have := nodup_sub_length l (List.range N) h2 fun x hx => List.mem_range.2 (h3 x hx).1
  rw [List.length_range] at this
  omega
 ·omega
end

/-! A queue. -/
def nq (q : List Nat) (i : Nat) : Nat := q.getD i 0
theorem nq_eq (q : List Nat) (i : Nat) (h : i < q.length) : nq q i = q[i] := by simp [nq, List.getD, h]
theorem nq_mem {q : List Nat} {i : Nat} (h : i < q.length) : nq q i ∈ q := by rw [nq_eq q i h]; exact List.getElem_mem h
theorem nq_left {q : List Nat} {i : Nat} (h : i < q.length) (r : List Nat) : nq (q ++ r) i = nq q i := by simp [nq, List.getD, List.getElem?_append_left h]
theorem nq_last (q : List Nat) (x : Nat) : nq (q ++ [x]) q.length = x := by simp [nq, List.getD]
theorem mem_nq {q : List Nat} {x : Nat} (h : x ∈ q) : ∃ i, i < q.length ∧ nq q i = x := by
 obtain ⟨i, hi, e⟩ := List.mem_iff_getElem.1 h
 exact ⟨i, hi, by rw [nq_eq q i hi]; exact e⟩

structure Bfs (E : Nat → Nat → Prop) (S : Nat → Prop) (N : Nat) (h : Nat) (dn : Nat → Prop) (d : Nat → Int) (q : List Nat) : Prop where
 lo : ∀ n, n < N → -1 ≤ d n
 src : ∀ n, n < N → (d n = 0 ↔ S n)
 nodup : q.Nodup
 mem : ∀ n, n ∈ q ↔ n < N ∧ 0 ≤ d n
 mono : ∀ i j, i ≤ j → j < q.length → d (nq q i) ≤ d (nq q j)
 near : h < q.length → ∀ j, j < q.length → d (nq q j) ≤ d (nq q h) + 1
 done : ∀ i, i < h → ∀ v, E (nq q i) v → 0 ≤ d v ∧ d v ≤ d (nq q i) + 1
 cur : ∀ v, dn v → 0 ≤ d v ∧ d v ≤ d (nq q h) + 1
 pred : ∀ v, v < N → ∀ k : Nat, d v = (k : Int) + 1 → ∃ u, u < N ∧ E u v ∧ d u = k

section
variable {E : Nat → Nat → Prop} {S : Nat → Prop} {N h : Nat} {dn : Nat → Prop} {d : Nat → Int} {q : List Nat}
theorem Bfs.qlen (b : Bfs E S N h dn d q) : q.length ≤ N := by
 have := nodup_sub_length q (List.range N) b.nodup fun x hx => List.mem_range.2 ((b.mem x).1 hx).1
 rwa [List.length_range] at this
theorem Bfs.nil (E : Nat → Nat → Prop) (N : Nat) {d : Nat → Int} (hd : ∀ n, n < N → d n = -1) : Bfs E (fun _ => False) N 0 (fun _ => False) d [] where
 lo n hn := by rw [hd n hn]; omega
 src n hn := by rw [hd n hn]; simp
 nodup := List.nodup_nil
 mem n := ⟨fun hm => (by cases hm), fun hm => (by have := hd n hm.1; omega)⟩
 mono i j _ hj := absurd hj (Nat.not_lt_zero _)
 near h0 := absurd h0 (Nat.not_lt_zero _)
 done i hi := absurd hi (Nat.not_lt_zero _)
 cur v hv := hv.elim
 pred v hv k e := by rw [hd v hv] at e; omega
def Flat (d : Nat → Int) (N : Nat) : Prop := ∀ n, n < N → d n = -1 ∨ d n = 0
theorem Bfs.seed_new (b : Bfs E S N 0 (fun _ => False) d q) (hf : Flat d N) {x : Nat} (hx : x < N) (hd : d x < 0) {d' : Nat → Int} (hd' : ∀ n, n < N → d' n = if n = x then 0 else d n) {S' : Nat → Prop} (hS : ∀ n, n < N → (S' n ↔ S n ∨ n = x)) :
  Bfs E S' N 0 (fun _ => False) d' (q ++ [x]) ∧ Flat d' N := by
 have hf' : Flat d' N := fun n hn => by
  rw [hd' n hn]
  split
  ·exact .inr rfl
  ·exact hf n hn
 have hxq : x ∉ q := fun hm => by have := ((b.mem x).1 hm).2; omega
 have hmem : ∀ n, n ∈ q ++ [x] ↔ n < N ∧ 0 ≤ d' n := by
  intro n
  rw [List.mem_append, List.mem_singleton, b.mem]
  constructor
  ·rintro (⟨h1, h2⟩ | rfl)
   ·refine ⟨h1, ?_⟩
    rw [hd' n h1]
    split <;> omega
   ·exact ⟨hx, by rw [hd' n hx, if_pos rfl]; omega⟩
  ·rintro ⟨h1, h2⟩
   rw [hd' n h1] at h2
   split at h2
   ·rename_i e; exact .inr e
   ·exact .inl ⟨h1, h2⟩
 have hz : ∀ j, j < (q ++ [x]).length → d' (nq (q ++ [x]) j) = 0 := fun j hj => by
  have := (hmem _).1 (nq_mem hj)
  rcases hf' _ this.1 with h1 | h1
  ·omega
  ·exact h1
 refine ⟨⟨fun n hn => ?_, fun n hn => ?_, ?_, hmem, fun i j hij hj => ?_, fun h0 j hj => ?_, fun i hi => absurd hi (Nat.not_lt_zero _), fun v hv => hv.elim, fun v hv k e => ?_⟩, hf'⟩
 ·rcases hf' n hn with h1 | h1 <;> omega
 ·rw [hd' n hn, hS n hn]
  split
  ·rename_i e; simp [e]
  ·rename_i e; rw [b.src n hn]; simp [e]
 ·exact List.nodup_append.2 ⟨b.nodup, List.pairwise_singleton _ _, fun a ha c hc e => hxq (by rw [← List.mem_singleton.1 hc, ← e]; exact ha)⟩
 ·rw [hz i (by omega), hz j hj]; omega
 ·rw [hz j hj, hz 0 h0]; omega
 ·rcases hf' v hv with h1 | h1 <;> omega
theorem Bfs.seed_old (b : Bfs E S N 0 (fun _ => False) d q) (hf : Flat d N) {x : Nat} (hx : x < N) (hd : 0 ≤ d x) {S' : Nat → Prop} (hS : ∀ n, n < N → (S' n ↔ S n ∨ n = x)) : Bfs E S' N 0 (fun _ => False) d q :=
 { b with src := fun n hn => by
           rw [hS n hn, b.src n hn]
           constructor
           ·exact .inl
           ·rintro (h1 | rfl)
            ·exact h1
            ·exact (b.src n hn).1 (by rcases hf n hn with h1 | h1 <;> omega) }
theorem Bfs.see_old (b : Bfs E S N h dn d q) (hq : h < q.length) {x : Nat} (hx : x < N) (hd : 0 ≤ d x) {dn' : Nat → Prop} (hdn : ∀ v, dn' v → dn v ∨ v = x) : Bfs E S N h dn' d q :=
 { b with cur := fun v hv => by
           rcases hdn v hv with h1 | rfl
           ·exact b.cur v h1
           ·obtain ⟨j, hj, e⟩ := mem_nq ((b.mem v).2 ⟨hx, hd⟩)
            have := b.near hq j hj
            rw [e] at this
            exact ⟨hd, this⟩ }
theorem Bfs.see_new (b : Bfs E S N h dn d q) (hq : h < q.length) {x : Nat} (hx : x < N) (he : E (nq q h) x) (hd : d x < 0) {d' : Nat → Int} (hd' : ∀ n, n < N → d' n = if n = x then d (nq q h) + 1 else d n) (hE : ∀ a b, E a b → a < N ∧ b < N) (hdN : ∀ v, dn v → v < N) {dn' : Nat → Prop} (hdn : ∀ v, dn' v → dn v ∨ v = x) : Bfs E S N h dn' d' (q ++ [x]) := by
 have hxq : x ∉ q := fun hm => by have := ((b.mem x).1 hm).2; omega
 have hh := (b.mem _).1 (nq_mem hq)
 have old : ∀ n, n ∈ q → d' n = d n := fun n hn => by
  rw [hd' n ((b.mem n).1 hn).1, if_neg (fun e => hxq (by rw [← e]; exact hn))]
 have oldj : ∀ j, j < q.length → nq (q ++ [x]) j = nq q j ∧ d' (nq q j) = d (nq q j) := fun j hj => ⟨nq_left hj _, old _ (nq_mem hj)⟩
 have new : d' x = d (nq q h) + 1 := by rw [hd' x hx, if_pos rfl]
 have keep : ∀ n, n < N → 0 ≤ d n → d' n = d n := fun n hn h0 => by rw [hd' n hn, if_neg (fun e => by rw [e] at h0; omega)]
 have hlast : ∀ j, j < (q ++ [x]).length → (j < q.length ∨ j = q.length) := fun j hj => by rw [List.length_append] at hj; simp at hj; omega
 refine ⟨fun n hn => ?_, fun n hn => ?_, ?_, fun n => ?_, fun i j hij hj => ?_, fun h0 j hj => ?_, fun i hi v hv => ?_, fun v hv => ?_, fun v hv k e => ?_⟩
 ·rw [hd' n hn]
  have := b.lo n hn
  split <;> omega
 ·rw [hd' n hn]
  split
  ·rename_i e
   subst e
   constructor
   ·intro h0; omega
   ·intro h0; have := (b.src n hn).2 h0; omega
  ·exact b.src n hn
 ·exact List.nodup_append.2 ⟨b.nodup, List.pairwise_singleton _ _, fun a ha c hc e => hxq (by rw [← List.mem_singleton.1 hc, ← e]; exact ha)⟩
 ·rw [List.mem_append, List.mem_singleton, b.mem]
  constructor
  ·rintro (⟨h1, h2⟩ | rfl)
   ·exact ⟨h1, by rw [keep n h1 h2]; exact h2⟩
   ·exact ⟨hx, by rw [new]; omega⟩
  ·rintro ⟨h1, h2⟩
   rw [hd' n h1] at h2
   split at h2
   ·rename_i e; exact .inr e
   ·exact .inl ⟨h1, h2⟩
 ·rcases hlast j hj with hj' | rfl
  ·rw [(oldj i (by omega)).1, (oldj i (by omega)).2, (oldj j hj').1, (oldj j hj').2]
   exact b.mono i j hij hj'
  ·rw [nq_last, new]
   rcases Nat.lt_or_ge i q.length with hi | hi
   ·rw [(oldj i hi).1, (oldj i hi).2]
    exact b.near hq i hi
   ·obtain rfl : i = q.length := by omega
    rw [nq_last, new]; omega
 ·rw [(oldj h hq).1, (oldj h hq).2]
  rcases hlast j hj with hj' | rfl
  ·rw [(oldj j hj').1, (oldj j hj').2]
   exact b.near hq j hj'
  ·rw [nq_last, new]; omega
 ·have hi' : i < q.length := by omega
  rw [(oldj i hi').1] at hv
  rw [(oldj i hi').1, (oldj i hi').2]
  have h1 := b.done i hi v hv
  rw [keep v (hE _ _ hv).2 h1.1]
  exact h1
 ·rw [(oldj h hq).1, (oldj h hq).2]
  rcases hdn v hv with h1 | rfl
  ·have h2 := b.cur v h1
   rw [keep v (hdN v h1) h2.1]
   exact h2
  ·rw [new]; omega
 ·rw [hd' v hv] at e
  split at e
  ·rename_i e2
   subst e2
   exact ⟨_, hh.1, he, by rw [keep _ hh.1 hh.2]; omega⟩
  ·obtain ⟨u, h1, h2, h3⟩ := b.pred v hv k e
   exact ⟨u, h1, h2, by rw [keep u h1 (by omega)]; exact h3⟩
theorem Bfs.next (b : Bfs E S N h dn d q) (hq : h < q.length) (hall : ∀ v, E (nq q h) v → dn v) {dn' : Nat → Prop} (hdn : ∀ v, ¬ dn' v) : Bfs E S N (h + 1) dn' d q :=
 { b with near := fun h0 j hj => by
           have h1 := b.near hq j hj
           have h2 := b.mono h (h + 1) (by omega) h0
           omega
          done := fun i hi v hv => by
           rcases Nat.lt_or_ge i h with h1 | h1
           ·exact b.done i h1 v hv
           ·obtain rfl : i = h := by omega
            exact b.cur v (hall v hv)
          cur := fun v hv => absurd hv (hdn v) }
theorem Bfs.fin (b : Bfs E S N q.length dn d q) (hE : ∀ a b, E a b → a < N ∧ b < N) : LocD E S N d where
 lo := b.lo
 src := b.src
 pred := b.pred
 step u v hu h0 e := by
  obtain ⟨i, hi, e2⟩ := mem_nq ((b.mem u).2 ⟨hu, h0⟩)
  have := b.done i hi v (by rw [e2]; exact e)
  rw [e2] at this
  exact this
end

/-! Level by level. -/
structure Lev (E : Nat → Nat → Prop) (S : Nat → Prop) (N : Nat) (c : Nat) (dn : Nat → Nat → Prop) (d : Nat → Int) : Prop where
 lo : ∀ n, n < N → -1 ≤ d n
 hi : ∀ n, n < N → d n ≤ (c : Int) + 1
 src : ∀ n, n < N → (d n = 0 ↔ S n)
 step : ∀ u v, u < N → 0 ≤ d u → d u < c → E u v → 0 ≤ d v ∧ d v ≤ d u + 1
 cur : ∀ u v, u < N → d u = c → E u v → dn u v → 0 ≤ d v ∧ d v ≤ d u + 1
 pred : ∀ v, v < N → ∀ k : Nat, d v = (k : Int) + 1 → ∃ u, u < N ∧ E u v ∧ d u = k
section
variable {E : Nat → Nat → Prop} {S : Nat → Prop} {N c : Nat} {dn : Nat → Nat → Prop} {d : Nat → Int}
theorem Lev.start {E : Nat → Nat → Prop} {S : Nat → Prop} {N : Nat} {d : Nat → Int} (hd : ∀ n, n < N → d n = -1 ∨ d n = 0) (hS : ∀ n, n < N → (d n = 0 ↔ S n)) {dn : Nat → Nat → Prop} (hdn : ∀ u v, ¬ dn u v) : Lev E S N 0 dn d where
 lo n hn := by rcases hd n hn with h | h <;> omega
 hi n hn := by rcases hd n hn with h | h <;> omega
 src := hS
 step u v hu h0 h1 e := by omega
 cur u v _ _ _ h := absurd h (hdn u v)
 pred v hv k e := by rcases hd v hv with h | h <;> omega
theorem Lev.see_old (b : Lev E S N c dn d) {u0 x : Nat} (hx : x < N) (hd : 0 ≤ d x) {dn' : Nat → Nat → Prop} (hdn : ∀ u v, dn' u v → dn u v ∨ (u = u0 ∧ v = x)) : Lev E S N c dn' d :=
 { b with cur := fun u v hu hc e h => by
           rcases hdn u v h with h1 | ⟨rfl, rfl⟩
           ·exact b.cur u v hu hc e h1
           ·have := b.hi v hx
            exact ⟨hd, by omega⟩ }
theorem Lev.see_new (b : Lev E S N c dn d) (hE : ∀ a b, E a b → a < N ∧ b < N) {u0 x : Nat} (hu0 : u0 < N) (hc0 : d u0 = c) (he : E u0 x) (hx : x < N) (hd : d x < 0) {d' : Nat → Int} (hd' : ∀ n, n < N → d' n = if n = x then (c : Int) + 1 else d n) {dn' : Nat → Nat → Prop} (hdn : ∀ u v, dn' u v → dn u v ∨ (u = u0 ∧ v = x)) : Lev E S N c dn' d' := by
 have keep : ∀ n, n < N → 0 ≤ d n → d' n = d n := fun n hn h0 => by rw [hd' n hn, if_neg (fun e => by rw [e] at h0; omega)]
 have back : ∀ n, n < N → d' n ≤ c → d' n = d n := fun n hn h0 => by
  rw [hd' n hn] at h0 ⊢
  split at h0
  ·omega
  ·rename_i e; rw [if_neg e]
 refine ⟨fun n hn => ?_, fun n hn => ?_, fun n hn => ?_, fun u v hu h0 hc e => ?_, fun u v hu hc e hv => ?_, fun v hv k e => ?_⟩
 ·rw [hd' n hn]; have := b.lo n hn; split <;> omega
 ·rw [hd' n hn]; have := b.hi n hn; split <;> omega
 ·rw [hd' n hn]
  split
  ·rename_i e
   subst e
   constructor
   ·intro h0; omega
   ·intro h0; have := (b.src n hn).2 h0; omega
  ·exact b.src n hn
 ·have e1 := back u hu (by omega)
  rw [e1] at h0 hc ⊢
  have := b.step u v hu h0 hc e
  rw [keep v (hE _ _ e).2 this.1]
  exact this
 ·have e1 := back u hu (by omega)
  rw [e1] at hc ⊢
  rcases hdn u v hv with h1 | ⟨rfl, rfl⟩
  ·have := b.cur u v hu hc e h1
   rw [keep v (hE _ _ e).2 this.1]
   exact this
  ·rw [hd' v hx, if_pos rfl]; omega
 ·rw [hd' v hv] at e
  split at e
  ·rename_i e2
   subst e2
   exact ⟨u0, hu0, he, by rw [keep u0 hu0 (by omega)]; omega⟩
  ·obtain ⟨u, h1, h2, h3⟩ := b.pred v hv k e
   exact ⟨u, h1, h2, by rw [keep u h1 (by omega)]; exact h3⟩
theorem Lev.sub (b : Lev E S N c dn d) {dn' : Nat → Nat → Prop} (h : ∀ u v, u < N → d u = c → E u v → dn' u v → dn u v) : Lev E S N c dn' d :=
 { b with cur := fun u v hu hc e hv => b.cur u v hu hc e (h u v hu hc e hv) }
theorem Lev.next (b : Lev E S N c dn d) (hall : ∀ u v, u < N → d u = c → E u v → dn u v) {dn' : Nat → Nat → Prop} (hdn : ∀ u v, ¬ dn' u v) : Lev E S N (c + 1) dn' d where
 lo := b.lo
 hi n hn := by have := b.hi n hn; omega
 src := b.src
 step u v hu h0 hc e := by
  rcases Int.lt_or_le (d u) c with h1 | h1
  ·exact b.step u v hu h0 h1 e
  ·have h2 : d u = c := by omega
   exact b.cur u v hu h2 e (hall u v hu h2 e)
 cur u v _ _ _ h := absurd h (hdn u v)
 pred := b.pred
theorem Lev.fin (b : Lev E S N N dn d) : LocD E S N d where
 lo := b.lo
 src := b.src
 pred := b.pred
 step u v hu h0 e := b.step u v hu h0 (pred_bound b.pred hu) e
end
end Go.Proofs.Ytpcbmhfnefhenaa
