import Derived.Test.YtbjdglopkpigbaaGreatDoorMG0
import Derived.Test.YtbjdglopkpigbaaGreatDoorMG1
/-
  OrdM, GraM, GraB
-/
set_option linter.unusedVariables false
namespace Go.Proofs.YtbjdglopkpigbaaGreatDoor
inductive Path (E : Nat → Nat → Prop) : Nat → Nat → Prop
 | one {a b : Nat} : E a b → Path E a b
 | cons {a b c : Nat} : E a b → Path E b c → Path E a c
theorem Path.trans {E : Nat → Nat → Prop} {a b c : Nat} (h : Path E a b) (h' : Path E b c) : Path E a c := by
 induction h with
 | one e => exact .cons e h'
 | cons e _ ih => exact .cons e (ih h')
theorem Path.last {E : Nat → Nat → Prop} {a c : Nat} (h : Path E a c) : E a c ∨ ∃ b, Path E a b ∧ E b c := by
 induction h with
 | one e => exact .inl e
 | cons e p ih =>
  rcases ih with h | ⟨b, h1, h2⟩
  ·exact .inr ⟨_, .one e, h⟩
  ·exact .inr ⟨b, .cons e h1, h2⟩
theorem Path.first {E : Nat → Nat → Prop} {a c : Nat} (h : Path E a c) : ∃ b, E a b := by
 cases h with
 | one e => exact ⟨_, e⟩
 | cons e _ => exact ⟨_, e⟩
inductive PathB (E : Nat → Nat → Prop) (k : Nat) : Nat → Nat → Prop
 | one {a b : Nat} : E a b → PathB E k a b
 | cons {a b c : Nat} : E a b → b < k → PathB E k b c → PathB E k a c
theorem PathB.mono {E : Nat → Nat → Prop} {k k' a b : Nat} (h : PathB E k a b) (hk : k ≤ k') : PathB E k' a b := by
 induction h with
 | one e => exact .one e
 | cons e h _ ih => exact .cons e (by omega) ih
theorem PathB.trans {E : Nat → Nat → Prop} {k a b c : Nat} (h : PathB E k a b) (hb : b < k) (h' : PathB E k b c) : PathB E k a c := by
 induction h with
 | one e => exact .cons e hb h'
 | cons e h _ ih => exact .cons e h (ih hb h')
theorem PathB.succ {E : Nat → Nat → Prop} {k a c : Nat} : PathB E (k + 1) a c ↔ PathB E k a c ∨ (PathB E k a k ∧ PathB E k k c) := by
 constructor
 ·intro h
  induction h with
  | one e => exact .inl (.one e)
  | @cons x y z e h _ ih =>
   rcases Nat.lt_or_ge y k with hl | hg
   ·rcases ih with h1 | ⟨h1, h2⟩
    ·exact .inl (.cons e hl h1)
    ·exact .inr ⟨.cons e hl h1, h2⟩
   ·obtain rfl : y = k := by omega
    rcases ih with h1 | ⟨_, h2⟩
    ·exact .inr ⟨.one e, h1⟩
    ·exact .inr ⟨.one e, h2⟩
 ·rintro (h | ⟨h1, h2⟩)
  ·exact h.mono (by omega)
  ·exact (h1.mono (by omega)).trans (by omega) (h2.mono (by omega))
theorem PathB.zero {E : Nat → Nat → Prop} {a c : Nat} : PathB E 0 a c ↔ E a c := by
 constructor
 ·intro h
  cases h with
  | one e => exact e
  | cons _ h _ => omega
 ·exact .one
theorem PathB.path {E : Nat → Nat → Prop} {N a c : Nat} (hE : ∀ a b, E a b → a < N ∧ b < N) : PathB E N a c ↔ Path E a c := by
 constructor
 ·intro h
  induction h with
  | one e => exact .one e
  | cons e _ _ ih => exact .cons e ih
 ·intro h
  induction h with
  | one e => exact .one e
  | cons e _ ih => exact .cons e (hE _ _ e).2 ih
theorem least_of {T : Nat → Nat → Prop} (irr : ∀ a, ¬ T a a) (tr : ∀ a b c, T a b → T b c → T a c) : ∀ (S : List Nat), S ≠ [] → ∃ m ∈ S, ∀ a ∈ S, ¬ T a m
 | [], h => absurd rfl h
 | [x], _ => ⟨x, List.mem_singleton.2 rfl, fun a ha => by rw [List.mem_singleton.1 ha]; exact irr x⟩
 | x :: y :: S, _ => by
  obtain ⟨m, hm, hmin⟩ := least_of irr tr (y :: S) (by simp)
  by_cases h : T x m
  ·refine ⟨x, List.mem_cons_self, fun a ha hx => ?_⟩
   rcases List.mem_cons.1 ha with rfl | ha
   ·exact irr _ hx
   ·exact hmin a ha (tr _ _ _ hx h)
  ·refine ⟨m, List.mem_cons_of_mem _ hm, fun a ha hx => ?_⟩
   rcases List.mem_cons.1 ha with rfl | ha
   ·exact h hx
   ·exact hmin a ha hx
theorem nodup_sub_length : ∀ (xs l : List Nat), xs.Nodup → (∀ x ∈ xs, x ∈ l) → xs.length ≤ l.length
 | [], _, _, _ => Nat.zero_le _
 | x :: xs, l, hn, hs => by
  have hn' := List.nodup_cons.1 hn
  have hx := hs x List.mem_cons_self
  have ih := nodup_sub_length xs (l.erase x) hn'.2 fun y hy => (List.mem_erase_of_ne (fun e => hn'.1 (by rw [← e]; exact hy))).2 (hs y (List.mem_cons_of_mem _ hy))
  rw [List.length_erase_of_mem hx] at ih
  have : 0 < l.length := List.length_pos_of_mem hx
  rw [List.length_cons]
  omega
inductive Topo (E : Nat → Nat → Prop) (N : Nat) : List Nat → Prop
 | nil : Topo E N []
 | snoc {l : List Nat} {x : Nat} : Topo E N l → x ∉ l → x < N → (∀ a, E a x → a ∈ l) → Topo E N (l ++ [x])
theorem Topo.nodup {E : Nat → Nat → Prop} {N : Nat} {l : List Nat} (h : Topo E N l) : l.Nodup := by
 induction h with
 | nil => exact List.nodup_nil
 | snoc _ hx _ _ ih => exact List.nodup_append.2 ⟨ih, List.pairwise_singleton _ _, fun a ha b hb e => hx (by rw [← List.mem_singleton.1 hb, ← e]; exact ha)⟩
theorem Topo.lt {E : Nat → Nat → Prop} {N : Nat} {l : List Nat} (h : Topo E N l) : ∀ x ∈ l, x < N := by
 induction h with
 | nil => intro x hx; cases hx
 | snoc _ _ hx _ ih =>
  intro y hy
  rcases List.mem_append.1 hy with hy | hy
  ·exact ih y hy
  ·rw [List.mem_singleton.1 hy]; exact hx
theorem Topo.length_le {E : Nat → Nat → Prop} {N : Nat} {l : List Nat} (h : Topo E N l) : l.length ≤ N := by
 have := nodup_sub_length l (List.range N) h.nodup fun x hx => List.mem_range.2 (h.lt x hx)
 rwa [List.length_range] at this
theorem Topo.down {E : Nat → Nat → Prop} {N : Nat} {l : List Nat} (h : Topo E N l) : ∀ a b, b ∈ l → E a b → a ∈ l ∧ l.idxOf a < l.idxOf b := by
 induction h with
 | nil => intro a b hb; cases hb
 | @snoc l x _ hx _ hp ih =>
  intro a b hb e
  by_cases hbl : b ∈ l
  ·obtain ⟨h1, h2⟩ := ih a b hbl e
   refine ⟨List.mem_append_left _ h1, ?_⟩
   rw [List.idxOf_append, List.idxOf_append, if_pos h1, if_pos hbl]
   exact h2
  ·have hbx : b = x := by
    rcases List.mem_append.1 hb with h | h
    ·exact absurd h hbl
    ·exact List.mem_singleton.1 h
   subst hbx
   have ha := hp a e
   refine ⟨List.mem_append_left _ ha, ?_⟩
   rw [List.idxOf_append, List.idxOf_append, if_pos ha, if_neg hbl]
   have := List.idxOf_lt_length_of_mem ha
   omega
theorem Topo.path {E : Nat → Nat → Prop} {N : Nat} {l : List Nat} (h : Topo E N l) {a b : Nat} (p : Path E a b) (hb : b ∈ l) : a ∈ l ∧ l.idxOf a < l.idxOf b := by
 induction p with
 | one e => exact h.down _ _ hb e
 | cons e _ ih =>
  obtain ⟨h1, h2⟩ := ih hb
  obtain ⟨h3, h4⟩ := h.down _ _ h1 e
  exact ⟨h3, by omega⟩
theorem Topo.next {E : Nat → Nat → Prop} {N : Nat} {l : List Nat} (h : Topo E N l) (hl : l.length < N) (hE : ∀ a b, E a b → a < N ∧ b < N) (irr : ∀ a, ¬ Path E a a) : ∃ i, i < N ∧ i ∉ l ∧ ∀ a, E a i → a ∈ l := by
 obtain ⟨m, hm, hmin⟩ := least_of (T := Path E) irr (fun _ _ _ h h' => h.trans h') ((List.range N).filter fun i => !l.contains i) (by
  intro h0
  have := nodup_sub_length (List.range N) l List.nodup_range fun x hx => by
   refine Classical.byContradiction fun hc => ?_
   have hm : x ∈ (List.range N).filter fun i => !l.contains i := List.mem_filter.2 ⟨hx, by simpa using hc⟩
   rw [h0] at hm
   cases hm
  rw [List.length_range] at this
  omega)
 have hm' := List.mem_filter.1 hm
 refine ⟨m, List.mem_range.1 hm'.1, by simpa using hm'.2, fun a e => ?_⟩
 refine Classical.byContradiction fun hc => ?_
 exact hmin a (List.mem_filter.2 ⟨List.mem_range.2 (hE _ _ e).1, by simpa using hc⟩) (.one e)
end Go.Proofs.YtbjdglopkpigbaaGreatDoor
namespace Go.Proofs.YtbjdglopkpigbaaGreatDoor
def gr (g : List (List Int)) (i : Nat) : List Int := g.getD i []
theorem gr_eq (g : List (List Int)) (i : Nat) (h : i < g.length) : gr g i = g[i] := by simp [gr, List.getD, h]
theorem gr_over {g : List (List Int)} {i : Nat} (h : g.length ≤ i) : gr g i = [] := by simp [gr, List.getD, h]
theorem gr_mem {g : List (List Int)} {i : Nat} (h : i < g.length) : gr g i ∈ g := by rw [gr_eq g i h]; exact List.getElem_mem h
def GE (g : List (List Int)) (a b : Nat) : Prop := (b : Int) ∈ gr g a
def Asc (l : List Int) : Prop := l.Pairwise (· < ·)
def ValidG (g : List (List Int)) : Prop := g.length ≤ 400 ∧ ∀ l ∈ g, Asc l ∧ ∀ z ∈ l, 0 ≤ z ∧ z < (g.length : Int)
theorem GE.lt {g : List (List Int)} (hv : ValidG g) {a b : Nat} (h : GE g a b) : a < g.length ∧ b < g.length := by
 unfold GE at h
 rcases Nat.lt_or_ge a g.length with ha | ha
 ·refine ⟨ha, ?_⟩
  have := (hv.2 _ (gr_mem ha)).2 _ h
  omega
 ·rw [gr_over ha] at h; cases h
inductive Rch (E : Nat → Nat → Prop) : Nat → Nat → Prop
 | refl (a : Nat) : Rch E a a
 | snoc {a b c : Nat} : Rch E a b → E b c → Rch E a c
theorem Rch.one {E : Nat → Nat → Prop} {a b : Nat} (h : E a b) : Rch E a b := .snoc (.refl a) h
theorem Rch.trans {E : Nat → Nat → Prop} {a b c : Nat} (h : Rch E a b) (h' : Rch E b c) : Rch E a c := by
 induction h' with
 | refl => exact h
 | snoc _ e ih => exact .snoc ih e
theorem Rch.cons {E : Nat → Nat → Prop} {a b c : Nat} (e : E a b) (h : Rch E b c) : Rch E a c := (Rch.one e).trans h
theorem Rch.first {E : Nat → Nat → Prop} {a c : Nat} (h : Rch E a c) : a = c ∨ ∃ b, E a b ∧ Rch E b c := by
 induction h with
 | refl => exact .inl rfl
 | @snoc b c h e ih =>
  rcases ih with rfl | ⟨d, h1, h2⟩
  ·exact .inr ⟨c, e, .refl c⟩
  ·exact .inr ⟨d, h1, .snoc h2 e⟩
theorem Rch.mono {E E' : Nat → Nat → Prop} (hE : ∀ a b, E a b → E' a b) {a b : Nat} (h : Rch E a b) : Rch E' a b := by
 induction h with
 | refl => exact .refl _
 | snoc _ e ih => exact .snoc ih (hE _ _ e)
structure LocD (E : Nat → Nat → Prop) (S : Nat → Prop) (N : Nat) (d : Nat → Int) : Prop where
 lo : ∀ n, n < N → -1 ≤ d n
 src : ∀ n, n < N → (d n = 0 ↔ S n)
 step : ∀ u v, u < N → 0 ≤ d u → E u v → 0 ≤ d v ∧ d v ≤ d u + 1
 pred : ∀ v, v < N → ∀ k : Nat, d v = (k : Int) + 1 → ∃ u, u < N ∧ E u v ∧ d u = k
section
variable {E : Nat → Nat → Prop} {S : Nat → Prop} {N : Nat} {d d' : Nat → Int}
theorem LocD.le (h : LocD E S N d) (h' : LocD E S N d') : ∀ (k n : Nat), n < N → d n = k → 0 ≤ d' n ∧ d' n ≤ k
 | 0, n, hn, e => by
  have := (h'.src n hn).2 ((h.src n hn).1 (by simpa using e))
  omega
 | k + 1, n, hn, e => by
  obtain ⟨u, hu, he, hk⟩ := h.pred n hn k (by omega)
  have ih := h.le h' k u hu hk
  have := h'.step u n hu ih.1 he
  omega
theorem LocD.uniq (h : LocD E S N d) (h' : LocD E S N d') (n : Nat) (hn : n < N) : d n = d' n := by
 have l1 := h.lo n hn
 have l2 := h'.lo n hn
 by_cases h0 : 0 ≤ d n
 ·obtain ⟨k, hk⟩ := Int.eq_ofNat_of_zero_le h0
  have a1 := h.le h' k n hn hk
  obtain ⟨k', hk'⟩ := Int.eq_ofNat_of_zero_le a1.1
  have a2 := h'.le h k' n hn hk'
  omega
 ·by_cases h0' : 0 ≤ d' n
  ·obtain ⟨k', hk'⟩ := Int.eq_ofNat_of_zero_le h0'
   have a2 := h'.le h k' n hn hk'
   omega
  ·omega
theorem LocD.reach (h : LocD E S N d) : ∀ (k n : Nat), n < N → d n = k → ∃ s, S s ∧ Rch E s n
 | 0, n, hn, e => ⟨n, (h.src n hn).1 (by simpa using e), .refl n⟩
 | k + 1, n, hn, e => by
  obtain ⟨u, hu, he, hk⟩ := h.pred n hn k (by omega)
  obtain ⟨s, hs, hr⟩ := h.reach k u hu hk
  exact ⟨s, hs, .snoc hr he⟩
theorem LocD.congr (h : LocD E S N d) {E' : Nat → Nat → Prop} {S' : Nat → Prop} (hE : ∀ a b, E a b ↔ E' a b) (hS : ∀ a, a < N → (S a ↔ S' a)) : LocD E' S' N d :=
 ⟨h.lo, fun n hn => (h.src n hn).trans (hS n hn), fun u v hu h0 e => h.step u v hu h0 ((hE _ _).2 e), fun v hv k e => by
  obtain ⟨u, h1, h2, h3⟩ := h.pred v hv k e
  exact ⟨u, h1, (hE _ _).1 h2, h3⟩⟩
theorem pred_lt {d : Nat → Int} (hp : ∀ v, v < N → ∀ k : Nat, d v = (k : Int) + 1 → ∃ u, u < N ∧ E u v ∧ d u = k) : ∀ (k v : Nat), v < N → d v = (k : Int) → ∃ l : List Nat, l.length = k + 1 ∧ l.Nodup ∧ ∀ x ∈ l, x < N ∧ d x ≤ k
 | 0, v, hv, e => ⟨[v], rfl, List.pairwise_singleton _ _, fun x hx => by rw [List.mem_singleton.1 hx]; exact ⟨hv, by omega⟩⟩
 | k + 1, v, hv, e => by
  obtain ⟨u, hu, _, hk⟩ := hp v hv k (by omega)
  obtain ⟨l, h1, h2, h3⟩ := pred_lt hp k u hu hk
  refine ⟨v :: l, by rw [List.length_cons, h1], List.nodup_cons.2 ⟨fun hm => ?_, h2⟩, fun x hx => ?_⟩
  ·have := (h3 v hm).2
   omega
  ·rcases List.mem_cons.1 hx with rfl | hx
   ·exact ⟨hv, by omega⟩
   ·have := h3 x hx
    exact ⟨this.1, by omega⟩
theorem pred_bound {d : Nat → Int} (hp : ∀ v, v < N → ∀ k : Nat, d v = (k : Int) + 1 → ∃ u, u < N ∧ E u v ∧ d u = k) {v : Nat} (hv : v < N) : d v < N := by
 by_cases h0 : 0 ≤ d v
 ·obtain ⟨k, hk⟩ := Int.eq_ofNat_of_zero_le h0
  obtain ⟨l, h1, h2, h3⟩ := pred_lt hp k v hv hk
  have := nodup_sub_length l (List.range N) h2 fun x hx => List.mem_range.2 (h3 x hx).1
  rw [List.length_range] at this
  omega
 ·omega
end
/-! A queue. -/
def nq (q : List Nat) (i : Nat) : Nat := q.getD i 0
theorem nq_eq (q : List Nat) (i : Nat) (h : i < q.length) : nq q i = q[i] := by simp [nq, List.getD, h]
theorem mem_nq {q : List Nat} {x : Nat} (h : x ∈ q) : ∃ i, i < q.length ∧ nq q i = x := by
 obtain ⟨i, hi, e⟩ := List.mem_iff_getElem.1 h
 exact ⟨i, hi, by rw [nq_eq q i hi]; exact e⟩
structure Bfs (E : Nat → Nat → Prop) (S : Nat → Prop) (N : Nat) (h : Nat) (dn : Nat → Prop) (d : Nat → Int) (q : List Nat) : Prop where
 lo : ∀ n, n < N → -1 ≤ d n
 src : ∀ n, n < N → (d n = 0 ↔ S n)
 nodup : q.Nodup
 mem : ∀ n, n ∈ q ↔ n < N ∧ 0 ≤ d n
 mono : ∀ i j, i ≤ j → j < q.length → d (nq q i) ≤ d (nq q j)
 near : h < q.length → ∀ j, j < q.length → d (nq q j) ≤ d (nq q h) + 1
 done : ∀ i, i < h → ∀ v, E (nq q i) v → 0 ≤ d v ∧ d v ≤ d (nq q i) + 1
 cur : ∀ v, dn v → 0 ≤ d v ∧ d v ≤ d (nq q h) + 1
 pred : ∀ v, v < N → ∀ k : Nat, d v = (k : Int) + 1 → ∃ u, u < N ∧ E u v ∧ d u = k
section
variable {E : Nat → Nat → Prop} {S : Nat → Prop} {N h : Nat} {dn : Nat → Prop} {d : Nat → Int} {q : List Nat}
theorem Bfs.nil (E : Nat → Nat → Prop) (N : Nat) {d : Nat → Int} (hd : ∀ n, n < N → d n = -1) : Bfs E (fun _ => False) N 0 (fun _ => False) d [] where
 lo n hn := by rw [hd n hn]; omega
 src n hn := by rw [hd n hn]; simp
 nodup := List.nodup_nil
 mem n := ⟨fun hm => (by cases hm), fun hm => (by have := hd n hm.1; omega)⟩
 mono i j _ hj := absurd hj (Nat.not_lt_zero _)
 near h0 := absurd h0 (Nat.not_lt_zero _)
 done i hi := absurd hi (Nat.not_lt_zero _)
 cur v hv := hv.elim
 pred v hv k e := by rw [hd v hv] at e; omega
theorem Bfs.next (b : Bfs E S N h dn d q) (hq : h < q.length) (hall : ∀ v, E (nq q h) v → dn v) {dn' : Nat → Prop} (hdn : ∀ v, ¬ dn' v) : Bfs E S N (h + 1) dn' d q :=
 { b with near := fun h0 j hj => by
           have h1 := b.near hq j hj
           have h2 := b.mono h (h + 1) (by omega) h0
           omega
          done := fun i hi v hv => by
           rcases Nat.lt_or_ge i h with h1 | h1
           ·exact b.done i h1 v hv
           ·obtain rfl : i = h := by omega
            exact b.cur v (hall v hv)
          cur := fun v hv => absurd hv (hdn v) }
theorem Bfs.fin (b : Bfs E S N q.length dn d q) (hE : ∀ a b, E a b → a < N ∧ b < N) : LocD E S N d where
 lo := b.lo
 src := b.src
 pred := b.pred
 step u v hu h0 e := by
  obtain ⟨i, hi, e2⟩ := mem_nq ((b.mem u).2 ⟨hu, h0⟩)
  have := b.done i hi v (by rw [e2]; exact e)
  rw [e2] at this
  exact this
end
/-! Level by level. -/
structure Lev (E : Nat → Nat → Prop) (S : Nat → Prop) (N : Nat) (c : Nat) (dn : Nat → Nat → Prop) (d : Nat → Int) : Prop where
 lo : ∀ n, n < N → -1 ≤ d n
 hi : ∀ n, n < N → d n ≤ (c : Int) + 1
 src : ∀ n, n < N → (d n = 0 ↔ S n)
 step : ∀ u v, u < N → 0 ≤ d u → d u < c → E u v → 0 ≤ d v ∧ d v ≤ d u + 1
 cur : ∀ u v, u < N → d u = c → E u v → dn u v → 0 ≤ d v ∧ d v ≤ d u + 1
 pred : ∀ v, v < N → ∀ k : Nat, d v = (k : Int) + 1 → ∃ u, u < N ∧ E u v ∧ d u = k
section
variable {E : Nat → Nat → Prop} {S : Nat → Prop} {N c : Nat} {dn : Nat → Nat → Prop} {d : Nat → Int}
theorem Lev.start {E : Nat → Nat → Prop} {S : Nat → Prop} {N : Nat} {d : Nat → Int} (hd : ∀ n, n < N → d n = -1 ∨ d n = 0) (hS : ∀ n, n < N → (d n = 0 ↔ S n)) {dn : Nat → Nat → Prop} (hdn : ∀ u v, ¬ dn u v) : Lev E S N 0 dn d where
 lo n hn := by rcases hd n hn with h | h <;> omega
 hi n hn := by rcases hd n hn with h | h <;> omega
 src := hS
 step u v hu h0 h1 e := by omega
 cur u v _ _ _ h := absurd h (hdn u v)
 pred v hv k e := by rcases hd v hv with h | h <;> omega
theorem Lev.sub (b : Lev E S N c dn d) {dn' : Nat → Nat → Prop} (h : ∀ u v, u < N → d u = c → E u v → dn' u v → dn u v) : Lev E S N c dn' d :=
 { b with cur := fun u v hu hc e hv => b.cur u v hu hc e (h u v hu hc e hv) }
theorem Lev.next (b : Lev E S N c dn d) (hall : ∀ u v, u < N → d u = c → E u v → dn u v) {dn' : Nat → Nat → Prop} (hdn : ∀ u v, ¬ dn' u v) : Lev E S N (c + 1) dn' d where
 lo := b.lo
 hi n hn := by have := b.hi n hn; omega
 src := b.src
 step u v hu h0 hc e := by
  rcases Int.lt_or_le (d u) c with h1 | h1
  ·exact b.step u v hu h0 h1 e
  ·have h2 : d u = c := by omega
   exact b.cur u v hu h2 e (hall u v hu h2 e)
 cur u v _ _ _ h := absurd h (hdn u v)
 pred := b.pred
theorem Lev.fin (b : Lev E S N N dn d) : LocD E S N d where
 lo := b.lo
 src := b.src
 pred := b.pred
 step u v hu h0 e := b.step u v hu h0 (pred_bound b.pred hu) e
end
end Go.Proofs.YtbjdglopkpigbaaGreatDoor
namespace Go.Proofs.YtbjdglopkpigbaaGreatDoor
open Go.RowKit
def IsRow (k : IntKind) (w : World) (a : Option Addr) (len cap : Nat) (zs : List Int) : Prop := IsInts k w a len cap zs ∨ (len = 0 ∧ cap = 0 ∧ zs = [])
theorem IsInts.row {k : IntKind} {w : World} {a : Option Addr} {len cap : Nat} {zs : List Int} (h : IsInts k w a len cap zs) : IsRow k w a len cap zs := .inl h
theorem IsRow.length {k : IntKind} {w : World} {a : Option Addr} {len cap : Nat} {zs : List Int} (h : IsRow k w a len cap zs) : zs.length = len := by
 rcases h with h | ⟨rfl, _, rfl⟩
 ·exact h.length
 ·rfl
theorem IsRow.cap {k : IntKind} {w : World} {a : Option Addr} {len cap : Nat} {zs : List Int} (h : IsRow k w a len cap zs) : len ≤ cap ∧ cap ≤ maxLen := by
 rcases h with h | ⟨rfl, rfl, _⟩
 ·exact h.cap
 ·exact ⟨Nat.le_refl _, Nat.zero_le _⟩
theorem IsRow.later {k : IntKind} {w w' : World} {a : Option Addr} {len cap : Nat} {zs : List Int} (h : IsRow k w a len cap zs) (hb : Below w.heap.size w w') : IsRow k w' a len cap zs := h.imp (fun h => h.later hb) id
theorem IsRow.at {k : IntKind} {w : World} {a : Option Addr} {len cap : Nat} {zs : List Int} (h : IsRow k w a len cap zs) (W : World) (hb : Below w.heap.size w W) (i : Nat) (hi : i < len) :
  ∃ b off, a = some ⟨b, off, none⟩ ∧ b < w.heap.size ∧ W.cell? ⟨b, off + i, none⟩ = some (.int k (gi zs i)) := by
 rcases h with h | ⟨rfl, _, _⟩
 ·exact h.at W hb i hi
 ·omega
theorem IsRow.get {k : IntKind} {W : World} {b off len cap : Nat} {zs : List Int} (h : IsRow k W (some ⟨b, off, none⟩) len cap zs) (i : Nat) (hi : i < len) : W.cell? ⟨b, off + i, none⟩ = some (.int k (gi zs i)) := by
 obtain ⟨b', off', e, -, hc⟩ := h.at W (Below.refl _ _) i hi
 injection e with e; injection e with e1 e2; subst e1; subst e2
 exact hc
def IsRows (w : World) (a : Option Addr) (len cap : Nat) (g : List (List Int)) : Prop :=
 len ≤ cap ∧ cap ≤ maxLen ∧ g.length = len ∧ (0 < len → ∃ b off, a = some ⟨b, off, none⟩ ∧ ∀ i, i < len → ∃ ai li ci, w.cell? ⟨b, off + i, none⟩ = some (.slice ai li ci) ∧ IsRow .i64 w ai li ci (gr g i))
theorem IsRows.length {w : World} {a : Option Addr} {len cap : Nat} {g : List (List Int)} (h : IsRows w a len cap g) : g.length = len := h.2.2.1
theorem IsRows.cap {w : World} {a : Option Addr} {len cap : Nat} {g : List (List Int)} (h : IsRows w a len cap g) : len ≤ cap ∧ cap ≤ maxLen := ⟨h.1, h.2.1⟩
theorem IsRows.later {w w' : World} {a : Option Addr} {len cap : Nat} {g : List (List Int)} (h : IsRows w a len cap g) (hb : Below w.heap.size w w') : IsRows w' a len cap g := by
 refine ⟨h.1, h.2.1, h.2.2.1, fun h0 => ?_⟩
 obtain ⟨b, off, e, hr⟩ := h.2.2.2 h0
 refine ⟨b, off, e, fun i hi => ?_⟩
 obtain ⟨ai, li, ci, h1, h2⟩ := hr i hi
 exact ⟨ai, li, ci, (hb.cell (p := ⟨b, off + i, none⟩) (lt_of_cell h1)).trans h1, h2.later hb⟩
theorem IsRows.at {w : World} {a : Option Addr} {len cap : Nat} {g : List (List Int)} (h : IsRows w a len cap g) (W : World) (hb : Below w.heap.size w W) (i : Nat) (hi : i < len) :
  ∃ b off ai li ci, a = some ⟨b, off, none⟩ ∧ W.cell? ⟨b, off + i, none⟩ = some (.slice ai li ci) ∧ IsRow .i64 W ai li ci (gr g i) := by
 obtain ⟨b, off, e, hr⟩ := (h.later hb).2.2.2 (by omega)
 obtain ⟨ai, li, ci, h1, h2⟩ := hr i hi
 exact ⟨b, off, ai, li, ci, e, h1, h2⟩
theorem IsRows.fix {w : World} {a : Option Addr} {len cap : Nat} {g : List (List Int)} (h : IsRows w a len cap g) (i : Nat) (hi : i < len) :
  ∃ b off ai li ci, a = some ⟨b, off, none⟩ ∧ (∀ W, Below w.heap.size w W → W.cell? ⟨b, off + i, none⟩ = some (.slice ai li ci)) ∧ IsRow .i64 w ai li ci (gr g i) := by
 obtain ⟨b, off, e, hr⟩ := h.2.2.2 (by omega)
 obtain ⟨ai, li, ci, h1, h2⟩ := hr i hi
 exact ⟨b, off, ai, li, ci, e, fun W hb => (hb.cell (p := ⟨b, off + i, none⟩) (lt_of_cell h1)).trans h1, h2⟩
theorem IsRow.fix {k : IntKind} {w : World} {a : Option Addr} {len cap : Nat} {zs : List Int} (h : IsRow k w a len cap zs) (i : Nat) (hi : i < len) :
  ∃ b off, a = some ⟨b, off, none⟩ ∧ ∀ W, Below w.heap.size w W → W.cell? ⟨b, off + i, none⟩ = some (.int k (gi zs i)) := by
 obtain ⟨b, off, e, hl, -⟩ := h.at w (Below.refl _ _) i hi
 refine ⟨b, off, e, fun W hb => ?_⟩
 obtain ⟨b', off', e', -, hc⟩ := h.at W hb i hi
 rw [e] at e'
 injection e' with e'; injection e' with e1 e2; subst e1; subst e2
 exact hc
/-! Rows of the call's own. -/
theorem owns_same {W W' : World} {B e s n : Nat} {v : Value} {xs : List Value} (h : W.ownsRow B e s v n xs) (hs : ∀ k, v.ownBlock = some k → W'.heap[k]? = W.heap[k]?) : W'.ownsRow B e s v n xs := by
 refine ⟨h.1, ?_⟩
 rcases h.2 with h' | ⟨g, cap, cur, rfl, h1, h2, h3⟩
 ·exact .inl h'
 ·exact .inr ⟨g, cap, cur, rfl, h1, by rw [hs g rfl]; exact h2, h3⟩
structure OwnG (W : World) (B To Ti : Nat) (ao : Option Addr) (n co : Nat) (ms vs : List Value) (rows : List (List Int)) : Prop where
 out : W.ownsRow B To 1 (.slice ao n co) n ms
 len : rows.length = n
 vlen : vs.length = n
 row : ∀ i, i < n → ∃ v, vs[i]? = some v ∧ W.ownsRow B Ti 1 v (gr rows i).length (ivs .i64 (gr rows i))
 ne : ∀ (i : Nat) v, vs[i]? = some v → ∀ k, v.ownBlock = some k → (Value.slice ao n co).ownBlock ≠ some k
 dis : ∀ (i j : Nat) v u, i ≠ j → vs[i]? = some v → vs[j]? = some u → ∀ k, v.ownBlock = some k → u.ownBlock ≠ some k
section
variable {W W' : World} {B To Ti : Nat} {ao : Option Addr} {n co : Nat} {ms vs : List Value} {rows : List (List Int)}
theorem OwnG.same (h : OwnG W B To Ti ao n co ms vs rows) (ho : ∀ k, (Value.slice ao n co).ownBlock = some k → W'.heap[k]? = W.heap[k]?) (hr : ∀ (i : Nat) v k, i < n → vs[i]? = some v → v.ownBlock = some k → W'.heap[k]? = W.heap[k]?) : OwnG W' B To Ti ao n co ms vs rows := by
 refine ⟨owns_same h.out ho, h.len, h.vlen, fun i hi => ?_, h.ne, h.dis⟩
 obtain ⟨v, h1, h2⟩ := h.row i hi
 exact ⟨v, h1, owns_same h2 fun k hk => hr i v k hi h1 hk⟩
theorem OwnG.lt (h : OwnG W B To Ti ao n co ms vs rows) : (∀ k, (Value.slice ao n co).ownBlock = some k → B ≤ k ∧ k < W.heap.size) ∧ ∀ (i : Nat) v k, i < n → vs[i]? = some v → v.ownBlock = some k → B ≤ k ∧ k < W.heap.size := by
 refine ⟨fun k hk => h.out.lt k hk, fun i v k hi hv hk => ?_⟩
 obtain ⟨u, h1, h2⟩ := h.row i hi
 rw [hv] at h1
 injection h1 with h1
 subst h1
 exact h2.lt k hk
theorem OwnG.kept (h : OwnG W B To Ti ao n co ms vs rows) (hb : Below W.heap.size W W') : OwnG W' B To Ti ao n co ms vs rows :=
 h.same (fun k hk => hb.block k (h.lt.1 k hk).2) fun i v k hi hv hk => hb.block k (h.lt.2 i v k hi hv hk).2
theorem OwnG.base (h : OwnG W B To Ti ao n co ms vs rows) {B' : Nat} (hB : B' ≤ B) : OwnG W B' To Ti ao n co ms vs rows :=
 ⟨h.out.from_mono hB, h.len, h.vlen, fun i hi => by
  obtain ⟨v, h1, h2⟩ := h.row i hi
  exact ⟨v, h1, h2.from_mono hB⟩, h.ne, h.dis⟩
theorem OwnG.mem (h : OwnG W B To Ti ao n co ms ms rows) {i : Nat} (hi : i < n) : ∃ v, ms[i]? = some v ∧ W.ownsRow B Ti 1 v (gr rows i).length (ivs .i64 (gr rows i)) := h.row i hi
theorem OwnG.addr (h : OwnG W B To Ti ao n co ms vs rows) (h0 : 0 < n) : ∃ g, ao = some ⟨g, 0, none⟩ ∧ B ≤ g ∧ g < W.heap.size := owns_at h.out h0
theorem OwnG.cell {g : Nat} (h : OwnG W B To Ti (some ⟨g, 0, none⟩) n co ms vs rows) {i : Nat} {v : Value} (hv : ms[i]? = some v) : W.cell? ⟨g, i, none⟩ = some v ∧ W.frozen? ⟨g, i, none⟩ = false := by
 have hi : i < ms.length := (List.getElem?_eq_some_iff.1 hv).1
 have hl := h.out.1
 exact ⟨by rw [h.out.cellAt i (by omega)]; exact hv, h.out.frozenAt i⟩
theorem OwnG.mlen (h : OwnG W B To Ti ao n co ms vs rows) : ms.length = n := by have := h.out.1; omega
theorem OwnG.read (h : OwnG W B To Ti ao n co ms ms rows) : IsRows W ao n co rows := by
 have hco : n ≤ co ∧ co ≤ maxLen := by
  rcases h.out.2 with ⟨e, h0⟩ | ⟨g, cap, cur, e, _, _, h1, h2, _⟩
  ·injection e with _ e1 e2; subst h0; subst e2; exact ⟨Nat.le_refl _, Nat.zero_le _⟩
  ·injection e with _ _ e2; subst e2; exact ⟨h1, h2⟩
 refine ⟨hco.1, hco.2, h.len, fun h0 => ?_⟩
 obtain ⟨g, rfl, -, -⟩ := h.addr h0
 refine ⟨g, 0, rfl, fun i hi => ?_⟩
 obtain ⟨v, h1, h2⟩ := h.row i hi
 obtain ⟨a, c, rfl, hc⟩ := owns_slice h2
 refine ⟨a, _, c, by rw [Nat.zero_add]; exact (h.cell h1).1, .inl (IsInts.of_owns h2).1⟩
theorem OwnG.grow' (h : OwnG W B To Ti ao n co ms vs rows) {i : Nat} {v v' : Value} {zs : List Int} (hi : i < n) (hv : vs[i]? = some v) (hg : W.grownBy W' v.ownBlock) (ho : W'.ownsRow B Ti 1 v' zs.length (ivs .i64 zs)) (blk : ∀ k, v'.ownBlock = some k → v.ownBlock = some k ∨ W.heap.size ≤ k) :
  OwnG W' B To Ti ao n co ms (vs.set i v') (rows.set i zs) := by
 have hvl : i < vs.length := (List.getElem?_eq_some_iff.1 hv).1
 have hrl : i < rows.length := by rw [h.len]; exact hi
 have keep : ∀ k, k < W.heap.size → v.ownBlock ≠ some k → W'.heap[k]? = W.heap[k]? := fun k hk hne => hg.block k hk (fun e => hne e.symm)
 have get : ∀ (j : Nat) u, (vs.set i v')[j]? = some u → (j = i ∧ u = v') ∨ (j ≠ i ∧ vs[j]? = some u) := fun j u hu => by
  by_cases e : j = i
  ·subst e; rw [List.getElem?_set_self hvl] at hu; injection hu with hu; exact .inl ⟨rfl, hu.symm⟩
  ·rw [List.getElem?_set_ne (Ne.symm e)] at hu; exact .inr ⟨e, hu⟩
 refine ⟨owns_same h.out fun k hk => keep k (h.lt.1 k hk).2 (fun e => h.ne i v hv k e hk), by rw [List.length_set]; exact h.len, by rw [List.length_set]; exact h.vlen, fun j hj => ?_, fun j u hu k hk => ?_, fun j l u t hjl hu ht k hk => ?_⟩
 ·by_cases e : j = i
  ·subst e
   refine ⟨v', List.getElem?_set_self hvl, ?_⟩
   have : gr (rows.set j zs) j = zs := by simp [gr, List.getD, hrl]
   rw [this]; exact ho
  ·obtain ⟨u, h1, h2⟩ := h.row j hj
   refine ⟨u, by rw [List.getElem?_set_ne (Ne.symm e)]; exact h1, ?_⟩
   have : gr (rows.set i zs) j = gr rows j := by simp [gr, List.getD, List.getElem?_set_ne (Ne.symm e)]
   rw [this]
   exact owns_same h2 fun k hk => keep k (h2.lt k hk).2 (h.dis j i u v e h1 hv k hk)
 ·rcases get j u hu with ⟨rfl, rfl⟩ | ⟨e, hu⟩
  ·rcases blk k hk with e | e
   ·exact h.ne j v hv k e
   ·intro e2; have := (h.lt.1 k e2).2; omega
  ·exact h.ne j u hu k hk
 ·rcases get j u hu with ⟨e5, e6⟩ | ⟨e, hu'⟩
  ·subst e5 e6
   rcases get l t ht with ⟨e7, e8⟩ | ⟨e2, ht'⟩
   ·exact absurd e7.symm hjl
   ·rcases blk k hk with e | e
    ·exact h.dis j l v t hjl hv ht' k e
    ·intro e3
     have := (h.lt.2 l t k (by rw [← h.vlen]; exact (List.getElem?_eq_some_iff.1 ht').1) ht' e3).2; omega
  ·rcases get l t ht with ⟨e7, e8⟩ | ⟨e2, ht'⟩
   ·subst e7 e8
    intro e3
    rcases blk k e3 with e4 | e4
    ·exact h.dis j l u v hjl hu' hv k hk e4
    ·have := (h.lt.2 j u k (by rw [← h.vlen]; exact (List.getElem?_eq_some_iff.1 hu').1) hu' hk).2; omega
   ·exact h.dis j l u t hjl hu' ht' k hk
theorem OwnG.grow (h : OwnG W B To Ti ao n co ms vs rows) {i : Nat} {v v' : Value} {zs : List Int} (hi : i < n) (hv : vs[i]? = some v) (hg : W.grownBy W' v.ownBlock) (ho : W'.ownsRow B Ti 1 v' zs.length (ivs .i64 zs)) (hbk : v'.ownBlock = v.ownBlock ∨ v'.ownBlock = some W.heap.size ∨ v'.ownBlock = none) :
  OwnG W' B To Ti ao n co ms (vs.set i v') (rows.set i zs) :=
 h.grow' hi hv hg ho fun k hk => by
  rcases hbk with e | e | e
  ·exact .inl (by rw [← e]; exact hk)
  ·rw [e] at hk; injection hk with hk; exact .inr (by omega)
  ·rw [e] at hk; cases hk
theorem OwnG.put {g : Nat} (h : OwnG W B To Ti (some ⟨g, 0, none⟩) n co ms vs rows) {i : Nat} (hi : i < n) (v : Value) : OwnG (W.setCell ⟨g, i, none⟩ v) B To Ti (some ⟨g, 0, none⟩) n co (ms.set i v) vs rows := by
 refine ⟨(h.out.stored i v).1, h.len, h.vlen, fun j hj => ?_, h.ne, h.dis⟩
 obtain ⟨u, h1, h2⟩ := h.row j hj
 exact ⟨u, h1, owns_same h2 fun k hk => heap_setCell_other _ _ _ _ (fun e => h.ne j u h1 k hk (by rw [e]; rfl))⟩
theorem OwnG.more {W' : World} {ao' : Option Addr} {co' : Nat} (h : OwnG W B To Ti ao n co ms ms rows) {v : Value} {zs : List Int} (hv : W.ownsRow B Ti 1 v zs.length (ivs .i64 zs)) (hvo : ∀ k, v.ownBlock = some k → (Value.slice ao n co).ownBlock ≠ some k) (hvr : ∀ (i : Nat) u, ms[i]? = some u → ∀ k, v.ownBlock = some k → u.ownBlock ≠ some k)
  (ho : W'.ownsRow B To 1 (.slice ao' (n + 1) co') (n + 1) (ms ++ [v])) (hg : W.grownBy W' (Value.slice ao n co).ownBlock) (hbk : (Value.slice ao' (n + 1) co').ownBlock = (Value.slice ao n co).ownBlock ∨ (Value.slice ao' (n + 1) co').ownBlock = some W.heap.size) :
  OwnG W' B To Ti ao' (n + 1) co' (ms ++ [v]) (ms ++ [v]) (rows ++ [zs]) := by
 have hml := h.mlen
 have hrl := h.len
 have get : ∀ (j : Nat) u, (ms ++ [v])[j]? = some u → (j = n ∧ u = v) ∨ (j < n ∧ ms[j]? = some u) := fun j u hu => by
  rcases Nat.lt_or_ge j n with hj | hj
  ·rw [List.getElem?_append_left (by omega)] at hu; exact .inr ⟨hj, hu⟩
  ·rw [List.getElem?_append_right (by omega)] at hu
   have : j - ms.length = 0 := by
    have := (List.getElem?_eq_some_iff.1 hu).1
    simp at this; omega
   rw [this] at hu
   simp at hu
   exact .inl ⟨by omega, hu.symm⟩
 have keep : ∀ k, k < W.heap.size → (Value.slice ao n co).ownBlock ≠ some k → W'.heap[k]? = W.heap[k]? := fun k hk hne => hg.block k hk (fun e => hne e.symm)
 have blk : ∀ k, (Value.slice ao' (n + 1) co').ownBlock = some k → (Value.slice ao n co).ownBlock = some k ∨ k = W.heap.size := fun k hk => by
  rcases hbk with e | e
  ·exact .inl (by rw [← e]; exact hk)
  ·rw [e] at hk; injection hk with hk; exact .inr hk.symm
 refine ⟨ho, by simp [hrl], by simp [hml], fun j hj => ?_, fun j u hu k hk e => ?_, fun j l u t hjl hu ht k hk e => ?_⟩
 ·rcases Nat.lt_or_ge j n with hj' | hj'
  ·obtain ⟨u, h1, h2⟩ := h.row j hj'
   refine ⟨u, by rw [List.getElem?_append_left (by omega)]; exact h1, ?_⟩
   have : gr (rows ++ [zs]) j = gr rows j := by simp [gr, List.getD, List.getElem?_append_left (show j < rows.length by omega)]
   rw [this]
   exact owns_same h2 fun k hk => keep k (h2.lt k hk).2 (h.ne j u h1 k hk)
  ·obtain rfl : j = n := by omega
   refine ⟨v, by rw [← hml]; simp, ?_⟩
   have : gr (rows ++ [zs]) j = zs := by rw [← hrl]; simp [gr, List.getD]
   rw [this]
   exact owns_same hv fun k hk => keep k (hv.lt k hk).2 (hvo k hk)
 ·rcases get j u hu with ⟨rfl, rfl⟩ | ⟨hj, hu'⟩
  ·rcases blk k e with e2 | e2
   ·exact hvo k hk e2
   ·have := (hv.lt k hk).2; omega
  ·rcases blk k e with e2 | e2
   ·exact h.ne j u hu' k hk e2
   ·have := (h.lt.2 j u k hj hu' hk).2; omega
 ·rcases get j u hu with ⟨e1, e2⟩ | ⟨hj, hu'⟩
  ·rcases get l t ht with ⟨e3, e4⟩ | ⟨hl, ht'⟩
   ·omega
   ·subst e2; exact hvr l t ht' k hk e
  ·rcases get l t ht with ⟨e3, e4⟩ | ⟨hl, ht'⟩
   ·subst e4; exact hvr j u hu' k e hk
   ·exact h.dis j l u t hjl hu' ht' k hk e
theorem OwnG.nil (W : World) (B To Ti : Nat) : OwnG W B To Ti none 0 0 [] [] [] :=
 ⟨World.ownsRow_nil _ _ _ _, rfl, rfl, fun i hi => absurd hi (Nat.not_lt_zero _), fun i v h => by simp at h, fun i j v u _ h => by simp at h⟩
theorem OwnG.made {g N : Nat} (h : W.ownsRow B To 1 (.slice (some ⟨g, 0, none⟩) N N) N (List.replicate N (.slice none 0 0))) : OwnG W B To Ti (some ⟨g, 0, none⟩) N N (List.replicate N (.slice none 0 0)) (List.replicate N (.slice none 0 0)) (List.replicate N []) := by
 refine ⟨h, by simp, by simp, fun i hi => ⟨.slice none 0 0, by simp [hi], ?_⟩, fun i v hv k hk => ?_, fun i j v u _ hv _ k hk => ?_⟩
 ·have : gr (List.replicate N ([] : List Int)) i = [] := by simp [gr, List.getD, hi]
  rw [this]
  exact World.ownsRow_nil _ _ _ _
 ·have := List.eq_of_mem_replicate (List.mem_of_getElem? hv)
  rw [this] at hk; cases hk
 ·have := List.eq_of_mem_replicate (List.mem_of_getElem? hv)
  rw [this] at hk; cases hk
end
end Go.Proofs.YtbjdglopkpigbaaGreatDoor
