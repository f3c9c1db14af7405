import Derived.Test.YtofaifeadhimjaaGreatDoorMG2
/-
  Pcs, NfaM
-/
set_option linter.unusedVariables false
namespace Go.Proofs.YtofaifeadhimjaaGreatDoor
open Go.RowKit

theorem below_grows {w w' : World} (h : Below w.heap.size w w') (r : Option Nat) : w.grownBy w' r := ⟨h.os, h.tape, h.output, h.size, fun k hk _ => h.block k hk⟩
inductive Pc where
 | row (E : TypeId) (size : Nat) (v : Value) (n : Nat) (xs : List Value)
 | blk (b : Nat) (cs : Array Value)
 | obj (b : Nat) (φ : Obj → Prop)
def Pc.At (W : World) (B : Nat) : Pc → Prop
 | .row E size v n xs => W.ownsRow B E size v n xs
 | .blk b cs => B ≤ b ∧ BlkAt W b cs
 | .obj b φ => B ≤ b ∧ ∃ o, W.heap[b]? = some o ∧ φ o
def Pc.own : Pc → Option Nat
 | .row _ _ v _ _ => v.ownBlock
 | .blk b _ => some b
 | .obj b _ => some b
theorem Pc.At.lt {W : World} {B : Nat} {p : Pc} (h : p.At W B) {k : Nat} (hk : p.own = some k) : B ≤ k ∧ k < W.heap.size := by
 cases p with
 | row E size v n xs => exact World.ownsRow.lt h k hk
 | blk b cs => injection hk with hk; subst hk; exact ⟨h.1, h.2.lt⟩
 | obj b φ =>
  injection hk with hk
  subst hk
  obtain ⟨h1, o, h2, _⟩ := h
  exact ⟨h1, (Array.getElem?_eq_some_iff.1 h2).1⟩
theorem Pc.At.grown {W W' : World} {B : Nat} {p : Pc} {r : Option Nat} (h : p.At W B) (hg : W.grownBy W' r) (hne : ∀ k, p.own = some k → r ≠ some k) : p.At W' B := by
 cases p with
 | row E size v n xs =>
  refine World.ownsRow.kept h hg ?_
  cases hv : v.ownBlock with
  | none => exact .inl rfl
  | some k => exact .inr fun e => hne k hv e.symm
 | blk b cs => exact ⟨h.1, h.2.grown hg (hne b rfl)⟩
 | obj b φ =>
  obtain ⟨h1, o, h2, h3⟩ := h
  exact ⟨h1, o, by rw [hg.block b (Array.getElem?_eq_some_iff.1 h2).1 (fun e => hne b rfl e.symm)]; exact h2, h3⟩
structure Pcs (W : World) (B : Nat) (ps : List Pc) : Prop where
 each : ∀ (i : Nat) (p : Pc), ps[i]? = some p → p.At W B
 apart : ∀ (i j : Nat) (p q : Pc), i ≠ j → ps[i]? = some p → ps[j]? = some q → ∀ k, p.own = some k → q.own ≠ some k
section
variable {W W' : World} {B : Nat} {ps : List Pc}
theorem Pcs.nil (W : World) (B : Nat) : Pcs W B [] := ⟨fun i p h => by simp at h, fun i j p q _ h => by simp at h⟩
theorem Pcs.quiet (h : Pcs W B ps) (hg : W.grownBy W' none) : Pcs W' B ps :=
 ⟨fun i p hp => (h.each i p hp).grown hg (fun k _ e => by cases e), h.apart⟩
theorem Pcs.put (h : Pcs W B ps) (i : Nat) {p : Pc} (p' : Pc) (hp : ps[i]? = some p) (hg : W.grownBy W' p.own) (h' : p'.At W' B) (ho : ∀ k, p'.own = some k → p.own = some k ∨ W.heap.size ≤ k) : Pcs W' B (ps.set i p') := by
 have hi : i < ps.length := (List.getElem?_eq_some_iff.1 hp).1
 have self : (ps.set i p')[i]? = some p' := by simp [hi]
 have other : ∀ j, j ≠ i → (ps.set i p')[j]? = ps[j]? := fun j hj => List.getElem?_set_ne (Ne.symm hj)
 have no : ∀ j q, j ≠ i → ps[j]? = some q → ∀ k, q.own = some k → p'.own ≠ some k := fun j q hj hq k hk e => by
  rcases ho k e with h1 | h1
  ·exact h.apart j i q p hj hq hp k hk h1
  ·have := ((h.each j q hq).lt hk).2; omega
 refine ⟨fun j q hq => ?_, fun j l q r hne hq hr k hk => ?_⟩
 ·by_cases hj : j = i
  ·subst hj; rw [self] at hq; injection hq with hq; subst hq; exact h'
  ·rw [other j hj] at hq
   exact (h.each j q hq).grown hg fun k hk e => h.apart j i q p hj hq hp k hk e
 ·by_cases hj : j = i
  ·subst hj
   rw [self] at hq; injection hq with hq; subst hq
   have hl : l ≠ j := fun e => hne e.symm
   rw [other l hl] at hr
   exact fun e => no l r hl hr k e hk
  ·rw [other j hj] at hq
   by_cases hl : l = i
   ·subst hl
    rw [self] at hr; injection hr with hr; subst hr
    exact no j q hj hq k hk
   ·rw [other l hl] at hr
    exact h.apart j l q r hne hq hr k hk
theorem Pcs.add (h : Pcs W B ps) (p' : Pc) (hg : W.grownBy W' none) (h' : p'.At W' B) (ho : ∀ k, p'.own = some k → W.heap.size ≤ k) : Pcs W' B (ps ++ [p']) := by
 have hq := h.quiet hg
 have low : ∀ i p, (ps ++ [p'])[i]? = some p → (i < ps.length ∧ ps[i]? = some p) ∨ (i = ps.length ∧ p = p') := fun i p hp => by
  rcases Nat.lt_trichotomy i ps.length with hi | hi | hi
  ·rw [List.getElem?_append_left hi] at hp; exact .inl ⟨hi, hp⟩
  ·subst hi; simp at hp; exact .inr ⟨rfl, hp.symm⟩
  ·rw [List.getElem?_append_right (by omega), List.getElem?_eq_none (by simp; omega)] at hp; cases hp
 refine ⟨fun i p hp => ?_, fun i j p q hne hp hq' k hk => ?_⟩
 ·rcases low i p hp with ⟨_, h1⟩ | ⟨_, rfl⟩
  ·exact hq.each i p h1
  ·exact h'
 ·rcases low i p hp with ⟨hi, h1⟩ | ⟨hi, rfl⟩
  ·rcases low j q hq' with ⟨hj, h2⟩ | ⟨hj, rfl⟩
   ·exact h.apart i j p q hne h1 h2 k hk
   ·intro e
    have := ho k e
    have := ((h.each i p h1).lt hk).2
    omega
  ·rcases low j q hq' with ⟨hj, h2⟩ | ⟨hj, rfl⟩
   ·intro e
    have := ho k hk
    have := ((h.each j q h2).lt e).2
    omega
   ·omega
theorem Pcs.new (h : Pcs W B ps) (hB : B ≤ W.heap.size) (cs : Array Value) (T : TypeId) : Pcs (W.alloc (.cells cs T)) B (ps ++ [.blk W.heap.size cs]) :=
 h.add _ (below_grows ((Below.refl _ _).alloc (Nat.le_refl _) _) none) ⟨hB, BlkAt.new W cs T⟩ fun k e => by injection e with e; omega
theorem Pcs.empty (h : Pcs W B ps) (E : TypeId) (size : Nat) : Pcs W B (ps ++ [.row E size (.slice none 0 0) 0 []]) :=
 h.add _ (World.grownBy.refl _ _) (World.ownsRow_nil _ _ _ _) fun k e => by cases e
theorem BlkAt.store {b : Nat} {cs : Array Value} (h : BlkAt W b cs) (j : Nat) (u : Value) : ∃ cs', cs' = cs.setIfInBounds j u ∧ BlkAt (W.setCell ⟨b, j, none⟩ u) b cs' ∧ W.grownBy (W.setCell ⟨b, j, none⟩ u) (some b) := by
 obtain ⟨T, h⟩ := h
 have h1 := heap_setCell_same W b j _ _ u h
 refine ⟨_, rfl, ⟨T, h1⟩, ?_⟩
 have hb : Below b W (W.setCell ⟨b, j, none⟩ u) := Below.setCell (Below.refl b W) (show b ≤ (⟨b, j, none⟩ : Addr).block from Nat.le_refl b) u
 refine ⟨hb.os, hb.tape, hb.output, hb.size, fun k hk hne => heap_setCell_other _ _ _ _ fun e => hne (by rw [e])⟩
theorem Pcs.blkStore (h : Pcs W B ps) (i : Nat) {b : Nat} {cs : Array Value} (hp : ps[i]? = some (.blk b cs)) (j : Nat) (u : Value) : Pcs (W.setCell ⟨b, j, none⟩ u) B (ps.set i (.blk b (cs.setIfInBounds j u))) := by
 have hat := h.each i _ hp
 obtain ⟨_, rfl, h1, h2⟩ := hat.2.store j u
 exact h.put i _ hp h2 ⟨hat.1, h1⟩ fun k e => .inl e
theorem Pcs.rowStore (h : Pcs W B ps) (i : Nat) {E size n cap g : Nat} {xs : List Value} (hp : ps[i]? = some (.row E size (.slice (some ⟨g, 0, none⟩) n cap) n xs)) (j : Nat) (u : Value) : Pcs (W.setCell ⟨g, j, none⟩ u) B (ps.set i (.row E size (.slice (some ⟨g, 0, none⟩) n cap) n (xs.set j u))) := by
 have hat := h.each i _ hp
 obtain ⟨h1, h2⟩ := World.ownsRow.stored hat j u
 exact h.put i _ hp h2 h1 fun k e => .inl e
theorem Pcs.row (h : Pcs W B ps) (i : Nat) {E size n : Nat} {v : Value} {xs : List Value} (hp : ps[i]? = some (.row E size v n xs)) : W.ownsRow B E size v n xs := h.each i _ hp
theorem Pcs.blk (h : Pcs W B ps) (i : Nat) {b : Nat} {cs : Array Value} (hp : ps[i]? = some (.blk b cs)) : B ≤ b ∧ BlkAt W b cs := h.each i _ hp
end
theorem wp_app_pcs {P : Program} {T E : TypeId} {z : Value} {size bytes : Nat} (el : Elem P T E z size bytes) {W : World} {o : Oper} {a : Act} {K : Act → World → Prop} {Q : Exit → Act → World → Prop} (s x : Operand)
  (ho : o.op = .call { callee := .builtin .append, args := #[s, x], argTypes := #[T, T] })
  {B : Nat} {ps : List Pc} (i : Nat) {v : Value} {n : Nat} {xs : List Value} (hs : a.eval s = v) (h : Pcs W B ps) (hp : ps[i]? = some (.row E size v n xs))
  {ao : Option Addr} {m c : Nat} {news : List Value} (hx : a.eval x = .slice ao m c)
  (hsrc : news.length = m * size ∧ (∀ ad, ao = some ad → ∀ j u, news[j]? = some u → W.cell? (ad.add j) = some u) ∧ (ao = none → m = 0 ∧ c = 0)) (h1 : ∀ u ∈ news, u.oneCell' = true)
  (hb : (n + m) * (bytes + 1) ≤ 140737488355328) (hB : B ≤ W.heap.size)
  (hk : ∀ a' c' W', Pcs W' B (ps.set i (.row E size (.slice a' (n + m) c') (n + m) (xs ++ news))) → Below B W W' → K (a.put o.dst (.slice a' (n + m) c')) W') : o.wp P a W K Q := by
 refine wp_app_blk el s x ho hs (h.row i hp) hx hsrc h1 hb hB ?_
 intro a' c' W' h2 h3 h4 h5
 refine hk a' c' W' (h.put i _ hp h3 h2 fun k e => ?_) h4
 rcases h5 with h5 | h5
 ·exact .inl (h5.symm.trans e)
 ·rw [show (Pc.row E size (.slice a' (n + m) c') (n + m) (xs ++ news)).own = some W.heap.size from h5] at e
  injection e with e
  exact .inr (by omega)
theorem app_pcs {P : Program} {T E : TypeId} {z : Value} {size bytes : Nat} (el : Elem P T E z size bytes) {W : World} {ops : Array Oper} {rest : List Oper} {o : Oper} {a : Act} {Q : Exit → Act → World → Prop} (hgd : Region.wanted o (yielded ops a.tmps) = true) (s x : Operand)
  (ho : o.op = .call { callee := .builtin .append, args := #[s, x], argTypes := #[T, T] })
  {B : Nat} {ps : List Pc} (i : Nat) {v : Value} {n : Nat} {xs : List Value} (hs : a.eval s = v) (h : Pcs W B ps) (hp : ps[i]? = some (.row E size v n xs))
  {ao : Option Addr} {m c : Nat} {news : List Value} (hx : a.eval x = .slice ao m c)
  (hsrc : news.length = m * size ∧ (∀ ad, ao = some ad → ∀ j u, news[j]? = some u → W.cell? (ad.add j) = some u) ∧ (ao = none → m = 0 ∧ c = 0)) (h1 : ∀ u ∈ news, u.oneCell' = true)
  (hb : (n + m) * (bytes + 1) ≤ 140737488355328) (hB : B ≤ W.heap.size)
  (hk : ∀ a' c' W', Pcs W' B (ps.set i (.row E size (.slice a' (n + m) c') (n + m) (xs ++ news))) → Below B W W' → wpList P ops Q rest (a.put o.dst (.slice a' (n + m) c')) W') : wpList P ops Q (o :: rest) a W :=
 wpList_wanted hgd fun _ hK => wp_app_pcs el s x ho i hs h hp hx hsrc h1 hb hB fun a' c' W' h2 h3 => hK _ _ (hk a' c' W' h2 h3)
theorem new_src {size m : Nat} (W : World) (cs : Array Value) (T : TypeId) (hm : cs.toList.length = m * size) : cs.toList.length = m * size ∧ (∀ ad, (some ⟨W.heap.size, 0, none⟩ : Option Addr) = some ad → ∀ j u, cs.toList[j]? = some u → (W.alloc (.cells cs T)).cell? (ad.add j) = some u) ∧ ((some ⟨W.heap.size, 0, none⟩ : Option Addr) = none → m = 0 ∧ m = 0) := by
 refine ⟨hm, fun ad e j u hj => ?_, fun e => by cases e⟩
 injection e with e
 subst e
 rw [addr_add, Nat.zero_add, cell_of_row _ _ j _ _ _ (heap_alloc_new W _)]
 simpa using hj
end Go.Proofs.YtofaifeadhimjaaGreatDoor

set_option linter.unusedVariables false
namespace Go.Proofs.YtofaifeadhimjaaGreatDoor

structure Nfa where
 n : Int
 s : List Int
 fin : List Bool
 arcs : List A3
def LtN (x y : A3) : Prop := x.f < y.f ∨ (x.f = y.f ∧ (x.l < y.l ∨ (x.l = y.l ∧ x.t < y.t)))
instance (x y : A3) : Decidable (LtN x y) := by unfold LtN; infer_instance
theorem LtN.trans {x y z : A3} (h : LtN x y) (h' : LtN y z) : LtN x z := by unfold LtN at *; omega
theorem LtN.irrefl {x : A3} : ¬ LtN x x := by unfold LtN; omega
def ArcOkN (n : Int) (ar : List A3) (i : Nat) : Prop := ((0 ≤ (g3 ar i).f ∧ (g3 ar i).f < n) ∧ (0 ≤ (g3 ar i).t ∧ (g3 ar i).t < n)) ∧ (0 ≤ (g3 ar i).l ∧ (g3 ar i).l ≤ 10000) ∧ (0 < i → LtN (g3 ar (i - 1)) (g3 ar i))
def StartOk (n : Int) (s : List Int) (i : Nat) : Prop := (0 ≤ gi s i ∧ gi s i < n) ∧ (0 < i → gi s (i - 1) < gi s i)
def ValidN (a : Nfa) : Prop := (0 ≤ a.n ∧ a.n ≤ 200) ∧ (a.fin.length : Int) = a.n ∧ a.arcs.length ≤ 2000 ∧ (∀ i, i < a.s.length → StartOk a.n a.s i) ∧ ∀ i, i < a.arcs.length → ArcOkN a.n a.arcs i
theorem validN_arc {a : Nfa} {i : Nat} (hi : i < a.arcs.length) (h : ¬ ArcOkN a.n a.arcs i) : ¬ ValidN a := fun hv => h (hv.2.2.2.2 i hi)
theorem validN_start {a : Nfa} {i : Nat} (hi : i < a.s.length) (h : ¬ StartOk a.n a.s i) : ¬ ValidN a := fun hv => h (hv.2.2.2.1 i hi)
open Classical in
noncomputable def vN (a : Nfa) : Bool := decide (ValidN a)
open Classical in
theorem vN_yes {a : Nfa} (h : ValidN a) : vN a = true := by unfold vN; exact decide_eq_true h
open Classical in
theorem vN_no {a : Nfa} (h : ¬ ValidN a) : vN a = false := by unfold vN; exact decide_eq_false h
def SortedN (ar : List A3) : Prop := ar.Pairwise LtN
theorem sortedN_of_steps {ar : List A3} (h : ∀ i, 0 < i → i < ar.length → LtN (g3 ar (i - 1)) (g3 ar i)) : SortedN ar := by
 have up : ∀ d i, i + (d + 1) < ar.length → LtN (g3 ar i) (g3 ar (i + (d + 1))) := by
  intro d
  induction d with
  | zero => intro i hi; have := h (i + 1) (by omega) hi; simpa using this
  | succ d ih =>
   intro i hi
   have h1 := ih i (by omega)
   have h2 := h (i + (d + 1) + 1) (by omega) hi
   rw [show i + (d + 1) + 1 - 1 = i + (d + 1) by omega] at h2
   rw [show i + (d + 1 + 1) = i + (d + 1) + 1 by omega]
   exact h1.trans h2
 refine List.pairwise_iff_getElem.2 fun i j hi hj hij => ?_
 have := up (j - i - 1) i (by omega)
 rw [show i + (j - i - 1 + 1) = j by omega, g3_eq _ i hi, g3_eq _ j hj] at this
 exact this
theorem SortedN.lt {ar : List A3} (h : SortedN ar) {i j : Nat} (hij : i < j) (hj : j < ar.length) : LtN (g3 ar i) (g3 ar j) := by
 rw [g3_eq _ _ (by omega), g3_eq _ _ hj]
 exact List.pairwise_iff_getElem.1 h i j (by omega) hj hij
def loN (ar : List A3) (y : A3) : Nat := (ar.filter fun x => decide (LtN x y)).length
theorem loN_le (ar : List A3) (y : A3) : loN ar y ≤ ar.length := List.length_filter_le _ _
theorem loN_iff {ar : List A3} (h : SortedN ar) (y : A3) : ∀ i, i < ar.length → (i < loN ar y ↔ LtN (g3 ar i) y) := by
 induction ar with
 | nil => intro i hi; exact absurd hi (Nat.not_lt_zero _)
 | cons x l ih =>
  intro i hi
  have h' := List.pairwise_cons.1 h
  by_cases hx : LtN x y
  ·have e : loN (x :: l) y = loN l y + 1 := by unfold loN; rw [List.filter_cons_of_pos (by exact decide_eq_true hx)]; rfl
   rw [e]
   cases i with
   | zero => exact ⟨fun _ => hx, fun _ => by omega⟩
   | succ i =>
    have := ih h'.2 i (by simpa using hi)
    rw [show g3 (x :: l) (i + 1) = g3 l i from rfl, ← this]
    omega
  ·have hall : ∀ z ∈ l, ¬ LtN z y := fun z hz hzy => hx ((h'.1 z hz).trans hzy)
   have e : loN (x :: l) y = 0 := by
    unfold loN
    rw [List.filter_cons_of_neg (by simpa using hx), List.length_eq_zero_iff, List.filter_eq_nil_iff]
    intro z hz
    simpa using hall z hz
   rw [e]
   refine ⟨fun h => absurd h (Nat.not_lt_zero _), fun hl => ?_⟩
   cases i with
   | zero => exact absurd hl hx
   | succ i =>
    have hi' : i < l.length := by simpa using hi
    exact absurd hl (hall _ (g3_mem l i hi'))
theorem loN_eq {ar : List A3} (h : SortedN ar) (y : A3) {p : Nat} (hp : p ≤ ar.length) (h1 : ∀ i, i < p → LtN (g3 ar i) y) (h2 : ∀ i, p ≤ i → i < ar.length → ¬ LtN (g3 ar i) y) : p = loN ar y := by
 have hl := loN_le ar y
 rcases Nat.lt_trichotomy p (loN ar y) with h3 | h3 | h3
 ·exact absurd ((loN_iff h y p (by omega)).1 h3) (h2 p (Nat.le_refl _) (by omega))
 ·exact h3
 ·have := (loN_iff h y (loN ar y) (by omega)).2 (h1 _ h3)
  omega
theorem ValidN.sorted {a : Nfa} (h : ValidN a) : SortedN a.arcs := sortedN_of_steps fun i h0 hi => (h.2.2.2.2 i hi).2.2 h0
theorem ValidN.arc {a : Nfa} (h : ValidN a) {x : A3} (hx : x ∈ a.arcs) : ((0 ≤ x.f ∧ x.f < a.n) ∧ (0 ≤ x.t ∧ x.t < a.n)) ∧ (0 ≤ x.l ∧ x.l ≤ 10000) := by
 obtain ⟨i, hi, e⟩ := List.getElem_of_mem hx
 have := h.2.2.2.2 i hi
 unfold ArcOkN at this
 rw [g3_eq _ i hi, e] at this
 exact ⟨this.1, this.2.1⟩
theorem ValidN.start {a : Nfa} (h : ValidN a) {z : Int} (hz : z ∈ a.s) : 0 ≤ z ∧ z < a.n := by
 obtain ⟨i, hi, e⟩ := List.getElem_of_mem hz
 have := (h.2.2.2.1 i hi).1
 rw [show gi a.s i = z by rw [← e]; simp [gi, List.getD, hi]] at this
 exact this
theorem part_filter {ar : List A3} {P : A3 → Bool} {lo hi : Nat} (hle : lo ≤ hi) (hh : hi ≤ ar.length) (key : ∀ i, i < ar.length → (P (g3 ar i) = true ↔ lo ≤ i ∧ i < hi)) : (ar.drop lo).take (hi - lo) = ar.filter P := by
 have split : ar = ar.take lo ++ ((ar.drop lo).take (hi - lo) ++ ar.drop hi) := by
  have e : (ar.drop lo).drop (hi - lo) = ar.drop hi := by rw [List.drop_drop]; congr 1; omega
  rw [← e, List.take_append_drop, List.take_append_drop]
 conv => rhs; rw [split]
 rw [List.filter_append, List.filter_append]
 have f1 : (ar.take lo).filter P = [] := by
  rw [List.filter_eq_nil_iff]
  intro x hx
  obtain ⟨i, hi, e⟩ := List.getElem_of_mem hx
  rw [List.length_take] at hi
  rw [List.getElem_take] at e
  have := key i (by omega)
  rw [g3_eq _ i (by omega), e] at this
  intro h
  have := this.1 h
  omega
 have f3 : (ar.drop hi).filter P = [] := by
  rw [List.filter_eq_nil_iff]
  intro x hx
  obtain ⟨i, hi', e⟩ := List.getElem_of_mem hx
  rw [List.length_drop] at hi'
  rw [List.getElem_drop] at e
  have := key (hi + i) (by omega)
  rw [g3_eq _ _ (by omega), e] at this
  intro h
  have := this.1 h
  omega
 have f2 : ((ar.drop lo).take (hi - lo)).filter P = (ar.drop lo).take (hi - lo) := by
  rw [List.filter_eq_self]
  intro x hx
  obtain ⟨i, hi', e⟩ := List.getElem_of_mem hx
  rw [List.length_take, List.length_drop] at hi'
  rw [List.getElem_take, List.getElem_drop] at e
  have := key (lo + i) (by omega)
  rw [g3_eq _ _ (by omega), e] at this
  exact this.2 (by omega)
 rw [f1, f2, f3]
 simp
def arcsN (ar : List A3) (q c : Int) : List A3 := ar.filter fun x => decide (x.f = q) && decide (x.l = c)
def outsN (ar : List A3) (q : Int) : List A3 := ar.filter fun x => decide (x.f = q) && decide (1 ≤ x.l)
theorem loN_key {ar : List A3} (ht : ∀ x ∈ ar, 0 ≤ x.t) {x : A3} (hx : x ∈ ar) (q c : Int) : LtN x ⟨q, c, -1⟩ ↔ x.f < q ∨ (x.f = q ∧ x.l < c) := by
 have := ht x hx
 unfold LtN
 simp
 omega
theorem loN_mono {ar : List A3} (h : SortedN ar) {y z : A3} (hyz : ∀ x ∈ ar, LtN x y → LtN x z) : loN ar y ≤ loN ar z := by
 refine Nat.le_of_not_lt fun hlt => ?_
 have h1 := loN_le ar y
 have hi : loN ar z < ar.length := by omega
 have h2 := (loN_iff h y _ hi).1 hlt
 have h3 := (loN_iff h z _ hi).2 (hyz _ (g3_mem ar _ hi) h2)
 omega
theorem arcsN_part {ar : List A3} (h : SortedN ar) (ht : ∀ x ∈ ar, 0 ≤ x.t) (q c : Int) : loN ar ⟨q, c, -1⟩ ≤ loN ar ⟨q, c + 1, -1⟩ ∧ (ar.drop (loN ar ⟨q, c, -1⟩)).take (loN ar ⟨q, c + 1, -1⟩ - loN ar ⟨q, c, -1⟩) = arcsN ar q c := by
 have hle : loN ar ⟨q, c, -1⟩ ≤ loN ar ⟨q, c + 1, -1⟩ := loN_mono h fun x hx => by
  rw [loN_key ht hx, loN_key ht hx]; omega
 refine ⟨hle, part_filter hle (loN_le _ _) fun i hi => ?_⟩
 have e0 := (loN_iff h ⟨q, c, -1⟩ i hi).trans (loN_key ht (g3_mem ar i hi) q c)
 have e1 := (loN_iff h ⟨q, c + 1, -1⟩ i hi).trans (loN_key ht (g3_mem ar i hi) q (c + 1))
 simp only [Bool.and_eq_true, decide_eq_true_eq]
 omega
theorem outsN_part {ar : List A3} (h : SortedN ar) (ht : ∀ x ∈ ar, 0 ≤ x.t) (q : Int) {k : Nat} (hk : k ≤ ar.length) (hl : loN ar ⟨q, 1, -1⟩ ≤ k) (hin : ∀ i, loN ar ⟨q, 1, -1⟩ ≤ i → i < k → (g3 ar i).f = q) (hend : k < ar.length → (g3 ar k).f ≠ q) : (ar.drop (loN ar ⟨q, 1, -1⟩)).take (k - loN ar ⟨q, 1, -1⟩) = outsN ar q := by
 refine part_filter hl hk fun i hi => ?_
 have e0 := (loN_iff h ⟨q, 1, -1⟩ i hi).trans (loN_key ht (g3_mem ar i hi) q 1)
 simp only [Bool.and_eq_true, decide_eq_true_eq]
 constructor
 ·rintro ⟨h1, h2⟩
  have h3 : loN ar ⟨q, 1, -1⟩ ≤ i := by omega
  refine ⟨h3, Nat.lt_of_not_le fun hge => ?_⟩
  have hkl : k < ar.length := by omega
  rcases Nat.lt_or_ge k i with h4 | h4
  ·have h5 := h.lt h4 hi
   have h6 := (loN_iff h ⟨q, 1, -1⟩ k hkl)
   have h7 := h6.trans (loN_key ht (g3_mem ar k hkl) q 1)
   have h8 := hend hkl
   unfold LtN at h5
   omega
  ·rw [show i = k by omega] at h1
   exact hend hkl h1
 ·rintro ⟨h1, h2⟩
  have h3 := hin i h1 h2
  refine ⟨h3, ?_⟩
  omega
end Go.Proofs.YtofaifeadhimjaaGreatDoor
