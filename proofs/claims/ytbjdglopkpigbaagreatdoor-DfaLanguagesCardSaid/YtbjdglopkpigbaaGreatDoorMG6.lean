import Derived.Test.YtbjdglopkpigbaaGreatDoorMG1
import Derived.Test.YtbjdglopkpigbaaGreatDoorMG2
import Derived.Test.YtbjdglopkpigbaaGreatDoorMG4
/-
  NaRv, Pcs, Fam2
-/
set_option linter.unusedVariables false
namespace Go.Proofs.YtbjdglopkpigbaaGreatDoor.Na
theorem gi_mem' {l : List Int} {i : Nat} (hi : i < l.length) : gi l i ∈ l := by
 have : gi l i = l[i] := by simp [gi, List.getD, hi]
 rw [this]; exact List.getElem_mem hi
theorem SortedN.step {ar : List A3} (h : SortedN ar) {i : Nat} (h0 : 0 < i) (hi : i < ar.length) : LtN (g3 ar (i - 1)) (g3 ar i) := h.lt (by omega) hi
theorem gb_ext' {xs ys : List Bool} (hl : xs.length = ys.length) (h : ∀ i, i < xs.length → gb xs i = gb ys i) : xs = ys := by
 apply List.ext_getElem hl
 intro i h1 h2
 have := h i h1
 simpa [gb, List.getD, h1, h2] using this
end Go.Proofs.YtbjdglopkpigbaaGreatDoor.Na
namespace Go.Proofs.YtbjdglopkpigbaaGreatDoor
open Go.RowKit
theorem below_grows {w w' : World} (h : Below w.heap.size w w') (r : Option Nat) : w.grownBy w' r := ⟨h.os, h.tape, h.output, h.size, fun k hk _ => h.block k hk⟩
inductive Pc where
 | row (E : TypeId) (size : Nat) (v : Value) (n : Nat) (xs : List Value)
 | blk (b : Nat) (cs : Array Value)
 | obj (b : Nat) (φ : Obj → Prop)
def Pc.At (W : World) (B : Nat) : Pc → Prop
 | .row E size v n xs => W.ownsRow B E size v n xs
 | .blk b cs => B ≤ b ∧ BlkAt W b cs
 | .obj b φ => B ≤ b ∧ ∃ o, W.heap[b]? = some o ∧ φ o
def Pc.own : Pc → Option Nat
 | .row _ _ v _ _ => v.ownBlock
 | .blk b _ => some b
 | .obj b _ => some b
theorem Pc.At.lt {W : World} {B : Nat} {p : Pc} (h : p.At W B) {k : Nat} (hk : p.own = some k) : B ≤ k ∧ k < W.heap.size := by
 cases p with
 | row E size v n xs => exact World.ownsRow.lt h k hk
 | blk b cs => injection hk with hk; subst hk; exact ⟨h.1, h.2.lt⟩
 | obj b φ =>
  injection hk with hk
  subst hk
  obtain ⟨h1, o, h2, _⟩ := h
  exact ⟨h1, (Array.getElem?_eq_some_iff.1 h2).1⟩
theorem Pc.At.grown {W W' : World} {B : Nat} {p : Pc} {r : Option Nat} (h : p.At W B) (hg : W.grownBy W' r) (hne : ∀ k, p.own = some k → r ≠ some k) : p.At W' B := by
 cases p with
 | row E size v n xs =>
  refine World.ownsRow.kept h hg ?_
  cases hv : v.ownBlock with
  | none => exact .inl rfl
  | some k => exact .inr fun e => hne k hv e.symm
 | blk b cs => exact ⟨h.1, h.2.grown hg (hne b rfl)⟩
 | obj b φ =>
  obtain ⟨h1, o, h2, h3⟩ := h
  exact ⟨h1, o, by rw [hg.block b (Array.getElem?_eq_some_iff.1 h2).1 (fun e => hne b rfl e.symm)]; exact h2, h3⟩
structure Pcs (W : World) (B : Nat) (ps : List Pc) : Prop where
 each : ∀ (i : Nat) (p : Pc), ps[i]? = some p → p.At W B
 apart : ∀ (i j : Nat) (p q : Pc), i ≠ j → ps[i]? = some p → ps[j]? = some q → ∀ k, p.own = some k → q.own ≠ some k
section
variable {W W' : World} {B : Nat} {ps : List Pc}
theorem Pcs.nil (W : World) (B : Nat) : Pcs W B [] := ⟨fun i p h => by simp at h, fun i j p q _ h => by simp at h⟩
theorem Pcs.quiet (h : Pcs W B ps) (hg : W.grownBy W' none) : Pcs W' B ps :=
 ⟨fun i p hp => (h.each i p hp).grown hg (fun k _ e => by cases e), h.apart⟩
theorem Pcs.put (h : Pcs W B ps) (i : Nat) {p : Pc} (p' : Pc) (hp : ps[i]? = some p) (hg : W.grownBy W' p.own) (h' : p'.At W' B) (ho : ∀ k, p'.own = some k → p.own = some k ∨ W.heap.size ≤ k) : Pcs W' B (ps.set i p') := by
 have hi : i < ps.length := (List.getElem?_eq_some_iff.1 hp).1
 have self : (ps.set i p')[i]? = some p' := by simp [hi]
 have other : ∀ j, j ≠ i → (ps.set i p')[j]? = ps[j]? := fun j hj => List.getElem?_set_ne (Ne.symm hj)
 have no : ∀ j q, j ≠ i → ps[j]? = some q → ∀ k, q.own = some k → p'.own ≠ some k := fun j q hj hq k hk e => by
  rcases ho k e with h1 | h1
  ·exact h.apart j i q p hj hq hp k hk h1
  ·have := ((h.each j q hq).lt hk).2; omega
 refine ⟨fun j q hq => ?_, fun j l q r hne hq hr k hk => ?_⟩
 ·by_cases hj : j = i
  ·subst hj; rw [self] at hq; injection hq with hq; subst hq; exact h'
  ·rw [other j hj] at hq
   exact (h.each j q hq).grown hg fun k hk e => h.apart j i q p hj hq hp k hk e
 ·by_cases hj : j = i
  ·subst hj
   rw [self] at hq; injection hq with hq; subst hq
   have hl : l ≠ j := fun e => hne e.symm
   rw [other l hl] at hr
   exact fun e => no l r hl hr k e hk
  ·rw [other j hj] at hq
   by_cases hl : l = i
   ·subst hl
    rw [self] at hr; injection hr with hr; subst hr
    exact no j q hj hq k hk
   ·rw [other l hl] at hr
    exact h.apart j l q r hne hq hr k hk
theorem Pcs.add (h : Pcs W B ps) (p' : Pc) (hg : W.grownBy W' none) (h' : p'.At W' B) (ho : ∀ k, p'.own = some k → W.heap.size ≤ k) : Pcs W' B (ps ++ [p']) := by
 have hq := h.quiet hg
 have low : ∀ i p, (ps ++ [p'])[i]? = some p → (i < ps.length ∧ ps[i]? = some p) ∨ (i = ps.length ∧ p = p') := fun i p hp => by
  rcases Nat.lt_trichotomy i ps.length with hi | hi | hi
  ·rw [List.getElem?_append_left hi] at hp; exact .inl ⟨hi, hp⟩
  ·subst hi; simp at hp; exact .inr ⟨rfl, hp.symm⟩
  ·rw [List.getElem?_append_right (by omega), List.getElem?_eq_none (by simp; omega)] at hp; cases hp
 refine ⟨fun i p hp => ?_, fun i j p q hne hp hq' k hk => ?_⟩
 ·rcases low i p hp with ⟨_, h1⟩ | ⟨_, rfl⟩
  ·exact hq.each i p h1
  ·exact h'
 ·rcases low i p hp with ⟨hi, h1⟩ | ⟨hi, rfl⟩
  ·rcases low j q hq' with ⟨hj, h2⟩ | ⟨hj, rfl⟩
   ·exact h.apart i j p q hne h1 h2 k hk
   ·intro e
    have := ho k e
    have := ((h.each i p h1).lt hk).2
    omega
  ·rcases low j q hq' with ⟨hj, h2⟩ | ⟨hj, rfl⟩
   ·intro e
    have := ho k hk
    have := ((h.each j q h2).lt e).2
    omega
   ·omega
theorem Pcs.new (h : Pcs W B ps) (hB : B ≤ W.heap.size) (cs : Array Value) (T : TypeId) : Pcs (W.alloc (.cells cs T)) B (ps ++ [.blk W.heap.size cs]) :=
 h.add _ (below_grows ((Below.refl _ _).alloc (Nat.le_refl _) _) none) ⟨hB, BlkAt.new W cs T⟩ fun k e => by injection e with e; omega
theorem Pcs.empty (h : Pcs W B ps) (E : TypeId) (size : Nat) : Pcs W B (ps ++ [.row E size (.slice none 0 0) 0 []]) :=
 h.add _ (World.grownBy.refl _ _) (World.ownsRow_nil _ _ _ _) fun k e => by cases e
theorem BlkAt.store {b : Nat} {cs : Array Value} (h : BlkAt W b cs) (j : Nat) (u : Value) : ∃ cs', cs' = cs.setIfInBounds j u ∧ BlkAt (W.setCell ⟨b, j, none⟩ u) b cs' ∧ W.grownBy (W.setCell ⟨b, j, none⟩ u) (some b) := by
 obtain ⟨T, h⟩ := h
 have h1 := heap_setCell_same W b j _ _ u h
 refine ⟨_, rfl, ⟨T, h1⟩, ?_⟩
 have hb : Below b W (W.setCell ⟨b, j, none⟩ u) := Below.setCell (Below.refl b W) (show b ≤ (⟨b, j, none⟩ : Addr).block from Nat.le_refl b) u
 refine ⟨hb.os, hb.tape, hb.output, hb.size, fun k hk hne => heap_setCell_other _ _ _ _ fun e => hne (by rw [e])⟩
theorem Pcs.blkStore (h : Pcs W B ps) (i : Nat) {b : Nat} {cs : Array Value} (hp : ps[i]? = some (.blk b cs)) (j : Nat) (u : Value) : Pcs (W.setCell ⟨b, j, none⟩ u) B (ps.set i (.blk b (cs.setIfInBounds j u))) := by
 have hat := h.each i _ hp
 obtain ⟨_, rfl, h1, h2⟩ := hat.2.store j u
 exact h.put i _ hp h2 ⟨hat.1, h1⟩ fun k e => .inl e
theorem Pcs.rowStore (h : Pcs W B ps) (i : Nat) {E size n cap g : Nat} {xs : List Value} (hp : ps[i]? = some (.row E size (.slice (some ⟨g, 0, none⟩) n cap) n xs)) (j : Nat) (u : Value) : Pcs (W.setCell ⟨g, j, none⟩ u) B (ps.set i (.row E size (.slice (some ⟨g, 0, none⟩) n cap) n (xs.set j u))) := by
 have hat := h.each i _ hp
 obtain ⟨h1, h2⟩ := World.ownsRow.stored hat j u
 exact h.put i _ hp h2 h1 fun k e => .inl e
theorem Pcs.row (h : Pcs W B ps) (i : Nat) {E size n : Nat} {v : Value} {xs : List Value} (hp : ps[i]? = some (.row E size v n xs)) : W.ownsRow B E size v n xs := h.each i _ hp
theorem Pcs.blk (h : Pcs W B ps) (i : Nat) {b : Nat} {cs : Array Value} (hp : ps[i]? = some (.blk b cs)) : B ≤ b ∧ BlkAt W b cs := h.each i _ hp
end
theorem wp_app_pcs {P : Program} {T E : TypeId} {z : Value} {size bytes : Nat} (el : Elem P T E z size bytes) {W : World} {o : Oper} {a : Act} {K : Act → World → Prop} {Q : Exit → Act → World → Prop} (s x : Operand)
  (ho : o.op = .call { callee := .builtin .append, args := #[s, x], argTypes := #[T, T] })
  {B : Nat} {ps : List Pc} (i : Nat) {v : Value} {n : Nat} {xs : List Value} (hs : a.eval s = v) (h : Pcs W B ps) (hp : ps[i]? = some (.row E size v n xs))
  {ao : Option Addr} {m c : Nat} {news : List Value} (hx : a.eval x = .slice ao m c)
  (hsrc : news.length = m * size ∧ (∀ ad, ao = some ad → ∀ j u, news[j]? = some u → W.cell? (ad.add j) = some u) ∧ (ao = none → m = 0 ∧ c = 0)) (h1 : ∀ u ∈ news, u.oneCell' = true)
  (hb : (n + m) * (bytes + 1) ≤ 140737488355328) (hB : B ≤ W.heap.size)
  (hk : ∀ a' c' W', Pcs W' B (ps.set i (.row E size (.slice a' (n + m) c') (n + m) (xs ++ news))) → Below B W W' → K (a.put o.dst (.slice a' (n + m) c')) W') : o.wp P a W K Q := by
 refine wp_app_blk el s x ho hs (h.row i hp) hx hsrc h1 hb hB ?_
 intro a' c' W' h2 h3 h4 h5
 refine hk a' c' W' (h.put i _ hp h3 h2 fun k e => ?_) h4
 rcases h5 with h5 | h5
 ·exact .inl (h5.symm.trans e)
 ·rw [show (Pc.row E size (.slice a' (n + m) c') (n + m) (xs ++ news)).own = some W.heap.size from h5] at e
  injection e with e
  exact .inr (by omega)
theorem app_pcs {P : Program} {T E : TypeId} {z : Value} {size bytes : Nat} (el : Elem P T E z size bytes) {W : World} {ops : Array Oper} {rest : List Oper} {o : Oper} {a : Act} {Q : Exit → Act → World → Prop} (hgd : Region.wanted o (yielded ops a.tmps) = true) (s x : Operand)
  (ho : o.op = .call { callee := .builtin .append, args := #[s, x], argTypes := #[T, T] })
  {B : Nat} {ps : List Pc} (i : Nat) {v : Value} {n : Nat} {xs : List Value} (hs : a.eval s = v) (h : Pcs W B ps) (hp : ps[i]? = some (.row E size v n xs))
  {ao : Option Addr} {m c : Nat} {news : List Value} (hx : a.eval x = .slice ao m c)
  (hsrc : news.length = m * size ∧ (∀ ad, ao = some ad → ∀ j u, news[j]? = some u → W.cell? (ad.add j) = some u) ∧ (ao = none → m = 0 ∧ c = 0)) (h1 : ∀ u ∈ news, u.oneCell' = true)
  (hb : (n + m) * (bytes + 1) ≤ 140737488355328) (hB : B ≤ W.heap.size)
  (hk : ∀ a' c' W', Pcs W' B (ps.set i (.row E size (.slice a' (n + m) c') (n + m) (xs ++ news))) → Below B W W' → wpList P ops Q rest (a.put o.dst (.slice a' (n + m) c')) W') : wpList P ops Q (o :: rest) a W :=
 wpList_wanted hgd fun _ hK => wp_app_pcs el s x ho i hs h hp hx hsrc h1 hb hB fun a' c' W' h2 h3 => hK _ _ (hk a' c' W' h2 h3)
theorem new_src {size m : Nat} (W : World) (cs : Array Value) (T : TypeId) (hm : cs.toList.length = m * size) : cs.toList.length = m * size ∧ (∀ ad, (some ⟨W.heap.size, 0, none⟩ : Option Addr) = some ad → ∀ j u, cs.toList[j]? = some u → (W.alloc (.cells cs T)).cell? (ad.add j) = some u) ∧ ((some ⟨W.heap.size, 0, none⟩ : Option Addr) = none → m = 0 ∧ m = 0) := by
 refine ⟨hm, fun ad e j u hj => ?_, fun e => by cases e⟩
 injection e with e
 subst e
 rw [addr_add, Nat.zero_add, cell_of_row _ _ j _ _ _ (heap_alloc_new W _)]
 simpa using hj
end Go.Proofs.YtbjdglopkpigbaaGreatDoor
namespace Go.Proofs.YtbjdglopkpigbaaGreatDoor
open Go.RowKit
section
variable {P : Program} {a0 : Act} {C : World → Prop} {G : World → World → Prop} {Vi : Value → World → Prop} {o : Oper} {f : Nat → Value} {d : List (Nat × Nat)} {W : World}
theorem tab_noU {j : Nat} {b : Bool} (hg : o.guard = some (j, b)) (hf : f j = undef) (h : Vi undef W) : tabStep P a0 C G Vi o f d W := by
 unfold tabStep
 rw [if_neg (by simp [Region.wanted, hg, fyield, hf, undef])]
 exact h
end
section
variable {P : Program} {a0 : Act} {Vs : List (Value → Prop)} {S : (Nat → Bool) → (Nat → Value) → World → Prop} {i : Nat} {o : Oper} {d : List (Nat × Nat)} {L : Nat → Bool} {f : Nat → Value} {W : World}
end
end Go.Proofs.YtbjdglopkpigbaaGreatDoor
