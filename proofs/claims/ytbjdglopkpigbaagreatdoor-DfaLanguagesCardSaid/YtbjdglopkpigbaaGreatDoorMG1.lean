import Derived.Laws.OwnMore
import Derived.Test.YtbjdglopkpigbaaGreatDoorMG0
/-
  Bld, Tri, NaM
-/
set_option linter.unusedVariables false
namespace Go.Proofs.YtbjdglopkpigbaaGreatDoor
open Go.RowKit
theorem wp_app_blk {P : Program} {T E : TypeId} {z : Value} {size bytes : Nat} (el : Elem P T E z size bytes) {w : World} {o : Oper} {a : Act} {K : Act → World → Prop} {Q : Exit → Act → World → Prop} (s x : Operand)
  (ho : o.op = .call { callee := .builtin .append, args := #[s, x], argTypes := #[T, T] })
  {B : Nat} {v : Value} {n : Nat} {xs : List Value} (hs : a.eval s = v) (hown : w.ownsRow B E size v n xs)
  {ao : Option Addr} {m c : Nat} {news : List Value} (hx : a.eval x = .slice ao m c)
  (hsrc : news.length = m * size ∧ (∀ ad, ao = some ad → ∀ j u, news[j]? = some u → w.cell? (ad.add j) = some u) ∧ (ao = none → m = 0 ∧ c = 0)) (h1 : ∀ u ∈ news, u.oneCell' = true)
  (hb : (n + m) * (bytes + 1) ≤ 140737488355328) (hB : B ≤ w.heap.size)
  (h : ∀ a' c' w', w'.ownsRow B E size (.slice a' (n + m) c') (n + m) (xs ++ news) → w.grownBy w' v.ownBlock → Below B w w' → ((Value.slice a' (n + m) c').ownBlock = v.ownBlock ∨ (Value.slice a' (n + m) c').ownBlock = some w.heap.size) → K (a.put o.dst (.slice a' (n + m) c')) w') : o.wp P a w K Q := by
 obtain ⟨a', c', w', hr, h2, h3, h4, h5⟩ := run_app_own (ty := o.type) el hown hsrc h1 hb hB
 have hblk : (Value.slice a' (n + m) c').ownBlock = v.ownBlock ∨ (Value.slice a' (n + m) c').ownBlock = some w.heap.size := by
  obtain ⟨i, hi, hz, hsize, hby⟩ := info_parts el.info
  subst hsize hby
  have hb1 : (n + m) * i.bytes + (n + m) ≤ 140737488355328 := by rw [← Nat.mul_succ]; exact hb
  have inj : ∀ {v' : Value} {W' : World}, (Builtin.append_ #[T, T] o.type #[v, .slice ao m c]).run P w = .ok v' W' → Value.slice a' (n + m) c' = v' := fun hh => by
   have := hr.symm.trans hh
   injection this
  cases ao with
  | none =>
   obtain ⟨rfl, rfl⟩ := hsrc.2.2 rfl
   exact .inl (by rw [inj (run_append_owned_none (P := P) (w := w) B T o.type E i i.size el.ht hi v n xs hown)])
  | some ad =>
   have hnews := hsrc.2.1 ad rfl
   rcases hown.2 with ⟨rfl, rfl⟩ | ⟨g, cap, cur, rfl, hbg, hg, hnc, hcm, hcs, htake⟩
   ·by_cases hm : m = 0
    ·rw [h5.2 ⟨rfl, hm⟩]
     exact .inl rfl
    ·refine .inr ?_
     rw [inj (run_append_nil (P := P) w T o.type E i z el.ht hi hz ad m c news hsrc.1 hnews (by omega) (by omega) (by have hb := hb1; simp only [Nat.zero_add] at hb; omega))]
     rfl
   ·by_cases hroom : n + m ≤ cap
    ·have hfit : n * i.size + news.length ≤ cur.size := by rw [hsrc.1, hcs, ← Nat.add_mul]; exact Nat.mul_le_mul_right _ hroom
     exact .inl (by rw [inj (run_append_room (P := P) w T o.type E i el.ht hi g n cap cur hg ad m c news hsrc.1 hnews h1 hroom hfit)]; rfl)
    ·have holds : ∀ j u, xs[j]? = some u → w.cell? ((⟨g, 0, none⟩ : Addr).add j) = some u := hown.cells (g := g) rfl
     refine .inr ?_
     rw [inj (run_append_grow (P := P) w T o.type E i z el.ht hi hz ⟨g, 0, none⟩ n cap xs hown.1 holds ad m c news hsrc.1 hnews (by omega) (by omega) (growslice_fits (by omega) (by omega)))]
     rfl
 unfold Oper.wp execOp
 simp only [ho, resolve, invoke, builtin, Sem.run_bind, Sem.run_pure, Result.andThen_ok, List.map_toArray, List.map_cons, List.map_nil, hs, hx, hr]
 exact h a' c' w' h2 h3 h4 hblk
def BlkAt (W : World) (b : Nat) (cs : Array Value) : Prop := ∃ T, W.heap[b]? = some (.cells cs T (0, 0))
theorem BlkAt.lt {W : World} {b : Nat} {cs : Array Value} (h : BlkAt W b cs) : b < W.heap.size := by
 obtain ⟨T, h⟩ := h
 exact (Array.getElem?_eq_some_iff.1 h).1
theorem BlkAt.new (W : World) (cs : Array Value) (T : TypeId) : BlkAt (W.alloc (.cells cs T)) W.heap.size cs := ⟨T, heap_alloc_new W _⟩
theorem BlkAt.grown {W W' : World} {b : Nat} {cs : Array Value} {r : Option Nat} (h : BlkAt W b cs) (hg : W.grownBy W' r) (hne : r ≠ some b) : BlkAt W' b cs := by
 have hl := h.lt
 obtain ⟨T, h⟩ := h
 exact ⟨T, by rw [hg.block b hl (fun e => hne e.symm)]; exact h⟩
theorem BlkAt.cell {W : World} {b : Nat} {cs : Array Value} (h : BlkAt W b cs) (j : Nat) : W.cell? ⟨b, j, none⟩ = cs[j]? ∧ W.frozen? ⟨b, j, none⟩ = false := by
 obtain ⟨T, h⟩ := h
 exact ⟨cell_of_row W b j _ _ _ h, frozen_of_row W b j _ _ h⟩
theorem BlkAt.other {W : World} {b : Nat} {cs : Array Value} (h : BlkAt W b cs) (a : Addr) (hne : b ≠ a.block) (u : Value) : BlkAt (W.setCell a u) b cs := by
 obtain ⟨T, h⟩ := h
 exact ⟨T, by rw [heap_setCell_other _ _ _ _ hne]; exact h⟩
structure Bld (w0 : World) (E : TypeId) (size : Nat) (W : World) (v : Value) (n : Nat) (xs : List Value) (pb : Value) (ps : Array Value) (bx : Value) (us : Array Value) : Prop where
 bel : Below w0.heap.size w0 W
 own : v = undef ∨ W.ownsRow w0.heap.size E size v n xs
 pair : ∀ b, pb = .slice (some ⟨b, 0, none⟩) 1 1 → BlkAt W b ps ∧ v.ownBlock ≠ some b
 box : ∀ d, bx = .pointer (some ⟨d, 0, none⟩) → w0.heap.size ≤ d ∧ BlkAt W d us ∧ v.ownBlock ≠ some d ∧ ∀ b, pb = .slice (some ⟨b, 0, none⟩) 1 1 → b ≠ d
section
variable {w0 W : World} {E : TypeId} {size n : Nat} {v : Value} {xs : List Value} {pb : Value} {ps : Array Value} {bx : Value} {us : Array Value}
theorem Bld.start (w0 : World) (E : TypeId) (size : Nat) (ps us : Array Value) : Bld w0 E size w0.drew undef 0 [] undef ps undef us :=
 ⟨(Below.refl _ _).drew, .inl rfl, fun b h => (by cases h), fun d h => (by cases h)⟩
theorem Bld.lit (h : Bld w0 E size W undef 0 [] pb ps bx us) : Bld w0 E size (W.alloc (.cells #[] E)) (.slice (some ⟨W.heap.size, 0, none⟩) 0 0) 0 [] pb ps bx us := by
 have hg := World.grownBy_alloc W (.cells #[] E) none
 refine ⟨h.bel.alloc h.bel.size _, .inr ?_, fun b e => ?_, fun d e => ?_⟩
 ·have := World.ownsRow_lit (base := w0.heap.size) (e := E) (size := size) W #[] 0 h.bel.size (by decide) (by simp)
  exact this
 ·obtain ⟨h1, h2⟩ := h.pair b e
  exact ⟨h1.grown hg (by simp), fun e2 => by simp [Value.ownBlock] at e2; have := h1.lt; omega⟩
 ·obtain ⟨h1, h2, h3, h4⟩ := h.box d e
  exact ⟨h1, h2.grown hg (by simp), fun e2 => by simp [Value.ownBlock] at e2; have := h2.lt; omega, h4⟩
theorem own_lt {B e s k : Nat} {v : Value} {n : Nat} {xs : List Value} (h : W.ownsRow B e s v n xs) (hk : v.ownBlock = some k) : k < W.heap.size := (h.lt k hk).2
theorem Bld.elem (h : Bld w0 E size W v n xs undef ps bx us) (T : TypeId) : Bld w0 E size (W.alloc (.cells ps T)) v n xs (.slice (some ⟨W.heap.size, 0, none⟩) 1 1) ps bx us := by
 have hg := World.grownBy_alloc W (.cells ps T) none
 have hne : ∀ k, v.ownBlock = some k → k ≠ W.heap.size := fun k hk => by
  rcases h.own with e | e
  ·rw [e] at hk; cases hk
  ·have := own_lt e hk; omega
 refine ⟨h.bel.alloc h.bel.size _, h.own.imp id (fun e => e.kept_below ((Below.refl _ _).alloc (Nat.le_refl _) _)), fun b e => ?_, fun d e => ?_⟩
 ·injection e with e
  injection e with e
  injection e with e
  subst e
  exact ⟨BlkAt.new W ps T, fun e2 => hne _ e2 rfl⟩
 ·obtain ⟨h1, h2, h3, h4⟩ := h.box d e
  refine ⟨h1, h2.grown hg (by simp), h3, fun b e2 => ?_⟩
  injection e2 with e2
  injection e2 with e2
  injection e2 with e2
  have := h2.lt
  omega
end
end Go.Proofs.YtbjdglopkpigbaaGreatDoor
namespace Go.Proofs.YtbjdglopkpigbaaGreatDoor
open Go.RowKit
structure A3 where
 f : Int
 l : Int
 t : Int
 deriving DecidableEq, Inhabited
def g3 (es : List A3) (i : Nat) : A3 := es.getD i ⟨0, 0, 0⟩
theorem g3_eq (es : List A3) (i : Nat) (h : i < es.length) : g3 es i = es[i] := by simp [g3, List.getD, h]
theorem g3_mem (es : List A3) (i : Nat) (h : i < es.length) : g3 es i ∈ es := by rw [g3_eq es i h]; exact List.getElem_mem h
theorem take_succ_g3 (es : List A3) (k : Nat) (h : k < es.length) : es.take (k + 1) = es.take k ++ [g3 es k] := by
 rw [g3_eq es k h, List.take_append_getElem h]
def IsArcs (w : World) (a : Option Addr) (len cap : Nat) (es : List A3) : Prop :=
 (len = 0 ∧ cap = 0 ∧ es = []) ∨
 ∃ b off, a = some ⟨b, off, none⟩ ∧ len ≤ cap ∧ cap ≤ maxLen ∧ es.length = len ∧ ∀ i, i < len → w.cell? ⟨b, off + i * 3, none⟩ = some (.int .i64 (g3 es i).f) ∧ w.cell? ⟨b, off + i * 3 + 1, none⟩ = some (.int .i64 (g3 es i).l) ∧ w.cell? ⟨b, off + i * 3 + 2, none⟩ = some (.int .i64 (g3 es i).t)
section
variable {w w' : World} {a : Option Addr} {len cap : Nat} {es : List A3}
theorem IsArcs.length (h : IsArcs w a len cap es) : es.length = len := by
 rcases h with ⟨h, _, rfl⟩ | ⟨_, _, _, _, _, h, _⟩
 ·rw [h]; rfl
 ·exact h
theorem IsArcs.capLe (h : IsArcs w a len cap es) : len ≤ cap ∧ cap ≤ maxLen := by
 rcases h with ⟨rfl, rfl, _⟩ | ⟨_, _, _, h1, h2, _⟩
 ·exact ⟨Nat.le_refl _, Nat.zero_le _⟩
 ·exact ⟨h1, h2⟩
theorem IsArcs.later (h : IsArcs w a len cap es) (hb : Below w.heap.size w w') : IsArcs w' a len cap es := by
 rcases h with h | ⟨b, off, h1, h2, h3, h4, h5⟩
 ·exact .inl h
 ·refine .inr ⟨b, off, h1, h2, h3, h4, fun i hi => ?_⟩
  obtain ⟨c1, c2, c3⟩ := h5 i hi
  exact ⟨(hb.cell (p := ⟨b, off + i * 3, none⟩) (lt_of_cell c1)).trans c1, (hb.cell (p := ⟨b, off + i * 3 + 1, none⟩) (lt_of_cell c2)).trans c2, (hb.cell (p := ⟨b, off + i * 3 + 2, none⟩) (lt_of_cell c3)).trans c3⟩
theorem IsArcs.fix (h : IsArcs w a len cap es) (h0 : 0 < len) : ∃ b off, a = some ⟨b, off, none⟩ ∧ ∀ W, Below w.heap.size w W → ∀ i, i < len → W.cell? ⟨b, off + i * 3, none⟩ = some (.int .i64 (g3 es i).f) ∧ W.cell? ⟨b, off + i * 3 + 1, none⟩ = some (.int .i64 (g3 es i).l) ∧ W.cell? ⟨b, off + i * 3 + 2, none⟩ = some (.int .i64 (g3 es i).t) := by
 rcases h with ⟨h, _⟩ | ⟨b, off, h1, h2, h3, h4, h5⟩
 ·omega
 ·refine ⟨b, off, h1, fun W hb i hi => ?_⟩
  obtain ⟨c1, c2, c3⟩ := h5 i hi
  exact ⟨(hb.cell (p := ⟨b, off + i * 3, none⟩) (lt_of_cell c1)).trans c1, (hb.cell (p := ⟨b, off + i * 3 + 1, none⟩) (lt_of_cell c2)).trans c2, (hb.cell (p := ⟨b, off + i * 3 + 2, none⟩) (lt_of_cell c3)).trans c3⟩
theorem IsArcs.get {b off : Nat} (h : IsArcs w (some ⟨b, off, none⟩) len cap es) (i : Nat) (hi : i < len) : w.cell? ⟨b, off + i * 3, none⟩ = some (.int .i64 (g3 es i).f) ∧ w.cell? ⟨b, off + i * 3 + 1, none⟩ = some (.int .i64 (g3 es i).l) ∧ w.cell? ⟨b, off + i * 3 + 2, none⟩ = some (.int .i64 (g3 es i).t) := by
 obtain ⟨b', off', e, hc⟩ := h.fix (by omega)
 injection e with e; injection e with e1 e2; subst e1; subst e2
 exact hc w (Below.refl _ _) i hi
theorem isArcs_nil (w : World) : IsArcs w none 0 0 [] := .inl ⟨rfl, rfl, rfl⟩
end
def tvs (ps : List A3) : List Value := ps.flatMap fun e => [.int .i64 e.f, .int .i64 e.l, .int .i64 e.t]
theorem tvs_cons (e : A3) (ps : List A3) : tvs (e :: ps) = .int .i64 e.f :: .int .i64 e.l :: .int .i64 e.t :: tvs ps := rfl
theorem tvs_append (xs ys : List A3) : tvs (xs ++ ys) = tvs xs ++ tvs ys := by simp [tvs]
theorem tvs_length : ∀ ps : List A3, (tvs ps).length = ps.length * 3
 | [] => rfl
 | e :: ps => by
  have := tvs_length ps
  rw [tvs_cons, List.length_cons, List.length_cons, List.length_cons, List.length_cons]
  omega
theorem tvs_get : ∀ (ps : List A3) (i : Nat), i < ps.length → (tvs ps)[i * 3]? = some (.int .i64 (g3 ps i).f) ∧ (tvs ps)[i * 3 + 1]? = some (.int .i64 (g3 ps i).l) ∧ (tvs ps)[i * 3 + 2]? = some (.int .i64 (g3 ps i).t)
 | [], i, h => absurd h (Nat.not_lt_zero _)
 | e :: ps, 0, _ => ⟨rfl, rfl, rfl⟩
 | e :: ps, i + 1, h => by
  have ih := tvs_get ps i (by simpa using h)
  rw [show (i + 1) * 3 = i * 3 + 1 + 1 + 1 by omega, tvs_cons]
  exact ih
theorem IsArcs.of_owns {w : World} {B e : Nat} {a : Option Addr} {len cap n : Nat} {ps : List A3} (h : w.ownsRow B e 3 (.slice a len cap) n (tvs ps)) : IsArcs w a len cap ps ∧ len = n := by
 obtain ⟨hl, h⟩ := h
 rw [tvs_length] at hl
 rcases h with ⟨e1, rfl⟩ | ⟨g, c, cur, e1, hg, hh, hn, hc, hs, ht⟩
 ·cases e1
  have : ps = [] := List.eq_nil_of_length_eq_zero (by omega)
  exact ⟨.inl ⟨rfl, rfl, this⟩, rfl⟩
 ·cases e1
  have hps : ps.length = len := by omega
  have key : ∀ j, j < len * 3 → w.cell? ⟨g, 0 + j, none⟩ = (tvs ps)[j]? := fun j hj => by
   have := congrArg (fun l => l[j]?) ht
   simp only [List.getElem?_take, if_pos hj] at this
   simp only [World.cell?, hh, Nat.zero_add]
   simpa using this
  refine ⟨.inr ⟨g, 0, rfl, hn, hc, hps, fun i hi => ?_⟩, rfl⟩
  have hp := tvs_get ps i (by omega)
  exact ⟨(key _ (by omega)).trans hp.1, (key _ (by omega)).trans hp.2.1, (key _ (by omega)).trans hp.2.2⟩
/-! Booleans. -/
def bvs (ss : List Bool) : List Value := ss.map .bool
def gb (ss : List Bool) (i : Nat) : Bool := ss.getD i false
theorem gb_eq (ss : List Bool) (i : Nat) (h : i < ss.length) : gb ss i = ss[i] := by simp [gb, List.getD, h]
theorem gb_over {ss : List Bool} {i : Nat} (h : ss.length ≤ i) : gb ss i = false := by simp [gb, List.getD, h]
theorem gb_put {ss : List Bool} {v : Nat} (hv : v < ss.length) (c : Bool) (n : Nat) : gb (ss.set v c) n = if n = v then c else gb ss n := by
 by_cases e : n = v
 ·subst e; rw [if_pos rfl]; simp [gb, List.getD, hv]
 ·rw [if_neg e]; simp [gb, List.getD, List.getElem?_set_ne (Ne.symm e)]
theorem gb_ext {xs ys : List Bool} (hl : xs.length = ys.length) (h : ∀ i, i < xs.length → gb xs i = gb ys i) : xs = ys := by
 apply List.ext_getElem hl
 intro i h1 h2
 have := h i h1
 rwa [gb_eq _ _ h1, gb_eq _ _ h2] at this
def IsBools (w : World) (a : Option Addr) (len cap : Nat) (ss : List Bool) : Prop :=
 (len = 0 ∧ cap = 0 ∧ ss = []) ∨ ∃ b off, a = some ⟨b, off, none⟩ ∧ len ≤ cap ∧ cap ≤ maxLen ∧ ss.length = len ∧ ∀ i, i < len → w.cell? ⟨b, off + i, none⟩ = some (.bool (gb ss i))
section
variable {w w' : World} {a : Option Addr} {len cap : Nat} {ss : List Bool}
theorem IsBools.length (h : IsBools w a len cap ss) : ss.length = len := by
 rcases h with ⟨h, _, rfl⟩ | ⟨_, _, _, _, _, h, _⟩
 ·rw [h]; rfl
 ·exact h
theorem IsBools.capLe (h : IsBools w a len cap ss) : len ≤ cap ∧ cap ≤ maxLen := by
 rcases h with ⟨rfl, rfl, _⟩ | ⟨_, _, _, h1, h2, _⟩
 ·exact ⟨Nat.le_refl _, Nat.zero_le _⟩
 ·exact ⟨h1, h2⟩
theorem IsBools.fix (h : IsBools w a len cap ss) (h0 : 0 < len) : ∃ b off, a = some ⟨b, off, none⟩ ∧ ∀ W, Below w.heap.size w W → ∀ i, i < len → W.cell? ⟨b, off + i, none⟩ = some (.bool (gb ss i)) := by
 rcases h with ⟨h, _⟩ | ⟨b, off, h1, h2, h3, h4, h5⟩
 ·omega
 ·exact ⟨b, off, h1, fun W hb i hi => (hb.cell (p := ⟨b, off + i, none⟩) (lt_of_cell (h5 i hi))).trans (h5 i hi)⟩
theorem IsBools.later (h : IsBools w a len cap ss) (hb : Below w.heap.size w w') : IsBools w' a len cap ss := by
 rcases h with h | ⟨b, off, h1, h2, h3, h4, h5⟩
 ·exact .inl h
 ·exact .inr ⟨b, off, h1, h2, h3, h4, fun i hi => (hb.cell (p := ⟨b, off + i, none⟩) (lt_of_cell (h5 i hi))).trans (h5 i hi)⟩
theorem IsBools.get {b off : Nat} (h : IsBools w (some ⟨b, off, none⟩) len cap ss) (i : Nat) (hi : i < len) : w.cell? ⟨b, off + i, none⟩ = some (.bool (gb ss i)) := by
 obtain ⟨b', off', e, hc⟩ := h.fix (by omega)
 injection e with e; injection e with e1 e2; subst e1; subst e2
 exact hc w (Below.refl _ _) i hi
theorem isBools_nil (w : World) : IsBools w none 0 0 [] := .inl ⟨rfl, rfl, rfl⟩
theorem IsBools.of_owns {B e n : Nat} (h : w.ownsRow B e 1 (.slice a len cap) n (bvs ss)) : IsBools w a len cap ss ∧ len = n := by
 obtain ⟨hl, h⟩ := h
 have hl : ss.length = n := by simpa [bvs] using hl
 rcases h with ⟨e1, rfl⟩ | ⟨g, c, cur, e1, hg, hh, hn, hc, hs, ht⟩
 ·cases e1
  exact ⟨.inl ⟨rfl, rfl, List.eq_nil_of_length_eq_zero hl⟩, rfl⟩
 ·cases e1
  refine ⟨.inr ⟨g, 0, rfl, hn, hc, hl, fun i hi => ?_⟩, rfl⟩
  have := congrArg (fun l => l[i]?) ht
  simp only [Nat.mul_one, List.getElem?_take, if_pos hi] at this
  simp only [World.cell?, hh, Nat.zero_add]
  have hb : (bvs ss)[i]? = some (.bool (gb ss i)) := by rw [gb_eq ss i (by omega)]; simp [bvs, hl, hi]
  rw [hb] at this
  simpa using this
end
theorem bown_cell {W : World} {B e g N c x : Nat} {ss : List Bool} (h : W.ownsRow B e 1 (.slice (some ⟨g, 0, none⟩) N c) N (bvs ss)) (hx : x < N) (hl : ss.length = N) : W.cell? ⟨g, x, none⟩ = some (.bool (gb ss x)) ∧ W.frozen? ⟨g, x, none⟩ = false := by
 refine ⟨?_, h.frozenAt x⟩
 rw [h.cellAt x (by omega), gb_eq ss x (by omega)]
 simp [bvs, hl, hx]
end Go.Proofs.YtbjdglopkpigbaaGreatDoor
namespace Go.Proofs.YtbjdglopkpigbaaGreatDoor.Na
structure Nfa where
 n : Int
 s : List Int
 fin : List Bool
 arcs : List A3
def LtN (x y : A3) : Prop := x.f < y.f ∨ (x.f = y.f ∧ (x.l < y.l ∨ (x.l = y.l ∧ x.t < y.t)))
instance (x y : A3) : Decidable (LtN x y) := by unfold LtN; infer_instance
theorem LtN.trans {x y z : A3} (h : LtN x y) (h' : LtN y z) : LtN x z := by unfold LtN at *; omega
theorem LtN.irrefl {x : A3} : ¬ LtN x x := by unfold LtN; omega
def ArcOkN (n : Int) (ar : List A3) (i : Nat) : Prop := ((0 ≤ (g3 ar i).f ∧ (g3 ar i).f < n) ∧ (0 ≤ (g3 ar i).t ∧ (g3 ar i).t < n)) ∧ (0 ≤ (g3 ar i).l ∧ (g3 ar i).l ≤ 10000) ∧ (0 < i → LtN (g3 ar (i - 1)) (g3 ar i))
def StartOk (n : Int) (s : List Int) (i : Nat) : Prop := (0 ≤ gi s i ∧ gi s i < n) ∧ (0 < i → gi s (i - 1) < gi s i)
def ValidN (a : Nfa) : Prop := (0 ≤ a.n ∧ a.n ≤ 200) ∧ (a.fin.length : Int) = a.n ∧ a.arcs.length ≤ 2000 ∧ (∀ i, i < a.s.length → StartOk a.n a.s i) ∧ ∀ i, i < a.arcs.length → ArcOkN a.n a.arcs i
theorem validN_arc {a : Nfa} {i : Nat} (hi : i < a.arcs.length) (h : ¬ ArcOkN a.n a.arcs i) : ¬ ValidN a := fun hv => h (hv.2.2.2.2 i hi)
theorem validN_start {a : Nfa} {i : Nat} (hi : i < a.s.length) (h : ¬ StartOk a.n a.s i) : ¬ ValidN a := fun hv => h (hv.2.2.2.1 i hi)
open Classical in
noncomputable def vN (a : Nfa) : Bool := decide (ValidN a)
open Classical in
theorem vN_yes {a : Nfa} (h : ValidN a) : vN a = true := by unfold vN; exact decide_eq_true h
open Classical in
theorem vN_no {a : Nfa} (h : ¬ ValidN a) : vN a = false := by unfold vN; exact decide_eq_false h
def SortedN (ar : List A3) : Prop := ar.Pairwise LtN
theorem sortedN_of_steps {ar : List A3} (h : ∀ i, 0 < i → i < ar.length → LtN (g3 ar (i - 1)) (g3 ar i)) : SortedN ar := by
 have up : ∀ d i, i + (d + 1) < ar.length → LtN (g3 ar i) (g3 ar (i + (d + 1))) := by
  intro d
  induction d with
  | zero => intro i hi; have := h (i + 1) (by omega) hi; simpa using this
  | succ d ih =>
   intro i hi
   have h1 := ih i (by omega)
   have h2 := h (i + (d + 1) + 1) (by omega) hi
   rw [show i + (d + 1) + 1 - 1 = i + (d + 1) by omega] at h2
   rw [show i + (d + 1 + 1) = i + (d + 1) + 1 by omega]
   exact h1.trans h2
 refine List.pairwise_iff_getElem.2 fun i j hi hj hij => ?_
 have := up (j - i - 1) i (by omega)
 rw [show i + (j - i - 1 + 1) = j by omega, g3_eq _ i hi, g3_eq _ j hj] at this
 exact this
theorem SortedN.lt {ar : List A3} (h : SortedN ar) {i j : Nat} (hij : i < j) (hj : j < ar.length) : LtN (g3 ar i) (g3 ar j) := by
 rw [g3_eq _ _ (by omega), g3_eq _ _ hj]
 exact List.pairwise_iff_getElem.1 h i j (by omega) hj hij
def loN (ar : List A3) (y : A3) : Nat := (ar.filter fun x => decide (LtN x y)).length
theorem loN_le (ar : List A3) (y : A3) : loN ar y ≤ ar.length := List.length_filter_le _ _
theorem loN_iff {ar : List A3} (h : SortedN ar) (y : A3) : ∀ i, i < ar.length → (i < loN ar y ↔ LtN (g3 ar i) y) := by
 induction ar with
 | nil => intro i hi; exact absurd hi (Nat.not_lt_zero _)
 | cons x l ih =>
  intro i hi
  have h' := List.pairwise_cons.1 h
  by_cases hx : LtN x y
  ·have e : loN (x :: l) y = loN l y + 1 := by unfold loN; rw [List.filter_cons_of_pos (by exact decide_eq_true hx)]; rfl
   rw [e]
   cases i with
   | zero => exact ⟨fun _ => hx, fun _ => by omega⟩
   | succ i =>
    have := ih h'.2 i (by simpa using hi)
    rw [show g3 (x :: l) (i + 1) = g3 l i from rfl, ← this]
    omega
  ·have hall : ∀ z ∈ l, ¬ LtN z y := fun z hz hzy => hx ((h'.1 z hz).trans hzy)
   have e : loN (x :: l) y = 0 := by
    unfold loN
    rw [List.filter_cons_of_neg (by simpa using hx), List.length_eq_zero_iff, List.filter_eq_nil_iff]
    intro z hz
    simpa using hall z hz
   rw [e]
   refine ⟨fun h => absurd h (Nat.not_lt_zero _), fun hl => ?_⟩
   cases i with
   | zero => exact absurd hl hx
   | succ i =>
    have hi' : i < l.length := by simpa using hi
    exact absurd hl (hall _ (g3_mem l i hi'))
theorem loN_eq {ar : List A3} (h : SortedN ar) (y : A3) {p : Nat} (hp : p ≤ ar.length) (h1 : ∀ i, i < p → LtN (g3 ar i) y) (h2 : ∀ i, p ≤ i → i < ar.length → ¬ LtN (g3 ar i) y) : p = loN ar y := by
 have hl := loN_le ar y
 rcases Nat.lt_trichotomy p (loN ar y) with h3 | h3 | h3
 ·exact absurd ((loN_iff h y p (by omega)).1 h3) (h2 p (Nat.le_refl _) (by omega))
 ·exact h3
 ·have := (loN_iff h y (loN ar y) (by omega)).2 (h1 _ h3)
  omega
theorem ValidN.sorted {a : Nfa} (h : ValidN a) : SortedN a.arcs := sortedN_of_steps fun i h0 hi => (h.2.2.2.2 i hi).2.2 h0
theorem ValidN.arc {a : Nfa} (h : ValidN a) {x : A3} (hx : x ∈ a.arcs) : ((0 ≤ x.f ∧ x.f < a.n) ∧ (0 ≤ x.t ∧ x.t < a.n)) ∧ (0 ≤ x.l ∧ x.l ≤ 10000) := by
 obtain ⟨i, hi, e⟩ := List.getElem_of_mem hx
 have := h.2.2.2.2 i hi
 unfold ArcOkN at this
 rw [g3_eq _ i hi, e] at this
 exact ⟨this.1, this.2.1⟩
theorem ValidN.start {a : Nfa} (h : ValidN a) {z : Int} (hz : z ∈ a.s) : 0 ≤ z ∧ z < a.n := by
 obtain ⟨i, hi, e⟩ := List.getElem_of_mem hz
 have := (h.2.2.2.1 i hi).1
 rw [show gi a.s i = z by rw [← e]; simp [gi, List.getD, hi]] at this
 exact this
theorem part_filter {ar : List A3} {P : A3 → Bool} {lo hi : Nat} (hle : lo ≤ hi) (hh : hi ≤ ar.length) (key : ∀ i, i < ar.length → (P (g3 ar i) = true ↔ lo ≤ i ∧ i < hi)) : (ar.drop lo).take (hi - lo) = ar.filter P := by
 have split : ar = ar.take lo ++ ((ar.drop lo).take (hi - lo) ++ ar.drop hi) := by
  have e : (ar.drop lo).drop (hi - lo) = ar.drop hi := by rw [List.drop_drop]; congr 1; omega
  rw [← e, List.take_append_drop, List.take_append_drop]
 conv => rhs; rw [split]
 rw [List.filter_append, List.filter_append]
 have f1 : (ar.take lo).filter P = [] := by
  rw [List.filter_eq_nil_iff]
  intro x hx
  obtain ⟨i, hi, e⟩ := List.getElem_of_mem hx
  rw [List.length_take] at hi
  rw [List.getElem_take] at e
  have := key i (by omega)
  rw [g3_eq _ i (by omega), e] at this
  intro h
  have := this.1 h
  omega
 have f3 : (ar.drop hi).filter P = [] := by
  rw [List.filter_eq_nil_iff]
  intro x hx
  obtain ⟨i, hi', e⟩ := List.getElem_of_mem hx
  rw [List.length_drop] at hi'
  rw [List.getElem_drop] at e
  have := key (hi + i) (by omega)
  rw [g3_eq _ _ (by omega), e] at this
  intro h
  have := this.1 h
  omega
 have f2 : ((ar.drop lo).take (hi - lo)).filter P = (ar.drop lo).take (hi - lo) := by
  rw [List.filter_eq_self]
  intro x hx
  obtain ⟨i, hi', e⟩ := List.getElem_of_mem hx
  rw [List.length_take, List.length_drop] at hi'
  rw [List.getElem_take, List.getElem_drop] at e
  have := key (lo + i) (by omega)
  rw [g3_eq _ _ (by omega), e] at this
  exact this.2 (by omega)
 rw [f1, f2, f3]
 simp
def arcsN (ar : List A3) (q c : Int) : List A3 := ar.filter fun x => decide (x.f = q) && decide (x.l = c)
def outsN (ar : List A3) (q : Int) : List A3 := ar.filter fun x => decide (x.f = q) && decide (1 ≤ x.l)
theorem loN_key {ar : List A3} (ht : ∀ x ∈ ar, 0 ≤ x.t) {x : A3} (hx : x ∈ ar) (q c : Int) : LtN x ⟨q, c, -1⟩ ↔ x.f < q ∨ (x.f = q ∧ x.l < c) := by
 have := ht x hx
 unfold LtN
 simp
 omega
theorem loN_mono {ar : List A3} (h : SortedN ar) {y z : A3} (hyz : ∀ x ∈ ar, LtN x y → LtN x z) : loN ar y ≤ loN ar z := by
 refine Nat.le_of_not_lt fun hlt => ?_
 have h1 := loN_le ar y
 have hi : loN ar z < ar.length := by omega
 have h2 := (loN_iff h y _ hi).1 hlt
 have h3 := (loN_iff h z _ hi).2 (hyz _ (g3_mem ar _ hi) h2)
 omega
theorem arcsN_part {ar : List A3} (h : SortedN ar) (ht : ∀ x ∈ ar, 0 ≤ x.t) (q c : Int) : loN ar ⟨q, c, -1⟩ ≤ loN ar ⟨q, c + 1, -1⟩ ∧ (ar.drop (loN ar ⟨q, c, -1⟩)).take (loN ar ⟨q, c + 1, -1⟩ - loN ar ⟨q, c, -1⟩) = arcsN ar q c := by
 have hle : loN ar ⟨q, c, -1⟩ ≤ loN ar ⟨q, c + 1, -1⟩ := loN_mono h fun x hx => by
  rw [loN_key ht hx, loN_key ht hx]; omega
 refine ⟨hle, part_filter hle (loN_le _ _) fun i hi => ?_⟩
 have e0 := (loN_iff h ⟨q, c, -1⟩ i hi).trans (loN_key ht (g3_mem ar i hi) q c)
 have e1 := (loN_iff h ⟨q, c + 1, -1⟩ i hi).trans (loN_key ht (g3_mem ar i hi) q (c + 1))
 simp only [Bool.and_eq_true, decide_eq_true_eq]
 omega
theorem outsN_part {ar : List A3} (h : SortedN ar) (ht : ∀ x ∈ ar, 0 ≤ x.t) (q : Int) {k : Nat} (hk : k ≤ ar.length) (hl : loN ar ⟨q, 1, -1⟩ ≤ k) (hin : ∀ i, loN ar ⟨q, 1, -1⟩ ≤ i → i < k → (g3 ar i).f = q) (hend : k < ar.length → (g3 ar k).f ≠ q) : (ar.drop (loN ar ⟨q, 1, -1⟩)).take (k - loN ar ⟨q, 1, -1⟩) = outsN ar q := by
 refine part_filter hl hk fun i hi => ?_
 have e0 := (loN_iff h ⟨q, 1, -1⟩ i hi).trans (loN_key ht (g3_mem ar i hi) q 1)
 simp only [Bool.and_eq_true, decide_eq_true_eq]
 constructor
 ·rintro ⟨h1, h2⟩
  have h3 : loN ar ⟨q, 1, -1⟩ ≤ i := by omega
  refine ⟨h3, Nat.lt_of_not_le fun hge => ?_⟩
  have hkl : k < ar.length := by omega
  rcases Nat.lt_or_ge k i with h4 | h4
  ·have h5 := h.lt h4 hi
   have h6 := (loN_iff h ⟨q, 1, -1⟩ k hkl)
   have h7 := h6.trans (loN_key ht (g3_mem ar k hkl) q 1)
   have h8 := hend hkl
   unfold LtN at h5
   omega
  ·rw [show i = k by omega] at h1
   exact hend hkl h1
 ·rintro ⟨h1, h2⟩
  have h3 := hin i h1 h2
  refine ⟨h3, ?_⟩
  omega
end Go.Proofs.YtbjdglopkpigbaaGreatDoor.Na
