import Derived.Laws.OwnMore
import Derived.Test.YtpcbmhfnefhenaaMG0
/-
  Own, Bld
-/
namespace Go.Proofs.Ytpcbmhfnefhenaa
open Go.RowKit

theorem owns_at {w : World} {B e n cap : Nat} {a : Option Addr} {xs : List Value} (h : w.ownsRow B e 1 (.slice a n cap) n xs) (hn : 0 < n) : ∃ g, a = some ⟨g, 0, none⟩ ∧ B ≤ g ∧ g < w.heap.size := by
 rcases h.2 with ⟨h', _⟩ | ⟨g', cap', cur, h', hb, hg, _⟩
 ·simp at h'; omega
 ·simp only [Value.slice.injEq] at h'
  exact ⟨g', h'.1, hb, (Array.getElem?_eq_some_iff.1 hg).1⟩

theorem ivs_set (k : IntKind) (xs : List Int) (j : Nat) (v : Int) : (ivs k xs).set j (.int k v) = ivs k (xs.set j v) := by simp [ivs]
theorem ivs_get (k : IntKind) (xs : List Int) (j : Nat) (h : j < xs.length) : (ivs k xs)[j]? = some (.int k (gi xs j)) := by
 simp [ivs, getElem?_gi xs j h]

theorem own_cell {w : World} {B e n cap g : Nat} {k : IntKind} {xs : List Int} (h : w.ownsRow B e 1 (.slice (some ⟨g, 0, none⟩) n cap) n (ivs k xs)) (j : Nat) (hj : j < n) (hx : xs.length = n) :
  w.cell? ⟨g, j, none⟩ = some (.int k (gi xs j)) ∧ w.frozen? ⟨g, j, none⟩ = false :=
 ⟨by rw [h.cellAt j (by omega), ivs_get k xs j (by omega)], h.frozenAt j⟩

theorem own_store {w : World} {B e n cap g : Nat} {k : IntKind} {xs : List Int} (h : w.ownsRow B e 1 (.slice (some ⟨g, 0, none⟩) n cap) n (ivs k xs)) (j : Nat) (v : Int) :
  (w.setCell ⟨g, j, none⟩ (.int k v)).ownsRow B e 1 (.slice (some ⟨g, 0, none⟩) n cap) n (ivs k (xs.set j v)) := by
 have := (h.stored j (.int k v)).1
 rw [ivs_set] at this
 exact this

theorem app_one {P : Program} {T E : TypeId} {z0 : Value} {bytes : Nat} {k : IntKind} (el : Elem P T E z0 1 bytes) {w0 : World} {ops : Array Oper} {rest : List Oper} {o : Oper} {a : Act} {Q : Exit → Act → World → Prop} (hgd : Region.wanted o (yielded ops a.tmps) = true) (s x : Operand)
  (ho : o.op = .call { callee := .builtin .append, args := #[s, x], argTypes := #[T, T] })
  {B : Nat} {v : Value} {n : Nat} {xs : List Int} (hs : a.eval s = v) (hown : w0.ownsRow B E 1 v n (ivs k xs)) {z : Int} (hx : a.eval x = .slice (some ⟨w0.heap.size, 0, none⟩) 1 1)
  (hb : (n + 1) * (bytes + 1) ≤ 140737488355328) (hB : B ≤ w0.heap.size)
  (h : ∀ a' c' w', w'.ownsRow B E 1 (.slice a' (n + 1) c') (n + 1) (ivs k (xs ++ [z])) → Below B w0 w' → wpList P ops Q rest (a.put o.dst (.slice a' (n + 1) c')) w') : wpList P ops Q (o :: rest) a (w0.alloc (.cells #[.int k z] E)) := by
 refine app_ints (k := k) (xs := xs) (ys := [z]) el hgd s x ho hs (hown.kept_below ((Below.refl _ _).alloc (Nat.le_refl _) _)) hx (new_ints k w0 E [z] 1 rfl (by decide)) hb (by simp; omega) ?_
 intro a' c' w' h1 _ h3 _
 exact h a' c' w' h1 (((Below.refl _ _).alloc hB _).trans h3)

theorem filter_snoc (p : Int → Bool) (xs : List Int) (k : Nat) (h : k < xs.length) : (xs.take (k + 1)).filter p = (xs.take k).filter p ++ if p (gi xs k) then [gi xs k] else [] := by
 rw [take_succ_gi xs k h, List.filter_append]
 congr 1
 by_cases hp : p (gi xs k) = true <;> simp [hp]
theorem filter_yes {p : Int → Bool} {xs : List Int} {k : Nat} (h : k < xs.length) (hp : p (gi xs k) = true) : (xs.take (k + 1)).filter p = (xs.take k).filter p ++ [gi xs k] := by rw [filter_snoc p xs k h, if_pos hp]
theorem filter_no {p : Int → Bool} {xs : List Int} {k : Nat} (h : k < xs.length) (hp : p (gi xs k) = false) : (xs.take (k + 1)).filter p = (xs.take k).filter p := by rw [filter_snoc p xs k h, hp]; simp

theorem IsInts.at {k : IntKind} {w : World} {a : Option Addr} {len cap : Nat} {zs : List Int} (h : IsInts k w a len cap zs) (W : World) (hb : Below w.heap.size w W) (i : Nat) (hi : i < len) :
  ∃ b off, a = some ⟨b, off, none⟩ ∧ b < w.heap.size ∧ W.cell? ⟨b, off + i, none⟩ = some (.int k (gi zs i)) := by
 rcases h with ⟨_, h0, _⟩ | ⟨b, off, rfl, _, _, _, hc⟩
 ·omega
 ·have hl := lt_of_cell (hc i hi)
  exact ⟨b, off, rfl, hl, by rw [hb.cell (p := ⟨b, off + i, none⟩) hl]; exact hc i hi⟩

theorem box2 (w : World) (A B : Array Value) (e1 e2 : TypeId) (W0 : World) (h : (w.alloc (.cells A e1)).alloc (.cells B e2) = W0) :
  W0.heap.size = w.heap.size + 2 ∧ Below w.heap.size w W0 ∧ (∀ j, W0.cell? ⟨w.heap.size, j, none⟩ = A[j]?) ∧ ∀ j, W0.cell? ⟨w.heap.size + 1, j, none⟩ = B[j]? := by
 subst h
 have h1 := heap_alloc_new w (.cells A e1)
 have h2 := heap_alloc_new (w.alloc (.cells A e1)) (.cells B e2)
 refine ⟨by simp, ((Below.refl _ _).alloc (Nat.le_refl _) _).alloc (by simp) _, fun j => ?_, fun j => ?_⟩
 ·rw [cell_of_row _ w.heap.size j A e1 (0, 0) (by rw [Below.heap_alloc _ _ _ (by simp)]; exact h1)]
 ·rw [World.size_alloc] at h2
  rw [cell_of_row _ (w.heap.size + 1) j B e2 (0, 0) h2]

theorem make_ints {P : Program} {T E : TypeId} {bytes : Nat} {k : IntKind} (el : Elem P T E (.int k 0) 1 bytes) {w : World} {ops : Array Oper} {rest : List Oper} {o : Oper} {a : Act} {Q : Exit → Act → World → Prop} (hgd : Region.wanted o (yielded ops a.tmps) = true) (l c : Operand)
  (ho : o.op = .makeSlice T l c) {B : Nat} {kl kc : IntKind} {n : Nat} {C C' : Int} (hl : a.eval l = .int kl C') (hc : a.eval c = .int kc C) (hC : C = n) (hC' : C' = n) (hb : n * (bytes + 1) ≤ 140737488355328) (hB : B ≤ w.heap.size)
  (h : ∀ w', w'.ownsRow B E 1 (.slice (some ⟨w.heap.size, 0, none⟩) n n) n (ivs k (List.replicate n 0)) → Below B w w' → w'.heap.size = w.heap.size + 1 → wpList P ops Q rest (a.put o.dst (.slice (some ⟨w.heap.size, 0, none⟩) n n)) w') : wpList P ops Q (o :: rest) a w := by
 subst hC hC'
 refine wpList_wanted hgd fun K hK => ?_
 obtain ⟨i, hi, hz, hsize, hby⟩ := info_parts el.info
 have hb1 : n * bytes + n ≤ 140737488355328 := by rw [← Nat.mul_succ]; exact hb
 have hr := run_make (P := P) w T E i (.int k 0) el.ht hi hz kl kc n n (by omega) (Int.le_refl _) (by have h2 : ((i.bytes * n : Nat) : Int) ≤ 281474976710656 := by (rw [hby, Nat.mul_comm]; omega)
                                                                                                      rwa [Int.natCast_mul] at h2) (by omega)
 simp only [Int.toNat_natCast] at hr
 have h0 : (madeCells (Value.int k 0).cells (n * i.size)).toList = ivs k (List.replicate n 0) := by
  rw [hsize, Nat.mul_one, show (Value.int k 0).cells = #[.int k 0] from rfl, toList_madeCells_one]
  simp [ivs]
 have hO := World.ownsRow_lit (base := B) (e := E) (size := 1) w (madeCells (Value.int k 0).cells (n * i.size)) n hB (by unfold maxLen; omega) (by rw [hsize]; exact size_madeCells _ _)
 rw [h0] at hO
 unfold Oper.wp
 simp [execOp, ho, hl, hc, hr, Result.andThen]
 exact hK _ _ (h _ hO ((Below.refl B w).alloc hB _) (by simp))

def PartOf (k : IntKind) (e : TypeId) (w : World) (B g n : Nat) (zs : List Int) : Prop :=
 ∃ M xs, n ≤ M ∧ xs.length = M ∧ zs = xs.take n ∧ w.ownsRow B e 1 (.slice (some ⟨g, 0, none⟩) M M) M (ivs k xs)
theorem PartOf.length {k : IntKind} {e : TypeId} {w : World} {B g n : Nat} {zs : List Int} (h : PartOf k e w B g n zs) : zs.length = n := by
 obtain ⟨M, xs, h1, h2, rfl, _⟩ := h
 simp; omega
theorem PartOf.ints {k : IntKind} {e : TypeId} {w : World} {B g n : Nat} {zs : List Int} (h : PartOf k e w B g n zs) : IsInts k w (some ⟨g, 0, none⟩) n n zs := by
 obtain ⟨M, xs, h1, h2, rfl, h3⟩ := h
 have := (IsInts.of_owns h3).1.slice 0 n n (by omega) h1 (Nat.le_refl _) h1 (a' := some ⟨g, 0, none⟩) (fun _ => by simp [Addr.add]) (fun _ => rfl)
 simpa using this
theorem PartOf.kept {k : IntKind} {e : TypeId} {w w' : World} {B g n : Nat} {zs : List Int} (h : PartOf k e w B g n zs) (hb : Below w.heap.size w w') : PartOf k e w' B g n zs := by
 obtain ⟨M, xs, h1, h2, h3, h4⟩ := h
 exact ⟨M, xs, h1, h2, h3, h4.kept_below hb⟩
theorem PartOf.from_mono {k : IntKind} {e : TypeId} {w : World} {B B' g n : Nat} {zs : List Int} (h : PartOf k e w B g n zs) (hb : B' ≤ B) : PartOf k e w B' g n zs := by
 obtain ⟨M, xs, h1, h2, h3, h4⟩ := h
 exact ⟨M, xs, h1, h2, h3, h4.from_mono hb⟩
theorem PartOf.cell {k : IntKind} {e : TypeId} {w : World} {B g n : Nat} {zs : List Int} (h : PartOf k e w B g n zs) (j : Nat) (hj : j < n) :
  w.cell? ⟨g, j, none⟩ = some (.int k (gi zs j)) ∧ w.frozen? ⟨g, j, none⟩ = false := by
 obtain ⟨M, xs, h1, h2, rfl, h4⟩ := h
 rw [gi_take _ _ _ hj]
 exact own_cell h4 j (by omega) h2
theorem PartOf.store {k : IntKind} {e : TypeId} {w : World} {B g n : Nat} {zs : List Int} (h : PartOf k e w B g n zs) (j : Nat) (v : Int) :
  PartOf k e (w.setCell ⟨g, j, none⟩ (.int k v)) B g n (zs.set j v) := by
 obtain ⟨M, xs, h1, h2, rfl, h4⟩ := h
 exact ⟨M, xs.set j v, h1, by simp [h2], by rw [List.take_set], own_store h4 j v⟩
theorem PartOf.base {k : IntKind} {e : TypeId} {w : World} {B g n : Nat} {zs : List Int} (h : PartOf k e w B g n zs) : B ≤ g ∧ g < w.heap.size := by
 obtain ⟨M, xs, h1, h2, rfl, h4⟩ := h
 rcases h4.2 with ⟨h', _⟩ | ⟨g', cap', cur, h', hb, hg, _⟩
 ·simp at h'
 ·simp only [Value.slice.injEq, Option.some.injEq, Addr.mk.injEq, and_true, true_and] at h'
  obtain ⟨rfl, rfl⟩ := h'
  exact ⟨hb, (Array.getElem?_eq_some_iff.1 hg).1⟩
theorem PartOf.below {k : IntKind} {e : TypeId} {w : World} {B g n : Nat} {zs : List Int} (h : PartOf k e w B g n zs) {a : Addr} (ha : a.block < B) (u : Value) : PartOf k e (w.setCell a u) B g n zs := by
 obtain ⟨M, xs, h1, h2, h3, h4⟩ := h
 exact ⟨M, xs, h1, h2, h3, ownsRow_setCell_below h4 ha u⟩
end Go.Proofs.Ytpcbmhfnefhenaa

set_option linter.unusedVariables false
namespace Go.Proofs.Ytpcbmhfnefhenaa
open Go.RowKit

theorem wp_app_blk {P : Program} {T E : TypeId} {z : Value} {size bytes : Nat} (el : Elem P T E z size bytes) {w : World} {o : Oper} {a : Act} {K : Act → World → Prop} {Q : Exit → Act → World → Prop} (s x : Operand)
  (ho : o.op = .call { callee := .builtin .append, args := #[s, x], argTypes := #[T, T] })
  {B : Nat} {v : Value} {n : Nat} {xs : List Value} (hs : a.eval s = v) (hown : w.ownsRow B E size v n xs)
  {ao : Option Addr} {m c : Nat} {news : List Value} (hx : a.eval x = .slice ao m c)
  (hsrc : news.length = m * size ∧ (∀ ad, ao = some ad → ∀ j u, news[j]? = some u → w.cell? (ad.add j) = some u) ∧ (ao = none → m = 0 ∧ c = 0)) (h1 : ∀ u ∈ news, u.oneCell' = true)
  (hb : (n + m) * (bytes + 1) ≤ 140737488355328) (hB : B ≤ w.heap.size)
  (h : ∀ a' c' w', w'.ownsRow B E size (.slice a' (n + m) c') (n + m) (xs ++ news) → w.grownBy w' v.ownBlock → Below B w w' → ((Value.slice a' (n + m) c').ownBlock = v.ownBlock ∨ (Value.slice a' (n + m) c').ownBlock = some w.heap.size) → K (a.put o.dst (.slice a' (n + m) c')) w') : o.wp P a w K Q := by
 obtain ⟨a', c', w', hr, h2, h3, h4, h5⟩ := run_app_own (ty := o.type) el hown hsrc h1 hb hB
 have hblk : (Value.slice a' (n + m) c').ownBlock = v.ownBlock ∨ (Value.slice a' (n + m) c').ownBlock = some w.heap.size := by
  obtain ⟨i, hi, hz, hsize, hby⟩ := info_parts el.info
  subst hsize hby
  have hb1 : (n + m) * i.bytes + (n + m) ≤ 140737488355328 := by rw [← Nat.mul_succ]; exact hb
  have inj : ∀ {v' : Value} {W' : World}, (Builtin.append_ #[T, T] o.type #[v, .slice ao m c]).run P w = .ok v' W' → Value.slice a' (n + m) c' = v' := fun hh => by
   have := hr.symm.trans hh
   injection this
  cases ao with
  | none =>
   obtain ⟨rfl, rfl⟩ := hsrc.2.2 rfl
   exact .inl (by rw [inj (run_append_owned_none (P := P) (w := w) B T o.type E i i.size el.ht hi v n xs hown)])
  | some ad =>
   have hnews := hsrc.2.1 ad rfl
   rcases hown.2 with ⟨rfl, rfl⟩ | ⟨g, cap, cur, rfl, hbg, hg, hnc, hcm, hcs, htake⟩
   ·by_cases hm : m = 0
    ·rw [h5.2 ⟨rfl, hm⟩]
     exact .inl rfl
    ·refine .inr ?_
     rw [inj (run_append_nil (P := P) w T o.type E i z el.ht hi hz ad m c news hsrc.1 hnews (by omega) (by omega) (by have hb := hb1; simp only [Nat.zero_add] at hb; omega))]
     rfl
   ·by_cases hroom : n + m ≤ cap
    ·have hfit : n * i.size + news.length ≤ cur.size := by rw [hsrc.1, hcs, ← Nat.add_mul]; exact Nat.mul_le_mul_right _ hroom
     exact .inl (by rw [inj (run_append_room (P := P) w T o.type E i el.ht hi g n cap cur hg ad m c news hsrc.1 hnews h1 hroom hfit)]; rfl)
    ·have holds : ∀ j u, xs[j]? = some u → w.cell? ((⟨g, 0, none⟩ : Addr).add j) = some u := hown.cells (g := g) rfl
     refine .inr ?_
     rw [inj (run_append_grow (P := P) w T o.type E i z el.ht hi hz ⟨g, 0, none⟩ n cap xs hown.1 holds ad m c news hsrc.1 hnews (by omega) (by omega) (growslice_fits (by omega) (by omega)))]
     rfl
 unfold Oper.wp execOp
 simp only [ho, resolve, invoke, builtin, Sem.run_bind, Sem.run_pure, Result.andThen_ok, List.map_toArray, List.map_cons, List.map_nil, hs, hx, hr]
 exact h a' c' w' h2 h3 h4 hblk

def BlkAt (W : World) (b : Nat) (cs : Array Value) : Prop := ∃ T, W.heap[b]? = some (.cells cs T (0, 0))
theorem BlkAt.lt {W : World} {b : Nat} {cs : Array Value} (h : BlkAt W b cs) : b < W.heap.size := by
 obtain ⟨T, h⟩ := h
 exact (Array.getElem?_eq_some_iff.1 h).1
theorem BlkAt.new (W : World) (cs : Array Value) (T : TypeId) : BlkAt (W.alloc (.cells cs T)) W.heap.size cs := ⟨T, heap_alloc_new W _⟩
theorem BlkAt.grown {W W' : World} {b : Nat} {cs : Array Value} {r : Option Nat} (h : BlkAt W b cs) (hg : W.grownBy W' r) (hne : r ≠ some b) : BlkAt W' b cs := by
 have hl := h.lt
 obtain ⟨T, h⟩ := h
 exact ⟨T, by rw [hg.block b hl (fun e => hne e.symm)]; exact h⟩
theorem BlkAt.cell {W : World} {b : Nat} {cs : Array Value} (h : BlkAt W b cs) (j : Nat) : W.cell? ⟨b, j, none⟩ = cs[j]? ∧ W.frozen? ⟨b, j, none⟩ = false := by
 obtain ⟨T, h⟩ := h
 exact ⟨cell_of_row W b j _ _ _ h, frozen_of_row W b j _ _ h⟩
theorem BlkAt.other {W : World} {b : Nat} {cs : Array Value} (h : BlkAt W b cs) (a : Addr) (hne : b ≠ a.block) (u : Value) : BlkAt (W.setCell a u) b cs := by
 obtain ⟨T, h⟩ := h
 exact ⟨T, by rw [heap_setCell_other _ _ _ _ hne]; exact h⟩

structure Bld (w0 : World) (E : TypeId) (size : Nat) (W : World) (v : Value) (n : Nat) (xs : List Value) (pb : Value) (ps : Array Value) (bx : Value) (us : Array Value) : Prop where
 bel : Below w0.heap.size w0 W
 own : v = undef ∨ W.ownsRow w0.heap.size E size v n xs
 pair : ∀ b, pb = .slice (some ⟨b, 0, none⟩) 1 1 → BlkAt W b ps ∧ v.ownBlock ≠ some b
 box : ∀ d, bx = .pointer (some ⟨d, 0, none⟩) → w0.heap.size ≤ d ∧ BlkAt W d us ∧ v.ownBlock ≠ some d ∧ ∀ b, pb = .slice (some ⟨b, 0, none⟩) 1 1 → b ≠ d
section
variable {w0 W : World} {E : TypeId} {size n : Nat} {v : Value} {xs : List Value} {pb : Value} {ps : Array Value} {bx : Value} {us : Array Value}
theorem Bld.start (w0 : World) (E : TypeId) (size : Nat) (ps us : Array Value) : Bld w0 E size w0.drew undef 0 [] undef ps undef us :=
 ⟨(Below.refl _ _).drew, .inl rfl, fun b h => (by cases h), fun d h => (by cases h)⟩
theorem Bld.lit (h : Bld w0 E size W undef 0 [] pb ps bx us) : Bld w0 E size (W.alloc (.cells #[] E)) (.slice (some ⟨W.heap.size, 0, none⟩) 0 0) 0 [] pb ps bx us := by
 have hg := World.grownBy_alloc W (.cells #[] E) none
 refine ⟨h.bel.alloc h.bel.size _, .inr ?_, fun b e => ?_, fun d e => ?_⟩
 ·have := World.ownsRow_lit (base := w0.heap.size) (e := E) (size := size) W #[] 0 h.bel.size (by decide) (by simp)
  exact this
 ·obtain ⟨h1, h2⟩ := h.pair b e
  exact ⟨h1.grown hg (by simp), fun e2 => by simp [Value.ownBlock] at e2; have := h1.lt; omega⟩
 ·obtain ⟨h1, h2, h3, h4⟩ := h.box d e
  exact ⟨h1, h2.grown hg (by simp), fun e2 => by simp [Value.ownBlock] at e2; have := h2.lt; omega, h4⟩
theorem Bld.app (h : Bld w0 E size W v n xs pb ps bx us) {W' : World} {v' : Value} {n' : Nat} {xs' : List Value} (hown : W'.ownsRow w0.heap.size E size v' n' xs') (hg : W.grownBy W' v.ownBlock) (hb : Below w0.heap.size W W')
  (hbk : v'.ownBlock = v.ownBlock ∨ v'.ownBlock = some W.heap.size) : Bld w0 E size W' v' n' xs' pb ps bx us := by
 refine ⟨h.bel.trans hb, .inr hown, fun b e => ?_, fun d e => ?_⟩
 ·obtain ⟨h1, h2⟩ := h.pair b e
  refine ⟨h1.grown hg h2, fun e2 => ?_⟩
  rcases hbk with e3 | e3
  ·exact h2 (by rw [← e3]; exact e2)
  ·rw [e3] at e2; injection e2 with e2; have := h1.lt; omega
 ·obtain ⟨h1, h2, h3, h4⟩ := h.box d e
  refine ⟨h1, h2.grown hg h3, fun e2 => ?_, h4⟩
  rcases hbk with e3 | e3
  ·exact h3 (by rw [← e3]; exact e2)
  ·rw [e3] at e2; injection e2 with e2; have := h2.lt; omega
theorem own_lt {B e s k : Nat} {v : Value} {n : Nat} {xs : List Value} (h : W.ownsRow B e s v n xs) (hk : v.ownBlock = some k) : k < W.heap.size := (h.lt k hk).2
theorem Bld.elem (h : Bld w0 E size W v n xs undef ps bx us) (T : TypeId) : Bld w0 E size (W.alloc (.cells ps T)) v n xs (.slice (some ⟨W.heap.size, 0, none⟩) 1 1) ps bx us := by
 have hg := World.grownBy_alloc W (.cells ps T) none
 have hne : ∀ k, v.ownBlock = some k → k ≠ W.heap.size := fun k hk => by
  rcases h.own with e | e
  ·rw [e] at hk; cases hk
  ·have := own_lt e hk; omega
 refine ⟨h.bel.alloc h.bel.size _, h.own.imp id (fun e => e.kept_below ((Below.refl _ _).alloc (Nat.le_refl _) _)), fun b e => ?_, fun d e => ?_⟩
 ·injection e with e
  injection e with e
  injection e with e
  subst e
  exact ⟨BlkAt.new W ps T, fun e2 => hne _ e2 rfl⟩
 ·obtain ⟨h1, h2, h3, h4⟩ := h.box d e
  refine ⟨h1, h2.grown hg (by simp), h3, fun b e2 => ?_⟩
  injection e2 with e2
  injection e2 with e2
  injection e2 with e2
  have := h2.lt
  omega
theorem Bld.newbox (h : Bld w0 E size W v n xs pb ps undef us) (T : TypeId) : Bld w0 E size (W.alloc (.cells us T)) v n xs pb ps (.pointer (some ⟨W.heap.size, 0, none⟩)) us := by
 have hg := World.grownBy_alloc W (.cells us T) none
 have hne : ∀ k, v.ownBlock = some k → k ≠ W.heap.size := fun k hk => by
  rcases h.own with e | e
  ·rw [e] at hk; cases hk
  ·have := own_lt e hk; omega
 refine ⟨h.bel.alloc h.bel.size _, h.own.imp id (fun e => e.kept_below ((Below.refl _ _).alloc (Nat.le_refl _) _)), fun b e => ?_, fun d e => ?_⟩
 ·obtain ⟨h1, h2⟩ := h.pair b e
  exact ⟨h1.grown hg (by simp), h2⟩
 ·injection e with e
  injection e with e
  injection e with e
  subst e
  exact ⟨h.bel.size, BlkAt.new W us T, fun e2 => hne _ e2 rfl, fun b e2 => by have := (h.pair b e2).1.lt; omega⟩
theorem own_set {B e s d : Nat} {v u : Value} {n : Nat} {xs : List Value} (h : W.ownsRow B e s v n xs) (j : Nat) (hd : v.ownBlock ≠ some d) : (W.setCell ⟨d, j, none⟩ u).ownsRow B e s v n xs := by
 refine ⟨h.1, ?_⟩
 rcases h.2 with h' | ⟨g, cap, cur, rfl, h1, h2, h3⟩
 ·exact .inl h'
 ·exact .inr ⟨g, cap, cur, rfl, h1, by rw [heap_setCell_other _ _ _ _ (fun e => hd (by rw [← show g = d from e]; rfl))]; exact h2, h3⟩
theorem Bld.fill {d : Nat} {p q : Value} (h : Bld w0 E size W v n xs pb ps (.pointer (some ⟨d, 0, none⟩)) #[p, q]) (u0 u1 : Value) : Bld w0 E size ((W.setCell ⟨d, 0, none⟩ u0).setCell ⟨d, 1, none⟩ u1) v n xs pb ps (.pointer (some ⟨d, 0, none⟩)) #[u0, u1] := by
 obtain ⟨h1, h2, h3, h4⟩ := h.box d rfl
 refine ⟨(h.bel.setCell h1 _).setCell h1 _, h.own.imp id (fun e => own_set (own_set e 0 h3) 1 h3), fun b e => ?_, fun d' e => ?_⟩
 ·obtain ⟨g1, g2⟩ := h.pair b e
  exact ⟨(g1.other _ (h4 b e) _).other _ (h4 b e) _, g2⟩
 ·injection e with e
  injection e with e
  injection e with e
  subst e
  refine ⟨h1, ?_, h3, h4⟩
  obtain ⟨T, h2⟩ := h2
  exact ⟨T, by rw [heap_setCell_same _ _ 1 _ _ _ (heap_setCell_same W d 0 _ _ _ h2)]; rfl⟩
end
end Go.Proofs.Ytpcbmhfnefhenaa
