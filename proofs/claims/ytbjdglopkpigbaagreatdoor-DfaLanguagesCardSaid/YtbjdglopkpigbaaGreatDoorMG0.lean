import Derived.Test.YtbjdglopkpigbaaGreatDoorProg
import Derived.WalkKit
import Derived.Below
import Derived.Lib.Hide
import Derived.Laws.AppendOwnNone
import Derived.ChangeKeysEq
import Derived.Laws.OwnMore
/-
  Lib, Own
-/
namespace Go.Proofs.YtbjdglopkpigbaaGreatDoor
open Go.RowKit
def gi (zs : List Int) (i : Nat) : Int := zs.getD i 0
theorem gi_eq (zs : List Int) (i : Nat) (h : i < zs.length) : gi zs i = zs[i] := by simp [gi, List.getD, h]
theorem gi_append_left (xs ys : List Int) (i : Nat) (h : i < xs.length) : gi (xs ++ ys) i = gi xs i := by
 simp [gi, List.getD, List.getElem?_append_left h]
theorem gi_append_right (xs ys : List Int) (i : Nat) : gi (xs ++ ys) (xs.length + i) = gi ys i := by
 simp [gi, List.getD, List.getElem?_append_right]
theorem gi_take (zs : List Int) (n i : Nat) (h : i < n) : gi (zs.take n) i = gi zs i := by simp [gi, List.getD, h]
theorem gi_drop (zs : List Int) (n i : Nat) : gi (zs.drop n) i = gi zs (n + i) := by simp [gi, List.getD]
theorem take_succ_gi (zs : List Int) (k : Nat) (h : k < zs.length) : zs.take (k + 1) = zs.take k ++ [gi zs k] := by
 rw [List.take_succ_eq_append_getElem h, gi_eq zs k h]
theorem drop_gi (zs : List Int) (k : Nat) (h : k < zs.length) : zs.drop k = gi zs k :: zs.drop (k + 1) := by
 rw [List.drop_eq_getElem_cons h, gi_eq zs k h]
theorem gi_mem (zs : List Int) (k : Nat) (h : k < zs.length) : gi zs k ∈ zs := by rw [gi_eq zs k h]; exact List.getElem_mem h
theorem gi_ext {xs ys : List Int} (hl : xs.length = ys.length) (h : ∀ i, i < xs.length → gi xs i = gi ys i) : xs = ys := by
 apply List.ext_getElem hl
 intro i h1 h2
 have := h i h1
 rwa [gi_eq _ _ h1, gi_eq _ _ h2] at this
theorem getElem?_gi (zs : List Int) (k : Nat) (h : k < zs.length) : zs[k]? = some (gi zs k) := by rw [gi_eq zs k h]; simp [h]
def IsInts (k : IntKind) (w : World) (a : Option Addr) (len cap : Nat) (zs : List Int) : Prop :=
 (a = none ∧ len = 0 ∧ cap = 0 ∧ zs = []) ∨
 ∃ b off, a = some ⟨b, off, none⟩ ∧ len ≤ cap ∧ cap ≤ maxLen ∧ zs.length = len ∧ (∀ i, i < len → w.cell? ⟨b, off + i, none⟩ = some (.int k (gi zs i)))
theorem IsInts.length {k : IntKind} {w : World} {a : Option Addr} {len cap : Nat} {zs : List Int} (h : IsInts k w a len cap zs) : zs.length = len := by
 rcases h with ⟨_, rfl, _, rfl⟩ | ⟨_, _, _, _, _, h, _⟩
 ·rfl
 ·exact h
theorem IsInts.cap {k : IntKind} {w : World} {a : Option Addr} {len cap : Nat} {zs : List Int} (h : IsInts k w a len cap zs) : len ≤ cap ∧ cap ≤ maxLen := by
 rcases h with ⟨_, rfl, rfl, rfl⟩ | ⟨_, _, _, h1, h2, _⟩
 ·simp [maxLen]
 ·exact ⟨h1, h2⟩
theorem lt_of_cell {w : World} {b o : Nat} {v : Value} (h : w.cell? ⟨b, o, none⟩ = some v) : b < w.heap.size :=
 World.block_lt_of_cell? w ⟨b, o, none⟩ h
theorem IsInts.below {k : IntKind} {w w' : World} {B : Nat} {a : Option Addr} {len cap : Nat} {zs : List Int} (h : IsInts k w a len cap zs) (hb : Below B w w') (hB : ∀ b off, a = some ⟨b, off, none⟩ → 0 < len → b < B) : IsInts k w' a len cap zs := by
 rcases h with h | ⟨b, off, rfl, h1, h2, h3, h4⟩
 ·exact .inl h
 ·refine .inr ⟨b, off, rfl, h1, h2, h3, fun i hi => ?_⟩
  rw [hb.cell (p := ⟨b, off + i, none⟩) (hB b off rfl (by omega))]
  exact h4 i hi
theorem IsInts.later {k : IntKind} {w w' : World} {a : Option Addr} {len cap : Nat} {zs : List Int} (h : IsInts k w a len cap zs) (hb : Below w.heap.size w w') : IsInts k w' a len cap zs := by
 refine h.below hb fun b off e hl => ?_
 rcases h with ⟨rfl, _⟩ | ⟨b', off', rfl, _, _, _, h4⟩
 ·cases e
 ·cases e
  have := h4 0 hl
  exact lt_of_cell this
def ivs (k : IntKind) (zs : List Int) : List Value := zs.map (Value.int k)
theorem IsInts.of_owns {k : IntKind} {w : World} {B e : Nat} {a : Option Addr} {len cap n : Nat} {zs : List Int} (h : w.ownsRow B e 1 (.slice a len cap) n (ivs k zs)) : IsInts k w a len cap zs ∧ len = n := by
 unfold ivs at h
 obtain ⟨hl, h⟩ := h
 rcases h with ⟨e1, rfl⟩ | ⟨g, c, cur, e1, hg, hh, hn, hc, hs, ht⟩
 ·cases e1
  have : zs = [] := by simpa using hl
  exact ⟨.inl ⟨rfl, rfl, rfl, this⟩, rfl⟩
 ·cases e1
  refine ⟨.inr ⟨g, 0, rfl, hn, hc, by simpa using hl, fun i hi => ?_⟩, rfl⟩
  have hi' : i < zs.length := by have : zs.length = len := by simpa using hl
                                 omega
  have := congrArg (fun l => l[i]?) ht
  simp only [Nat.mul_one, List.getElem?_take, if_pos hi, List.getElem?_map, getElem?_gi zs i hi', Option.map_some] at this
  simp only [World.cell?, hh, Nat.zero_add]
  simpa using this
theorem new_ints (k : IntKind) (w : World) (e : TypeId) (zs : List Int) (n : Nat) (hn : zs.length = n) (hm : n ≤ maxLen) (fz : Nat × Nat := (0, 0)) : IsInts k (w.alloc (.cells (ivs k zs).toArray e fz)) (some ⟨w.heap.size, 0, none⟩) n n zs := by
 refine .inr ⟨_, _, rfl, Nat.le_refl _, hm, hn, fun i hi => ?_⟩
 rw [Nat.zero_add, cell_of_row _ w.heap.size i _ _ fz (heap_alloc_new w _)]
 simp [ivs, getElem?_gi zs i (by omega)]
theorem owns_slice {w : World} {B e s : Nat} {v : Value} {n : Nat} {xs : List Value} (h : w.ownsRow B e s v n xs) : ∃ a c, v = .slice a n c ∧ n ≤ c := by
 rcases h.2 with ⟨rfl, rfl⟩ | ⟨g, c, cur, rfl, _, _, hn, _⟩
 ·exact ⟨none, 0, rfl, Nat.le_refl _⟩
 ·exact ⟨_, c, rfl, hn⟩
def bsOf (zs : List Int) : ByteArray := ⟨(zs.map fun n => UInt8.ofNat n.toNat).toArray⟩
theorem push_fold (zs : List Int) : ∀ b : ByteArray, zs.foldl (fun r n => r.push (UInt8.ofNat n.toNat)) b = ⟨b.data ++ (zs.map fun n => UInt8.ofNat n.toNat).toArray⟩ := by
 induction zs with
 | nil => intro b; simp
 | cons z zs ih =>
  intro b
  rw [List.foldl_cons, ih]
  simp [ByteArray.push]
theorem addr_add (b off i : Nat) : (⟨b, off, none⟩ : Addr).add i = ⟨b, off + i, none⟩ := Addr.add_lit _ _ _
theorem run_toString {P : Program} (w : World) (T S e : TypeId) (hs : P.underlying T = some (.slice e)) (he : P.underlying e = some (.int .u8)) (hd : P.underlying S = some .string)
  (a : Option Addr) (len cap : Nat) (zs : List Int) (h : IsInts .u8 w a len cap zs) : (convert T S (.slice a len cap)).run P w = .ok (.string (bsOf zs)) w := by
 rw [run_convert_bytes_string w T S e a len cap hs he hd]
 rcases h with ⟨rfl, rfl, rfl, rfl⟩ | ⟨b, off, rfl, _, _, hz, hc⟩
 ·simp [Conv.bytesToString, Sem.run_pure, bsOf]; rfl
 ·have := run_loadCells_list (P := P) (w := w) ⟨b, off, none⟩ (zs.map (Value.int .u8)) (by
   intro j v hj
   rw [List.getElem?_map] at hj
   have hl : j < zs.length := by
    rcases Nat.lt_or_ge j zs.length with h | h
    ·exact h
    ·simp [List.getElem?_eq_none h] at hj
   rw [getElem?_gi zs j hl] at hj
   simp only [Option.map_some, Option.some.injEq] at hj
   rw [addr_add, hc j (by omega), hj])
  rw [List.length_map, hz] at this
  rw [run_bytesToString w _ len cap zs this, push_fold]
  simp [bsOf]
theorem _root_.Go.World.ownsRow.kept_below {w w' : World} {base e size n : Nat} {v : Value} {xs : List Value} (h : w.ownsRow base e size v n xs) (hb : Below w.heap.size w w') : w'.ownsRow base e size v n xs := by
 refine ⟨h.1, ?_⟩
 rcases h.2 with h | ⟨g, cap, cur, e1, hg, hh, r⟩
 ·exact .inl h
 ·refine .inr ⟨g, cap, cur, e1, hg, ?_, r⟩
  rw [hb.block g (Array.getElem?_eq_some_iff.1 hh).1]
  exact hh
theorem _root_.Go.World.ownsRow.from_mono {w : World} {base base' e size n : Nat} {v : Value} {xs : List Value} (h : w.ownsRow base e size v n xs) (hb : base' ≤ base) : w.ownsRow base' e size v n xs := by
 refine ⟨h.1, ?_⟩
 rcases h.2 with h | ⟨g, cap, cur, e1, hg, r⟩
 ·exact .inl h
 ·exact .inr ⟨g, cap, cur, e1, Nat.le_trans hb hg, r⟩
theorem ints_src {k : IntKind} {w : World} {a : Option Addr} {len cap : Nat} {zs : List Int} (h : IsInts k w a len cap zs) :
  (zs.map (Value.int k)).length = len * 1 ∧ (∀ ad, a = some ad → ∀ j u, (zs.map (Value.int k))[j]? = some u → w.cell? (ad.add j) = some u) ∧ (a = none → len = 0 ∧ cap = 0) := by
 rcases h with ⟨rfl, rfl, rfl, rfl⟩ | ⟨b, off, rfl, _, _, hz, hc⟩
 ·exact ⟨rfl, (fun _ h => (by cases h)), fun _ => ⟨rfl, rfl⟩⟩
 ·refine ⟨by simp [hz], fun ad e j u hj => ?_, fun h => (by cases h)⟩
  cases e
  rw [List.getElem?_map] at hj
  have hl : j < zs.length := by
   rcases Nat.lt_or_ge j zs.length with h | h
   ·exact h
   ·simp [List.getElem?_eq_none h] at hj
  rw [getElem?_gi zs j hl] at hj
  simp only [Option.map_some, Option.some.injEq] at hj
  rw [addr_add, hc j (by omega), hj]
theorem ivs_append (k : IntKind) (xs ys : List Int) : ivs k (xs ++ ys) = ivs k xs ++ ivs k ys := by simp [ivs]
theorem ivs_one (k : IntKind) (zs : List Int) : ∀ u ∈ ivs k zs, u.oneCell' = true := ints_oneCell k zs
structure Elem (P : Program) (T E : TypeId) (z : Value) (size bytes : Nat) : Prop where
 ht : P.underlying T = some (.slice E)
 info : (P.info? E).map (fun i => (i.zero, i.size, i.bytes)) = some (some z, size, bytes)
 cells : z.cells.size = size
 pos : 0 < size
theorem run_app_own {P : Program} {T E ty : TypeId} {z : Value} {size bytes : Nat} (el : Elem P T E z size bytes) {w : World}
  {B : Nat} {v : Value} {n : Nat} {xs : List Value} (hown : w.ownsRow B E size v n xs)
  {ao : Option Addr} {m c : Nat} {news : List Value}
  (hsrc : news.length = m * size ∧ (∀ ad, ao = some ad → ∀ j u, news[j]? = some u → w.cell? (ad.add j) = some u) ∧ (ao = none → m = 0 ∧ c = 0)) (h1 : ∀ u ∈ news, u.oneCell' = true)
  (hb : (n + m) * (bytes + 1) ≤ 140737488355328) (hB : B ≤ w.heap.size) :
  ∃ a' c' w', (Builtin.append_ #[T, T] ty #[v, .slice ao m c]).run P w = .ok (.slice a' (n + m) c') w' ∧
   w'.ownsRow B E size (.slice a' (n + m) c') (n + m) (xs ++ news) ∧ w.grownBy w' v.ownBlock ∧ Below B w w' ∧ (a' = none ↔ v = .slice none 0 0 ∧ m = 0) := by
 obtain ⟨i, hi, hz, hsize, hby⟩ := info_parts el.info
 have hb1 : (n + m) * bytes + (n + m) ≤ 140737488355328 := by rw [← Nat.mul_succ]; exact hb
 have key : ∀ v' w', w'.ownsRow B E size v' (n + m) (xs ++ news) → w.grownBy w' v.ownBlock → (v' = .slice none 0 0 ↔ v = .slice none 0 0 ∧ m = 0) →
   ∃ a' c', v' = .slice a' (n + m) c' ∧ Below B w w' ∧ (a' = none ↔ v = .slice none 0 0 ∧ m = 0) := by
  intro v' w' hown' hg hnil
  obtain ⟨a', c', rfl, hc'⟩ := owns_slice hown'
  refine ⟨a', c', rfl, (Below.refl B w).grown hg hB fun k hk => (hown.lt k hk).1, ?_⟩
  constructor
  ·rintro rfl
   have : (n + m = 0) ∧ c' = 0 := by
    rcases hown'.2 with ⟨e, _⟩ | ⟨g, cap, cur, e, _⟩
    ·simp only [Value.slice.injEq] at e; exact ⟨e.2.1, e.2.2⟩
    ·simp at e
   exact hnil.1 (by rw [this.1, this.2])
  ·intro hh
   have := hnil.2 hh
   simp only [Value.slice.injEq] at this
   exact this.1
 cases ao with
 | some ad =>
  obtain ⟨v', w', hr, h2, h3, h4⟩ := run_append_own (P := P) w B T ty E i z size bytes el.ht hi hz hsize hby el.cells el.pos v n xs hown ad m c news hsrc.1 (hsrc.2.1 ad rfl) h1 (by unfold maxLen; omega) (by omega) hB
  obtain ⟨a', c', rfl, h5, h6⟩ := key v' w' h2 h3 h4
  exact ⟨a', c', w', hr, h2, h3, h5, h6⟩
 | none =>
  obtain ⟨rfl, rfl⟩ := hsrc.2.2 rfl
  have hn : news = [] := List.eq_nil_of_length_eq_zero (by simpa using hsrc.1)
  subst hn
  have hrun := run_append_owned_none (P := P) (w := w) B T ty E i size el.ht hi v n xs hown
  obtain ⟨a', c', rfl, h5, h6⟩ := key v w (by simpa using hown) (World.grownBy.refl _ _) (by simp)
  exact ⟨a', c', w, hrun, by simpa using hown, World.grownBy.refl _ _, h5, h6⟩
theorem wp_app_own {P : Program} {T E : TypeId} {z : Value} {size bytes : Nat} (el : Elem P T E z size bytes) {w : World} {o : Oper} {a : Act} {K : Act → World → Prop} {Q : Exit → Act → World → Prop} (s x : Operand)
  (ho : o.op = .call { callee := .builtin .append, args := #[s, x], argTypes := #[T, T] })
  {B : Nat} {v : Value} {n : Nat} {xs : List Value} (hs : a.eval s = v) (hown : w.ownsRow B E size v n xs)
  {ao : Option Addr} {m c : Nat} {news : List Value} (hx : a.eval x = .slice ao m c)
  (hsrc : news.length = m * size ∧ (∀ ad, ao = some ad → ∀ j u, news[j]? = some u → w.cell? (ad.add j) = some u) ∧ (ao = none → m = 0 ∧ c = 0)) (h1 : ∀ u ∈ news, u.oneCell' = true)
  (hb : (n + m) * (bytes + 1) ≤ 140737488355328) (hB : B ≤ w.heap.size)
  (h : ∀ a' c' w', w'.ownsRow B E size (.slice a' (n + m) c') (n + m) (xs ++ news) → w.grownBy w' v.ownBlock → Below B w w' → (a' = none ↔ v = .slice none 0 0 ∧ m = 0) → K (a.put o.dst (.slice a' (n + m) c')) w') : o.wp P a w K Q := by
 obtain ⟨a', c', w', hr, h2, h3, h4, h5⟩ := run_app_own (ty := o.type) el hown hsrc h1 hb hB
 unfold Oper.wp execOp
 simp only [ho, resolve, invoke, builtin, Sem.run_bind, Sem.run_pure, Result.andThen_ok, List.map_toArray, List.map_cons, List.map_nil, hs, hx, hr]
 exact h a' c' w' h2 h3 h4 h5
theorem wpList_wanted {P : Program} {w : World} {ops : Array Oper} {rest : List Oper} {o : Oper} {a : Act} {Q : Exit → Act → World → Prop} (hg : Region.wanted o (yielded ops a.tmps) = true)
  (h : ∀ K : Act → World → Prop, (∀ a w, wpList P ops Q rest a w → K a w) → o.wp P a w K Q) : wpList P ops Q (o :: rest) a w :=
 wpList_step fun K hK => by simp only [hg, if_true]; exact h K hK
theorem wp_app_ints {P : Program} {T E : TypeId} {z : Value} {bytes : Nat} {k : IntKind} (el : Elem P T E z 1 bytes) {w : World} {o : Oper} {a : Act} {K : Act → World → Prop} {Q : Exit → Act → World → Prop} (s x : Operand)
  (ho : o.op = .call { callee := .builtin .append, args := #[s, x], argTypes := #[T, T] })
  {B : Nat} {v : Value} {n : Nat} {xs : List Int} (hs : a.eval s = v) (hown : w.ownsRow B E 1 v n (ivs k xs))
  {ao : Option Addr} {m c : Nat} {ys : List Int} (hx : a.eval x = .slice ao m c) (hsrc : IsInts k w ao m c ys)
  (hb : (n + m) * (bytes + 1) ≤ 140737488355328) (hB : B ≤ w.heap.size)
  (h : ∀ a' c' w', w'.ownsRow B E 1 (.slice a' (n + m) c') (n + m) (ivs k (xs ++ ys)) → w.grownBy w' v.ownBlock → Below B w w' → (a' = none ↔ v = .slice none 0 0 ∧ m = 0) → K (a.put o.dst (.slice a' (n + m) c')) w') : o.wp P a w K Q := by
 refine wp_app_own el s x ho hs hown hx (ints_src hsrc) (ivs_one k ys) hb hB ?_
 intro a' c' w' h1 h2 h3 h4
 refine h a' c' w' ?_ h2 h3 h4
 rw [ivs_append]
 exact h1
theorem app_ints {P : Program} {T E : TypeId} {z : Value} {bytes : Nat} {k : IntKind} (el : Elem P T E z 1 bytes) {w : World} {ops : Array Oper} {rest : List Oper} {o : Oper} {a : Act} {Q : Exit → Act → World → Prop} (hgd : Region.wanted o (yielded ops a.tmps) = true) (s x : Operand)
  (ho : o.op = .call { callee := .builtin .append, args := #[s, x], argTypes := #[T, T] })
  {B : Nat} {v : Value} {n : Nat} {xs : List Int} (hs : a.eval s = v) (hown : w.ownsRow B E 1 v n (ivs k xs))
  {ao : Option Addr} {m c : Nat} {ys : List Int} (hx : a.eval x = .slice ao m c) (hsrc : IsInts k w ao m c ys)
  (hb : (n + m) * (bytes + 1) ≤ 140737488355328) (hB : B ≤ w.heap.size)
  (h : ∀ a' c' w', w'.ownsRow B E 1 (.slice a' (n + m) c') (n + m) (ivs k (xs ++ ys)) → w.grownBy w' v.ownBlock → Below B w w' → (a' = none ↔ v = .slice none 0 0 ∧ m = 0) → wpList P ops Q rest (a.put o.dst (.slice a' (n + m) c')) w') : wpList P ops Q (o :: rest) a w :=
 wpList_wanted hgd fun _ hK => wp_app_ints el s x ho hs hown hx hsrc hb hB fun a' c' w' h2 h3 h4 h5 => hK _ _ (h a' c' w' h2 h3 h4 h5)
theorem wp_make_full {P : Program} {T E : TypeId} {z : Value} {size bytes : Nat} (el : Elem P T E z size bytes) {w : World} {o : Oper} {a : Act} {K : Act → World → Prop} {Q : Exit → Act → World → Prop} (l c : Operand)
  (ho : o.op = .makeSlice T l c) {B : Nat} {kl kc : IntKind} {n : Nat} {C C' : Int} (hl : a.eval l = .int kl C') (hc : a.eval c = .int kc C) (hC : C = n) (hC' : C' = n) (hb : n * (bytes + 1) ≤ 140737488355328) (hB : B ≤ w.heap.size)
  (h : ∀ w', w'.ownsRow B E size (.slice (some ⟨w.heap.size, 0, none⟩) n n) n (madeCells z.cells (n * size)).toList → w.grownBy w' none → Below B w w' → K (a.put o.dst (.slice (some ⟨w.heap.size, 0, none⟩) n n)) w') : o.wp P a w K Q := by
 subst hC hC'
 obtain ⟨i, hi, hz, hsize, hby⟩ := info_parts el.info
 have hb1 : n * bytes + n ≤ 140737488355328 := by rw [← Nat.mul_succ]; exact hb
 obtain ⟨w', hrun, r1, r2⟩ := run_make_full (P := P) w B T E i z size el.ht hi hz hsize kl kc n (by rw [hby, Nat.mul_comm]; omega) (by unfold maxLen; omega) hB
 unfold Oper.wp
 simp [execOp, ho, hl, hc, hrun, Result.andThen]
 exact h w' r1 r2 ((Below.refl B w).grown r2 hB fun k hk => by cases hk)
theorem IsInts.slice {k : IntKind} {w : World} {a : Option Addr} {len cap : Nat} {zs : List Int} (h : IsInts k w a len cap zs) (l r m : Nat) (hlr : l ≤ r) (hr : r ≤ len) (hm : r ≤ m) (hmc : m ≤ cap) {a' : Option Addr}
  (ha : m ≠ l → a' = a.map (·.add l)) (ha0 : m = l → a' = a) : IsInts k w a' (r - l) (m - l) ((zs.drop l).take (r - l)) := by
 by_cases hml : m = l
 ·have : r = l := by omega
  subst this
  rcases h with ⟨rfl, rfl, rfl, rfl⟩ | ⟨b, off, rfl, h1, h2, hz, hc⟩
  ·exact .inl ⟨ha0 hml, by omega, by omega, by simp⟩
  ·refine .inr ⟨b, off, ha0 hml, by omega, by omega, by simp, fun i hi => by omega⟩
 ·rcases h with ⟨rfl, rfl, rfl, rfl⟩ | ⟨b, off, rfl, h1, h2, hz, hc⟩
  ·exact .inl ⟨ha hml, by omega, by omega, by simp⟩
  ·refine .inr ⟨b, off + l, by rw [ha hml]; simp [addr_add], by omega, by omega, by simp; omega, fun i hi => ?_⟩
   rw [gi_take _ _ _ hi, gi_drop, Nat.add_assoc]
   exact hc (l + i) (by omega)
end Go.Proofs.YtbjdglopkpigbaaGreatDoor
namespace Go.Proofs.YtbjdglopkpigbaaGreatDoor
open Go.RowKit
theorem owns_at {w : World} {B e n cap : Nat} {a : Option Addr} {xs : List Value} (h : w.ownsRow B e 1 (.slice a n cap) n xs) (hn : 0 < n) : ∃ g, a = some ⟨g, 0, none⟩ ∧ B ≤ g ∧ g < w.heap.size := by
 rcases h.2 with ⟨h', _⟩ | ⟨g', cap', cur, h', hb, hg, _⟩
 ·simp at h'; omega
 ·simp only [Value.slice.injEq] at h'
  exact ⟨g', h'.1, hb, (Array.getElem?_eq_some_iff.1 hg).1⟩
theorem ivs_set (k : IntKind) (xs : List Int) (j : Nat) (v : Int) : (ivs k xs).set j (.int k v) = ivs k (xs.set j v) := by simp [ivs]
theorem ivs_get (k : IntKind) (xs : List Int) (j : Nat) (h : j < xs.length) : (ivs k xs)[j]? = some (.int k (gi xs j)) := by
 simp [ivs, getElem?_gi xs j h]
theorem own_cell {w : World} {B e n cap g : Nat} {k : IntKind} {xs : List Int} (h : w.ownsRow B e 1 (.slice (some ⟨g, 0, none⟩) n cap) n (ivs k xs)) (j : Nat) (hj : j < n) (hx : xs.length = n) :
  w.cell? ⟨g, j, none⟩ = some (.int k (gi xs j)) ∧ w.frozen? ⟨g, j, none⟩ = false :=
 ⟨by rw [h.cellAt j (by omega), ivs_get k xs j (by omega)], h.frozenAt j⟩
theorem own_store {w : World} {B e n cap g : Nat} {k : IntKind} {xs : List Int} (h : w.ownsRow B e 1 (.slice (some ⟨g, 0, none⟩) n cap) n (ivs k xs)) (j : Nat) (v : Int) :
  (w.setCell ⟨g, j, none⟩ (.int k v)).ownsRow B e 1 (.slice (some ⟨g, 0, none⟩) n cap) n (ivs k (xs.set j v)) := by
 have := (h.stored j (.int k v)).1
 rw [ivs_set] at this
 exact this
theorem app_one {P : Program} {T E : TypeId} {z0 : Value} {bytes : Nat} {k : IntKind} (el : Elem P T E z0 1 bytes) {w0 : World} {ops : Array Oper} {rest : List Oper} {o : Oper} {a : Act} {Q : Exit → Act → World → Prop} (hgd : Region.wanted o (yielded ops a.tmps) = true) (s x : Operand)
  (ho : o.op = .call { callee := .builtin .append, args := #[s, x], argTypes := #[T, T] })
  {B : Nat} {v : Value} {n : Nat} {xs : List Int} (hs : a.eval s = v) (hown : w0.ownsRow B E 1 v n (ivs k xs)) {z : Int} (hx : a.eval x = .slice (some ⟨w0.heap.size, 0, none⟩) 1 1)
  (hb : (n + 1) * (bytes + 1) ≤ 140737488355328) (hB : B ≤ w0.heap.size)
  (h : ∀ a' c' w', w'.ownsRow B E 1 (.slice a' (n + 1) c') (n + 1) (ivs k (xs ++ [z])) → Below B w0 w' → wpList P ops Q rest (a.put o.dst (.slice a' (n + 1) c')) w') : wpList P ops Q (o :: rest) a (w0.alloc (.cells #[.int k z] E)) := by
 refine app_ints (k := k) (xs := xs) (ys := [z]) el hgd s x ho hs (hown.kept_below ((Below.refl _ _).alloc (Nat.le_refl _) _)) hx (new_ints k w0 E [z] 1 rfl (by decide)) hb (by simp; omega) ?_
 intro a' c' w' h1 _ h3 _
 exact h a' c' w' h1 (((Below.refl _ _).alloc hB _).trans h3)
theorem IsInts.at {k : IntKind} {w : World} {a : Option Addr} {len cap : Nat} {zs : List Int} (h : IsInts k w a len cap zs) (W : World) (hb : Below w.heap.size w W) (i : Nat) (hi : i < len) :
  ∃ b off, a = some ⟨b, off, none⟩ ∧ b < w.heap.size ∧ W.cell? ⟨b, off + i, none⟩ = some (.int k (gi zs i)) := by
 rcases h with ⟨_, h0, _⟩ | ⟨b, off, rfl, _, _, _, hc⟩
 ·omega
 ·have hl := lt_of_cell (hc i hi)
  exact ⟨b, off, rfl, hl, by rw [hb.cell (p := ⟨b, off + i, none⟩) hl]; exact hc i hi⟩
theorem make_ints {P : Program} {T E : TypeId} {bytes : Nat} {k : IntKind} (el : Elem P T E (.int k 0) 1 bytes) {w : World} {ops : Array Oper} {rest : List Oper} {o : Oper} {a : Act} {Q : Exit → Act → World → Prop} (hgd : Region.wanted o (yielded ops a.tmps) = true) (l c : Operand)
  (ho : o.op = .makeSlice T l c) {B : Nat} {kl kc : IntKind} {n : Nat} {C C' : Int} (hl : a.eval l = .int kl C') (hc : a.eval c = .int kc C) (hC : C = n) (hC' : C' = n) (hb : n * (bytes + 1) ≤ 140737488355328) (hB : B ≤ w.heap.size)
  (h : ∀ w', w'.ownsRow B E 1 (.slice (some ⟨w.heap.size, 0, none⟩) n n) n (ivs k (List.replicate n 0)) → Below B w w' → w'.heap.size = w.heap.size + 1 → wpList P ops Q rest (a.put o.dst (.slice (some ⟨w.heap.size, 0, none⟩) n n)) w') : wpList P ops Q (o :: rest) a w := by
 subst hC hC'
 refine wpList_wanted hgd fun K hK => ?_
 obtain ⟨i, hi, hz, hsize, hby⟩ := info_parts el.info
 have hb1 : n * bytes + n ≤ 140737488355328 := by rw [← Nat.mul_succ]; exact hb
 have hr := run_make (P := P) w T E i (.int k 0) el.ht hi hz kl kc n n (by omega) (Int.le_refl _) (by have h2 : ((i.bytes * n : Nat) : Int) ≤ 281474976710656 := by (rw [hby, Nat.mul_comm]; omega)
                                                                                                      rwa [Int.natCast_mul] at h2) (by omega)
 simp only [Int.toNat_natCast] at hr
 have h0 : (madeCells (Value.int k 0).cells (n * i.size)).toList = ivs k (List.replicate n 0) := by
  rw [hsize, Nat.mul_one, show (Value.int k 0).cells = #[.int k 0] from rfl, toList_madeCells_one]
  simp [ivs]
 have hO := World.ownsRow_lit (base := B) (e := E) (size := 1) w (madeCells (Value.int k 0).cells (n * i.size)) n hB (by unfold maxLen; omega) (by rw [hsize]; exact size_madeCells _ _)
 rw [h0] at hO
 unfold Oper.wp
 simp [execOp, ho, hl, hc, hr, Result.andThen]
 exact hK _ _ (h _ hO ((Below.refl B w).alloc hB _) (by simp))
def PartOf (k : IntKind) (e : TypeId) (w : World) (B g n : Nat) (zs : List Int) : Prop :=
 ∃ M xs, n ≤ M ∧ xs.length = M ∧ zs = xs.take n ∧ w.ownsRow B e 1 (.slice (some ⟨g, 0, none⟩) M M) M (ivs k xs)
theorem PartOf.length {k : IntKind} {e : TypeId} {w : World} {B g n : Nat} {zs : List Int} (h : PartOf k e w B g n zs) : zs.length = n := by
 obtain ⟨M, xs, h1, h2, rfl, _⟩ := h
 simp; omega
theorem PartOf.ints {k : IntKind} {e : TypeId} {w : World} {B g n : Nat} {zs : List Int} (h : PartOf k e w B g n zs) : IsInts k w (some ⟨g, 0, none⟩) n n zs := by
 obtain ⟨M, xs, h1, h2, rfl, h3⟩ := h
 have := (IsInts.of_owns h3).1.slice 0 n n (by omega) h1 (Nat.le_refl _) h1 (a' := some ⟨g, 0, none⟩) (fun _ => by simp [Addr.add]) (fun _ => rfl)
 simpa using this
theorem PartOf.kept {k : IntKind} {e : TypeId} {w w' : World} {B g n : Nat} {zs : List Int} (h : PartOf k e w B g n zs) (hb : Below w.heap.size w w') : PartOf k e w' B g n zs := by
 obtain ⟨M, xs, h1, h2, h3, h4⟩ := h
 exact ⟨M, xs, h1, h2, h3, h4.kept_below hb⟩
theorem PartOf.from_mono {k : IntKind} {e : TypeId} {w : World} {B B' g n : Nat} {zs : List Int} (h : PartOf k e w B g n zs) (hb : B' ≤ B) : PartOf k e w B' g n zs := by
 obtain ⟨M, xs, h1, h2, h3, h4⟩ := h
 exact ⟨M, xs, h1, h2, h3, h4.from_mono hb⟩
theorem PartOf.cell {k : IntKind} {e : TypeId} {w : World} {B g n : Nat} {zs : List Int} (h : PartOf k e w B g n zs) (j : Nat) (hj : j < n) :
  w.cell? ⟨g, j, none⟩ = some (.int k (gi zs j)) ∧ w.frozen? ⟨g, j, none⟩ = false := by
 obtain ⟨M, xs, h1, h2, rfl, h4⟩ := h
 rw [gi_take _ _ _ hj]
 exact own_cell h4 j (by omega) h2
theorem PartOf.store {k : IntKind} {e : TypeId} {w : World} {B g n : Nat} {zs : List Int} (h : PartOf k e w B g n zs) (j : Nat) (v : Int) :
  PartOf k e (w.setCell ⟨g, j, none⟩ (.int k v)) B g n (zs.set j v) := by
 obtain ⟨M, xs, h1, h2, rfl, h4⟩ := h
 exact ⟨M, xs.set j v, h1, by simp [h2], by rw [List.take_set], own_store h4 j v⟩
theorem PartOf.base {k : IntKind} {e : TypeId} {w : World} {B g n : Nat} {zs : List Int} (h : PartOf k e w B g n zs) : B ≤ g ∧ g < w.heap.size := by
 obtain ⟨M, xs, h1, h2, rfl, h4⟩ := h
 rcases h4.2 with ⟨h', _⟩ | ⟨g', cap', cur, h', hb, hg, _⟩
 ·simp at h'
 ·simp only [Value.slice.injEq, Option.some.injEq, Addr.mk.injEq, and_true, true_and] at h'
  obtain ⟨rfl, rfl⟩ := h'
  exact ⟨hb, (Array.getElem?_eq_some_iff.1 hg).1⟩
theorem PartOf.below {k : IntKind} {e : TypeId} {w : World} {B g n : Nat} {zs : List Int} (h : PartOf k e w B g n zs) {a : Addr} (ha : a.block < B) (u : Value) : PartOf k e (w.setCell a u) B g n zs := by
 obtain ⟨M, xs, h1, h2, h3, h4⟩ := h
 exact ⟨M, xs, h1, h2, h3, ownsRow_setCell_below h4 ha u⟩
end Go.Proofs.YtbjdglopkpigbaaGreatDoor
