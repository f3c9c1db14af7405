import Derived.Laws.OwnMore
import Derived.Test.YtofaifeadhimjaaGreatDoorMG0
/-
  NfaKy, Own
-/
set_option linter.unusedVariables false
namespace Go.Proofs.YtofaifeadhimjaaGreatDoor

def dig36 (d : Nat) : UInt8 := if d < 10 then UInt8.ofNat (48 + d) else UInt8.ofNat (87 + d)
def und36 (b : UInt8) : Nat := if b.toNat < 58 then b.toNat - 48 else b.toNat - 87
theorem dig36_nat {d : Nat} (h : d < 36) : (dig36 d).toNat = if d < 10 then 48 + d else 87 + d := by
 unfold dig36
 split
 ·rw [UInt8.toNat_ofNat']; omega
 ·rw [UInt8.toNat_ofNat']; omega
theorem und_dig {d : Nat} (h : d < 36) : und36 (dig36 d) = d := by
 unfold und36
 rw [dig36_nat h]
 split <;> split <;> omega
theorem dig36_dot {d : Nat} (h : d < 36) : dig36 d ≠ 46 := fun e => by
 have := dig36_nat h
 rw [e] at this
 have h2 : (46 : UInt8).toNat = 46 := rfl
 rw [h2] at this
 split at this <;> omega
def f36 : Nat → Nat → List UInt8
 | 0, _ => []
 | k + 1, u => if u < 36 then [dig36 u] else f36 k (u / 36) ++ [dig36 (u % 36)]
def v36 (l : List UInt8) : Nat := l.foldl (fun v b => v * 36 + und36 b) 0
theorem v36_snoc (l : List UInt8) (b : UInt8) : v36 (l ++ [b]) = v36 l * 36 + und36 b := by unfold v36; rw [List.foldl_append]; rfl
theorem v36_f36 : ∀ (k u : Nat), u < 36 ^ k → v36 (f36 k u) = u
 | 0, u, h => by rw [Nat.pow_zero] at h; show 0 = u; omega
 | k + 1, u, h => by
  unfold f36
  split
  ·rename_i h1
   have : v36 [dig36 u] = und36 (dig36 u) := by unfold v36; simp
   rw [this, und_dig h1]
  ·rw [v36_snoc, und_dig (Nat.mod_lt _ (by omega)), v36_f36 k (u / 36) (by rw [Nat.div_lt_iff_lt_mul (by omega)]; rwa [Nat.pow_succ] at h)]
   omega
theorem f36_dot : ∀ (k u : Nat), ∀ b ∈ f36 k u, b ≠ 46
 | 0, u, b, h => by simp [f36] at h
 | k + 1, u, b, h => by
  unfold f36 at h
  split at h
  ·rename_i h1
   rw [List.mem_singleton.1 h]; exact dig36_dot h1
  ·rcases List.mem_append.1 h with h | h
   ·exact f36_dot k _ b h
   ·rw [List.mem_singleton.1 h]; exact dig36_dot (Nat.mod_lt _ (by omega))
theorem f36_len : ∀ (k u : Nat), (f36 k u).length ≤ k
 | 0, u => Nat.le_refl _
 | k + 1, u => by
  unfold f36
  split
  ·simp
  ·rw [List.length_append, List.length_singleton]
   have := f36_len k (u / 36)
   omega
def n36 (u : Nat) : List UInt8 := f36 13 u
theorem pow36 : (18446744073709551616 : Nat) ≤ 36 ^ 13 := by decide
theorem n36_inj {u v : Nat} (hu : u < 18446744073709551616) (hv : v < 18446744073709551616) (h : n36 u = n36 v) : u = v := by
 have h1 := v36_f36 13 u (Nat.lt_of_lt_of_le hu pow36)
 have h2 := v36_f36 13 v (Nat.lt_of_lt_of_le hv pow36)
 unfold n36 at h
 rw [h] at h1
 omega
def keyB (zs : List Int) : List UInt8 := zs.flatMap fun z => n36 z.toNat ++ [46]
theorem keyB_snoc (zs : List Int) (z : Int) : keyB (zs ++ [z]) = keyB zs ++ (n36 z.toNat ++ [46]) := by unfold keyB; simp
theorem split_dot : ∀ {a b c d : List UInt8}, (∀ x ∈ a, x ≠ 46) → (∀ x ∈ b, x ≠ 46) → a ++ 46 :: c = b ++ 46 :: d → a = b ∧ c = d
 | [], [], c, d, _, _, h => ⟨rfl, by simpa using h⟩
 | [], y :: b, c, d, _, hb, h => by
  injection h with h1 h2
  exact absurd h1.symm (hb y List.mem_cons_self)
 | x :: a, [], c, d, ha, _, h => by
  injection h with h1 h2
  exact absurd h1 (ha x List.mem_cons_self)
 | x :: a, y :: b, c, d, ha, hb, h => by
  rw [List.cons_append, List.cons_append] at h
  injection h with h1 h2
  obtain ⟨e1, e2⟩ := split_dot (fun z hz => ha z (List.mem_cons_of_mem _ hz)) (fun z hz => hb z (List.mem_cons_of_mem _ hz)) h2
  exact ⟨by rw [h1, e1], e2⟩
theorem keyB_inj : ∀ {xs ys : List Int}, (∀ z ∈ xs, 0 ≤ z ∧ z < 18446744073709551616) → (∀ z ∈ ys, 0 ≤ z ∧ z < 18446744073709551616) → keyB xs = keyB ys → xs = ys
 | [], [], _, _, _ => rfl
 | [], y :: ys, _, _, h => by unfold keyB at h; simp at h
 | x :: xs, [], _, _, h => by unfold keyB at h; simp at h
 | x :: xs, y :: ys, hx, hy, h => by
  unfold keyB at h
  rw [List.flatMap_cons, List.flatMap_cons, List.append_assoc, List.append_assoc, List.singleton_append, List.singleton_append] at h
  obtain ⟨e1, e2⟩ := split_dot (f36_dot 13 _) (f36_dot 13 _) h
  have h1 := hx x List.mem_cons_self
  have h2 := hy y List.mem_cons_self
  have h3 := n36_inj (by omega) (by omega) e1
  rw [show x = y by omega, keyB_inj (fun z hz => hx z (List.mem_cons_of_mem _ hz)) (fun z hz => hy z (List.mem_cons_of_mem _ hz)) e2]
theorem keyB_len : ∀ zs : List Int, (keyB zs).length ≤ zs.length * 14
 | [] => Nat.le_refl _
 | z :: zs => by
  have h1 := keyB_len zs
  have h2 : (n36 z.toNat).length ≤ 13 := f36_len 13 z.toNat
  unfold keyB at h1 ⊢
  rw [List.flatMap_cons, List.length_append, List.length_append, List.length_singleton, List.length_cons]
  omega
end Go.Proofs.YtofaifeadhimjaaGreatDoor

namespace Go.Proofs.YtofaifeadhimjaaGreatDoor
open Go.RowKit

theorem owns_at {w : World} {B e n cap : Nat} {a : Option Addr} {xs : List Value} (h : w.ownsRow B e 1 (.slice a n cap) n xs) (hn : 0 < n) : ∃ g, a = some ⟨g, 0, none⟩ ∧ B ≤ g ∧ g < w.heap.size := by
 rcases h.2 with ⟨h', _⟩ | ⟨g', cap', cur, h', hb, hg, _⟩
 ·simp at h'; omega
 ·simp only [Value.slice.injEq] at h'
  exact ⟨g', h'.1, hb, (Array.getElem?_eq_some_iff.1 hg).1⟩

theorem ivs_set (k : IntKind) (xs : List Int) (j : Nat) (v : Int) : (ivs k xs).set j (.int k v) = ivs k (xs.set j v) := by simp [ivs]
theorem ivs_get (k : IntKind) (xs : List Int) (j : Nat) (h : j < xs.length) : (ivs k xs)[j]? = some (.int k (gi xs j)) := by
 simp [ivs, getElem?_gi xs j h]

theorem own_cell {w : World} {B e n cap g : Nat} {k : IntKind} {xs : List Int} (h : w.ownsRow B e 1 (.slice (some ⟨g, 0, none⟩) n cap) n (ivs k xs)) (j : Nat) (hj : j < n) (hx : xs.length = n) :
  w.cell? ⟨g, j, none⟩ = some (.int k (gi xs j)) ∧ w.frozen? ⟨g, j, none⟩ = false :=
 ⟨by rw [h.cellAt j (by omega), ivs_get k xs j (by omega)], h.frozenAt j⟩

theorem own_store {w : World} {B e n cap g : Nat} {k : IntKind} {xs : List Int} (h : w.ownsRow B e 1 (.slice (some ⟨g, 0, none⟩) n cap) n (ivs k xs)) (j : Nat) (v : Int) :
  (w.setCell ⟨g, j, none⟩ (.int k v)).ownsRow B e 1 (.slice (some ⟨g, 0, none⟩) n cap) n (ivs k (xs.set j v)) := by
 have := (h.stored j (.int k v)).1
 rw [ivs_set] at this
 exact this

theorem app_one {P : Program} {T E : TypeId} {z0 : Value} {bytes : Nat} {k : IntKind} (el : Elem P T E z0 1 bytes) {w0 : World} {ops : Array Oper} {rest : List Oper} {o : Oper} {a : Act} {Q : Exit → Act → World → Prop} (hgd : Region.wanted o (yielded ops a.tmps) = true) (s x : Operand)
  (ho : o.op = .call { callee := .builtin .append, args := #[s, x], argTypes := #[T, T] })
  {B : Nat} {v : Value} {n : Nat} {xs : List Int} (hs : a.eval s = v) (hown : w0.ownsRow B E 1 v n (ivs k xs)) {z : Int} (hx : a.eval x = .slice (some ⟨w0.heap.size, 0, none⟩) 1 1)
  (hb : (n + 1) * (bytes + 1) ≤ 140737488355328) (hB : B ≤ w0.heap.size)
  (h : ∀ a' c' w', w'.ownsRow B E 1 (.slice a' (n + 1) c') (n + 1) (ivs k (xs ++ [z])) → Below B w0 w' → wpList P ops Q rest (a.put o.dst (.slice a' (n + 1) c')) w') : wpList P ops Q (o :: rest) a (w0.alloc (.cells #[.int k z] E)) := by
 refine app_ints (k := k) (xs := xs) (ys := [z]) el hgd s x ho hs (hown.kept_below ((Below.refl _ _).alloc (Nat.le_refl _) _)) hx (new_ints k w0 E [z] 1 rfl (by decide)) hb (by simp; omega) ?_
 intro a' c' w' h1 _ h3 _
 exact h a' c' w' h1 (((Below.refl _ _).alloc hB _).trans h3)

theorem filter_snoc (p : Int → Bool) (xs : List Int) (k : Nat) (h : k < xs.length) : (xs.take (k + 1)).filter p = (xs.take k).filter p ++ if p (gi xs k) then [gi xs k] else [] := by
 rw [take_succ_gi xs k h, List.filter_append]
 congr 1
 by_cases hp : p (gi xs k) = true <;> simp [hp]
theorem filter_yes {p : Int → Bool} {xs : List Int} {k : Nat} (h : k < xs.length) (hp : p (gi xs k) = true) : (xs.take (k + 1)).filter p = (xs.take k).filter p ++ [gi xs k] := by rw [filter_snoc p xs k h, if_pos hp]
theorem filter_no {p : Int → Bool} {xs : List Int} {k : Nat} (h : k < xs.length) (hp : p (gi xs k) = false) : (xs.take (k + 1)).filter p = (xs.take k).filter p := by rw [filter_snoc p xs k h, hp]; simp

theorem IsInts.at {k : IntKind} {w : World} {a : Option Addr} {len cap : Nat} {zs : List Int} (h : IsInts k w a len cap zs) (W : World) (hb : Below w.heap.size w W) (i : Nat) (hi : i < len) :
  ∃ b off, a = some ⟨b, off, none⟩ ∧ b < w.heap.size ∧ W.cell? ⟨b, off + i, none⟩ = some (.int k (gi zs i)) := by
 rcases h with ⟨_, h0, _⟩ | ⟨b, off, rfl, _, _, _, hc⟩
 ·omega
 ·have hl := lt_of_cell (hc i hi)
  exact ⟨b, off, rfl, hl, by rw [hb.cell (p := ⟨b, off + i, none⟩) hl]; exact hc i hi⟩

theorem make_ints {P : Program} {T E : TypeId} {bytes : Nat} {k : IntKind} (el : Elem P T E (.int k 0) 1 bytes) {w : World} {ops : Array Oper} {rest : List Oper} {o : Oper} {a : Act} {Q : Exit → Act → World → Prop} (hgd : Region.wanted o (yielded ops a.tmps) = true) (l c : Operand)
  (ho : o.op = .makeSlice T l c) {B : Nat} {kl kc : IntKind} {n : Nat} {C C' : Int} (hl : a.eval l = .int kl C') (hc : a.eval c = .int kc C) (hC : C = n) (hC' : C' = n) (hb : n * (bytes + 1) ≤ 140737488355328) (hB : B ≤ w.heap.size)
  (h : ∀ w', w'.ownsRow B E 1 (.slice (some ⟨w.heap.size, 0, none⟩) n n) n (ivs k (List.replicate n 0)) → Below B w w' → w'.heap.size = w.heap.size + 1 → wpList P ops Q rest (a.put o.dst (.slice (some ⟨w.heap.size, 0, none⟩) n n)) w') : wpList P ops Q (o :: rest) a w := by
 subst hC hC'
 refine wpList_wanted hgd fun K hK => ?_
 obtain ⟨i, hi, hz, hsize, hby⟩ := info_parts el.info
 have hb1 : n * bytes + n ≤ 140737488355328 := by rw [← Nat.mul_succ]; exact hb
 have hr := run_make (P := P) w T E i (.int k 0) el.ht hi hz kl kc n n (by omega) (Int.le_refl _) (by have h2 : ((i.bytes * n : Nat) : Int) ≤ 281474976710656 := by (rw [hby, Nat.mul_comm]; omega)
                                                                                                      rwa [Int.natCast_mul] at h2) (by omega)
 simp only [Int.toNat_natCast] at hr
 have h0 : (madeCells (Value.int k 0).cells (n * i.size)).toList = ivs k (List.replicate n 0) := by
  rw [hsize, Nat.mul_one, show (Value.int k 0).cells = #[.int k 0] from rfl, toList_madeCells_one]
  simp [ivs]
 have hO := World.ownsRow_lit (base := B) (e := E) (size := 1) w (madeCells (Value.int k 0).cells (n * i.size)) n hB (by unfold maxLen; omega) (by rw [hsize]; exact size_madeCells _ _)
 rw [h0] at hO
 unfold Oper.wp
 simp [execOp, ho, hl, hc, hr, Result.andThen]
 exact hK _ _ (h _ hO ((Below.refl B w).alloc hB _) (by simp))

def PartOf (k : IntKind) (e : TypeId) (w : World) (B g n : Nat) (zs : List Int) : Prop :=
 ∃ M xs, n ≤ M ∧ xs.length = M ∧ zs = xs.take n ∧ w.ownsRow B e 1 (.slice (some ⟨g, 0, none⟩) M M) M (ivs k xs)
theorem PartOf.length {k : IntKind} {e : TypeId} {w : World} {B g n : Nat} {zs : List Int} (h : PartOf k e w B g n zs) : zs.length = n := by
 obtain ⟨M, xs, h1, h2, rfl, _⟩ := h
 simp; omega
theorem PartOf.ints {k : IntKind} {e : TypeId} {w : World} {B g n : Nat} {zs : List Int} (h : PartOf k e w B g n zs) : IsInts k w (some ⟨g, 0, none⟩) n n zs := by
 obtain ⟨M, xs, h1, h2, rfl, h3⟩ := h
 have := (IsInts.of_owns h3).1.slice 0 n n (by omega) h1 (Nat.le_refl _) h1 (a' := some ⟨g, 0, none⟩) (fun _ => by simp [Addr.add]) (fun _ => rfl)
 simpa using this
theorem PartOf.kept {k : IntKind} {e : TypeId} {w w' : World} {B g n : Nat} {zs : List Int} (h : PartOf k e w B g n zs) (hb : Below w.heap.size w w') : PartOf k e w' B g n zs := by
 obtain ⟨M, xs, h1, h2, h3, h4⟩ := h
 exact ⟨M, xs, h1, h2, h3, h4.kept_below hb⟩
theorem PartOf.from_mono {k : IntKind} {e : TypeId} {w : World} {B B' g n : Nat} {zs : List Int} (h : PartOf k e w B g n zs) (hb : B' ≤ B) : PartOf k e w B' g n zs := by
 obtain ⟨M, xs, h1, h2, h3, h4⟩ := h
 exact ⟨M, xs, h1, h2, h3, h4.from_mono hb⟩
theorem PartOf.cell {k : IntKind} {e : TypeId} {w : World} {B g n : Nat} {zs : List Int} (h : PartOf k e w B g n zs) (j : Nat) (hj : j < n) :
  w.cell? ⟨g, j, none⟩ = some (.int k (gi zs j)) ∧ w.frozen? ⟨g, j, none⟩ = false := by
 obtain ⟨M, xs, h1, h2, rfl, h4⟩ := h
 rw [gi_take _ _ _ hj]
 exact own_cell h4 j (by omega) h2
theorem PartOf.store {k : IntKind} {e : TypeId} {w : World} {B g n : Nat} {zs : List Int} (h : PartOf k e w B g n zs) (j : Nat) (v : Int) :
  PartOf k e (w.setCell ⟨g, j, none⟩ (.int k v)) B g n (zs.set j v) := by
 obtain ⟨M, xs, h1, h2, rfl, h4⟩ := h
 exact ⟨M, xs.set j v, h1, by simp [h2], by rw [List.take_set], own_store h4 j v⟩
theorem PartOf.base {k : IntKind} {e : TypeId} {w : World} {B g n : Nat} {zs : List Int} (h : PartOf k e w B g n zs) : B ≤ g ∧ g < w.heap.size := by
 obtain ⟨M, xs, h1, h2, rfl, h4⟩ := h
 rcases h4.2 with ⟨h', _⟩ | ⟨g', cap', cur, h', hb, hg, _⟩
 ·simp at h'
 ·simp only [Value.slice.injEq, Option.some.injEq, Addr.mk.injEq, and_true, true_and] at h'
  obtain ⟨rfl, rfl⟩ := h'
  exact ⟨hb, (Array.getElem?_eq_some_iff.1 hg).1⟩
theorem PartOf.below {k : IntKind} {e : TypeId} {w : World} {B g n : Nat} {zs : List Int} (h : PartOf k e w B g n zs) {a : Addr} (ha : a.block < B) (u : Value) : PartOf k e (w.setCell a u) B g n zs := by
 obtain ⟨M, xs, h1, h2, h3, h4⟩ := h
 exact ⟨M, xs, h1, h2, h3, ownsRow_setCell_below h4 ha u⟩
end Go.Proofs.YtofaifeadhimjaaGreatDoor
