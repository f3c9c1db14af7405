import Derived.Test.YtpcbmhfnefhenaaMG1
import Derived.Test.YtpcbmhfnefhenaaMG17
/-
  GraB, OrdPg
-/
set_option linter.unusedVariables false
namespace Go.Proofs.Ytpcbmhfnefhenaa
open Go.RowKit

def IsRow (k : IntKind) (w : World) (a : Option Addr) (len cap : Nat) (zs : List Int) : Prop := IsInts k w a len cap zs ∨ (len = 0 ∧ cap = 0 ∧ zs = [])
theorem IsInts.row {k : IntKind} {w : World} {a : Option Addr} {len cap : Nat} {zs : List Int} (h : IsInts k w a len cap zs) : IsRow k w a len cap zs := .inl h
theorem IsRow.length {k : IntKind} {w : World} {a : Option Addr} {len cap : Nat} {zs : List Int} (h : IsRow k w a len cap zs) : zs.length = len := by
 rcases h with h | ⟨rfl, _, rfl⟩
 ·exact h.length
 ·rfl
theorem IsRow.cap {k : IntKind} {w : World} {a : Option Addr} {len cap : Nat} {zs : List Int} (h : IsRow k w a len cap zs) : len ≤ cap ∧ cap ≤ maxLen := by
 rcases h with h | ⟨rfl, rfl, _⟩
 ·exact h.cap
 ·exact ⟨Nat.le_refl _, Nat.zero_le _⟩
theorem IsRow.later {k : IntKind} {w w' : World} {a : Option Addr} {len cap : Nat} {zs : List Int} (h : IsRow k w a len cap zs) (hb : Below w.heap.size w w') : IsRow k w' a len cap zs := h.imp (fun h => h.later hb) id
theorem IsRow.at {k : IntKind} {w : World} {a : Option Addr} {len cap : Nat} {zs : List Int} (h : IsRow k w a len cap zs) (W : World) (hb : Below w.heap.size w W) (i : Nat) (hi : i < len) :
  ∃ b off, a = some ⟨b, off, none⟩ ∧ b < w.heap.size ∧ W.cell? ⟨b, off + i, none⟩ = some (.int k (gi zs i)) := by
 rcases h with h | ⟨rfl, _, _⟩
 ·exact h.at W hb i hi
 ·omega
theorem IsRow.get {k : IntKind} {W : World} {b off len cap : Nat} {zs : List Int} (h : IsRow k W (some ⟨b, off, none⟩) len cap zs) (i : Nat) (hi : i < len) : W.cell? ⟨b, off + i, none⟩ = some (.int k (gi zs i)) := by
 obtain ⟨b', off', e, -, hc⟩ := h.at W (Below.refl _ _) i hi
 injection e with e; injection e with e1 e2; subst e1; subst e2
 exact hc

def IsRows (w : World) (a : Option Addr) (len cap : Nat) (g : List (List Int)) : Prop :=
 len ≤ cap ∧ cap ≤ maxLen ∧ g.length = len ∧ (0 < len → ∃ b off, a = some ⟨b, off, none⟩ ∧ ∀ i, i < len → ∃ ai li ci, w.cell? ⟨b, off + i, none⟩ = some (.slice ai li ci) ∧ IsRow .i64 w ai li ci (gr g i))
theorem IsRows.length {w : World} {a : Option Addr} {len cap : Nat} {g : List (List Int)} (h : IsRows w a len cap g) : g.length = len := h.2.2.1
theorem IsRows.cap {w : World} {a : Option Addr} {len cap : Nat} {g : List (List Int)} (h : IsRows w a len cap g) : len ≤ cap ∧ cap ≤ maxLen := ⟨h.1, h.2.1⟩
theorem IsRows.later {w w' : World} {a : Option Addr} {len cap : Nat} {g : List (List Int)} (h : IsRows w a len cap g) (hb : Below w.heap.size w w') : IsRows w' a len cap g := by
 refine ⟨h.1, h.2.1, h.2.2.1, fun h0 => ?_⟩
 obtain ⟨b, off, e, hr⟩ := h.2.2.2 h0
 refine ⟨b, off, e, fun i hi => ?_⟩
 obtain ⟨ai, li, ci, h1, h2⟩ := hr i hi
 exact ⟨ai, li, ci, (hb.cell (p := ⟨b, off + i, none⟩) (lt_of_cell h1)).trans h1, h2.later hb⟩
theorem IsRows.at {w : World} {a : Option Addr} {len cap : Nat} {g : List (List Int)} (h : IsRows w a len cap g) (W : World) (hb : Below w.heap.size w W) (i : Nat) (hi : i < len) :
  ∃ b off ai li ci, a = some ⟨b, off, none⟩ ∧ W.cell? ⟨b, off + i, none⟩ = some (.slice ai li ci) ∧ IsRow .i64 W ai li ci (gr g i) := by
 obtain ⟨b, off, e, hr⟩ := (h.later hb).2.2.2 (by omega)
 obtain ⟨ai, li, ci, h1, h2⟩ := hr i hi
 exact ⟨b, off, ai, li, ci, e, h1, h2⟩
theorem IsRows.fix {w : World} {a : Option Addr} {len cap : Nat} {g : List (List Int)} (h : IsRows w a len cap g) (i : Nat) (hi : i < len) :
  ∃ b off ai li ci, a = some ⟨b, off, none⟩ ∧ (∀ W, Below w.heap.size w W → W.cell? ⟨b, off + i, none⟩ = some (.slice ai li ci)) ∧ IsRow .i64 w ai li ci (gr g i) := by
 obtain ⟨b, off, e, hr⟩ := h.2.2.2 (by omega)
 obtain ⟨ai, li, ci, h1, h2⟩ := hr i hi
 exact ⟨b, off, ai, li, ci, e, fun W hb => (hb.cell (p := ⟨b, off + i, none⟩) (lt_of_cell h1)).trans h1, h2⟩
theorem IsRow.fix {k : IntKind} {w : World} {a : Option Addr} {len cap : Nat} {zs : List Int} (h : IsRow k w a len cap zs) (i : Nat) (hi : i < len) :
  ∃ b off, a = some ⟨b, off, none⟩ ∧ ∀ W, Below w.heap.size w W → W.cell? ⟨b, off + i, none⟩ = some (.int k (gi zs i)) := by
 obtain ⟨b, off, e, hl, -⟩ := h.at w (Below.refl _ _) i hi
 refine ⟨b, off, e, fun W hb => ?_⟩
 obtain ⟨b', off', e', -, hc⟩ := h.at W hb i hi
 rw [e] at e'
 injection e' with e'; injection e' with e1 e2; subst e1; subst e2
 exact hc

/-! Rows of the call's own. -/
theorem owns_same {W W' : World} {B e s n : Nat} {v : Value} {xs : List Value} (h : W.ownsRow B e s v n xs) (hs : ∀ k, v.ownBlock = some k → W'.heap[k]? = W.heap[k]?) : W'.ownsRow B e s v n xs := by
 refine ⟨h.1, ?_⟩
 rcases h.2 with h' | ⟨g, cap, cur, rfl, h1, h2, h3⟩
 ·exact .inl h'
 ·exact .inr ⟨g, cap, cur, rfl, h1, by rw [hs g rfl]; exact h2, h3⟩

structure OwnG (W : World) (B To Ti : Nat) (ao : Option Addr) (n co : Nat) (ms vs : List Value) (rows : List (List Int)) : Prop where
 out : W.ownsRow B To 1 (.slice ao n co) n ms
 len : rows.length = n
 vlen : vs.length = n
 row : ∀ i, i < n → ∃ v, vs[i]? = some v ∧ W.ownsRow B Ti 1 v (gr rows i).length (ivs .i64 (gr rows i))
 ne : ∀ (i : Nat) v, vs[i]? = some v → ∀ k, v.ownBlock = some k → (Value.slice ao n co).ownBlock ≠ some k
 dis : ∀ (i j : Nat) v u, i ≠ j → vs[i]? = some v → vs[j]? = some u → ∀ k, v.ownBlock = some k → u.ownBlock ≠ some k
section
variable {W W' : World} {B To Ti : Nat} {ao : Option Addr} {n co : Nat} {ms vs : List Value} {rows : List (List Int)}
theorem OwnG.same (h : OwnG W B To Ti ao n co ms vs rows) (ho : ∀ k, (Value.slice ao n co).ownBlock = some k → W'.heap[k]? = W.heap[k]?) (hr : ∀ (i : Nat) v k, i < n → vs[i]? = some v → v.ownBlock = some k → W'.heap[k]? = W.heap[k]?) : OwnG W' B To Ti ao n co ms vs rows := by
 refine ⟨owns_same h.out ho, h.len, h.vlen, fun i hi => ?_, h.ne, h.dis⟩
 obtain ⟨v, h1, h2⟩ := h.row i hi
 exact ⟨v, h1, owns_same h2 fun k hk => hr i v k hi h1 hk⟩
theorem OwnG.lt (h : OwnG W B To Ti ao n co ms vs rows) : (∀ k, (Value.slice ao n co).ownBlock = some k → B ≤ k ∧ k < W.heap.size) ∧ ∀ (i : Nat) v k, i < n → vs[i]? = some v → v.ownBlock = some k → B ≤ k ∧ k < W.heap.size := by
 refine ⟨fun k hk => h.out.lt k hk, fun i v k hi hv hk => ?_⟩
 obtain ⟨u, h1, h2⟩ := h.row i hi
 rw [hv] at h1
 injection h1 with h1
 subst h1
 exact h2.lt k hk
theorem OwnG.kept (h : OwnG W B To Ti ao n co ms vs rows) (hb : Below W.heap.size W W') : OwnG W' B To Ti ao n co ms vs rows :=
 h.same (fun k hk => hb.block k (h.lt.1 k hk).2) fun i v k hi hv hk => hb.block k (h.lt.2 i v k hi hv hk).2
theorem OwnG.setBelow (h : OwnG W B To Ti ao n co ms vs rows) {a : Addr} (ha : a.block < B) (u : Value) : OwnG (W.setCell a u) B To Ti ao n co ms vs rows :=
 h.same (fun k hk => heap_setCell_other _ _ _ _ (by have := (h.lt.1 k hk).1; omega)) fun i v k hi hv hk => heap_setCell_other _ _ _ _ (by have := (h.lt.2 i v k hi hv hk).1; omega)
theorem OwnG.base (h : OwnG W B To Ti ao n co ms vs rows) {B' : Nat} (hB : B' ≤ B) : OwnG W B' To Ti ao n co ms vs rows :=
 ⟨h.out.from_mono hB, h.len, h.vlen, fun i hi => by
  obtain ⟨v, h1, h2⟩ := h.row i hi
  exact ⟨v, h1, h2.from_mono hB⟩, h.ne, h.dis⟩
theorem OwnG.mem (h : OwnG W B To Ti ao n co ms ms rows) {i : Nat} (hi : i < n) : ∃ v, ms[i]? = some v ∧ W.ownsRow B Ti 1 v (gr rows i).length (ivs .i64 (gr rows i)) := h.row i hi
theorem OwnG.addr (h : OwnG W B To Ti ao n co ms vs rows) (h0 : 0 < n) : ∃ g, ao = some ⟨g, 0, none⟩ ∧ B ≤ g ∧ g < W.heap.size := owns_at h.out h0
theorem OwnG.cell {g : Nat} (h : OwnG W B To Ti (some ⟨g, 0, none⟩) n co ms vs rows) {i : Nat} {v : Value} (hv : ms[i]? = some v) : W.cell? ⟨g, i, none⟩ = some v ∧ W.frozen? ⟨g, i, none⟩ = false := by
 have hi : i < ms.length := (List.getElem?_eq_some_iff.1 hv).1
 have hl := h.out.1
 exact ⟨by rw [h.out.cellAt i (by omega)]; exact hv, h.out.frozenAt i⟩
theorem OwnG.mlen (h : OwnG W B To Ti ao n co ms vs rows) : ms.length = n := by have := h.out.1; omega
theorem OwnG.read (h : OwnG W B To Ti ao n co ms ms rows) : IsRows W ao n co rows := by
 have hco : n ≤ co ∧ co ≤ maxLen := by
  rcases h.out.2 with ⟨e, h0⟩ | ⟨g, cap, cur, e, _, _, h1, h2, _⟩
  ·injection e with _ e1 e2; subst h0; subst e2; exact ⟨Nat.le_refl _, Nat.zero_le _⟩
  ·injection e with _ _ e2; subst e2; exact ⟨h1, h2⟩
 refine ⟨hco.1, hco.2, h.len, fun h0 => ?_⟩
 obtain ⟨g, rfl, -, -⟩ := h.addr h0
 refine ⟨g, 0, rfl, fun i hi => ?_⟩
 obtain ⟨v, h1, h2⟩ := h.row i hi
 obtain ⟨a, c, rfl, hc⟩ := owns_slice h2
 refine ⟨a, _, c, by rw [Nat.zero_add]; exact (h.cell h1).1, .inl (IsInts.of_owns h2).1⟩
theorem OwnG.grow' (h : OwnG W B To Ti ao n co ms vs rows) {i : Nat} {v v' : Value} {zs : List Int} (hi : i < n) (hv : vs[i]? = some v) (hg : W.grownBy W' v.ownBlock) (ho : W'.ownsRow B Ti 1 v' zs.length (ivs .i64 zs)) (blk : ∀ k, v'.ownBlock = some k → v.ownBlock = some k ∨ W.heap.size ≤ k) :
  OwnG W' B To Ti ao n co ms (vs.set i v') (rows.set i zs) := by
 have hvl : i < vs.length := (List.getElem?_eq_some_iff.1 hv).1
 have hrl : i < rows.length := by rw [h.len]; exact hi
 have keep : ∀ k, k < W.heap.size → v.ownBlock ≠ some k → W'.heap[k]? = W.heap[k]? := fun k hk hne => hg.block k hk (fun e => hne e.symm)
 have get : ∀ (j : Nat) u, (vs.set i v')[j]? = some u → (j = i ∧ u = v') ∨ (j ≠ i ∧ vs[j]? = some u) := fun j u hu => by
  by_cases e : j = i
  ·subst e; rw [List.getElem?_set_self hvl] at hu; injection hu with hu; exact .inl ⟨rfl, hu.symm⟩
  ·rw [List.getElem?_set_ne (Ne.symm e)] at hu; exact .inr ⟨e, hu⟩
 refine ⟨owns_same h.out fun k hk => keep k (h.lt.1 k hk).2 (fun e => h.ne i v hv k e hk), by rw [List.length_set]; exact h.len, by rw [List.length_set]; exact h.vlen, fun j hj => ?_, fun j u hu k hk => ?_, fun j l u t hjl hu ht k hk => ?_⟩
 ·by_cases e : j = i
  ·subst e
   refine ⟨v', List.getElem?_set_self hvl, ?_⟩
   have : gr (rows.set j zs) j = zs := by simp [gr, List.getD, hrl]
   rw [this]; exact ho
  ·obtain ⟨u, h1, h2⟩ := h.row j hj
   refine ⟨u, by rw [List.getElem?_set_ne (Ne.symm e)]; exact h1, ?_⟩
   have : gr (rows.set i zs) j = gr rows j := by simp [gr, List.getD, List.getElem?_set_ne (Ne.symm e)]
   rw [this]
   exact owns_same h2 fun k hk => keep k (h2.lt k hk).2 (h.dis j i u v e h1 hv k hk)
 ·rcases get j u hu with ⟨rfl, rfl⟩ | ⟨e, hu⟩
  ·rcases blk k hk with e | e
   ·exact h.ne j v hv k e
   ·intro e2; have := (h.lt.1 k e2).2; omega
  ·exact h.ne j u hu k hk
 ·rcases get j u hu with ⟨e5, e6⟩ | ⟨e, hu'⟩
  ·subst e5 e6
   rcases get l t ht with ⟨e7, e8⟩ | ⟨e2, ht'⟩
   ·exact absurd e7.symm hjl
   ·rcases blk k hk with e | e
    ·exact h.dis j l v t hjl hv ht' k e
    ·intro e3
     have := (h.lt.2 l t k (by rw [← h.vlen]; exact (List.getElem?_eq_some_iff.1 ht').1) ht' e3).2; omega
  ·rcases get l t ht with ⟨e7, e8⟩ | ⟨e2, ht'⟩
   ·subst e7 e8
    intro e3
    rcases blk k e3 with e4 | e4
    ·exact h.dis j l u v hjl hu' hv k hk e4
    ·have := (h.lt.2 j u k (by rw [← h.vlen]; exact (List.getElem?_eq_some_iff.1 hu').1) hu' hk).2; omega
   ·exact h.dis j l u t hjl hu' ht' k hk
theorem OwnG.grow (h : OwnG W B To Ti ao n co ms vs rows) {i : Nat} {v v' : Value} {zs : List Int} (hi : i < n) (hv : vs[i]? = some v) (hg : W.grownBy W' v.ownBlock) (ho : W'.ownsRow B Ti 1 v' zs.length (ivs .i64 zs)) (hbk : v'.ownBlock = v.ownBlock ∨ v'.ownBlock = some W.heap.size ∨ v'.ownBlock = none) :
  OwnG W' B To Ti ao n co ms (vs.set i v') (rows.set i zs) :=
 h.grow' hi hv hg ho fun k hk => by
  rcases hbk with e | e | e
  ·exact .inl (by rw [← e]; exact hk)
  ·rw [e] at hk; injection hk with hk; exact .inr (by omega)
  ·rw [e] at hk; cases hk
theorem below_grownBy {w w' : World} (h : Below w.heap.size w w') (r : Option Nat) : w.grownBy w' r := ⟨h.os, h.tape, h.output, h.size, fun k hk _ => h.block k hk⟩
theorem OwnG.put {g : Nat} (h : OwnG W B To Ti (some ⟨g, 0, none⟩) n co ms vs rows) {i : Nat} (hi : i < n) (v : Value) : OwnG (W.setCell ⟨g, i, none⟩ v) B To Ti (some ⟨g, 0, none⟩) n co (ms.set i v) vs rows := by
 refine ⟨(h.out.stored i v).1, h.len, h.vlen, fun j hj => ?_, h.ne, h.dis⟩
 obtain ⟨u, h1, h2⟩ := h.row j hj
 exact ⟨u, h1, owns_same h2 fun k hk => heap_setCell_other _ _ _ _ (fun e => h.ne j u h1 k hk (by rw [e]; rfl))⟩
theorem OwnG.more {W' : World} {ao' : Option Addr} {co' : Nat} (h : OwnG W B To Ti ao n co ms ms rows) {v : Value} {zs : List Int} (hv : W.ownsRow B Ti 1 v zs.length (ivs .i64 zs)) (hvo : ∀ k, v.ownBlock = some k → (Value.slice ao n co).ownBlock ≠ some k) (hvr : ∀ (i : Nat) u, ms[i]? = some u → ∀ k, v.ownBlock = some k → u.ownBlock ≠ some k)
  (ho : W'.ownsRow B To 1 (.slice ao' (n + 1) co') (n + 1) (ms ++ [v])) (hg : W.grownBy W' (Value.slice ao n co).ownBlock) (hbk : (Value.slice ao' (n + 1) co').ownBlock = (Value.slice ao n co).ownBlock ∨ (Value.slice ao' (n + 1) co').ownBlock = some W.heap.size) :
  OwnG W' B To Ti ao' (n + 1) co' (ms ++ [v]) (ms ++ [v]) (rows ++ [zs]) := by
 have hml := h.mlen
 have hrl := h.len
 have get : ∀ (j : Nat) u, (ms ++ [v])[j]? = some u → (j = n ∧ u = v) ∨ (j < n ∧ ms[j]? = some u) := fun j u hu => by
  rcases Nat.lt_or_ge j n with hj | hj
  ·rw [List.getElem?_append_left (by omega)] at hu; exact .inr ⟨hj, hu⟩
  ·rw [List.getElem?_append_right (by omega)] at hu
   have : j - ms.length = 0 := by
    have := (List.getElem?_eq_some_iff.1 hu).1
    simp at this; omega
   rw [this] at hu
   simp at hu
   exact .inl ⟨by omega, hu.symm⟩
 have keep : ∀ k, k < W.heap.size → (Value.slice ao n co).ownBlock ≠ some k → W'.heap[k]? = W.heap[k]? := fun k hk hne => hg.block k hk (fun e => hne e.symm)
 have blk : ∀ k, (Value.slice ao' (n + 1) co').ownBlock = some k → (Value.slice ao n co).ownBlock = some k ∨ k = W.heap.size := fun k hk => by
  rcases hbk with e | e
  ·exact .inl (by rw [← e]; exact hk)
  ·rw [e] at hk; injection hk with hk; exact .inr hk.symm
 refine ⟨ho, by simp [hrl], by simp [hml], fun j hj => ?_, fun j u hu k hk e => ?_, fun j l u t hjl hu ht k hk e => ?_⟩
 ·rcases Nat.lt_or_ge j n with hj' | hj'
  ·obtain ⟨u, h1, h2⟩ := h.row j hj'
   refine ⟨u, by rw [List.getElem?_append_left (by omega)]; exact h1, ?_⟩
   have : gr (rows ++ [zs]) j = gr rows j := by simp [gr, List.getD, List.getElem?_append_left (show j < rows.length by omega)]
   rw [this]
   exact owns_same h2 fun k hk => keep k (h2.lt k hk).2 (h.ne j u h1 k hk)
  ·obtain rfl : j = n := by omega
   refine ⟨v, by rw [← hml]; simp, ?_⟩
   have : gr (rows ++ [zs]) j = zs := by rw [← hrl]; simp [gr, List.getD]
   rw [this]
   exact owns_same hv fun k hk => keep k (hv.lt k hk).2 (hvo k hk)
 ·rcases get j u hu with ⟨rfl, rfl⟩ | ⟨hj, hu'⟩
  ·rcases blk k e with e2 | e2
   ·exact hvo k hk e2
   ·have := (hv.lt k hk).2; omega
  ·rcases blk k e with e2 | e2
   ·exact h.ne j u hu' k hk e2
   ·have := (h.lt.2 j u k hj hu' hk).2; omega
 ·rcases get j u hu with ⟨e1, e2⟩ | ⟨hj, hu'⟩
  ·rcases get l t ht with ⟨e3, e4⟩ | ⟨hl, ht'⟩
   ·omega
   ·subst e2; exact hvr l t ht' k hk e
  ·rcases get l t ht with ⟨e3, e4⟩ | ⟨hl, ht'⟩
   ·subst e4; exact hvr j u hu' k e hk
   ·exact h.dis j l u t hjl hu' ht' k hk e
theorem OwnG.nil (W : World) (B To Ti : Nat) : OwnG W B To Ti none 0 0 [] [] [] :=
 ⟨World.ownsRow_nil _ _ _ _, rfl, rfl, fun i hi => absurd hi (Nat.not_lt_zero _), fun i v h => by simp at h, fun i j v u _ h => by simp at h⟩
theorem OwnG.made {g N : Nat} (h : W.ownsRow B To 1 (.slice (some ⟨g, 0, none⟩) N N) N (List.replicate N (.slice none 0 0))) : OwnG W B To Ti (some ⟨g, 0, none⟩) N N (List.replicate N (.slice none 0 0)) (List.replicate N (.slice none 0 0)) (List.replicate N []) := by
 refine ⟨h, by simp, by simp, fun i hi => ⟨.slice none 0 0, by simp [hi], ?_⟩, fun i v hv k hk => ?_, fun i j v u _ hv _ k hk => ?_⟩
 ·have : gr (List.replicate N ([] : List Int)) i = [] := by simp [gr, List.getD, hi]
  rw [this]
  exact World.ownsRow_nil _ _ _ _
 ·have := List.eq_of_mem_replicate (List.mem_of_getElem? hv)
  rw [this] at hk; cases hk
 ·have := List.eq_of_mem_replicate (List.mem_of_getElem? hv)
  rw [this] at hk; cases hk
end
end Go.Proofs.Ytpcbmhfnefhenaa

set_option linter.unusedVariables false
namespace Go.Proofs.Ytpcbmhfnefhenaa
open Go.RowKit

def gp (es : List (Int × Int)) (i : Nat) : Int × Int := es.getD i (0, 0)
theorem gp_eq (es : List (Int × Int)) (i : Nat) (h : i < es.length) : gp es i = es[i] := by simp [gp, List.getD, h]
theorem gp_mem (es : List (Int × Int)) (i : Nat) (h : i < es.length) : gp es i ∈ es := by rw [gp_eq es i h]; exact List.getElem_mem h
theorem take_succ_gp (es : List (Int × Int)) (k : Nat) (h : k < es.length) : es.take (k + 1) = es.take k ++ [gp es k] := by
 rw [gp_eq es k h, List.take_append_getElem h]
def IsPairs (w : World) (a : Option Addr) (len cap : Nat) (es : List (Int × Int)) : Prop :=
 (a = none ∧ len = 0 ∧ cap = 0 ∧ es = []) ∨
 ∃ b off, a = some ⟨b, off, none⟩ ∧ len ≤ cap ∧ cap ≤ maxLen ∧ es.length = len ∧ ∀ i, i < len → w.cell? ⟨b, off + i * 2, none⟩ = some (.int .i64 (gp es i).1) ∧ w.cell? ⟨b, off + i * 2 + 1, none⟩ = some (.int .i64 (gp es i).2)
theorem IsPairs.length {w : World} {a : Option Addr} {len cap : Nat} {es : List (Int × Int)} (h : IsPairs w a len cap es) : es.length = len := by
 rcases h with ⟨_, h, _, rfl⟩ | ⟨_, _, _, _, _, h, _⟩
 ·rw [h]; rfl
 ·exact h
theorem IsPairs.later {w w' : World} {a : Option Addr} {len cap : Nat} {es : List (Int × Int)} (h : IsPairs w a len cap es) (hb : Below w.heap.size w w') : IsPairs w' a len cap es := by
 rcases h with h | ⟨b, off, h1, h2, h3, h4, h5⟩
 ·exact .inl h
 ·exact .inr ⟨b, off, h1, h2, h3, h4, fun i hi => ⟨(hb.cell (p := ⟨b, off + i * 2, none⟩) (lt_of_cell (h5 i hi).1)).trans (h5 i hi).1, (hb.cell (p := ⟨b, off + i * 2 + 1, none⟩) (lt_of_cell (h5 i hi).2)).trans (h5 i hi).2⟩⟩
theorem IsPairs.at {w : World} {a : Option Addr} {len cap : Nat} {es : List (Int × Int)} (h : IsPairs w a len cap es) (W : World) (hb : Below w.heap.size w W) (i : Nat) (hi : i < len) :
  ∃ b off, a = some ⟨b, off, none⟩ ∧ b < w.heap.size ∧ W.cell? ⟨b, off + i * 2, none⟩ = some (.int .i64 (gp es i).1) ∧ W.cell? ⟨b, off + i * 2 + 1, none⟩ = some (.int .i64 (gp es i).2) := by
 have h' := h.later hb
 rcases h with ⟨_, h0, _⟩ | ⟨b, off, rfl, _, _, _, hc⟩
 ·omega
 ·rcases h' with ⟨h0, _⟩ | ⟨b', off', e, _, _, _, hc'⟩
  ·cases h0
  ·injection e with e; injection e with e1 e2; subst e1; subst e2
   exact ⟨b, off, rfl, lt_of_cell (hc i hi).1, hc' i hi⟩

def pvs (ps : List (Int × Int)) : List Value := ps.flatMap fun e => [.int .i64 e.1, .int .i64 e.2]
theorem pvs_nil : pvs [] = [] := rfl
theorem pvs_cons (e : Int × Int) (ps : List (Int × Int)) : pvs (e :: ps) = .int .i64 e.1 :: .int .i64 e.2 :: pvs ps := rfl
theorem pvs_append (xs ys : List (Int × Int)) : pvs (xs ++ ys) = pvs xs ++ pvs ys := by simp [pvs]
theorem pvs_length : ∀ ps : List (Int × Int), (pvs ps).length = ps.length * 2
 | [] => rfl
 | e :: ps => by
  have := pvs_length ps
  rw [pvs_cons, List.length_cons, List.length_cons, List.length_cons]
  omega
theorem pvs_get : ∀ (ps : List (Int × Int)) (i : Nat), i < ps.length → (pvs ps)[i * 2]? = some (.int .i64 (gp ps i).1) ∧ (pvs ps)[i * 2 + 1]? = some (.int .i64 (gp ps i).2)
 | [], i, h => absurd h (Nat.not_lt_zero _)
 | e :: ps, 0, _ => ⟨rfl, rfl⟩
 | e :: ps, i + 1, h => by
  have ih := pvs_get ps i (by simpa using h)
  rw [show (i + 1) * 2 = i * 2 + 1 + 1 by omega, pvs_cons]
  exact ih
theorem pvs_one (ps : List (Int × Int)) : ∀ u ∈ pvs ps, u.oneCell' = true := by
 intro u h
 obtain ⟨e, _, he⟩ := List.mem_flatMap.1 h
 rcases List.mem_cons.1 he with rfl | he
 ·rfl
 ·rw [List.mem_singleton.1 he]; rfl
theorem IsPairs.of_owns {w : World} {B e : Nat} {a : Option Addr} {len cap n : Nat} {ps : List (Int × Int)} (h : w.ownsRow B e 2 (.slice a len cap) n (pvs ps)) : IsPairs w a len cap ps ∧ len = n := by
 obtain ⟨hl, h⟩ := h
 rw [pvs_length] at hl
 rcases h with ⟨e1, rfl⟩ | ⟨g, c, cur, e1, hg, hh, hn, hc, hs, ht⟩
 ·cases e1
  have : ps = [] := List.eq_nil_of_length_eq_zero (by omega)
  exact ⟨.inl ⟨rfl, rfl, rfl, this⟩, rfl⟩
 ·cases e1
  have hps : ps.length = len := by omega
  have key : ∀ j, j < len * 2 → w.cell? ⟨g, 0 + j, none⟩ = (pvs ps)[j]? := fun j hj => by
   have := congrArg (fun l => l[j]?) ht
   simp only [List.getElem?_take, if_pos hj] at this
   simp only [World.cell?, hh, Nat.zero_add]
   simpa using this
  refine ⟨.inr ⟨g, 0, rfl, hn, hc, hps, fun i hi => ?_⟩, rfl⟩
  have hp := pvs_get ps i (by omega)
  exact ⟨(key _ (by omega)).trans hp.1, (key _ (by omega)).trans hp.2⟩

theorem app_pair {P : Program} {T E : TypeId} {z0 : Value} {bytes : Nat} (el : Elem P T E z0 2 bytes) {w0 : World} {ops : Array Oper} {rest : List Oper} {o : Oper} {a : Act} {Q : Exit → Act → World → Prop} (hgd : Region.wanted o (yielded ops a.tmps) = true) (s x : Operand)
  (ho : o.op = .call { callee := .builtin .append, args := #[s, x], argTypes := #[T, T] })
  {B : Nat} {v : Value} {n : Nat} {ps : List (Int × Int)} (hs : a.eval s = v) (hown : w0.ownsRow B E 2 v n (pvs ps)) {y z : Int} (hx : a.eval x = .slice (some ⟨w0.heap.size, 0, none⟩) 1 1)
  (hb : (n + 1) * (bytes + 1) ≤ 140737488355328) (hB : B ≤ w0.heap.size)
  (h : ∀ a' c' w', w'.ownsRow B E 2 (.slice a' (n + 1) c') (n + 1) (pvs (ps ++ [(y, z)])) → Below B w0 w' → w0.heap.size ≤ w'.heap.size → wpList P ops Q rest (a.put o.dst (.slice a' (n + 1) c')) w') : wpList P ops Q (o :: rest) a (w0.alloc (.cells #[.int .i64 y, .int .i64 z] E)) := by
 refine app_own el hgd s x ho hs (hown.kept_below ((Below.refl _ _).alloc (Nat.le_refl _) _)) hx (news := pvs [(y, z)]) ⟨rfl, ?_, fun e => by cases e⟩ (pvs_one _) hb (by simp; omega) ?_
 ·rintro ad e j u hj
  injection e with e
  subst e
  have hn := heap_alloc_new w0 (.cells #[.int .i64 y, .int .i64 z] E)
  rw [addr_add, Nat.zero_add, cell_of_row _ _ j _ _ _ hn]
  rw [← hj]
  simp [pvs]
 ·intro a' c' w' h1 _ h3 _
  rw [← pvs_append] at h1
  have h4 := ((Below.refl _ _).alloc hB (.cells #[.int .i64 y, .int .i64 z] E)).trans h3
  exact h a' c' w' h1 h4 h4.size

end Go.Proofs.Ytpcbmhfnefhenaa
