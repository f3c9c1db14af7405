import Derived.Maps.OwnSet
import Derived.Test.YtbjdglopkpigbaaGreatDoorMG0
import Derived.Test.YtbjdglopkpigbaaGreatDoorMG5
import Derived.Test.YtbjdglopkpigbaaGreatDoorMG6
import Derived.Test.YtbjdglopkpigbaaGreatDoorMG21
import Derived.Test.YtbjdglopkpigbaaGreatDoorMG22
/-
  Mp, NaKy, NaDe, NaMv
-/
set_option linter.unusedSimpArgs false
set_option linter.unusedVariables false
set_option linter.unusedSectionVars false
namespace Go.Proofs.YtbjdglopkpigbaaGreatDoor
open Go.RowKit Go.Maps
open Go.WideElems (Fit rg)
structure KeyEnc (P : Program) (k : TypeId) (α : Type) where
 law : Keyed P k
 enc : α → Value
 ok : α → Prop
 kl : α → Lit
 reads : ∀ a, ok a → keyOf P k (enc a) = some (kl a)
 inj : ∀ a b, ok a → ok b → enc a = enc b → a = b
section
variable {P : Program} {k : TypeId} {α : Type} [DecidableEq α]
theorem KeyEnc.key (E : KeyEnc P k α) {a : α} (h : E.ok a) : WideAt.IsKeyLit (E.kl a) := E.law.key (E.reads a h)
theorem KeyEnc.ne (E : KeyEnc P k α) {a b : α} (ha : E.ok a) (hb : E.ok b) (h : a ≠ b) : E.kl a ≠ E.kl b := fun e => by
 have h1 := E.reads a ha
 have h2 := E.reads b hb
 rw [e] at h1
 exact h (E.inj a b ha hb (E.law.inj h1 h2))
def MapObj (E : KeyEnc P k α) (e : TypeId) (ks : List α) (val : α → Lit) (o : Obj) : Prop := ∃ (es : Array MapEntry) (clock : Nat) (D : DataW Unit), o = .map es clock ∧ Fit P k (plainElem (H := Unit) P e) es clock ∧ es.size ≤ ks.length ∧ D = .map ((es.toList.map (rg P k (plainElem P e))).foldr DataW.insert []) ∧ Maps.size D = ks.length ∧ ∀ a, E.ok a → Maps.has D (E.kl a) = decide (a ∈ ks) ∧ (a ∈ ks → ∀ z, D.atKey (E.kl a) z = .lit (val a))
def IsMapK (E : KeyEnc P k α) (e : TypeId) (ks : List α) (val : α → Lit) (W : World) (b : Nat) : Prop := ∃ D : DataW Unit, W.ownsMap P k (plainElem P e) b ks.length D ∧ Maps.size D = ks.length ∧ ∀ a, E.ok a → Maps.has D (E.kl a) = decide (a ∈ ks) ∧ (a ∈ ks → ∀ z, D.atKey (E.kl a) z = .lit (val a))
variable {E : KeyEnc P k α} {e : TypeId} {ks : List α} {val : α → Lit} {W : World} {b : Nat}
theorem isMapK_iff : IsMapK E e ks val W b ↔ ∃ o, W.heap[b]? = some o ∧ MapObj E e ks val o := by
 constructor
 ·rintro ⟨D, ⟨es, clock, h1, h2, h3, h4⟩, h5, h6⟩
  exact ⟨_, h1, es, clock, D, rfl, h2, h3, h4, h5, h6⟩
 ·rintro ⟨o, h1, es, clock, D, rfl, h2, h3, h4, h5, h6⟩
  exact ⟨D, ⟨es, clock, h1, h2, h3, h4⟩, h5, h6⟩
theorem MapObj.vals {o : Obj} (h : MapObj E e ks val o) {val' : α → Lit} (hv : ∀ a ∈ ks, val a = val' a) : MapObj E e ks val' o := by
 obtain ⟨es, clock, D, h1, h2, h3, h4, h5, h6⟩ := h
 exact ⟨es, clock, D, h1, h2, h3, h4, h5, fun a ha => ⟨(h6 a ha).1, fun hm z => by rw [← hv a hm]; exact (h6 a ha).2 hm z⟩⟩
theorem mapObj_made (E : KeyEnc P k α) (e : TypeId) (val : α → Lit) : MapObj E e [] val (.map #[] 0) := by
 obtain ⟨es, clock, h1, h2, h3, h4⟩ := World.ownsMap_made (H := Unit) default P k (plainElem P e)
 rw [heap_alloc_new] at h1
 injection h1 with h1
 refine ⟨es, clock, .map [], h1, h2, h3, h4, rfl, fun a _ => ⟨by simp [Maps.has], fun h => by simp at h⟩⟩
def ElemAt (P : Program) (e : TypeId) : Prop := ∀ (v : Value) (z : DataW Unit × List MemPlace), plainElem P e v = some z → ∃ l : Lit, v = l.value ∧ z.1 = .lit l
theorem elemAt_i64 {e : TypeId} {q : IntKind} (he : P.underlying e = some (.int q)) : ElemAt P e := fun v z h => by
 obtain ⟨a, rfl, rfl, _⟩ := plainElem_int_inv he h
 exact ⟨.int q a, rfl, rfl⟩
theorem IsMapK.look {t : TypeId} (h : IsMapK E e ks val W b) (he : ElemAt P e) (ht : P.underlying t = some (.map k e)) {zl : Lit} (hz : (zeroValue e).run P W = .ok zl.value W) (hzd : plainElem (H := Unit) P e zl.value = some (.lit zl, [])) {a : α} (ha : E.ok a) (c : Bool) :
  (Instr.lookup t (.map (some b)) (E.enc a) c).run P W = .ok (if c then .tuple #[(if a ∈ ks then val a else zl).value, .bool (decide (a ∈ ks))] else (if a ∈ ks then val a else zl).value) W := by
 obtain ⟨D, ⟨es, clock, hb, F, hs, rfl⟩, h5, h6⟩ := h
 obtain ⟨h7, h8⟩ := h6 a ha
 rcases Maps.fit_look c E.law ht hz hb F (E.reads a ha) with ⟨hrun, _, hat⟩ | ⟨e0, y, _, _, hrun, hRv, hat, _⟩
 ·have hn : a ∉ ks := fun hm => by
   rw [Maps.has_false_of_atKey hat] at h7
   simp [hm] at h7
  rw [hrun]
  simp [hn]
 ·have hm : a ∈ ks := by
   rw [Maps.has_true_of_atKey hat] at h7
   simpa using h7.symm
  obtain ⟨l, hl, hy⟩ := he _ _ hRv
  have h9 := h8 hm (.lit zl)
  rw [hat, hy] at h9
  injection h9 with h9
  subst h9
  rw [hrun, hl]
  simp [hm]
theorem IsMapK.len {t : TypeId} (h : IsMapK E e ks val W b) (ht : P.underlying t = some (.map k e)) (ty : TypeId) : (Builtin.len_ #[t] ty #[.map (some b)]).run P W = .ok (.int .i64 (ks.length : Nat)) W := by
 obtain ⟨D, hown, h5, _⟩ := h
 rw [hown.len ht ty, h5]
theorem IsMapK.store {t : TypeId} (h : IsMapK E e ks val W b) (ht : P.underlying t = some (.map k e)) (hn : ks.length < maxLen) {a : α} (ha : E.ok a) (hnew : a ∉ ks) {l : Lit} (hl : plainElem (H := Unit) P e l.value = some (.lit l, [])) :
  ∃ W', (Instr.mapUpdate t (.map (some b)) (E.enc a) l.value).run P W = .ok () W' ∧ IsMapK E e (ks ++ [a]) (fun x => if x = a then l else val x) W' b ∧ W.grownBy W' (some b) := by
 obtain ⟨D, hown, h5, h6⟩ := h
 obtain ⟨W', hrun, hown', hturn⟩ := hown.store E.law ht hn (E.reads a ha) hl
 refine ⟨W', hrun, ⟨_, by rw [List.length_append]; exact hown', ?_, fun x hx => ?_⟩, hturn.grown⟩
 ·rw [Maps.size_put (hown.tidy E.law), (h6 a ha).1, h5]
  simp [hnew]
 ·by_cases e : x = a
  ·subst e
   exact ⟨by rw [Maps.has_put_same hown.isMap (E.key hx)]; simp, fun _ z => by rw [Maps.atKey_put_same hown.isMap (E.key hx)]; simp⟩
  ·have hne := E.ne hx ha e
   refine ⟨by rw [Maps.has_put_other hne, (h6 x hx).1]; simp [e], fun hm z => ?_⟩
   show (D.put (E.kl a) (.lit l)).atKey (E.kl x) z = .lit (if x = a then l else val x)
   rw [Maps.atKey_put_other hne, if_neg e]
   have hm' : x ∈ ks := by
    rcases List.mem_append.1 hm with h1 | h1
    ·exact h1
    ·exact absurd (List.mem_singleton.1 h1) e
   exact (h6 x hx).2 hm' z
/-! As operations. -/
theorem wp_map_look {o : Oper} {A : Act} {K : Act → World → Prop} {Q : Exit → Act → World → Prop} (m x : Operand) (t : TypeId) (c : Bool) (hop : o.op = Op.lookup t m x c) (h : IsMapK E e ks val W b) (he : ElemAt P e) (ht : P.underlying t = some (.map k e)) (zl : Lit) (hz : (zeroValue e).run P W = .ok zl.value W) (hzd : plainElem (H := Unit) P e zl.value = some (.lit zl, []))
  (hm : A.eval m = .map (some b)) (a : α) (hx : A.eval x = E.enc a) (ha : E.ok a)
  (hK : K (A.put o.dst (if c then .tuple #[(if a ∈ ks then val a else zl).value, .bool (decide (a ∈ ks))] else (if a ∈ ks then val a else zl).value)) W) : o.wp P A W K Q := by
 have hrun := h.look he ht hz hzd ha c
 unfold Oper.wp
 simp [execOp, hop, hm, hx]
 rw [hrun]
 exact hK
theorem wp_map_store {o : Oper} {A : Act} {K : Act → World → Prop} {Q : Exit → Act → World → Prop} (m x y : Operand) (t : TypeId) (hop : o.op = Op.mapUpdate t m x y) (h : IsMapK E e ks val W b) (ht : P.underlying t = some (.map k e)) (hn : ks.length < maxLen)
  (hm : A.eval m = .map (some b)) (a : α) (hx : A.eval x = E.enc a) (ha : E.ok a) (hnew : a ∉ ks) (l : Lit) (hy : A.eval y = l.value) (hl : plainElem (H := Unit) P e l.value = some (.lit l, []))
  (hK : ∀ W', IsMapK E e (ks ++ [a]) (fun x => if x = a then l else val x) W' b → W.grownBy W' (some b) → K (A.put o.dst undef) W') : o.wp P A W K Q := by
 obtain ⟨W', hrun, h1, h2⟩ := h.store ht hn ha hnew hl
 unfold Oper.wp
 simp [execOp, hop, hm, hx, hy, hrun, Result.andThen]
 exact hK W' h1 h2
theorem wpList_map_look {ops : Array Oper} {rest : List Oper} {o : Oper} {A : Act} {Q : Exit → Act → World → Prop} (hg : o.guard = none) (m x : Operand) (t : TypeId) (c : Bool) (hop : o.op = Op.lookup t m x c) (h : IsMapK E e ks val W b) (he : ElemAt P e) (ht : P.underlying t = some (.map k e)) (zl : Lit) (hz : (zeroValue e).run P W = .ok zl.value W) (hzd : plainElem (H := Unit) P e zl.value = some (.lit zl, []))
  (hm : A.eval m = .map (some b)) (a : α) (hx : A.eval x = E.enc a) (ha : E.ok a)
  (hK : wpList P ops Q rest (A.put o.dst (if c then .tuple #[(if a ∈ ks then val a else zl).value, .bool (decide (a ∈ ks))] else (if a ∈ ks then val a else zl).value)) W) : wpList P ops Q (o :: rest) A W :=
 wpList_plain hg fun _ hK' => wp_map_look m x t c hop h he ht zl hz hzd hm a hx ha (hK' _ _ hK)
theorem wpList_map_store {ops : Array Oper} {rest : List Oper} {o : Oper} {A : Act} {Q : Exit → Act → World → Prop} (hg : o.guard = none) (m x y : Operand) (t : TypeId) (hop : o.op = Op.mapUpdate t m x y) (h : IsMapK E e ks val W b) (ht : P.underlying t = some (.map k e)) (hn : ks.length < maxLen)
  (hm : A.eval m = .map (some b)) (a : α) (hx : A.eval x = E.enc a) (ha : E.ok a) (hnew : a ∉ ks) (l : Lit) (hy : A.eval y = l.value) (hl : plainElem (H := Unit) P e l.value = some (.lit l, []))
  (hK : ∀ W', IsMapK E e (ks ++ [a]) (fun x => if x = a then l else val x) W' b → W.grownBy W' (some b) → wpList P ops Q rest (A.put o.dst undef) W') : wpList P ops Q (o :: rest) A W :=
 wpList_plain hg fun _ hK' => wp_map_store m x y t hop h ht hn hm a hx ha hnew l hy hl fun W' h1 h2 => hK' _ _ (hK W' h1 h2)
theorem wpList_map_len {ops : Array Oper} {rest : List Oper} {o : Oper} {A : Act} {Q : Exit → Act → World → Prop} (hg : o.guard = none) (m : Operand) (t : TypeId) (hop : o.op = .call { callee := .builtin .len, args := #[m], argTypes := #[t] }) (h : IsMapK E e ks val W b) (ht : P.underlying t = some (.map k e))
  (hm : A.eval m = .map (some b)) (hK : wpList P ops Q rest (A.put o.dst (.int .i64 (ks.length : Nat))) W) : wpList P ops Q (o :: rest) A W := by
 refine wpList_plain hg fun _ hK' => ?_
 have hrun := h.len ht o.type
 unfold Oper.wp
 simp [execOp, hop, resolve, invoke, builtin, hm, hrun, Result.andThen]
 exact hK' _ _ hK
theorem wpList_map_ok_yes {ops : Array Oper} {rest : List Oper} {o : Oper} {A : Act} {Q : Exit → Act → World → Prop} (hg : o.guard = none) (m x : Operand) (t : TypeId) (hop : o.op = Op.lookup t m x true) (h : IsMapK E e ks val W b) (he : ElemAt P e) (ht : P.underlying t = some (.map k e)) (zl : Lit) (hz : (zeroValue e).run P W = .ok zl.value W) (hzd : plainElem (H := Unit) P e zl.value = some (.lit zl, []))
  (hm : A.eval m = .map (some b)) (a : α) (hx : A.eval x = E.enc a) (ha : E.ok a) (hin : a ∈ ks) {v : Value} (hv : v = (val a).value) (hK : wpList P ops Q rest (A.put o.dst (.tuple #[v, .bool true])) W) : wpList P ops Q (o :: rest) A W := by
 subst hv
 exact wpList_map_look hg m x t true hop h he ht zl hz hzd hm a hx ha (by simpa [hin] using hK)
theorem wpList_map_ok_no {ops : Array Oper} {rest : List Oper} {o : Oper} {A : Act} {Q : Exit → Act → World → Prop} (hg : o.guard = none) (m x : Operand) (t : TypeId) (hop : o.op = Op.lookup t m x true) (h : IsMapK E e ks val W b) (he : ElemAt P e) (ht : P.underlying t = some (.map k e)) (zl : Lit) (hz : (zeroValue e).run P W = .ok zl.value W) (hzd : plainElem (H := Unit) P e zl.value = some (.lit zl, []))
  (hm : A.eval m = .map (some b)) (a : α) (hx : A.eval x = E.enc a) (ha : E.ok a) (hin : a ∉ ks) {v : Value} (hv : v = zl.value) (hK : wpList P ops Q rest (A.put o.dst (.tuple #[v, .bool false])) W) : wpList P ops Q (o :: rest) A W := by
 subst hv
 exact wpList_map_look hg m x t true hop h he ht zl hz hzd hm a hx ha (by simpa [hin] using hK)
theorem wpList_map_at_yes {ops : Array Oper} {rest : List Oper} {o : Oper} {A : Act} {Q : Exit → Act → World → Prop} (hg : o.guard = none) (m x : Operand) (t : TypeId) (hop : o.op = Op.lookup t m x false) (h : IsMapK E e ks val W b) (he : ElemAt P e) (ht : P.underlying t = some (.map k e)) (zl : Lit) (hz : (zeroValue e).run P W = .ok zl.value W) (hzd : plainElem (H := Unit) P e zl.value = some (.lit zl, []))
  (hm : A.eval m = .map (some b)) (a : α) (hx : A.eval x = E.enc a) (ha : E.ok a) (hin : a ∈ ks) {v : Value} (hv : v = (val a).value) (hK : wpList P ops Q rest (A.put o.dst (v)) W) : wpList P ops Q (o :: rest) A W := by
 subst hv
 exact wpList_map_look hg m x t false hop h he ht zl hz hzd hm a hx ha (by simpa [hin] using hK)
end
/-! Integers as keys. -/
def keyI {P : Program} {k : TypeId} (hk : P.underlying k = some (.int .i64)) : KeyEnc P k Int where
 law := int_keyed hk
 enc := fun a => .int .i64 a
 ok := fun a => (Lit.int .i64 a).wf = true
 kl := fun a => .int .i64 a
 reads := fun a h => keyOf_int_mk hk h
 inj := fun a b _ _ h => by injection h
theorem wf_small {n : Int} (h0 : -9223372036854775808 ≤ n) (h1 : n ≤ 9223372036854775807) : (Lit.int .i64 n).wf = true := WalkArith.wf_i64 ⟨h0, h1⟩
end Go.Proofs.YtbjdglopkpigbaaGreatDoor
namespace Go.Proofs.YtbjdglopkpigbaaGreatDoor.Na
def dig36 (d : Nat) : UInt8 := if d < 10 then UInt8.ofNat (48 + d) else UInt8.ofNat (87 + d)
def und36 (b : UInt8) : Nat := if b.toNat < 58 then b.toNat - 48 else b.toNat - 87
theorem dig36_nat {d : Nat} (h : d < 36) : (dig36 d).toNat = if d < 10 then 48 + d else 87 + d := by
 unfold dig36
 split
 ·rw [UInt8.toNat_ofNat']; omega
 ·rw [UInt8.toNat_ofNat']; omega
theorem und_dig {d : Nat} (h : d < 36) : und36 (dig36 d) = d := by
 unfold und36
 rw [dig36_nat h]
 split <;> split <;> omega
theorem dig36_dot {d : Nat} (h : d < 36) : dig36 d ≠ 46 := fun e => by
 have := dig36_nat h
 rw [e] at this
 have h2 : (46 : UInt8).toNat = 46 := rfl
 rw [h2] at this
 split at this <;> omega
def f36 : Nat → Nat → List UInt8
 | 0, _ => []
 | k + 1, u => if u < 36 then [dig36 u] else f36 k (u / 36) ++ [dig36 (u % 36)]
def v36 (l : List UInt8) : Nat := l.foldl (fun v b => v * 36 + und36 b) 0
theorem v36_snoc (l : List UInt8) (b : UInt8) : v36 (l ++ [b]) = v36 l * 36 + und36 b := by unfold v36; rw [List.foldl_append]; rfl
theorem v36_f36 : ∀ (k u : Nat), u < 36 ^ k → v36 (f36 k u) = u
 | 0, u, h => by rw [Nat.pow_zero] at h; show 0 = u; omega
 | k + 1, u, h => by
  unfold f36
  split
  ·rename_i h1
   have : v36 [dig36 u] = und36 (dig36 u) := by unfold v36; simp
   rw [this, und_dig h1]
  ·rw [v36_snoc, und_dig (Nat.mod_lt _ (by omega)), v36_f36 k (u / 36) (by rw [Nat.div_lt_iff_lt_mul (by omega)]; rwa [Nat.pow_succ] at h)]
   omega
theorem f36_dot : ∀ (k u : Nat), ∀ b ∈ f36 k u, b ≠ 46
 | 0, u, b, h => by simp [f36] at h
 | k + 1, u, b, h => by
  unfold f36 at h
  split at h
  ·rename_i h1
   rw [List.mem_singleton.1 h]; exact dig36_dot h1
  ·rcases List.mem_append.1 h with h | h
   ·exact f36_dot k _ b h
   ·rw [List.mem_singleton.1 h]; exact dig36_dot (Nat.mod_lt _ (by omega))
theorem f36_len : ∀ (k u : Nat), (f36 k u).length ≤ k
 | 0, u => Nat.le_refl _
 | k + 1, u => by
  unfold f36
  split
  ·simp
  ·rw [List.length_append, List.length_singleton]
   have := f36_len k (u / 36)
   omega
def n36 (u : Nat) : List UInt8 := f36 13 u
theorem pow36 : (18446744073709551616 : Nat) ≤ 36 ^ 13 := by decide
theorem n36_inj {u v : Nat} (hu : u < 18446744073709551616) (hv : v < 18446744073709551616) (h : n36 u = n36 v) : u = v := by
 have h1 := v36_f36 13 u (Nat.lt_of_lt_of_le hu pow36)
 have h2 := v36_f36 13 v (Nat.lt_of_lt_of_le hv pow36)
 unfold n36 at h
 rw [h] at h1
 omega
def keyB (zs : List Int) : List UInt8 := zs.flatMap fun z => n36 z.toNat ++ [46]
theorem keyB_snoc (zs : List Int) (z : Int) : keyB (zs ++ [z]) = keyB zs ++ (n36 z.toNat ++ [46]) := by unfold keyB; simp
theorem split_dot : ∀ {a b c d : List UInt8}, (∀ x ∈ a, x ≠ 46) → (∀ x ∈ b, x ≠ 46) → a ++ 46 :: c = b ++ 46 :: d → a = b ∧ c = d
 | [], [], c, d, _, _, h => ⟨rfl, by simpa using h⟩
 | [], y :: b, c, d, _, hb, h => by
  injection h with h1 h2
  exact absurd h1.symm (hb y List.mem_cons_self)
 | x :: a, [], c, d, ha, _, h => by
  injection h with h1 h2
  exact absurd h1 (ha x List.mem_cons_self)
 | x :: a, y :: b, c, d, ha, hb, h => by
  rw [List.cons_append, List.cons_append] at h
  injection h with h1 h2
  obtain ⟨e1, e2⟩ := split_dot (fun z hz => ha z (List.mem_cons_of_mem _ hz)) (fun z hz => hb z (List.mem_cons_of_mem _ hz)) h2
  exact ⟨by rw [h1, e1], e2⟩
theorem keyB_inj : ∀ {xs ys : List Int}, (∀ z ∈ xs, 0 ≤ z ∧ z < 18446744073709551616) → (∀ z ∈ ys, 0 ≤ z ∧ z < 18446744073709551616) → keyB xs = keyB ys → xs = ys
 | [], [], _, _, _ => rfl
 | [], y :: ys, _, _, h => by unfold keyB at h; simp at h
 | x :: xs, [], _, _, h => by unfold keyB at h; simp at h
 | x :: xs, y :: ys, hx, hy, h => by
  unfold keyB at h
  rw [List.flatMap_cons, List.flatMap_cons, List.append_assoc, List.append_assoc, List.singleton_append, List.singleton_append] at h
  obtain ⟨e1, e2⟩ := split_dot (f36_dot 13 _) (f36_dot 13 _) h
  have h1 := hx x List.mem_cons_self
  have h2 := hy y List.mem_cons_self
  have h3 := n36_inj (by omega) (by omega) e1
  rw [show x = y by omega, keyB_inj (fun z hz => hx z (List.mem_cons_of_mem _ hz)) (fun z hz => hy z (List.mem_cons_of_mem _ hz)) e2]
theorem keyB_len : ∀ zs : List Int, (keyB zs).length ≤ zs.length * 14
 | [] => Nat.le_refl _
 | z :: zs => by
  have h1 := keyB_len zs
  have h2 : (n36 z.toNat).length ≤ 13 := f36_len 13 z.toNat
  unfold keyB at h1 ⊢
  rw [List.flatMap_cons, List.length_append, List.length_append, List.length_singleton, List.length_cons]
  omega
end Go.Proofs.YtbjdglopkpigbaaGreatDoor.Na
namespace Go.Proofs.YtbjdglopkpigbaaGreatDoor.Na
theorem movL_nil {n : Int} {ar : List A3} (ha : ArcsIn n ar) {S : List Int} {c : Int} (hc : 0 < c ∧ c ≤ 10000) : movL ar S c ≠ [] ↔ c ∈ lvL ar S := by
 rw [mem_lvL]
 constructor
 ·intro h
  obtain ⟨z, hz⟩ := List.exists_mem_of_ne_nil _ h
  obtain ⟨y, hy, _⟩ := (mem_cloL ha (tgtL_bd ha S c)).1 hz
  obtain ⟨_, x, hx, h1, h2, _⟩ := mem_tgtL.1 hy
  exact ⟨hc, x, hx, h1, h2⟩
 ·rintro ⟨_, x, hx, h1, h2⟩ h
  have := self_cloL ha (tgtL_bd ha S c) x.t (mem_tgtL.2 ⟨hc.1, x, hx, h1, h2, rfl⟩)
  unfold movL at h
  rw [h] at this
  exact absurd this List.not_mem_nil
noncomputable def outN (ar : List A3) (S : List Int) : List (Int × List Int) := (lvL ar S).map fun c => (c, movL ar S c)
theorem outN_asc (ar : List A3) (S : List Int) : (outN ar S).Pairwise fun x y => x.1 < y.1 := by
 unfold outN
 rw [List.pairwise_map]
 exact lvL_asc ar S
theorem mem_outN {ar : List A3} {S : List Int} {x : Int × List Int} : x ∈ outN ar S ↔ x.1 ∈ lvL ar S ∧ x.2 = movL ar S x.1 := by
 unfold outN
 rw [List.mem_map]
 constructor
 ·rintro ⟨c, h, h'⟩
  subst h'
  exact ⟨h, by simp only⟩
 ·rintro ⟨h1, h2⟩
  refine ⟨x.1, h1, ?_⟩
  rw [← h2]
noncomputable def detB (a : Nfa) (k : Nat) : Bq (List Int) := bq (outN a.arcs) (cloL a.arcs a.s) k
def CS (a : Nfa) (S : List Int) : Prop := Bd a.n S ∧ cloL a.arcs S = S ∧ S.Pairwise (· < ·)
theorem cs_clo {a : Nfa} (hv : ValidN a) {l : List Int} (hl : Bd a.n l) : CS a (cloL a.arcs l) := ⟨cloL_bd hv.arcsIn hl, cloL_cloL hv.arcsIn hl, cloL_asc _ _⟩
theorem cs_mov {a : Nfa} (hv : ValidN a) (S : List Int) (c : Int) : CS a (movL a.arcs S c) := cs_clo hv (tgtL_bd hv.arcsIn S c)
theorem CS.stp {a : Nfa} {S : List Int} (h : CS a S) (c : Int) : stpL a.arcs S c = movL a.arcs S c := by unfold stpL; rw [h.2.1]
theorem detB_in {a : Nfa} (hv : ValidN a) (k : Nat) : ∀ S ∈ (detB a k).q, CS a S :=
 bq_all (P := CS a) (cs_clo hv hv.startIn) (fun y _ x hx => by rw [(mem_outN.1 hx).2]; exact cs_mov hv y _) k
def DetOk (a : Nfa) (lim : Int) : Prop := ∀ k, ((detB a k).q.length : Int) ≤ min lim 1000
open Classical in
noncomputable def detOk (a : Nfa) (lim : Int) : Bool := decide (DetOk a lim)
open Classical in
theorem detOk_yes {a : Nfa} {lim : Int} (h : DetOk a lim) : detOk a lim = true := by unfold detOk; exact decide_eq_true h
open Classical in
theorem detOk_no {a : Nfa} {lim : Int} {k : Nat} (h : min lim 1000 < ((detB a k).q.length : Int)) : detOk a lim = false := by
 unfold detOk
 refine decide_eq_false fun hh => ?_
 have := hh k
 omega
open Classical in
theorem detOk_iff {a : Nfa} {lim : Int} : detOk a lim = true ↔ DetOk a lim := by unfold detOk; exact decide_eq_true_iff
theorem detB_fin {a : Nfa} {lim : Int} {k : Nat} (h : (detB a k).q.length ≤ k) (hl : ((detB a k).q.length : Int) ≤ min lim 1000) : DetOk a lim ∧ detB a k = detB a 1000 := by
 have hst : ∀ d, detB a (k + d) = detB a k := bq_stay _ _ h
 have hle : ∀ j, (detB a j).q.length ≤ (detB a k).q.length := fun j => by
  have h1 : (detB a j).q <+: (detB a (k + j)).q := bq_pre _ _ (by omega)
  rw [hst] at h1
  exact h1.length_le
 refine ⟨fun j => by have := hle j; omega, ?_⟩
 exact bq_fin _ _ h (by have := hle 1000; show (detB a 1000).q.length ≤ 1000; omega)
theorem detB_pos (a : Nfa) (k : Nat) : 0 < (detB a k).q.length := by
 have h : (detB a 0).q <+: (detB a k).q := bq_pre _ _ (Nat.zero_le _)
 exact Nat.lt_of_lt_of_le Nat.zero_lt_one h.length_le
theorem detB_succ {a : Nfa} {k : Nat} (hk : k < (detB a k).q.length) : detB a (k + 1) = bqs k (detB a k) (outN a.arcs (detB a k).q[k]) := by
 have : detB a (k + 1) = bqh (outN a.arcs) k (detB a k) := by unfold detB; rw [bq]
 rw [this, bqh_at hk]
theorem bqs_alen' (h : Nat) (l : List (Int × List Int)) (st : Bq (List Int)) : (bqs h st l).a.length = st.a.length + l.length := by rw [bqs_arcs, List.length_append, List.length_map]
theorem nat_filter_len (p : Nat → Bool) (h0 : p 0 = false) : ∀ n, ((List.range (n + 1)).filter p).length ≤ n
 | 0 => by simp [h0]
 | n + 1 => by
  have ih := nat_filter_len p h0 n
  rw [List.range_succ, List.filter_append, List.length_append]
  have : ([n + 1].filter p).length ≤ 1 := List.length_filter_le _ _
  omega
theorem outN_len (ar : List A3) (S : List Int) : (outN ar S).length ≤ 10000 := by
 unfold outN lvL
 rw [List.length_map, List.length_map]
 exact nat_filter_len _ (Bool.eq_false_iff.2 fun h => Nat.lt_irrefl 0 (of_decide_eq_true (Bool.and_eq_true_iff.1 h).1)) 10000
theorem detB_alen (a : Nfa) : ∀ k, (detB a k).a.length ≤ k * 10000
 | 0 => Nat.zero_le _
 | k + 1 => by
  have ih := detB_alen a k
  rcases Nat.lt_or_ge k (detB a k).q.length with h | h
  ·rw [detB_succ h, bqs_alen']
   have := outN_len a.arcs (detB a k).q[k]
   omega
  ·have : detB a (k + 1) = detB a k := bq_stay _ _ h 1
   have e : (detB a (k + 1)).a.length = (detB a k).a.length := congrArg (fun b => b.a.length) this
   omega
end Go.Proofs.YtbjdglopkpigbaaGreatDoor.Na
namespace Go.Proofs.YtbjdglopkpigbaaGreatDoor.Na
open Go.RowKit Go.Shelf
attribute [local go_sem] Oper.semAt_some
def TabW (w : World) : Prop := TabAt 0 Lib.deBruijn64tab w
theorem TabW.later {w w' : World} (h : TabW w) (hb : Below w.heap.size w w') : TabW w' :=
 fun j hj => (hb.cell (p := ⟨0, j, none⟩) (lt_of_cell (h j hj))).trans (h j hj)
theorem set_list {n : Int} {S : List Int} {zs : List Int} (hz : Bt.SetIs zs (inL S)) (hS : S.Pairwise (· < ·)) (hb : Bd n S) (hn : n ≤ 4096) : Bt.setL (Bt.bt zs) = S := by
 refine pairwise_ext (setN_asc _) hS fun z => ?_
 have e : z ∈ Bt.setL (Bt.bt zs) ↔ ∃ k : Nat, k < 4096 ∧ Bt.bt zs k = true ∧ z = (k : Int) := mem_setN
 rw [e]
 constructor
 ·rintro ⟨k, hk, h, rfl⟩
  rw [hz.2.2 k hk] at h
  exact of_decide_eq_true h
 ·intro h
  have := hb z h
  refine ⟨z.toNat, by omega, ?_, by omega⟩
  rw [hz.2.2 _ (by omega)]
  exact decide_eq_true (by rw [Int.toNat_of_nonneg this.1]; exact h)
theorem list_S {n : Int} {S zs : List Int} {a : Option Addr} {len cap : Nat} {w : World} (hs : IsInts .u64 w a len cap zs) (hz : Bt.SetIs zs (inL S)) (hS : S.Pairwise (· < ·)) (hb : Bd n S) (hn : n ≤ 4096) (hT : TabW w) :
  Calls Tryz.prog 47 #[.slice a len cap] w fun e w' => (∃ a' c', e = .returned (.slice a' S.length c') ∧ IsInts .i64 w' a' S.length c' S) ∧ Below w.heap.size w w' := by
 refine (Bt.list_s hs hz.1 hT).mono ?_
 rintro e w' ⟨a', n', c', rfl, hi, -, hb'⟩
 rw [set_list hz hS hb hn] at hi
 have := hi.length
 subst this
 exact ⟨⟨a', c', rfl, hi⟩, hb'⟩
def mvT (ar : List A3) (c : Int) (S : List Int) : List Int := S.flatMap fun q => (arcsN ar q c).map A3.t
theorem mvT_take (ar : List A3) (c : Int) (S : List Int) {i : Nat} (hi : i < S.length) : mvT ar c (S.take (i + 1)) = mvT ar c (S.take i) ++ (arcsN ar (gi S i) c).map A3.t := by
 unfold mvT
 rw [take_succ_gi S i hi, List.flatMap_append]
 simp
theorem mvT_len (ar : List A3) (c : Int) : ∀ S : List Int, (mvT ar c S).length ≤ S.length * ar.length
 | [] => by simp [mvT]
 | q :: S => by
  have h := mvT_len ar c S
  have h2 : (arcsN ar q c).length ≤ ar.length := List.length_filter_le _ _
  unfold mvT at h ⊢
  rw [List.flatMap_cons, List.length_append, List.length_map, List.length_cons, Nat.succ_mul]
  omega
theorem mem_mvT {ar : List A3} {c z : Int} {S : List Int} (hc : 0 < c) : z ∈ mvT ar c S ↔ z ∈ tgtL ar S c := by
 rw [mem_tgtL]
 unfold mvT arcsN
 rw [List.mem_flatMap]
 constructor
 ·rintro ⟨q, hq, hz⟩
  obtain ⟨x, hx, rfl⟩ := List.mem_map.1 hz
  rw [List.mem_filter] at hx
  simp only [Bool.and_eq_true, decide_eq_true_eq] at hx
  exact ⟨hc, x, hx.1, hx.2.2, by rw [hx.2.1]; exact hq, rfl⟩
 ·rintro ⟨_, x, hx, h1, h2, rfl⟩
  exact ⟨x.f, h2, List.mem_map.2 ⟨x, List.mem_filter.2 ⟨hx, by simp [h1]⟩, rfl⟩⟩
theorem CS.len {a : Nfa} {S : List Int} (hv : ValidN a) (h : CS a S) : S.length ≤ 200 := by
 have := bd_len h.2.2 h.1
 have := hv.1
 omega
set_option maxRecDepth 20000 in
set_option maxHeartbeats 4000000 in
theorem moved_any {a : Nfa} {h : NH} {w : World} {aq : Option Addr} {lq cq : Nat} {zs S : List Int} {c : Int} (hv : ValidN a) (hd : IsNfa w h a) (hs : IsInts .u64 w aq lq cq zs) (hz : Bt.SetIs zs (inL S)) (hS : CS a S) (hT : TabW w) :
  Calls Tryz.prog 30 #[vNf a h, .slice aq lq cq, .int .i64 c] w (GivesS (inL (movL a.arcs S c)) w) := by
 have HV := Lib.hid hv
 obtain ⟨W1, hW1, hs1, hb1, hO⟩ := boxNW a h w hd
 have hcl := fun W (hB : Below (w.heap.size + 1) W1 W) {aq : Option Addr} {lq cq : Nat} {l : List Int} (hq : IsInts .i64 W aq lq cq l) (hl : Bd a.n l) => closed_any hv (hO W hB).2.1 hq hl
 have hls := list_S (hs.later hb1) hz hS.2.2 hS.1 (by have := hv.1; omega) (hT.later hb1)
 have hSl : S.length ≤ 200 := hS.len hv
 have HSS := Lib.hid hS
 have HO := Lib.hid hO
 have HS1 := Lib.hid hs1
 have HB1 := Lib.hid hb1
 obtain ⟨⟨c1, c2, c3, c4⟩, -, -⟩ := hO W1 (by rw [← hs1]; exact Below.refl _ _)
 unfold vNf at hcl ⊢
 have HCL := Lib.hid hcl
 by_cases hc : 1 ≤ c ∧ c ≤ 10000
 ·have t1 : decide (1 ≤ c) = true := decide_eq_true hc.1
  have t2 : decide (c ≤ 10000) = true := decide_eq_true hc.2
  have HLS := Lib.hid hls
  clear hv hd hs hz hS hT hO hb1 hs1 hls hcl
  go_enter Tryz.func30, Tryz.ntmps30
  go_wp2_with (go_at_call 47; refine HLS.out.mono ?_; rintro e w3 ⟨⟨aS, cS, rfl, hiS⟩, hb3⟩; have HIS := Lib.hid hiS; have HB3 := Lib.hid hb3; clear hiS hb3)
  clear hW1 c1 c2 c3 c4
  have HB31 : Hid (Below (w.heap.size + 1) W1 w3) := Lib.hid (by rw [← HS1.out]; exact HB3.out)
  have HSZ : Hid (w.heap.size + 1 ≤ w3.heap.size) := Lib.hid (by have := HB3.out.size; have := HS1.out; omega)
  obtain ⟨Ls, hLs⟩ : ∃ Ls, S.length = Ls := ⟨_, rfl⟩
  have HLs := Lib.hid hLs
  rw [hLs] at HIS hSl ⊢
  clear hLs
  go_loopw [7, 21] (fun vt c' W => ∃ (i : Nat) (at' : Option Addr) (ct : Nat), i ≤ Ls ∧ c' = .int .i64 (i : Int) ∧ vt = .slice at' (mvT a.arcs c (S.take i)).length ct ∧ W.ownsRow w3.heap.size 3 1 (.slice at' (mvT a.arcs c (S.take i)).length ct) (mvT a.arcs c (S.take i)).length (ivs .i64 (mvT a.arcs c (S.take i))) ∧ Below w3.heap.size w3 W) (fun _ c' _ => Ls - (intOf c').toNat)
  case atStart => exact ⟨0, none, 0, Nat.zero_le _, rfl, rfl, World.ownsRow_nil _ _ _ _, Below.refl _ _⟩
  case round =>
   obtain ⟨i, at', ct, hi, rfl, rfl, ho, hb⟩ := hrel
   have hBw : Below (w.heap.size + 1) W1 wr := HB31.out.trans (hb.mono HSZ.out)
   obtain ⟨⟨c1, c2, c3, c4⟩, hdr, -⟩ := HO.out wr hBw
   have hml : (mvT a.arcs c (S.take i)).length ≤ 400000 := by
    have h1 := mvT_len a.arcs c (S.take i)
    rw [List.length_take] at h1
    have h2 := HV.out.2.2.1
    have h3 : min i S.length * a.arcs.length ≤ 200 * 2000 := Nat.mul_le_mul (by omega) h2
    omega
   rcases Nat.lt_or_ge i Ls with hlt | hge
   ·have t3 : decide (i < Ls) = true := decide_eq_true hlt
    obtain ⟨bS, oS, rfl, hbl, hcS⟩ := HIS.out.at wr hb i hlt
    have HT := mvT_take a.arcs c S (i := i) (by rw [HLs.out]; exact hlt)
    obtain ⟨q, hq⟩ : ∃ q, gi S i = q := ⟨_, rfl⟩
    have hqb := HSS.out.1 (gi S i) (gi_mem_n (by rw [HLs.out]; exact hlt))
    rw [hq] at hcS HT hqb
    obtain ⟨q, rfl⟩ := Int.eq_ofNat_of_zero_le hqb.1
    have hda := arcs_in a h (q : Int) c wr hdr HV.out.sorted (fun x hx => (HV.out.arc hx).1.2.1) (by have := HV.out.2.2.1; omega) (by omega)
    simp only [vNf] at hda
    obtain ⟨OA, hOA⟩ : ∃ OA, arcsN a.arcs (q : Int) c = OA := ⟨_, rfl⟩
    have hol : OA.length ≤ 2000 := by rw [← hOA]; exact Nat.le_trans (List.length_filter_le _ _) HV.out.2.2.1
    rw [hOA] at hda HT
    obtain ⟨T0, hT0⟩ : ∃ T0, mvT a.arcs c (S.take i) = T0 := ⟨_, rfl⟩
    rw [hT0] at ho HT hml ⊢
    have HTT := Lib.hid HT
    have HDA := Lib.hid hda
    have HOW := Lib.hid ho
    have HB := Lib.hid hb
    clear HT hda hq hOA hT0 hqb hdr ho hb hBw
    go_wp2_with (go_at_call 45; refine HDA.out.mono ?_; rintro e w5 ⟨⟨aA, cA, rfl, hA⟩, hb5⟩; have HA := Lib.hid hA; have HB5 := Lib.hid hb5; clear hA hb5)
    clear c1 c2 c3 c4
    go_loopw [7, 30] (fun vt c' W => ∃ (r : Nat) (at' : Option Addr) (ct : Nat), r ≤ OA.length ∧ c' = .int .i64 (r : Int) ∧ vt = .slice at' (T0.length + r) ct ∧ W.ownsRow w3.heap.size 3 1 (.slice at' (T0.length + r) ct) (T0.length + r) (ivs .i64 (T0 ++ (OA.take r).map A3.t)) ∧ Below w3.heap.size w3 W) (fun _ c' _ => OA.length - (intOf c').toNat)
    case atStart => exact ⟨0, at', ct, Nat.zero_le _, rfl, rfl, by simpa using HOW.out.kept_below HB5.out, HB.out.trans (HB5.out.mono HB.out.size)⟩
    case round =>
     obtain ⟨r, at2, ct2, hr, rfl, rfl, ho, hb⟩ := hrel
     rcases Nat.lt_or_ge r OA.length with hlt2 | hge2
     ·have t4 : decide (r < OA.length) = true := decide_eq_true hlt2
      obtain ⟨-, hdr, -⟩ := HO.out wr (HB31.out.trans (hb.mono HSZ.out))
      obtain ⟨bA, oA, rfl, hcA⟩ := (HA.out wr hdr).fix (by omega)
      obtain ⟨y1, y2, y3⟩ := hcA wr (Below.refl _ _) r hlt2
      have HX : Hid (T0 ++ (OA.take (r + 1)).map A3.t = T0 ++ (OA.take r).map A3.t ++ [(g3 OA r).t]) := Lib.hid (by rw [take_succ_g3 _ _ hlt2, List.map_append, List.append_assoc]; rfl)
      obtain ⟨⟨x, xl, y⟩, hx⟩ : ∃ x, g3 OA r = x := ⟨_, rfl⟩
      rw [hx] at y1 y2 y3 HX
      simp only at y1 y2 y3 HX
      have hsz : w3.heap.size ≤ wr.heap.size := hb.size
      obtain ⟨W2, hW2⟩ : ∃ W2, wr.alloc (.cells #[.int .i64 x, .int .i64 xl, .int .i64 y] 49) = W2 := ⟨_, rfl⟩
      have hoN : W2.ownsRow w3.heap.size 3 1 (.slice at2 (T0.length + r) ct2) (T0.length + r) (ivs .i64 (T0 ++ (OA.take r).map A3.t)) := by rw [← hW2]; exact ho.kept_below ((Below.refl _ _).alloc (Nat.le_refl _) _)
      have HBN : Hid (Below w3.heap.size w3 W2) := Lib.hid (by rw [← hW2]; exact hb.alloc hsz _)
      have hszN : w3.heap.size ≤ W2.heap.size := HBN.out.size
      have z3 : W2.cell? ⟨wr.heap.size, 2, none⟩ = some (.int .i64 y) := by rw [← hW2]; exact cell_of_row _ _ 2 _ _ _ (heap_alloc_new wr _)
      clear hcA hx hdr hb ho
      go_wp2_with (at_builtin; refine app_one (k := .i64) elI64 rfl _ _ rfl rfl hoN rfl (by omega) hszN ?_; intro a3 c3 w6 ho6 hb6)
      go_roundw
      case rel => exact ⟨r + 1, a3, c3, hlt2, by go_num, rfl, by rw [HX.out]; exact ho6, HBN.out.trans hb6⟩
      case measure => simp [intOf]; omega
     ·obtain rfl : r = OA.length := by omega
      have t4 : decide (OA.length < OA.length) = false := decide_eq_false (by omega)
      have HE : Hid (T0 ++ (OA.take OA.length).map A3.t = mvT a.arcs c (S.take (i + 1)) ∧ T0.length + OA.length = (mvT a.arcs c (S.take (i + 1))).length) := Lib.hid (by rw [HTT.out, List.take_length]; simp)
      rw [HE.out.1, HE.out.2] at ho
      clear t4
      have t4 : decide (OA.length < OA.length) = false := decide_eq_false (by omega)
      go_wp2_with (fail)
      go_roundw
      case rel => exact ⟨i + 1, at2, ct2, hlt, by go_num, by rw [HE.out.2], ho, hb⟩
      case measure => simp [intOf]; omega
   ·obtain rfl : i = Ls := by omega
    have t3 : decide (i < i) = false := decide_eq_false (by omega)
    have hall : mvT a.arcs c (S.take i) = mvT a.arcs c S := by rw [List.take_of_length_le (by rw [HLs.out]; exact Nat.le_refl _)]
    rw [hall] at ho hml ⊢
    have hit := (IsInts.of_owns ho).1
    have hbt : Bd a.n (mvT a.arcs c S) := fun z hz => tgtL_bd HV.out.arcsIn S c z ((mem_mvT (by omega)).1 hz)
    have hcw := HCL.out wr hBw hit hbt
    rw [cloL_mems (l' := tgtL a.arcs S c) (fun z => mem_mvT (by omega))] at hcw
    have HCW := Lib.hid hcw
    have HBB : Hid (Below w.heap.size w wr) := Lib.hid (HB1.out.trans (hBw.mono (by omega)))
    clear hcw hit hbt hall hb hBw ho hdr
    go_wp2_with (go_at_call 29; refine HCW.out.mono ?_; rintro e w9 ⟨g, t, us, rfl, hpz, hzs, ht, hb9⟩)
    go_ret
    exact ⟨g, t, us, rfl, hpz.from_mono HBB.out.size, hzs, ht, HBB.out.trans (hb9.mono HBB.out.size)⟩
 ·have HE : Hid (movL a.arcs S c = cloL a.arcs []) := Lib.hid (by
   unfold movL
   refine cloL_mems fun z => ⟨fun hz => ?_, fun hz => absurd hz List.not_mem_nil⟩
   obtain ⟨h0, x, hx, h1, _⟩ := mem_tgtL.1 hz
   have := (hv.arc hx).2
   omega)
  have hcw := hcl W1 (by rw [← hs1]; exact Below.refl _ _) (aq := none) (lq := 0) (cq := 0) (l := []) (.inl ⟨rfl, rfl, rfl, rfl⟩) (fun z hz => absurd hz List.not_mem_nil)
  rw [← HE.out] at hcw
  have HCW := Lib.hid hcw
  clear hv hd hs hz hS hT hO hb1 hs1 hls hcl hcw
  by_cases h1 : 1 ≤ c
  ·have t1 : decide (1 ≤ c) = true := decide_eq_true h1
   have t2 : decide (c ≤ 10000) = false := decide_eq_false (by omega)
   go_enter Tryz.func30, Tryz.ntmps30
   go_wp2_with (go_at_call 29; refine HCW.out.mono ?_; rintro e w9 ⟨g, t, us, rfl, hpz, hzs, ht, hb9⟩)
   go_ret
   exact ⟨g, t, us, rfl, hpz.from_mono HB1.out.size, hzs, ht, HB1.out.trans (hb9.mono HB1.out.size)⟩
  ·have t1 : decide (1 ≤ c) = false := decide_eq_false h1
   go_enter Tryz.func30, Tryz.ntmps30
   go_wp2_with (go_at_call 29; refine HCW.out.mono ?_; rintro e w9 ⟨g, t, us, rfl, hpz, hzs, ht, hb9⟩)
   go_ret
   exact ⟨g, t, us, rfl, hpz.from_mono HB1.out.size, hzs, ht, HB1.out.trans (hb9.mono HB1.out.size)⟩
end Go.Proofs.YtbjdglopkpigbaaGreatDoor.Na
