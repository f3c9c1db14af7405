import Derived.Maps.OwnSet
import Derived.StringKeys
import Derived.Test.YtofaifeadhimjaaGreatDoorMG3
import Derived.Test.YtofaifeadhimjaaGreatDoorMG11
import Derived.Test.YtofaifeadhimjaaGreatDoorMG29
/-
  Mp, NfaNb
-/
set_option linter.unusedVariables false
set_option linter.unusedSectionVars false
set_option linter.unusedSimpArgs false
namespace Go.Proofs.YtofaifeadhimjaaGreatDoor
open Go.RowKit Go.Maps
open Go.WideElems (Fit rg)

structure KeyEnc (P : Program) (k : TypeId) (α : Type) where
 law : Keyed P k
 enc : α → Value
 ok : α → Prop
 kl : α → Lit
 reads : ∀ a, ok a → keyOf P k (enc a) = some (kl a)
 inj : ∀ a b, ok a → ok b → enc a = enc b → a = b
section
variable {P : Program} {k : TypeId} {α : Type} [DecidableEq α]
theorem KeyEnc.key (E : KeyEnc P k α) {a : α} (h : E.ok a) : WideAt.IsKeyLit (E.kl a) := E.law.key (E.reads a h)
theorem KeyEnc.ne (E : KeyEnc P k α) {a b : α} (ha : E.ok a) (hb : E.ok b) (h : a ≠ b) : E.kl a ≠ E.kl b := fun e => by
 have h1 := E.reads a ha
 have h2 := E.reads b hb
 rw [e] at h1
 exact h (E.inj a b ha hb (E.law.inj h1 h2))
def MapObj (E : KeyEnc P k α) (e : TypeId) (ks : List α) (val : α → Lit) (o : Obj) : Prop := ∃ (es : Array MapEntry) (clock : Nat) (D : DataW Unit), o = .map es clock ∧ Fit P k (plainElem (H := Unit) P e) es clock ∧ es.size ≤ ks.length ∧ D = .map ((es.toList.map (rg P k (plainElem P e))).foldr DataW.insert []) ∧ Maps.size D = ks.length ∧ ∀ a, E.ok a → Maps.has D (E.kl a) = decide (a ∈ ks) ∧ (a ∈ ks → ∀ z, D.atKey (E.kl a) z = .lit (val a))
def IsMapK (E : KeyEnc P k α) (e : TypeId) (ks : List α) (val : α → Lit) (W : World) (b : Nat) : Prop := ∃ D : DataW Unit, W.ownsMap P k (plainElem P e) b ks.length D ∧ Maps.size D = ks.length ∧ ∀ a, E.ok a → Maps.has D (E.kl a) = decide (a ∈ ks) ∧ (a ∈ ks → ∀ z, D.atKey (E.kl a) z = .lit (val a))
variable {E : KeyEnc P k α} {e : TypeId} {ks : List α} {val : α → Lit} {W : World} {b : Nat}
theorem isMapK_iff : IsMapK E e ks val W b ↔ ∃ o, W.heap[b]? = some o ∧ MapObj E e ks val o := by
 constructor
 ·rintro ⟨D, ⟨es, clock, h1, h2, h3, h4⟩, h5, h6⟩
  exact ⟨_, h1, es, clock, D, rfl, h2, h3, h4, h5, h6⟩
 ·rintro ⟨o, h1, es, clock, D, rfl, h2, h3, h4, h5, h6⟩
  exact ⟨D, ⟨es, clock, h1, h2, h3, h4⟩, h5, h6⟩
theorem MapObj.vals {o : Obj} (h : MapObj E e ks val o) {val' : α → Lit} (hv : ∀ a ∈ ks, val a = val' a) : MapObj E e ks val' o := by
 obtain ⟨es, clock, D, h1, h2, h3, h4, h5, h6⟩ := h
 exact ⟨es, clock, D, h1, h2, h3, h4, h5, fun a ha => ⟨(h6 a ha).1, fun hm z => by rw [← hv a hm]; exact (h6 a ha).2 hm z⟩⟩
theorem mapObj_made (E : KeyEnc P k α) (e : TypeId) (val : α → Lit) : MapObj E e [] val (.map #[] 0) := by
 obtain ⟨es, clock, h1, h2, h3, h4⟩ := World.ownsMap_made (H := Unit) default P k (plainElem P e)
 rw [heap_alloc_new] at h1
 injection h1 with h1
 refine ⟨es, clock, .map [], h1, h2, h3, h4, rfl, fun a _ => ⟨by simp [Maps.has], fun h => by simp at h⟩⟩
def ElemAt (P : Program) (e : TypeId) : Prop := ∀ (v : Value) (z : DataW Unit × List MemPlace), plainElem P e v = some z → ∃ l : Lit, v = l.value ∧ z.1 = .lit l
theorem elemAt_i64 {e : TypeId} {q : IntKind} (he : P.underlying e = some (.int q)) : ElemAt P e := fun v z h => by
 obtain ⟨a, rfl, rfl, _⟩ := plainElem_int_inv he h
 exact ⟨.int q a, rfl, rfl⟩
theorem IsMapK.look {t : TypeId} (h : IsMapK E e ks val W b) (he : ElemAt P e) (ht : P.underlying t = some (.map k e)) {zl : Lit} (hz : (zeroValue e).run P W = .ok zl.value W) (hzd : plainElem (H := Unit) P e zl.value = some (.lit zl, [])) {a : α} (ha : E.ok a) (c : Bool) :
  (Instr.lookup t (.map (some b)) (E.enc a) c).run P W = .ok (if c then .tuple #[(if a ∈ ks then val a else zl).value, .bool (decide (a ∈ ks))] else (if a ∈ ks then val a else zl).value) W := by
 obtain ⟨D, ⟨es, clock, hb, F, hs, rfl⟩, h5, h6⟩ := h
 obtain ⟨h7, h8⟩ := h6 a ha
 rcases Maps.fit_look c E.law ht hz hb F (E.reads a ha) with ⟨hrun, _, hat⟩ | ⟨e0, y, _, _, hrun, hRv, hat, _⟩
 ·have hn : a ∉ ks := fun hm => by
   rw [Maps.has_false_of_atKey hat] at h7
   simp [hm] at h7
  rw [hrun]
  simp [hn]
 ·have hm : a ∈ ks := by
   rw [Maps.has_true_of_atKey hat] at h7
   simpa using h7.symm
  obtain ⟨l, hl, hy⟩ := he _ _ hRv
  have h9 := h8 hm (.lit zl)
  rw [hat, hy] at h9
  injection h9 with h9
  subst h9
  rw [hrun, hl]
  simp [hm]
theorem IsMapK.len {t : TypeId} (h : IsMapK E e ks val W b) (ht : P.underlying t = some (.map k e)) (ty : TypeId) : (Builtin.len_ #[t] ty #[.map (some b)]).run P W = .ok (.int .i64 (ks.length : Nat)) W := by
 obtain ⟨D, hown, h5, _⟩ := h
 rw [hown.len ht ty, h5]
theorem IsMapK.store {t : TypeId} (h : IsMapK E e ks val W b) (ht : P.underlying t = some (.map k e)) (hn : ks.length < maxLen) {a : α} (ha : E.ok a) (hnew : a ∉ ks) {l : Lit} (hl : plainElem (H := Unit) P e l.value = some (.lit l, [])) :
  ∃ W', (Instr.mapUpdate t (.map (some b)) (E.enc a) l.value).run P W = .ok () W' ∧ IsMapK E e (ks ++ [a]) (fun x => if x = a then l else val x) W' b ∧ W.grownBy W' (some b) := by
 obtain ⟨D, hown, h5, h6⟩ := h
 obtain ⟨W', hrun, hown', hturn⟩ := hown.store E.law ht hn (E.reads a ha) hl
 refine ⟨W', hrun, ⟨_, by rw [List.length_append]; exact hown', ?_, fun x hx => ?_⟩, hturn.grown⟩
 ·rw [Maps.size_put (hown.tidy E.law), (h6 a ha).1, h5]
  simp [hnew]
 ·by_cases e : x = a
  ·subst e
   exact ⟨by rw [Maps.has_put_same hown.isMap (E.key hx)]; simp, fun _ z => by rw [Maps.atKey_put_same hown.isMap (E.key hx)]; simp⟩
  ·have hne := E.ne hx ha e
   refine ⟨by rw [Maps.has_put_other hne, (h6 x hx).1]; simp [e], fun hm z => ?_⟩
   show (D.put (E.kl a) (.lit l)).atKey (E.kl x) z = .lit (if x = a then l else val x)
   rw [Maps.atKey_put_other hne, if_neg e]
   have hm' : x ∈ ks := by
    rcases List.mem_append.1 hm with h1 | h1
    ·exact h1
    ·exact absurd (List.mem_singleton.1 h1) e
   exact (h6 x hx).2 hm' z
/-! As operations. -/
theorem wp_map_look {o : Oper} {A : Act} {K : Act → World → Prop} {Q : Exit → Act → World → Prop} (m x : Operand) (t : TypeId) (c : Bool) (hop : o.op = Op.lookup t m x c) (h : IsMapK E e ks val W b) (he : ElemAt P e) (ht : P.underlying t = some (.map k e)) (zl : Lit) (hz : (zeroValue e).run P W = .ok zl.value W) (hzd : plainElem (H := Unit) P e zl.value = some (.lit zl, []))
  (hm : A.eval m = .map (some b)) (a : α) (hx : A.eval x = E.enc a) (ha : E.ok a)
  (hK : K (A.put o.dst (if c then .tuple #[(if a ∈ ks then val a else zl).value, .bool (decide (a ∈ ks))] else (if a ∈ ks then val a else zl).value)) W) : o.wp P A W K Q := by
 have hrun := h.look he ht hz hzd ha c
 unfold Oper.wp
 simp [execOp, hop, hm, hx]
 rw [hrun]
 exact hK
theorem wp_map_store {o : Oper} {A : Act} {K : Act → World → Prop} {Q : Exit → Act → World → Prop} (m x y : Operand) (t : TypeId) (hop : o.op = Op.mapUpdate t m x y) (h : IsMapK E e ks val W b) (ht : P.underlying t = some (.map k e)) (hn : ks.length < maxLen)
  (hm : A.eval m = .map (some b)) (a : α) (hx : A.eval x = E.enc a) (ha : E.ok a) (hnew : a ∉ ks) (l : Lit) (hy : A.eval y = l.value) (hl : plainElem (H := Unit) P e l.value = some (.lit l, []))
  (hK : ∀ W', IsMapK E e (ks ++ [a]) (fun x => if x = a then l else val x) W' b → W.grownBy W' (some b) → K (A.put o.dst undef) W') : o.wp P A W K Q := by
 obtain ⟨W', hrun, h1, h2⟩ := h.store ht hn ha hnew hl
 unfold Oper.wp
 simp [execOp, hop, hm, hx, hy, hrun, Result.andThen]
 exact hK W' h1 h2
theorem wpList_map_look {ops : Array Oper} {rest : List Oper} {o : Oper} {A : Act} {Q : Exit → Act → World → Prop} (hg : o.guard = none) (m x : Operand) (t : TypeId) (c : Bool) (hop : o.op = Op.lookup t m x c) (h : IsMapK E e ks val W b) (he : ElemAt P e) (ht : P.underlying t = some (.map k e)) (zl : Lit) (hz : (zeroValue e).run P W = .ok zl.value W) (hzd : plainElem (H := Unit) P e zl.value = some (.lit zl, []))
  (hm : A.eval m = .map (some b)) (a : α) (hx : A.eval x = E.enc a) (ha : E.ok a)
  (hK : wpList P ops Q rest (A.put o.dst (if c then .tuple #[(if a ∈ ks then val a else zl).value, .bool (decide (a ∈ ks))] else (if a ∈ ks then val a else zl).value)) W) : wpList P ops Q (o :: rest) A W :=
 wpList_plain hg fun _ hK' => wp_map_look m x t c hop h he ht zl hz hzd hm a hx ha (hK' _ _ hK)
theorem wpList_map_store {ops : Array Oper} {rest : List Oper} {o : Oper} {A : Act} {Q : Exit → Act → World → Prop} (hg : o.guard = none) (m x y : Operand) (t : TypeId) (hop : o.op = Op.mapUpdate t m x y) (h : IsMapK E e ks val W b) (ht : P.underlying t = some (.map k e)) (hn : ks.length < maxLen)
  (hm : A.eval m = .map (some b)) (a : α) (hx : A.eval x = E.enc a) (ha : E.ok a) (hnew : a ∉ ks) (l : Lit) (hy : A.eval y = l.value) (hl : plainElem (H := Unit) P e l.value = some (.lit l, []))
  (hK : ∀ W', IsMapK E e (ks ++ [a]) (fun x => if x = a then l else val x) W' b → W.grownBy W' (some b) → wpList P ops Q rest (A.put o.dst undef) W') : wpList P ops Q (o :: rest) A W :=
 wpList_plain hg fun _ hK' => wp_map_store m x y t hop h ht hn hm a hx ha hnew l hy hl fun W' h1 h2 => hK' _ _ (hK W' h1 h2)
theorem wpList_map_ok_yes {ops : Array Oper} {rest : List Oper} {o : Oper} {A : Act} {Q : Exit → Act → World → Prop} (hg : o.guard = none) (m x : Operand) (t : TypeId) (hop : o.op = Op.lookup t m x true) (h : IsMapK E e ks val W b) (he : ElemAt P e) (ht : P.underlying t = some (.map k e)) (zl : Lit) (hz : (zeroValue e).run P W = .ok zl.value W) (hzd : plainElem (H := Unit) P e zl.value = some (.lit zl, []))
  (hm : A.eval m = .map (some b)) (a : α) (hx : A.eval x = E.enc a) (ha : E.ok a) (hin : a ∈ ks) {v : Value} (hv : v = (val a).value) (hK : wpList P ops Q rest (A.put o.dst (.tuple #[v, .bool true])) W) : wpList P ops Q (o :: rest) A W := by
 subst hv
 exact wpList_map_look hg m x t true hop h he ht zl hz hzd hm a hx ha (by simpa [hin] using hK)
theorem wpList_map_ok_no {ops : Array Oper} {rest : List Oper} {o : Oper} {A : Act} {Q : Exit → Act → World → Prop} (hg : o.guard = none) (m x : Operand) (t : TypeId) (hop : o.op = Op.lookup t m x true) (h : IsMapK E e ks val W b) (he : ElemAt P e) (ht : P.underlying t = some (.map k e)) (zl : Lit) (hz : (zeroValue e).run P W = .ok zl.value W) (hzd : plainElem (H := Unit) P e zl.value = some (.lit zl, []))
  (hm : A.eval m = .map (some b)) (a : α) (hx : A.eval x = E.enc a) (ha : E.ok a) (hin : a ∉ ks) {v : Value} (hv : v = zl.value) (hK : wpList P ops Q rest (A.put o.dst (.tuple #[v, .bool false])) W) : wpList P ops Q (o :: rest) A W := by
 subst hv
 exact wpList_map_look hg m x t true hop h he ht zl hz hzd hm a hx ha (by simpa [hin] using hK)
end
/-! Integers as keys. -/
theorem wf_small {n : Int} (h0 : -9223372036854775808 ≤ n) (h1 : n ≤ 9223372036854775807) : (Lit.int .i64 n).wf = true := WalkArith.wf_i64 ⟨h0, h1⟩
end Go.Proofs.YtofaifeadhimjaaGreatDoor

set_option linter.unusedSimpArgs false
set_option linter.unusedVariables false
namespace Go.Proofs.YtofaifeadhimjaaGreatDoor
open List (foldr_cons foldr_nil setIfInBounds_toArray set_cons_succ set_cons_zero)
open Go.RowKit
attribute [local go_sem] Oper.semAt_some

def okS (S : List Int) : Prop := S.Pairwise (· < ·) ∧ Bd 4096 S
noncomputable def wdsOf (S : List Int) : List Int := Bt.wordsL (Bt.setL (inL S))
theorem wdsOf_is (S : List Int) : Bt.SetIs (wdsOf S) (inL S) := Bt.words_setL (inL S)
theorem wdsOf_eq {zs S : List Int} (h : Bt.SetIs zs (inL S)) : wdsOf S = zs := (wdsOf_is S).uniq h fun _ _ => rfl
theorem okS_ext {S T : List Int} (hS : okS S) (hT : okS T) (h : ∀ n, n < 4096 → inL S n = inL T n) : S = T := by
 refine pairwise_ext hS.1 hT.1 fun z => ?_
 constructor
 ·intro hz
  have hb := hS.2 z hz
  have h1 := h z.toNat (by omega)
  unfold inL at h1
  rw [Int.toNat_of_nonneg hb.1, decide_eq_true hz] at h1
  exact of_decide_eq_true h1.symm
 ·intro hz
  have hb := hT.2 z hz
  have h1 := h z.toNat (by omega)
  unfold inL at h1
  rw [Int.toNat_of_nonneg hb.1, decide_eq_true hz] at h1
  exact of_decide_eq_true h1
theorem wds_len (S : List Int) : (wdsOf S).length ≤ 64 := (wdsOf_is S).2.1.1
noncomputable def keyE : KeyEnc Tryz.prog 9 (List Int) where
 law := Maps.string_keyed Tryz.underlying9
 enc := fun S => .string (keyS (wdsOf S))
 ok := okS
 kl := fun S => .string (keyS (wdsOf S)).data.toList
 reads := fun S _ => WideMaps.keyOf_string_mk Tryz.underlying9 (by
  show (keyB (wdsOf S)).toArray.size ≤ maxLen
  rw [List.size_toArray]
  have h1 := keyB_len (wdsOf S)
  have h2 := wds_len S
  unfold maxLen
  omega)
 inj := fun S T hS hT h => by
  injection h with h
  have h1 : keyB (wdsOf S) = keyB (wdsOf T) := by
   have := congrArg (fun b : ByteArray => b.data.toList) h
   simpa [keyS] using this
  have h2 := keyB_inj (wdsOf_is S).1 (wdsOf_is T).1 h1
  refine okS_ext hS hT fun n hn => ?_
  rw [← (wdsOf_is S).2.2 n hn, h2, (wdsOf_is T).2.2 n hn]
section
variable {α : Type} [DecidableEq α]
def idxS (q : List α) (x : α) : Nat := q.idxOf x
theorem idxS_pre {q : List α} {x y : α} (hx : x ∈ q) : idxS (q ++ [y]) x = idxS q x := idx_pre (List.prefix_append q [y]) hx
theorem idxS_new {q : List α} {x : α} (hx : x ∉ q) : idxS (q ++ [x]) x = q.length := by
 unfold idxS
 rw [List.idxOf_append, if_neg hx]
 simp
end
def idxV (ks : List (List Int)) (S : List Int) : Lit := .int .i64 ((idxS ks S : Nat) : Int)
structure SP where
 g : Nat
 t : Nat
 M : Nat
 xs : List Int
 S : List Int
def SP.v (x : SP) : Value := .slice (some ⟨x.g, 0, none⟩) x.t x.t
def SP.pc (x : SP) : Pc := .row 99 1 (.slice (some ⟨x.g, 0, none⟩) x.M x.M) x.M (ivs .u64 x.xs)
def SP.ok (x : SP) : Prop := x.t ≤ x.M ∧ x.xs.length = x.M ∧ Bt.SetIs (x.xs.take x.t) (inL x.S) ∧ x.t ≤ 64
theorem SP.part {x : SP} {W : World} {B : Nat} (h : x.pc.At W B) (hx : x.ok) : PartOf .u64 99 W B x.g x.t (x.xs.take x.t) := ⟨x.M, x.xs, hx.1, hx.2.1, rfl, h⟩
theorem Pcs.sub {W : World} {B : Nat} {ps qs : List Pc} (h : Pcs W B ps) (hs : qs.Sublist ps) : Pcs W B qs := by
 have h1 : ∀ p ∈ ps, p.At W B := fun p hp => by
  obtain ⟨i, hi, e⟩ := List.getElem_of_mem hp
  exact h.each i p (by rw [List.getElem?_eq_getElem hi, e])
 have h2 : ps.Pairwise (fun p q => ∀ k, p.own = some k → q.own ≠ some k) :=
  List.pairwise_iff_getElem.2 fun i j hi hj hij => h.apart i j _ _ (by omega) (List.getElem?_eq_getElem hi) (List.getElem?_eq_getElem hj)
 have h3 := h2.sublist hs
 refine ⟨fun i p hp => h1 p (hs.subset (List.mem_of_getElem? hp)), fun i j p q hne hp hq k hk e => ?_⟩
 obtain ⟨hi, e1⟩ := List.getElem?_eq_some_iff.1 hp
 obtain ⟨hj, e2⟩ := List.getElem?_eq_some_iff.1 hq
 rcases Nat.lt_or_ge i j with hij | hij
 ·exact List.pairwise_iff_getElem.1 h3 i j hi hj hij k (by rw [e1]; exact hk) (by rw [e2]; exact e)
 ·exact List.pairwise_iff_getElem.1 h3 j i hj hi (by omega) k (by rw [e2]; exact e) (by rw [e1]; exact hk)
def subPs (po pm mb : Nat) (cs : Array Value) (vS vF vA : Value) (vs : List SP) (fins : List Bool) (ar : List A3) (X : List Pc) : List Pc :=
 .blk po cs :: .row 59 1 vS vs.length (vs.map SP.v) :: .row 4 1 vF fins.length (bvs fins) :: .row 50 3 vA ar.length (tvs ar) :: .obj mb (MapObj keyE 3 (vs.map SP.S) (idxV (vs.map SP.S))) :: .blk pm #[.map (some mb)] :: (vs.map SP.pc ++ X)
theorem elSS : Elem Tryz.prog 51 59 (.slice none 0 0) 1 24 := ⟨Tryz.underlying51, by kernel_rfl, rfl, by decide⟩
theorem zeroInt (w : World) : (zeroValue 3).run Tryz.prog w = .ok (Lit.int .i64 0).value w := by kernel_rfl
theorem int_elem {n : Int} (h : (Lit.int .i64 n).wf = true) : plainElem (H := Unit) Tryz.prog 3 (Lit.int .i64 n).value = some (.lit (.int .i64 n), []) := plainElem_int Tryz.underlying3 h
theorem IsMapK.vals {P : Program} {k e : TypeId} {α : Type} [DecidableEq α] {E : KeyEnc P k α} {ks : List α} {val val' : α → Lit} {W : World} {b : Nat} (h : IsMapK E e ks val W b) (hv : ∀ a ∈ ks, val a = val' a) : IsMapK E e ks val' W b := by
 rw [isMapK_iff] at h ⊢
 obtain ⟨o, h1, h2⟩ := h
 exact ⟨o, h1, h2.vals hv⟩
theorem sub_part {W : World} {B po pm mb : Nat} {cs : Array Value} {vS vF vA : Value} {vs : List SP} {fins : List Bool} {ar : List A3} {X : List Pc} (hP : Pcs W B (subPs po pm mb cs vS vF vA vs fins ar X)) {x : SP} (hm : x ∈ vs) (hx : x.ok) : PartOf .u64 99 W B x.g x.t (x.xs.take x.t) := by
 obtain ⟨i, hi, e⟩ := List.getElem_of_mem (show x.pc ∈ subPs po pm mb cs vS vF vA vs fins ar X from
  List.mem_cons_of_mem _ (List.mem_cons_of_mem _ (List.mem_cons_of_mem _ (List.mem_cons_of_mem _ (List.mem_cons_of_mem _ (List.mem_cons_of_mem _ (List.mem_append_left _ (List.mem_map_of_mem hm))))))))
 exact SP.part (hP.each i x.pc (by rw [List.getElem?_eq_getElem hi, e])) hx
def addS (vs : List SP) (x : SP) : List SP := if x.S ∈ vs.map SP.S then vs else vs ++ [x]
def addF (vs : List SP) (fins : List Bool) (x : SP) (b : Bool) : List Bool := if x.S ∈ vs.map SP.S then fins else fins ++ [b]
def Numbered (B po pm mb : Nat) (vA : Value) (vs : List SP) (fins : List Bool) (ar : List A3) (X : List Pc) (W W' : World) : Prop :=
 (∃ aS cS aF cF, Pcs W' B (subPs po pm mb #[.slice aS vs.length cS, .slice aF fins.length cF, vA] (.slice aS vs.length cS) (.slice aF fins.length cF) vA vs fins ar X)) ∧ Below B W W'
set_option maxRecDepth 20000 in
set_option maxHeartbeats 8000000 in
theorem number_any {a : Nfa} {h : NH} {W1 W : World} {B pa po pm mb : Nat} {aS : Option Addr} {cS : Nat} {aF : Option Addr} {cF : Nat} {vA : Value} {vs : List SP} {fins : List Bool} {ar : List A3} {X : List Pc} {x : SP} (hv : ValidN a)
  (hO : ∀ W', Below B W1 W' → (W'.cell? ⟨pa, 0, none⟩ = some (.int .i64 a.n) ∧ W'.cell? ⟨pa, 1, none⟩ = some (.slice h.sa h.sl h.sc) ∧ W'.cell? ⟨pa, 2, none⟩ = some (.slice h.fa h.fl h.fc) ∧ W'.cell? ⟨pa, 3, none⟩ = some (.slice h.aa h.al h.ac)) ∧ IsNfa W' h a ∧ TabW W')
  (hb : Below B W1 W) (hBW : B ≤ W.heap.size) (hP : Pcs W B (subPs po pm mb #[.slice aS vs.length cS, .slice aF fins.length cF, vA] (.slice aS vs.length cS) (.slice aF fins.length cF) vA vs fins ar (x.pc :: X)))
  (hx : x.ok) (hcs : CS a x.S) (hlen : vs.length ≤ 100000) (hfl : fins.length = vs.length) :
  Calls Tryz.prog 60 #[x.v, .pointer (some ⟨pm, 0, none⟩), .pointer (some ⟨po, 0, none⟩), .pointer (some ⟨pa, 0, none⟩)] W fun e W' => e = .returned (.int .i64 ((idxS ((addS vs x).map SP.S) x.S : Nat) : Int)) ∧ Numbered B po pm mb vA (addS vs x) (addF vs fins x (finL a.fin x.S)) ar X W W' := by
 have hpart : ∀ W', Pcs W' B (subPs po pm mb #[.slice aS vs.length cS, .slice aF fins.length cF, vA] (.slice aS vs.length cS) (.slice aF fins.length cF) vA vs fins ar (x.pc :: X)) → PartOf .u64 99 W' B x.g x.t (x.xs.take x.t) := fun W' hP' => by
  obtain ⟨i, hi, e⟩ := List.getElem_of_mem (show x.pc ∈ subPs po pm mb #[.slice aS vs.length cS, .slice aF fins.length cF, vA] (.slice aS vs.length cS) (.slice aF fins.length cF) vA vs fins ar (x.pc :: X) by unfold subPs; simp)
  exact SP.part (hP'.each i x.pc (by rw [List.getElem?_eq_getElem hi, e])) hx
 have hfl2 : fins.length ≤ 100000 := by omega
 clear hfl
 have hok : okS x.S := ⟨hcs.2.2, fun z hz => by have := hcs.1 z hz; have := hv.1; omega⟩
 have hki := (hpart W hP).ints
 have hkey := key_any hki hx.2.2.1.1 hx.2.2.2
 rw [← wdsOf_eq hx.2.2.1] at hkey
 have HPART := Lib.hid hpart
 have HX := Lib.hid hx
 have HCS := Lib.hid hcs
 have HV := Lib.hid hv
 have HO := Lib.hid hO
 have HOK := Lib.hid hok
 have HP := Lib.hid hP
 have HB := Lib.hid hb
 by_cases hin : x.S ∈ vs.map SP.S
 ·have HIN := Lib.hid hin
  have HA : Hid (addS vs x = vs ∧ addF vs fins x (finL a.fin x.S) = fins) := Lib.hid ⟨by unfold addS; rw [if_pos hin], by unfold addF; rw [if_pos hin]⟩
  unfold SP.v
  clear hpart hv hO hb hP hx hcs hok hki hin
  go_enter Tryz.func60, Tryz.ntmps60
  go_wp2_with (first
   | (go_at_call 61; refine hkey.mono ?_; rintro e w2 ⟨rfl, hb2⟩; have hP2 := HP.out.quiet (below_grows hb2 none); have cpm : w2.cell? ⟨pm, 0, none⟩ = some (.map (some mb)) := ((hP2.blk 5 rfl).2.cell 0).1; have HM : Hid (IsMapK keyE 3 (vs.map SP.S) (idxV (vs.map SP.S)) w2 mb) := Lib.hid (isMapK_iff.2 (hP2.each 4 _ rfl).2); have HP2 := Lib.hid hP2; clear hP2)
   | (at_lookup; refine wpList_map_ok_yes rfl _ _ 96 rfl HM.out (elemAt_i64 Tryz.underlying3) Tryz.underlying96 (.int .i64 0) (zeroInt _) (int_elem (wf_small (by omega) (by omega))) rfl x.S rfl HOK.out HIN.out rfl ?_))
  go_ret
  rw [HA.out.1, HA.out.2]
  refine ⟨rfl, ⟨aS, cS, aF, cF, HP2.out.sub ?_⟩, hb2.mono hBW⟩
  unfold subPs
  refine .cons_cons _ (.cons_cons _ (.cons_cons _ (.cons_cons _ (.cons_cons _ (.cons_cons _ ?_)))))
  exact List.Sublist.append_left (List.sublist_cons_self _ _) _
 ·have HIN := Lib.hid hin
  have HA : Hid (addS vs x = vs ++ [x] ∧ addF vs fins x (finL a.fin x.S) = fins ++ [finL a.fin x.S]) := Lib.hid ⟨by unfold addS; rw [if_neg hin], by unfold addF; rw [if_neg hin]⟩
  have HR : Hid (idxS ((vs ++ [x]).map SP.S) x.S = vs.length) := Lib.hid (by
   rw [List.map_append]
   have := idxS_new hin
   rw [List.length_map] at this
   exact this)
  have HVL : Hid (∀ S ∈ vs.map SP.S ++ [x.S], (if S = x.S then Lit.int .i64 (vs.length : Int) else idxV (vs.map SP.S) S) = idxV (vs.map SP.S ++ [x.S]) S) := Lib.hid (fun S hS => by
   by_cases e : S = x.S
   ·subst e
    rw [if_pos rfl]
    unfold idxV
    rw [idxS_new HIN.out, List.length_map]
   ·rw [if_neg e]
    unfold idxV
    rw [idxS_pre]
    rcases List.mem_append.1 hS with h | h
    ·exact h
    ·exact absurd (List.mem_singleton.1 h) e)
  have hwf : (Lit.int .i64 (vs.length : Int)).wf = true := wf_small (by omega) (by omega)
  have HWF := Lib.hid hwf
  have hks : (vs.map SP.S).length < maxLen := by rw [List.length_map]; unfold maxLen; omega
  unfold SP.v
  clear hpart hv hO hb hP hx hcs hok hki hin hwf
  go_enter Tryz.func60, Tryz.ntmps60
  go_wp2_with (first
   | (go_at_call 61; refine hkey.mono ?_; rintro e w2 ⟨rfl, hb2⟩; have hP2 := HP.out.quiet (below_grows hb2 none); have cpm : w2.cell? ⟨pm, 0, none⟩ = some (.map (some mb)) := ((hP2.blk 5 rfl).2.cell 0).1; have cpo : w2.cell? ⟨po, 0, none⟩ = some (.slice aS vs.length cS) := ((hP2.blk 0 rfl).2.cell 0).1; have HM : Hid (IsMapK keyE 3 (vs.map SP.S) (idxV (vs.map SP.S)) w2 mb) := Lib.hid (isMapK_iff.2 (hP2.each 4 _ rfl).2); have HP2 := Lib.hid hP2; have HB2 := Lib.hid hb2; clear hP2 hb2)
   | (at_lookup; refine wpList_map_ok_no rfl _ _ 96 rfl HM.out (elemAt_i64 Tryz.underlying3) Tryz.underlying96 (.int .i64 0) (zeroInt _) (int_elem (wf_small (by omega) (by omega))) rfl x.S rfl HOK.out HIN.out rfl ?_)
   | (at_mapUpdate; refine wpList_map_store rfl _ _ _ 96 rfl HM.out Tryz.underlying96 hks rfl x.S rfl HOK.out HIN.out (.int .i64 (vs.length : Int)) rfl (int_elem HWF.out) ?_; intro w3 hm3 hg3; refine Hid.out ?_))
  refine Lib.hid ?_
  have hbB : Below B W w2 := HB2.out.mono hBW
  have hg23 : Below B w2 w3 := (Below.refl B w2).grown hg3 (by have := hbB.size; omega) (fun k hk => by injection hk with hk; subst hk; exact (HP2.out.each 4 _ rfl).1)
  have hP3 : Pcs w3 B (.blk po #[.slice aS vs.length cS, .slice aF fins.length cF, vA] :: .row 59 1 (.slice aS vs.length cS) vs.length (vs.map SP.v) :: .row 4 1 (.slice aF fins.length cF) fins.length (bvs fins) :: .row 50 3 vA ar.length (tvs ar) :: .obj mb (MapObj keyE 3 (vs.map SP.S ++ [x.S]) (idxV (vs.map SP.S ++ [x.S]))) :: .blk pm #[.map (some mb)] :: (vs.map SP.pc ++ x.pc :: X)) :=
   HP2.out.put 4 (.obj mb (MapObj keyE 3 (vs.map SP.S ++ [x.S]) (idxV (vs.map SP.S ++ [x.S])))) rfl hg3 ⟨(HP2.out.each 4 _ rfl).1, isMapK_iff.1 (hm3.vals HVL.out)⟩ (fun q e => .inl e)
  have cpo3 : w3.cell? ⟨po, 0, none⟩ = some (.slice aS vs.length cS) := ((hP3.blk 0 rfl).2.cell 0).1
  have hP3q := hP3.quiet (below_grows ((Below.refl _ _).alloc (Nat.le_refl _) (.cells #[.slice (some ⟨x.g, 0, none⟩) x.t x.t] 59)) none)
  have HP3 := Lib.hid hP3q
  have hs3 : B ≤ w3.heap.size := by have := hg23.size; have := hbB.size; omega
  have HB3 : Hid (Below B W (w3.alloc (.cells #[.slice (some ⟨x.g, 0, none⟩) x.t x.t] 59))) := Lib.hid ((hbB.trans hg23).alloc hs3 _)
  have HS3 : Hid (B ≤ (w3.alloc (.cells #[.slice (some ⟨x.g, 0, none⟩) x.t x.t] 59)).heap.size) := Lib.hid (by simp; omega)
  clear hP3 hP3q hm3 hg3 hbB hg23 cpm cpo HM HP2 HB2 hkey
  go_upto_region 7 with (at_builtin; refine app_pcs elSS rfl _ _ rfl 1 rfl HP3.out rfl rfl (new_src _ #[.slice (some ⟨x.g, 0, none⟩) x.t x.t] _ rfl) (by intro u hu; rw [List.mem_singleton.1 hu]; rfl) (by omega) HS3.out ?_; intro a9 c9 w9 hp9 hb9; have z9 := (hp9.blk 0 rfl).2.cell 0; have z9a : w9.cell? ⟨po, 0, none⟩ = some (.slice aS vs.length cS) := z9.1; have z9b : w9.frozen? ⟨po, 0, none⟩ = false := z9.2; clear z9; have hp5 := hp9.blkStore 0 rfl 0 (.slice a9 (vs.length + 1) c9); have HP9 := Lib.hid hp5; have HB9 : Hid (Below B W (w9.setCell ⟨po, 0, none⟩ (.slice a9 (vs.length + 1) c9))) := Lib.hid ((HB3.out.trans hb9).setCell (p := ⟨po, 0, none⟩) (hp9.blk 0 rfl).1 _); clear hp9 hb9 hp5)
  obtain ⟨W5, hW5⟩ : ∃ W5, w9.setCell ⟨po, 0, none⟩ (.slice a9 (vs.length + 1) c9) = W5 := ⟨_, rfl⟩
  rw [hW5] at HP9 HB9 ⊢
  clear hW5 z9a z9b HP3 HB3 HS3 cpo3
  have HS9 : Hid (B ≤ W5.heap.size) := Lib.hid (Nat.le_trans hBW HB9.out.size)
  obtain ⟨b, hb'⟩ : ∃ b, finL a.fin x.S = b := ⟨_, rfl⟩
  rw [hb'] at HA
  have HFN : Hid (finL a.fin x.S = b) := Lib.hid hb'
  clear hb'
  have HNW : Hid ((vs.map SP.v ++ #[Value.slice (some ⟨x.g, 0, none⟩) x.t x.t].toList) = (vs ++ [x]).map SP.v ∧ (vs.map SP.S ++ [x.S]) = (vs ++ [x]).map SP.S ∧ vs.length + 1 = (vs ++ [x]).length ∧ (vs.map SP.pc ++ x.pc :: X) = (vs ++ [x]).map SP.pc ++ X) := Lib.hid ⟨by rw [List.map_append]; rfl, by rw [List.map_append]; rfl, by simp, by rw [List.map_append, List.append_assoc]; rfl⟩
  have HPN : Hid (Pcs W5 B (subPs po pm mb #[.slice a9 (vs ++ [x]).length c9, .slice aF fins.length cF, vA] (.slice a9 (vs ++ [x]).length c9) (.slice aF fins.length cF) vA (vs ++ [x]) fins ar X)) := Lib.hid (by
   have h1 := HP9.out
   obtain ⟨n1, n2, n3, n4⟩ := HNW.out
   unfold subPs
   rw [← n1, ← n2, ← n3, ← n4]
   exact h1)
  clear HP9
  obtain ⟨S, hSd⟩ : ∃ S : (Nat → Bool) → (Nat → Value) → World → Prop, S = fun L f W' => Below B W W' ∧ B ≤ W'.heap.size ∧ (L 5 = true → L 6 = false → ∃ q, f 5 = .slice (some ⟨q, 0, none⟩) 1 1 ∧ BlkAt W' q #[.bool b]) ∧ Pcs W' B (subPs po pm mb #[.slice a9 (vs ++ [x]).length c9, (if L 8 = true then f 6 else .slice aF fins.length cF), vA] (.slice a9 (vs ++ [x]).length c9) (if L 6 = true then f 6 else .slice aF fins.length cF) vA (vs ++ [x]) (if L 6 = true then fins ++ [b] else fins) ar X) := ⟨_, rfl⟩
  refine wp_region_st mixed (by kernel_rfl) [[], [(0, 31)], [], [], [(2, 33), (3, 34)], [(4, 35)], [(1, 32), (5, 36), (4, 35)], [(0, 31), (1, 32), (2, 33), (3, 34), (4, 35), (5, 36), (6, 37)], [(7, 38), (6, 37), (6, 37), (0, 31), (1, 32), (2, 33), (3, 34), (4, 35), (5, 36), (6, 37)]] [(0, 31), (1, 32), (2, 33), (3, 34), (4, 35), (5, 36), (6, 37), (7, 38)] rfl rfl [EV ?e0, EV ?e1, EV ?e2, EV ?e3, EV (.bool b), fun v => ∃ q, v = .slice (some ⟨q, 0, none⟩) 1 1, fun v => ∃ a' c', v = .slice a' (fins.length + 1) c', EV ?e7, fun _ => True] S ?start ?steps ?rest
  case start =>
   intro f
   rw [hSd]
   exact ⟨HB9.out.drew, HS9.out, fun h => (by cases h), HPN.out.quiet (below_grows ((Below.refl _ _).drew) none)⟩
  case steps =>
   refine ⟨fun L f W hi hd hdn hh hS => ?_, fun L f W hi hd hdn hh hS => ?_, fun L f W hi hd hdn hh hS => ?_, fun L f W hi hd hdn hh hS => ?_, fun L f W hi hd hdn hh hS => ?_, fun L f W hi hd hdn hh hS => ?_, fun L f W hi hd hdn hh hS => ?_, fun L f W hi hd hdn hh hS => ?_, fun L f W hi hd hdn hh hS => ?_, trivial⟩
   ·
    unfold stStep
    rw [if_pos (by simp [Region.wanted])]
    intro K Q hK
    simp only [puts, foldr_nil]
    go_step
    refine st_ex hK rfl rfl (by simp only [Act.put, setIfInBounds_toArray, set_cons_succ, set_cons_zero, Array.getD_eq_getD_getElem?, List.getElem?_toArray, List.getElem?_cons_succ, List.getElem?_cons_zero, Option.getD_some] <;> rfl) rfl (by rw [hSd] at hS ⊢; exact hS)
   ·
    obtain ⟨h0, -⟩ := hh
    have g0 : f 0 = _ := h0
    have l6 : L 6 = false := Bool.eq_false_iff.2 fun h => by have q := hdn 6 _ h rfl 1 (by decide); rw [show L 1 = false from hi] at q; cases q
    have l8 : L 8 = false := Bool.eq_false_iff.2 fun h => by have q := hdn 8 _ h rfl 6 (by decide); rw [show L 6 = false from l6] at q; cases q
    unfold stStep
    rw [if_pos (by simp [Region.wanted])]
    intro K Q hK
    simp only [puts, Za, Zb, Zc, Zd, Ze, g0]
    have hS' := hS
    rw [hSd] at hS'
    simp only [l8, if_false, Bool.false_eq_true] at hS'
    have z1 := ((hS'.2.2.2.blk 0 rfl).2.cell 1).1
    have z1 : W.cell? ⟨po, 1, none⟩ = some (.slice aF fins.length cF) := z1
    go_step
    refine st_ex hK rfl rfl (by simp only [Act.put, setIfInBounds_toArray, set_cons_succ, set_cons_zero, Array.getD_eq_getD_getElem?, List.getElem?_toArray, List.getElem?_cons_succ, List.getElem?_cons_zero, Option.getD_some] <;> rfl) rfl (by rw [hSd] at hS ⊢; exact hS)
   ·
    unfold stStep
    rw [if_pos (by simp [Region.wanted])]
    intro K Q hK
    simp only [puts, foldr_nil]
    have hS' := hS
    rw [hSd] at hS'
    obtain ⟨⟨k1, k2, k3, k4⟩, -, -⟩ := HO.out _ (HB.out.trans hS'.1)
    go_step
    refine st_ex hK rfl rfl (by simp only [Act.put, setIfInBounds_toArray, set_cons_succ, set_cons_zero, Array.getD_eq_getD_getElem?, List.getElem?_toArray, List.getElem?_cons_succ, List.getElem?_cons_zero, Option.getD_some] <;> rfl) rfl (by rw [hSd] at hS ⊢; exact hS)
   ·
    unfold stStep
    rw [if_pos (by simp [Region.wanted])]
    intro K Q hK
    simp only [puts, foldr_nil]
    go_step
    refine st_ex hK rfl rfl (by simp only [Act.put, setIfInBounds_toArray, set_cons_succ, set_cons_zero, Array.getD_eq_getD_getElem?, List.getElem?_toArray, List.getElem?_cons_succ, List.getElem?_cons_zero, Option.getD_some] <;> rfl) rfl (by rw [hSd] at hS ⊢; exact hS)
   ·
    obtain ⟨h2, h3, -⟩ := hh
    have g2 : f 2 = _ := h2
    have g3 : f 3 = _ := h3
    have l5 : L 5 = false := Bool.eq_false_iff.2 fun h => by have q := hdn 5 _ h rfl 4 (by decide); rw [show L 4 = false from hi] at q; cases q
    have l6 : L 6 = false := Bool.eq_false_iff.2 fun h => by have q := hdn 6 _ h rfl 5 (by decide); rw [show L 5 = false from l5] at q; cases q
    have l8 : L 8 = false := Bool.eq_false_iff.2 fun h => by have q := hdn 8 _ h rfl 6 (by decide); rw [show L 6 = false from l6] at q; cases q
    unfold stStep
    rw [if_pos (by simp [Region.wanted])]
    intro K Q hK
    simp only [puts, Za, Zb, Zc, Zd, Ze, g2, g3]
    rw [hSd] at hS hK
    have l4 : L 4 = false := hi
    try simp only [stage, l5, l6, l8, l4, if_true, if_false, Bool.false_eq_true] at hS
    obtain ⟨hbW, hzW, -, hPW⟩ := hS
    obtain ⟨-, hdW, hTW⟩ := HO.out W (HB.out.trans hbW)
    have hf := final_any HV.out hdW (sub_part hPW (List.mem_append_right vs (List.mem_singleton.2 rfl)) HX.out).ints HX.out.2.2.1 HCS.out hTW
    rw [HFN.out] at hf
    simp only [vNf] at hf
    go_step
    go_at_call 21
    refine hf.mono ?_
    rintro e w' ⟨rfl, hbw⟩
    refine hK.out _ _ rfl rfl ?_
    simp only [l5, l6, l8, Bool.false_eq_true, ↓reduceIte, Nat.reduceEqDiff]
    exact ⟨hbW.trans (hbw.mono hzW), Nat.le_trans hzW hbw.size, fun h => (by cases h), hPW.quiet (below_grows hbw none)⟩
   ·
    obtain ⟨h4, -⟩ := hh
    have g4 : f 4 = _ := h4
    have l6 : L 6 = false := Bool.eq_false_iff.2 fun h => by have q := hdn 6 _ h rfl 5 (by decide); rw [show L 5 = false from hi] at q; cases q
    have l8 : L 8 = false := Bool.eq_false_iff.2 fun h => by have q := hdn 8 _ h rfl 6 (by decide); rw [show L 6 = false from l6] at q; cases q
    unfold stStep
    rw [if_pos (by simp [Region.wanted])]
    intro K Q hK
    simp only [puts, Za, Zb, Zc, Zd, Ze, g4]
    rw [hSd] at hS hK
    have l5 : L 5 = false := hi
    try simp only [stage, l6, l8, l5, if_true, if_false, Bool.false_eq_true] at hS
    obtain ⟨hbW, hzW, -, hPW⟩ := hS
    have hal : Below W.heap.size W (W.alloc (.cells #[.bool b] 4)) := (Below.refl _ _).alloc (Nat.le_refl _) _
    go_step
    refine hK.out _ _ rfl ⟨_, rfl⟩ ?_
    simp only [l6, l8, Bool.false_eq_true, ↓reduceIte, Nat.reduceEqDiff]
    exact ⟨hbW.alloc (Nat.le_trans hBW hbW.size) _, Nat.le_trans hzW hal.size, fun _ _ => ⟨_, rfl, BlkAt.new W _ _⟩, hPW.quiet (below_grows hal none)⟩
   ·
    obtain ⟨h1, h5, h4, -⟩ := hh
    have g1 : f 1 = _ := h1
    obtain ⟨q5, (g5 : f 5 = _)⟩ := h5
    have g4 : f 4 = _ := h4
    have l5 : L 5 = true := hd 5 (by decide)
    have l8 : L 8 = false := Bool.eq_false_iff.2 fun h => by have q := hdn 8 _ h rfl 6 (by decide); rw [show L 6 = false from hi] at q; cases q
    unfold stStep
    rw [if_pos (by simp [Region.wanted])]
    intro K Q hK
    simp only [puts, Za, Zb, Zc, Zd, Ze, g1, g5, g4]
    rw [hSd] at hS hK
    have l6 : L 6 = false := hi
    try simp only [stage, l8, l6, l5, if_true, if_false, Bool.false_eq_true] at hS
    obtain ⟨hbW, hzW, h5', hPW⟩ := hS
    obtain ⟨q, e5, hq⟩ := h5' trivial trivial
    rw [g5] at e5
    obtain rfl : q5 = q := by simpa using e5
    refine wp_app_pcs elB _ _ rfl 2 rfl hPW rfl (n := fins.length) (m := 1) (news := [.bool b]) rfl ⟨rfl, fun ad e i u hi => by injection e with e; subst e; rw [addr_add, Nat.zero_add, (hq.cell i).1, ← hi]; simp, fun e => by cases e⟩ (by intro u hu; rw [List.mem_singleton.1 hu]; rfl) (by omega) hzW ?_
    intro a' c' w' hp' hbw
    refine hK.out _ _ rfl ⟨a', c', rfl⟩ ?_
    simp only [l8, Bool.false_eq_true, ↓reduceIte, Nat.reduceEqDiff]
    refine ⟨hbW.trans hbw, Nat.le_trans hzW hbw.size, fun _ h => (by simp at h), ?_⟩
    unfold subPs
    rw [show (fins ++ [b]).length = fins.length + 1 by simp, show bvs (fins ++ [b]) = bvs fins ++ [.bool b] by simp [bvs]]
    exact hp'
   ·
    obtain ⟨h0, h1, h2, h3, h4, h5, h6, -⟩ := hh
    have g0 : f 0 = _ := h0
    have g1 : f 1 = _ := h1
    have g2 : f 2 = _ := h2
    have g3 : f 3 = _ := h3
    have g4 : f 4 = _ := h4
    obtain ⟨q5, (g5 : f 5 = _)⟩ := h5
    obtain ⟨a6, c6, (g6 : f 6 = _)⟩ := h6
    unfold stStep
    rw [if_pos (by simp [Region.wanted])]
    intro K Q hK
    simp only [puts, Za, Zb, Zc, Zd, Ze, g0, g1, g2, g3, g4, g5, g6]
    go_step
    refine st_ex hK rfl rfl (by simp only [Act.put, setIfInBounds_toArray, set_cons_succ, set_cons_zero, Array.getD_eq_getD_getElem?, List.getElem?_toArray, List.getElem?_cons_succ, List.getElem?_cons_zero, Option.getD_some] <;> rfl) rfl (by rw [hSd] at hS ⊢; exact hS)
   ·
    obtain ⟨h7, h6, _, h0, h1, h2, h3, h4, h5, _, -⟩ := hh
    have g7 : f 7 = _ := h7
    obtain ⟨a6, c6, (g6 : f 6 = _)⟩ := h6
    have g0 : f 0 = _ := h0
    have g1 : f 1 = _ := h1
    have g2 : f 2 = _ := h2
    have g3 : f 3 = _ := h3
    have g4 : f 4 = _ := h4
    obtain ⟨q5, (g5 : f 5 = _)⟩ := h5
    have l6 : L 6 = true := hd 6 (by decide)
    unfold stStep
    rw [if_pos (by simp [Region.wanted])]
    intro K Q hK
    simp only [puts, Za, Zb, Zc, Zd, Ze, g7, g6, g0, g1, g2, g3, g4, g5]
    rw [hSd] at hS hK
    have l8 : L 8 = false := hi
    try simp only [stage, l8, l6, if_true, if_false, Bool.false_eq_true] at hS
    obtain ⟨hbW, hzW, -, hPW⟩ := hS
    rw [g6] at hPW
    have z := (hPW.blk 0 rfl).2.cell 1
    have z1 : W.cell? ⟨po, 1, none⟩ = some (.slice aF fins.length cF) := z.1
    have z2 : W.frozen? ⟨po, 1, none⟩ = false := z.2
    have hq := hPW.blkStore 0 rfl 1 (.slice a6 (fins.length + 1) c6)
    have hpb := (hPW.blk 0 rfl).1
    go_step
    refine hK.out _ _ rfl trivial ?_
    simp only [l6, ↓reduceIte, Nat.reduceEqDiff, g6]
    exact ⟨hbW.setCell (p := ⟨po, 1, none⟩) hpb _, by rw [World.size_setCell]; exact hzW, fun _ h => (by simp at h), hq⟩
  case rest =>
   intro L f WF hL hh hS
   rw [hSd] at hS
   clear hSd
   have l5 : L 5 = true := hL 5 (by decide)
   have l6 : L 6 = true := hL 6 (by decide)
   have l8 : L 8 = true := hL 8 (by decide)
   simp only [stage, l5, l6, l8, if_true] at hS
   clear hL l5 l6 l8
   obtain ⟨h0, h1, h2, h3, h4, h5, h6, h7, -⟩ := hh
   have g0 : f 0 = _ := h0
   have g1 : f 1 = _ := h1
   have g2 : f 2 = _ := h2
   have g3 : f 3 = _ := h3
   have g4 : f 4 = _ := h4
   obtain ⟨q5, (g5 : f 5 = _)⟩ := h5
   obtain ⟨a6, c6, (g6 : f 6 = _)⟩ := h6
   have g7 : f 7 = _ := h7
   simp only [puts, Za, Zb, Zc, Zd, Ze, g0, g1, g2, g3, g4, g5, g6, g7]
   clear h0 h1 h2 h3 h4 h7 g0 g1 g2 g3 g4 g7
   obtain ⟨hbW, -, -, hPW⟩ := hS
   rw [g6] at hPW
   have HPW := Lib.hid hPW
   clear hPW
   go_wp2_with (fail)
   go_ret
   rw [HFN.out, HA.out.1, HA.out.2, HR.out]
   refine ⟨rfl, ⟨a9, c9, a6, c6, ?_⟩, hbW⟩
   rw [show (fins ++ [b]).length = fins.length + 1 by simp]
   exact HPW.out
end Go.Proofs.YtofaifeadhimjaaGreatDoor
