import Derived.Maps.OwnSet
import Derived.DeepKeys4
import Derived.Test.YtpcbmhfnefhenaaMG9
import Derived.Test.YtpcbmhfnefhenaaMG21
/-
  Mp, DfaKb
-/
set_option linter.unusedVariables false
set_option linter.unusedSectionVars false
set_option linter.unusedSimpArgs false
namespace Go.Proofs.Ytpcbmhfnefhenaa
open Go.RowKit Go.Maps
open Go.WideElems (Fit rg)

structure KeyEnc (P : Program) (k : TypeId) (α : Type) where
  law : Keyed P k
  enc : α → Value
  ok : α → Prop
  kl : α → Lit
  reads : ∀ a, ok a → keyOf P k (enc a) = some (kl a)
  inj : ∀ a b, ok a → ok b → enc a = enc b → a = b
section
variable {P : Program} {k : TypeId} {α : Type} [DecidableEq α]
theorem KeyEnc.key (E : KeyEnc P k α) {a : α} (h : E.ok a) : WideAt.IsKeyLit (E.kl a) := E.law.key (E.reads a h)
theorem KeyEnc.ne (E : KeyEnc P k α) {a b : α} (ha : E.ok a) (hb : E.ok b) (h : a ≠ b) : E.kl a ≠ E.kl b := fun e => by
  have h1 := E.reads a ha
  have h2 := E.reads b hb
  rw [e] at h1
  exact h (E.inj a b ha hb (E.law.inj h1 h2))
def MapObj (E : KeyEnc P k α) (e : TypeId) (ks : List α) (val : α → Lit) (o : Obj) : Prop := ∃ (es : Array MapEntry) (clock : Nat) (D : DataW Unit), o = .map es clock ∧ Fit P k (plainElem (H := Unit) P e) es clock ∧ es.size ≤ ks.length ∧ D = .map ((es.toList.map (rg P k (plainElem P e))).foldr DataW.insert []) ∧ Maps.size D = ks.length ∧ ∀ a, E.ok a → Maps.has D (E.kl a) = decide (a ∈ ks) ∧ (a ∈ ks → ∀ z, D.atKey (E.kl a) z = .lit (val a))
def IsMapK (E : KeyEnc P k α) (e : TypeId) (ks : List α) (val : α → Lit) (W : World) (b : Nat) : Prop := ∃ D : DataW Unit, W.ownsMap P k (plainElem P e) b ks.length D ∧ Maps.size D = ks.length ∧ ∀ a, E.ok a → Maps.has D (E.kl a) = decide (a ∈ ks) ∧ (a ∈ ks → ∀ z, D.atKey (E.kl a) z = .lit (val a))
variable {E : KeyEnc P k α} {e : TypeId} {ks : List α} {val : α → Lit} {W : World} {b : Nat}
theorem isMapK_iff : IsMapK E e ks val W b ↔ ∃ o, W.heap[b]? = some o ∧ MapObj E e ks val o := by
  constructor
  · rintro ⟨D, ⟨es, clock, h1, h2, h3, h4⟩, h5, h6⟩
    exact ⟨_, h1, es, clock, D, rfl, h2, h3, h4, h5, h6⟩
  · rintro ⟨o, h1, es, clock, D, rfl, h2, h3, h4, h5, h6⟩
    exact ⟨D, ⟨es, clock, h1, h2, h3, h4⟩, h5, h6⟩
theorem MapObj.vals {o : Obj} (h : MapObj E e ks val o) {val' : α → Lit} (hv : ∀ a ∈ ks, val a = val' a) : MapObj E e ks val' o := by
  obtain ⟨es, clock, D, h1, h2, h3, h4, h5, h6⟩ := h
  exact ⟨es, clock, D, h1, h2, h3, h4, h5, fun a ha => ⟨(h6 a ha).1, fun hm z => by rw [← hv a hm]; exact (h6 a ha).2 hm z⟩⟩
theorem mapObj_made (E : KeyEnc P k α) (e : TypeId) (val : α → Lit) : MapObj E e [] val (.map #[] 0) := by
  obtain ⟨es, clock, h1, h2, h3, h4⟩ := World.ownsMap_made (H := Unit) default P k (plainElem P e)
  rw [heap_alloc_new] at h1
  injection h1 with h1
  refine ⟨es, clock, .map [], h1, h2, h3, h4, rfl, fun a _ => ⟨by simp [Maps.has], fun h => by simp at h⟩⟩
def ElemAt (P : Program) (e : TypeId) : Prop := ∀ (v : Value) (z : DataW Unit × List MemPlace), plainElem P e v = some z → ∃ l : Lit, v = l.value ∧ z.1 = .lit l
theorem elemAt_i64 {e : TypeId} {q : IntKind} (he : P.underlying e = some (.int q)) : ElemAt P e := fun v z h => by
  obtain ⟨a, rfl, rfl, _⟩ := plainElem_int_inv he h
  exact ⟨.int q a, rfl, rfl⟩
theorem elemAt_bool (he : P.underlying e = some .bool) : ElemAt P e := fun v z h => by
  unfold plainElem at h
  rw [he] at h
  cases v <;> simp at h
  subst h
  exact ⟨.bool _, rfl, rfl⟩
theorem IsMapK.look {t : TypeId} (h : IsMapK E e ks val W b) (he : ElemAt P e) (ht : P.underlying t = some (.map k e)) {zl : Lit} (hz : (zeroValue e).run P W = .ok zl.value W) (hzd : plainElem (H := Unit) P e zl.value = some (.lit zl, [])) {a : α} (ha : E.ok a) (c : Bool) :
    (Instr.lookup t (.map (some b)) (E.enc a) c).run P W = .ok (if c then .tuple #[(if a ∈ ks then val a else zl).value, .bool (decide (a ∈ ks))] else (if a ∈ ks then val a else zl).value) W := by
  obtain ⟨D, ⟨es, clock, hb, F, hs, rfl⟩, h5, h6⟩ := h
  obtain ⟨h7, h8⟩ := h6 a ha
  rcases Maps.fit_look c E.law ht hz hb F (E.reads a ha) with ⟨hrun, _, hat⟩ | ⟨e0, y, _, _, hrun, hRv, hat, _⟩
  · have hn : a ∉ ks := fun hm => by
      rw [Maps.has_false_of_atKey hat] at h7
      simp [hm] at h7
    rw [hrun]
    simp [hn]
  · have hm : a ∈ ks := by
      rw [Maps.has_true_of_atKey hat] at h7
      simpa using h7.symm
    obtain ⟨l, hl, hy⟩ := he _ _ hRv
    have h9 := h8 hm (.lit zl)
    rw [hat, hy] at h9
    injection h9 with h9
    subst h9
    rw [hrun, hl]
    simp [hm]
theorem IsMapK.len {t : TypeId} (h : IsMapK E e ks val W b) (ht : P.underlying t = some (.map k e)) (ty : TypeId) : (Builtin.len_ #[t] ty #[.map (some b)]).run P W = .ok (.int .i64 (ks.length : Nat)) W := by
  obtain ⟨D, hown, h5, _⟩ := h
  rw [hown.len ht ty, h5]
theorem IsMapK.store {t : TypeId} (h : IsMapK E e ks val W b) (ht : P.underlying t = some (.map k e)) (hn : ks.length < maxLen) {a : α} (ha : E.ok a) (hnew : a ∉ ks) {l : Lit} (hl : plainElem (H := Unit) P e l.value = some (.lit l, [])) :
    ∃ W', (Instr.mapUpdate t (.map (some b)) (E.enc a) l.value).run P W = .ok () W' ∧ IsMapK E e (ks ++ [a]) (fun x => if x = a then l else val x) W' b ∧ W.grownBy W' (some b) := by
  obtain ⟨D, hown, h5, h6⟩ := h
  obtain ⟨W', hrun, hown', hturn⟩ := hown.store E.law ht hn (E.reads a ha) hl
  refine ⟨W', hrun, ⟨_, by rw [List.length_append]; exact hown', ?_, fun x hx => ?_⟩, hturn.grown⟩
  · rw [Maps.size_put (hown.tidy E.law), (h6 a ha).1, h5]
    simp [hnew]
  · by_cases e : x = a
    · subst e
      exact ⟨by rw [Maps.has_put_same hown.isMap (E.key hx)]; simp, fun _ z => by rw [Maps.atKey_put_same hown.isMap (E.key hx)]; simp⟩
    · have hne := E.ne hx ha e
      refine ⟨by rw [Maps.has_put_other hne, (h6 x hx).1]; simp [e], fun hm z => ?_⟩
      show (D.put (E.kl a) (.lit l)).atKey (E.kl x) z = .lit (if x = a then l else val x)
      rw [Maps.atKey_put_other hne, if_neg e]
      have hm' : x ∈ ks := by
        rcases List.mem_append.1 hm with h1 | h1
        · exact h1
        · exact absurd (List.mem_singleton.1 h1) e
      exact (h6 x hx).2 hm' z
/-! As operations. -/
theorem wp_map_look {o : Oper} {A : Act} {K : Act → World → Prop} {Q : Exit → Act → World → Prop} (m x : Operand) (t : TypeId) (c : Bool) (hop : o.op = Op.lookup t m x c) (h : IsMapK E e ks val W b) (he : ElemAt P e) (ht : P.underlying t = some (.map k e)) (zl : Lit) (hz : (zeroValue e).run P W = .ok zl.value W) (hzd : plainElem (H := Unit) P e zl.value = some (.lit zl, []))
    (hm : A.eval m = .map (some b)) (a : α) (hx : A.eval x = E.enc a) (ha : E.ok a)
    (hK : K (A.put o.dst (if c then .tuple #[(if a ∈ ks then val a else zl).value, .bool (decide (a ∈ ks))] else (if a ∈ ks then val a else zl).value)) W) : o.wp P A W K Q := by
  have hrun := h.look he ht hz hzd ha c
  unfold Oper.wp
  simp [execOp, hop, hm, hx]
  rw [hrun]
  exact hK
theorem wp_map_store {o : Oper} {A : Act} {K : Act → World → Prop} {Q : Exit → Act → World → Prop} (m x y : Operand) (t : TypeId) (hop : o.op = Op.mapUpdate t m x y) (h : IsMapK E e ks val W b) (ht : P.underlying t = some (.map k e)) (hn : ks.length < maxLen)
    (hm : A.eval m = .map (some b)) (a : α) (hx : A.eval x = E.enc a) (ha : E.ok a) (hnew : a ∉ ks) (l : Lit) (hy : A.eval y = l.value) (hl : plainElem (H := Unit) P e l.value = some (.lit l, []))
    (hK : ∀ W', IsMapK E e (ks ++ [a]) (fun x => if x = a then l else val x) W' b → W.grownBy W' (some b) → K (A.put o.dst undef) W') : o.wp P A W K Q := by
  obtain ⟨W', hrun, h1, h2⟩ := h.store ht hn ha hnew hl
  unfold Oper.wp
  simp [execOp, hop, hm, hx, hy, hrun, Result.andThen]
  exact hK W' h1 h2
theorem wpList_map_look {ops : Array Oper} {rest : List Oper} {o : Oper} {A : Act} {Q : Exit → Act → World → Prop} (hg : o.guard = none) (m x : Operand) (t : TypeId) (c : Bool) (hop : o.op = Op.lookup t m x c) (h : IsMapK E e ks val W b) (he : ElemAt P e) (ht : P.underlying t = some (.map k e)) (zl : Lit) (hz : (zeroValue e).run P W = .ok zl.value W) (hzd : plainElem (H := Unit) P e zl.value = some (.lit zl, []))
    (hm : A.eval m = .map (some b)) (a : α) (hx : A.eval x = E.enc a) (ha : E.ok a)
    (hK : wpList P ops Q rest (A.put o.dst (if c then .tuple #[(if a ∈ ks then val a else zl).value, .bool (decide (a ∈ ks))] else (if a ∈ ks then val a else zl).value)) W) : wpList P ops Q (o :: rest) A W :=
  wpList_plain hg fun _ hK' => wp_map_look m x t c hop h he ht zl hz hzd hm a hx ha (hK' _ _ hK)
theorem wpList_map_store {ops : Array Oper} {rest : List Oper} {o : Oper} {A : Act} {Q : Exit → Act → World → Prop} (hg : o.guard = none) (m x y : Operand) (t : TypeId) (hop : o.op = Op.mapUpdate t m x y) (h : IsMapK E e ks val W b) (ht : P.underlying t = some (.map k e)) (hn : ks.length < maxLen)
    (hm : A.eval m = .map (some b)) (a : α) (hx : A.eval x = E.enc a) (ha : E.ok a) (hnew : a ∉ ks) (l : Lit) (hy : A.eval y = l.value) (hl : plainElem (H := Unit) P e l.value = some (.lit l, []))
    (hK : ∀ W', IsMapK E e (ks ++ [a]) (fun x => if x = a then l else val x) W' b → W.grownBy W' (some b) → wpList P ops Q rest (A.put o.dst undef) W') : wpList P ops Q (o :: rest) A W :=
  wpList_plain hg fun _ hK' => wp_map_store m x y t hop h ht hn hm a hx ha hnew l hy hl fun W' h1 h2 => hK' _ _ (hK W' h1 h2)
theorem wpList_map_len {ops : Array Oper} {rest : List Oper} {o : Oper} {A : Act} {Q : Exit → Act → World → Prop} (hg : o.guard = none) (m : Operand) (t : TypeId) (hop : o.op = .call { callee := .builtin .len, args := #[m], argTypes := #[t] }) (h : IsMapK E e ks val W b) (ht : P.underlying t = some (.map k e))
    (hm : A.eval m = .map (some b)) (hK : wpList P ops Q rest (A.put o.dst (.int .i64 (ks.length : Nat))) W) : wpList P ops Q (o :: rest) A W := by
  refine wpList_plain hg fun _ hK' => ?_
  have hrun := h.len ht o.type
  unfold Oper.wp
  simp [execOp, hop, resolve, invoke, builtin, hm, hrun, Result.andThen]
  exact hK' _ _ hK
theorem wpList_map_ok_yes {ops : Array Oper} {rest : List Oper} {o : Oper} {A : Act} {Q : Exit → Act → World → Prop} (hg : o.guard = none) (m x : Operand) (t : TypeId) (hop : o.op = Op.lookup t m x true) (h : IsMapK E e ks val W b) (he : ElemAt P e) (ht : P.underlying t = some (.map k e)) (zl : Lit) (hz : (zeroValue e).run P W = .ok zl.value W) (hzd : plainElem (H := Unit) P e zl.value = some (.lit zl, []))
    (hm : A.eval m = .map (some b)) (a : α) (hx : A.eval x = E.enc a) (ha : E.ok a) (hin : a ∈ ks) {v : Value} (hv : v = (val a).value) (hK : wpList P ops Q rest (A.put o.dst (.tuple #[v, .bool true])) W) : wpList P ops Q (o :: rest) A W := by
  subst hv
  exact wpList_map_look hg m x t true hop h he ht zl hz hzd hm a hx ha (by simpa [hin] using hK)
theorem wpList_map_ok_no {ops : Array Oper} {rest : List Oper} {o : Oper} {A : Act} {Q : Exit → Act → World → Prop} (hg : o.guard = none) (m x : Operand) (t : TypeId) (hop : o.op = Op.lookup t m x true) (h : IsMapK E e ks val W b) (he : ElemAt P e) (ht : P.underlying t = some (.map k e)) (zl : Lit) (hz : (zeroValue e).run P W = .ok zl.value W) (hzd : plainElem (H := Unit) P e zl.value = some (.lit zl, []))
    (hm : A.eval m = .map (some b)) (a : α) (hx : A.eval x = E.enc a) (ha : E.ok a) (hin : a ∉ ks) {v : Value} (hv : v = zl.value) (hK : wpList P ops Q rest (A.put o.dst (.tuple #[v, .bool false])) W) : wpList P ops Q (o :: rest) A W := by
  subst hv
  exact wpList_map_look hg m x t true hop h he ht zl hz hzd hm a hx ha (by simpa [hin] using hK)
theorem wpList_map_at_yes {ops : Array Oper} {rest : List Oper} {o : Oper} {A : Act} {Q : Exit → Act → World → Prop} (hg : o.guard = none) (m x : Operand) (t : TypeId) (hop : o.op = Op.lookup t m x false) (h : IsMapK E e ks val W b) (he : ElemAt P e) (ht : P.underlying t = some (.map k e)) (zl : Lit) (hz : (zeroValue e).run P W = .ok zl.value W) (hzd : plainElem (H := Unit) P e zl.value = some (.lit zl, []))
    (hm : A.eval m = .map (some b)) (a : α) (hx : A.eval x = E.enc a) (ha : E.ok a) (hin : a ∈ ks) {v : Value} (hv : v = (val a).value) (hK : wpList P ops Q rest (A.put o.dst (v)) W) : wpList P ops Q (o :: rest) A W := by
  subst hv
  exact wpList_map_look hg m x t false hop h he ht zl hz hzd hm a hx ha (by simpa [hin] using hK)
theorem wpList_map_at_no {ops : Array Oper} {rest : List Oper} {o : Oper} {A : Act} {Q : Exit → Act → World → Prop} (hg : o.guard = none) (m x : Operand) (t : TypeId) (hop : o.op = Op.lookup t m x false) (h : IsMapK E e ks val W b) (he : ElemAt P e) (ht : P.underlying t = some (.map k e)) (zl : Lit) (hz : (zeroValue e).run P W = .ok zl.value W) (hzd : plainElem (H := Unit) P e zl.value = some (.lit zl, []))
    (hm : A.eval m = .map (some b)) (a : α) (hx : A.eval x = E.enc a) (ha : E.ok a) (hin : a ∉ ks) {v : Value} (hv : v = zl.value) (hK : wpList P ops Q rest (A.put o.dst (v)) W) : wpList P ops Q (o :: rest) A W := by
  subst hv
  exact wpList_map_look hg m x t false hop h he ht zl hz hzd hm a hx ha (by simpa [hin] using hK)
end
/-! Integers as keys. -/
def keyI {P : Program} {k : TypeId} (hk : P.underlying k = some (.int .i64)) : KeyEnc P k Int where
  law := int_keyed hk
  enc := fun a => .int .i64 a
  ok := fun a => (Lit.int .i64 a).wf = true
  kl := fun a => .int .i64 a
  reads := fun a h => keyOf_int_mk hk h
  inj := fun a b _ _ h => by injection h
theorem wf_small {n : Int} (h0 : -9223372036854775808 ≤ n) (h1 : n ≤ 9223372036854775807) : (Lit.int .i64 n).wf = true := WalkArith.wf_i64 ⟨h0, h1⟩
end Go.Proofs.Ytpcbmhfnefhenaa

set_option linter.unusedSimpArgs false
set_option linter.unusedVariables false
namespace Go.Proofs.Ytpcbmhfnefhenaa
open Go.RowKit

theorem laid_ok : laidOutB Try.prog = true := by kernel_rfl
theorem types_pos : ∃ n, Try.prog.types.size + 1 = n + 2 := ⟨Try.prog.types.size - 1, by
  have h : Nat.ble 1 Try.prog.types.size = true := by kernel_rfl
  have := Nat.le_of_ble_eq_true h
  omega⟩
abbrev K3 := Int × Int × Int
def sigV (x : K3) : Value := .agg #[.int .i64 x.1, .int .i64 x.2.1, .int .i64 x.2.2]
def wfI (n : Int) : Prop := (Lit.int .i64 n).wf = true
set_option maxRecDepth 20000 in
theorem sig_reads (x : K3) (h : wfI x.1 ∧ wfI x.2.1 ∧ wfI x.2.2) : keyOf Try.prog 111 (sigV x) = some (.string (keyBytes [.int .i64 x.1, .int .i64 x.2.1, .int .i64 x.2.2])) := by
  obtain ⟨a, b, c⟩ := x
  obtain ⟨ha, hb, hc⟩ := h
  unfold wfI at ha hb hc
  have hu := Try.underlying111
  have hi := Try.underlying3
  have hkt : Try.prog.keyType 111 = true := by kernel_rfl
  have hc3 : Try.prog.cellsOf 111 = 3 := by kernel_rfl
  have hc1 : Try.prog.cellsOf 3 = 1 := by kernel_rfl
  obtain ⟨n, hn⟩ := types_pos
  unfold keyOf sigV
  rw [hu, hn]
  simp only [hkt, Value.formed, hu, hc3, Value.cells, Program.keyLits]
  simp [hi, hc1, Program.keyLits, ha, hb, hc]
set_option maxRecDepth 20000 in
theorem sig_law : Maps.Keyed Try.prog 111 := Maps.Keyed.of_law (deep_law_laid laid_ok (m := 5) (by omega) (by
  have h : Nat.ble (111 + 1) Try.prog.types.size = true := by kernel_rfl
  exact Nat.le_of_ble_eq_true h) (by kernel_rfl) (by kernel_rfl))
set_option maxRecDepth 20000 in
def keyS : KeyEnc Try.prog 111 K3 where
  law := sig_law
  enc := sigV
  ok := fun x => wfI x.1 ∧ wfI x.2.1 ∧ wfI x.2.2
  kl := fun x => .string (keyBytes [.int .i64 x.1, .int .i64 x.2.1, .int .i64 x.2.2])
  reads := sig_reads
  inj := fun a b _ _ h => by
    obtain ⟨a1, a2, a3⟩ := a
    obtain ⟨b1, b2, b3⟩ := b
    simp [sigV] at h
    obtain ⟨rfl, rfl, rfl⟩ := h
    rfl
end Go.Proofs.Ytpcbmhfnefhenaa
