import Derived.Orders
import Derived.Test.YtbjdglopkpigbaaGreatDoorMG0
/-
  Fam
-/
namespace Go.Proofs.YtbjdglopkpigbaaGreatDoor
open Go.RowKit
def fdst (ops : Array Oper) (j : Nat) : Option Tmp := (ops[j]?).bind fun o => o.dst
def fdeps (o : Oper) : List Nat := (o.after.toList.filter (Region.binds .any)).map (·.on)
def fact (ops : Array Oper) (a0 : Act) (f : Nat → Value) : List Nat → Act
 | [] => a0
 | j :: js => (fact ops a0 f js).put (fdst ops j) (f j)
def fyield (f : Nat → Value) (j : Nat) : Option Bool := match f j with | .bool b => some b | _ => none
def ftmps (o : Oper) : List Tmp := o.op.operands.toList.filterMap fun | .tmp t => some t | _ => none
def famOk (ops : Array Oper) (n : Nat) : Bool :=
 Region.noSelect ops &&
 (List.range ops.size).all fun i => match ops[i]? with
  | none => false
  | some o =>
   o.dst.all (fun d => decide (d < n)) &&
   (fdeps o).all (fun j => decide (j < i)) &&
   (match o.guard with | none => true | some (j, _) => (fdeps o).contains j && (fdst ops j).isSome) &&
   (List.range ops.size).all fun j =>
    (j == i || (match o.dst with | none => true | some d => fdst ops j != some d)) &&
    (ftmps o).all fun t => fdst ops j != some t || (fdeps o).contains j || (match ops[j]? with | none => false | some oj => (fdeps oj).contains i)
structure FamOk (ops : Array Oper) (n : Nat) : Prop where
 sel : Region.noSelect ops = true
 lt : ∀ (i : Nat) (o : Oper) (d : Tmp), ops[i]? = some o → o.dst = some d → d < n
 dep : ∀ (i : Nat) (o : Oper) (j : Nat), ops[i]? = some o → j ∈ fdeps o → j < i
 guard : ∀ (i : Nat) (o : Oper) (j : Nat) (b : Bool), ops[i]? = some o → o.guard = some (j, b) → j ∈ fdeps o ∧ (fdst ops j).isSome = true
 uniq : ∀ (i j : Nat) (d : Tmp), fdst ops i = some d → fdst ops j = some d → i = j
 reads : ∀ (i : Nat) (o : Oper) (j : Nat) (t : Tmp), ops[i]? = some o → t ∈ ftmps o → fdst ops j = some t → j ∈ fdeps o ∨ ∃ oj, ops[j]? = some oj ∧ i ∈ fdeps oj
theorem famOk_spec {ops : Array Oper} {n : Nat} (h : famOk ops n = true) : FamOk ops n := by
 rw [famOk, Bool.and_eq_true] at h
 obtain ⟨h0, h⟩ := h
 rw [List.all_eq_true] at h
 have H : ∀ (i : Nat) (o : Oper), ops[i]? = some o → (o.dst.all (fun d => decide (d < n)) = true) ∧ ((fdeps o).all (fun j => decide (j < i)) = true) ∧
   ((match o.guard with | none => true | some (j, _) => (fdeps o).contains j && (fdst ops j).isSome) = true) ∧
   ∀ j, j < ops.size → ((j == i || (match o.dst with | none => true | some d => fdst ops j != some d)) = true) ∧
    ((ftmps o).all fun t => fdst ops j != some t || (fdeps o).contains j || (match ops[j]? with | none => false | some oj => (fdeps oj).contains i)) = true := by
  intro i o ho
  have hi : i < ops.size := (Array.getElem?_eq_some_iff.1 ho).1
  have := h i (List.mem_range.2 hi)
  rw [ho] at this
  simp only [Bool.and_eq_true, List.all_eq_true (l := List.range ops.size), List.mem_range] at this
  exact ⟨this.1.1.1, this.1.1.2, this.1.2, this.2⟩
 have hd : ∀ (j : Nat) (d : Tmp), fdst ops j = some d → j < ops.size ∧ ∃ o, ops[j]? = some o ∧ o.dst = some d := by
  intro j d hj
  unfold fdst at hj
  cases ho : ops[j]? with
  | none => rw [ho] at hj; cases hj
  | some o => rw [ho] at hj; exact ⟨(Array.getElem?_eq_some_iff.1 ho).1, o, rfl, hj⟩
 refine ⟨h0, ?_, ?_, ?_, ?_, ?_⟩
 ·intro i o d ho hdd
  have := (H i o ho).1
  rw [hdd] at this
  simpa using this
 ·intro i o j ho hj
  have := (H i o ho).2.1
  rw [List.all_eq_true] at this
  simpa using this j hj
 ·intro i o j b ho hg
  have := (H i o ho).2.2.1
  rw [hg] at this
  simpa using this
 ·intro i j d hi hj
  obtain ⟨hil, o, ho, hod⟩ := hd i d hi
  obtain ⟨hjl, _⟩ := hd j d hj
  have := ((H i o ho).2.2.2 j hjl).1
  rw [hod] at this
  simp only [hj] at this
  simp at this
  exact this.symm
 ·intro i o j t ho ht hj
  obtain ⟨hjl, oj, hoj, _⟩ := hd j t hj
  have := ((H i o ho).2.2.2 j hjl).2
  rw [List.all_eq_true] at this
  have := this t ht
  rw [hoj] at this
  simp only [hj, bne_self_eq_false, Bool.false_or, Bool.or_eq_true, List.contains_iff_mem] at this
  exact this.imp id fun h => ⟨oj, hoj, h⟩
section
variable {P : Program} {ops : Array Oper} {a0 : Act} {C : World → Prop} {G : World → World → Prop} {V : Nat → Value → World → Prop}
theorem wp_monoQ {o : Oper} {a : Act} {w : World} {K : Act → World → Prop} {Q Q' : Exit → Act → World → Prop} (h : ∀ e a w, Q' e a w → Q e a w)
  (hh : o.wp P a w K Q') : o.wp P a w K Q := by
 unfold Oper.wp at *
 generalize (execOp a.eval o).run P w = r at *
 cases r with
 | ok n w' =>
  cases n <;> simp only [Oper.upon] at hh ⊢ <;>
   first
    | exact hh
    | exact Calls.mono hh (fun e w'' he => by cases e <;> first | exact h _ _ _ he | exact he.imp fun a ⟨w, hq⟩ => ⟨w, h _ _ _ hq⟩ | exact he)
 | halt x w' => cases x <;> simp only [Oper.upon] at hh ⊢ <;> first | exact h _ _ _ hh | exact hh
def fval (o : Oper) (a : Act) : Value := (o.dst.map fun d => a.tmps.getD d undef).getD undef
def famPost (d0 : List Deferred) (C : World → Prop) (G : World → World → Prop) (Vi : Value → World → Prop) (o : Oper) (W : World) (a' : Act) (W' : World) : Prop :=
 a'.defers = d0 ∧ Vi (fval o a') W' ∧ G W W' ∧ C W'
def famStep (P : Program) (ops : Array Oper) (a0 : Act) (C : World → Prop) (G : World → World → Prop) (V : Nat → Value → World → Prop) (i : Nat) (o : Oper) (f : Nat → Value) (W : World) : Prop :=
 if Region.wanted o (fyield f) = true then
  o.wp P (fact ops a0 f (fdeps o)) W (famPost a0.defers C G (V i) o W) (fun _ _ _ => False)
 else V i undef W
theorem fval_put (o : Oper) (a : Act) (v : Value) (h : ∀ d, o.dst = some d → d < a.tmps.size) : fval o (a.put o.dst v) = (o.dst.map fun _ => v).getD undef := by
 unfold fval
 cases hd : o.dst with
 | none => rfl
 | some d => simp [Act.put, Array.getD_eq_getD_getElem?, h d hd]
theorem famPost_move {C : World → Prop} {G : World → World → Prop} {Vi : Value → World → Prop} {o : Oper} {A a : Act} {W : World} (hA : A.defers = a.defers) (hl : ∀ d, o.dst = some d → d < A.tmps.size) (he : execOp a.eval o = execOp A.eval o) (h : o.wp P A W (famPost a.defers C G Vi o W) (fun _ _ _ => False)) :
  o.wp P a W (fun a' W' => ∃ v, a' = a.put o.dst v ∧ Vi ((o.dst.map fun _ => v).getD undef) W' ∧ G W W' ∧ C W') (fun _ _ _ => False) := by
 unfold Oper.wp at *
 rw [he]
 have key : ∀ v w', famPost a.defers C G Vi o W (A.put o.dst v) w' → ∃ u, a.put o.dst v = a.put o.dst u ∧ Vi ((o.dst.map fun _ => u).getD undef) w' ∧ G W w' ∧ C w' := by
  rintro v w' ⟨_, h1, h2, h3⟩
  rw [fval_put o A v hl] at h1
  exact ⟨v, rfl, h1, h2, h3⟩
 generalize (execOp A.eval o).run P W = r at *
 cases r with
 | ok n w' =>
  cases n <;> simp only [Oper.upon] at h ⊢
  case value => exact key _ _ h
  case skip => exact key _ _ h
  case defer d =>
   have := h.1
   have e : ∀ x : Act, (x.put o.dst undef).defers = x.defers := fun x => by cases o.dst <;> rfl
   rw [e, hA] at this
   exact absurd (congrArg List.length this) (by simp)
  case enter => exact Calls.mono h fun e w'' he => by cases e <;> first | exact key _ _ he | exact he
  case row => exact Rows.mono h fun _ _ he => key _ _ he
 | halt x w' => cases x <;> simp only [Oper.upon] at h ⊢
theorem fact_size (f : Nat → Value) : ∀ l, (fact ops a0 f l).tmps.size = a0.tmps.size
 | [] => rfl
 | j :: js => by
  rw [fact]
  cases fdst ops j with
  | none => exact fact_size f js
  | some d => simp [Act.put]; exact fact_size f js
theorem fact_defers (f : Nat → Value) : ∀ l, (fact ops a0 f l).defers = a0.defers
 | [] => rfl
 | j :: js => by
  rw [fact]
  cases fdst ops j with
  | none => exact fact_defers f js
  | some d => simp [Act.put]; exact fact_defers f js
theorem fact_other (f : Nat → Value) (t : Tmp) : ∀ l, (∀ j ∈ l, fdst ops j ≠ some t) → (fact ops a0 f l).tmps.getD t undef = a0.tmps.getD t undef
 | [], _ => rfl
 | j :: js, h => by
  rw [fact]
  have ih := fact_other f t js (fun k hk => h k (List.mem_cons_of_mem _ hk))
  cases hd : fdst ops j with
  | none => exact ih
  | some d =>
   have hne : d ≠ t := fun e => h j List.mem_cons_self (by rw [hd, e])
   simp only [Act.put, Array.getD_eq_getD_getElem?, Array.getElem?_setIfInBounds_ne hne] at ih ⊢
   exact ih
theorem fact_at (hok : FamOk ops a0.tmps.size) (f : Nat → Value) (j : Nat) (t : Tmp) (hj : fdst ops j = some t) : ∀ l, j ∈ l → (fact ops a0 f l).tmps.getD t undef = f j
 | [], h => by cases h
 | k :: js, h => by
  rw [fact]
  have ht : t < a0.tmps.size := by
   unfold fdst at hj
   cases ho : ops[j]? with
   | none => rw [ho] at hj; cases hj
   | some o => rw [ho] at hj; exact hok.lt j o t ho hj
  by_cases hjk : k = j
  ·subst hjk
   rw [hj]
   have hs : t < (fact ops a0 f js).tmps.size := by rw [fact_size]; exact ht
   simp [Act.put, Array.getD_eq_getD_getElem?, hs]
  ·have hm : j ∈ js := by
    rcases List.mem_cons.1 h with h | h
    ·exact absurd h.symm hjk
    ·exact h
   have ih := fact_at hok f j t hj js hm
   cases hd : fdst ops k with
   | none => exact ih
   | some d =>
    have hne : d ≠ t := fun e => hjk (hok.uniq k j t (by rw [hd, e]) hj)
    simp only [Act.put, Array.getD_eq_getD_getElem?, Array.getElem?_setIfInBounds_ne hne] at ih ⊢
    exact ih
structure FamInv (ops : Array Oper) (a0 : Act) (C : World → Prop) (V : Nat → Value → World → Prop) (listed : Array Bool) (a : Act) (W : World) : Prop where
 c : C W
 defers : a.defers = a0.defers
 size : a.tmps.size = a0.tmps.size
 lsize : listed.size = ops.size
 other : ∀ t, (∀ j, listed.getD j false = true → fdst ops j ≠ some t) → a.tmps.getD t undef = a0.tmps.getD t undef
 vals : ∀ j, listed.getD j false = true → V j (((fdst ops j).map fun d => a.tmps.getD d undef).getD undef) W
 down : ∀ j o, listed.getD j false = true → ops[j]? = some o → ∀ k ∈ fdeps o, listed.getD k false = true
theorem famStep_real (hok : FamOk ops a0.tmps.size) {Q : Exit → Act → World → Prop} {listed : Array Bool} {a : Act} {W : World} (inv : FamInv ops a0 C V listed a W) {i : Nat} {o : Oper} (ho : ops[i]? = some o)
  (hun : listed.getD i true = false) (hdeps : ∀ k ∈ fdeps o, listed.getD k false = true)
  (hstab : ∀ i v W W', C W → C W' → G W W' → V i v W → V i v W')
  (hstep : ∀ f W, C W → (∀ j ∈ fdeps o, V j (f j) W) → famStep P ops a0 C G V i o f W) :
  wpOp P ops Q i (fun a' W' => FamInv ops a0 C V (listed.setIfInBounds i true) a' W') a W := by
 have hi : i < ops.size := (Array.getElem?_eq_some_iff.1 ho).1
 have hsel : ∀ cs b, o.op ≠ .select cs b := fun cs b => Region.noSelect_spec hok.sel i o cs b ho
 let f : Nat → Value := fun j => ((fdst ops j).map fun d => a.tmps.getD d undef).getD undef
 have hst := hstep f W inv.c fun j hj => inv.vals j (hdeps j hj)
 have hfi : fdst ops i = o.dst := by simp [fdst, ho]
 have huni : listed.getD i false ≠ true := by
  intro h
  have : listed.getD i true = true := by
   have hl : i < listed.size := by rw [inv.lsize]; exact hi
   simp only [Array.getD_eq_getD_getElem?, Array.getElem?_eq_getElem hl, Option.getD_some] at h ⊢
   exact h
  rw [this] at hun
  cases hun
 have hev : ∀ x ∈ o.op.operands, a.eval x = (fact ops a0 f (fdeps o)).eval x := by
  intro x hx
  cases x with
  | tmp t =>
   show a.tmps.getD t undef = (fact ops a0 f (fdeps o)).tmps.getD t undef
   have ht : t ∈ ftmps o := by
    unfold ftmps
    rw [List.mem_filterMap]
    exact ⟨.tmp t, Array.mem_toList_iff.2 hx, rfl⟩
   by_cases hex : ∃ j, fdst ops j = some t
   ·obtain ⟨j, hj⟩ := hex
    rcases hok.reads i o j t ho ht hj with hd | ⟨oj, hoj, hij⟩
    ·rw [fact_at hok f j t hj _ hd]
     simp [f, hj]
    ·have hnl : listed.getD j false ≠ true := fun h => huni (inv.down j oj h hoj i hij)
     have h1 : ∀ k, listed.getD k false = true → fdst ops k ≠ some t := fun k hk e => hnl (by rw [hok.uniq j k t hj e]; exact hk)
     rw [inv.other t h1, fact_other f t _ (fun k hk => h1 k (hdeps k hk))]
   ·have hne : ∀ j, fdst ops j ≠ some t := fun j e => hex ⟨j, e⟩
    rw [inv.other t fun j _ => hne j, fact_other f t _ fun j _ => hne j]
  | const v => rfl
  | global g => rfl
  | func g => rfl
 have hex : execOp a.eval o = execOp (fact ops a0 f (fdeps o)).eval o := execOp_congr o hsel hev
 have hwant : Region.wanted o (yielded ops a.tmps) = Region.wanted o (fyield f) := by
  unfold Region.wanted
  cases hg : o.guard with
  | none => rfl
  | some p =>
   obtain ⟨j, b⟩ := p
   obtain ⟨_, hs⟩ := hok.guard i o j b ho hg
   obtain ⟨d, hd⟩ := Option.isSome_iff_exists.1 hs
   have hdl : d < a.tmps.size := by
    rw [inv.size]
    unfold fdst at hd
    cases hoj : ops[j]? with
    | none => rw [hoj] at hd; cases hd
    | some oj => rw [hoj] at hd; exact hok.lt j oj d hoj hd
   have : yielded ops a.tmps j = fyield f j := by
    have hd' : (ops[j]?).bind (·.dst) = some d := hd
    simp [yielded, fyield, f, hd, hd', hdl, Array.getD_eq_getD_getElem?]
    cases a.tmps[d] <;> rfl
   simp only [this]
 have fin : ∀ v W', V i ((o.dst.map fun _ => v).getD undef) W' → C W' → (W' = W ∨ G W W') → FamInv ops a0 C V (listed.setIfInBounds i true) (a.put o.dst v) W' := by
  intro v W' hv hc hg
  have hkeep : ∀ j u, V j u W → V j u W' := fun j u h => by
   rcases hg with rfl | hg
   ·exact h
   ·exact hstab j u W W' inv.c hc hg h
  refine ⟨hc, ?_, ?_, by simp [inv.lsize], ?_, ?_, ?_⟩
  ·cases o.dst <;> simp [Act.put, inv.defers]
  ·cases o.dst <;> simp [Act.put, inv.size]
  ·intro t ht
   have hti : o.dst ≠ some t := by
    rw [← hfi]
    refine ht i ?_
    have hl : i < listed.size := by rw [inv.lsize]; exact hi
    simp [Array.getD_eq_getD_getElem?, hl]
   have : (a.put o.dst v).tmps.getD t undef = a.tmps.getD t undef := by
    cases hd : o.dst with
    | none => rfl
    | some d =>
     have hne : d ≠ t := fun e => hti (by rw [hd, e])
     simp [Act.put, Array.getD_eq_getD_getElem?, Array.getElem?_setIfInBounds_ne hne]
   rw [this]
   exact inv.other t fun j hj => ht j (getD_set_true hj)
  ·intro j hj
   by_cases hji : j = i
   ·subst hji
    rw [hfi]
    cases hd : o.dst with
    | none =>
     rw [hd] at hv
     exact hv
    | some d =>
     have hdl : d < a.tmps.size := by rw [inv.size]; exact hok.lt j o d ho hd
     rw [hd] at hv
     simp [Act.put, Array.getD_eq_getD_getElem?, hdl]
     exact hv
   ·have hj' : listed.getD j false = true := by rw [← getD_set_ne false (Ne.symm hji)]; exact hj
    have := hkeep j _ (inv.vals j hj')
    cases hdj : fdst ops j with
    | none => simpa [hdj] using this
    | some e =>
     simp only [hdj, Option.map_some, Option.getD_some] at this ⊢
     have : (a.put o.dst v).tmps.getD e undef = a.tmps.getD e undef := by
      cases hd : o.dst with
      | none => rfl
      | some d =>
       have hne : d ≠ e := fun he => hji (hok.uniq j i e hdj (by rw [hfi, hd, he]))
       simp [Act.put, Array.getD_eq_getD_getElem?, Array.getElem?_setIfInBounds_ne hne]
     rw [this]; assumption
  ·intro j oj hj hoj k hk
   by_cases hji : j = i
   ·subst hji
    rw [ho] at hoj
    cases hoj
    exact getD_set_true (hdeps k hk)
   ·have hj' : listed.getD j false = true := by rw [← getD_set_ne false (Ne.symm hji)]; exact hj
    exact getD_set_true (inv.down j oj hj' hoj k hk)
 unfold wpOp
 rw [ho]
 simp only []
 rw [hwant]
 unfold famStep at hst
 split
 ·rename_i hw
  rw [if_pos hw] at hst
  left
  have h1 := famPost_move (P := P) (a := a) (by rw [fact_defers, inv.defers]) (fun d hd => by rw [fact_size]; exact hok.lt i o d ho hd) hex (by rw [inv.defers]; exact hst)
  exact wp_monoQ (fun _ _ _ h => h.elim) (Oper.wp_mono (fun a' W' ⟨v, e, hv, hg, hc⟩ => by rw [e]; exact fin v W' hv hc (.inr hg)) h1)
 ·rename_i hw
  rw [if_neg hw] at hst
  exact fin undef W (by cases o.dst <;> exact hst) inv.c (.inl rfl)
theorem fam_any (hok : FamOk ops a0.tmps.size) {Q : Exit → Act → World → Prop}
  (hstab : ∀ i v W W', C W → C W' → G W W' → V i v W → V i v W')
  (hstep : ∀ i o, ops[i]? = some o → ∀ f W, C W → (∀ j ∈ fdeps o, V j (f j) W) → famStep P ops a0 C G V i o f W)
  (hQ : ∀ f W, C W → (∀ j, j < ops.size → V j (f j) W) → Q .normal (fact ops a0 f (List.range ops.size)) W) :
  ∀ (fuel : Nat) (listed : Array Bool) (a : Act) (W : World), FamInv ops a0 C V listed a W → (((List.range ops.size).filter fun i => !listed.getD i false).length ≤ fuel) →
   wpAny P .any ops Q fuel listed a W := by
 have least : ∀ (listed : Array Bool), Region.ready .any ops listed = [] → ∀ i, i < ops.size → listed.getD i true = true := by
  intro listed hr i
  induction i using Nat.strongRecOn with
  | _ i ih =>
   intro hi
   cases hl : listed.getD i true with
   | true => rfl
   | false =>
    have ho : ops[i]? = some ops[i] := Array.getElem?_eq_getElem hi
    have : i ∈ Region.ready .any ops listed := by
     rw [mem_ready]
     refine ⟨hl, _, ho, fun e he hb => ?_⟩
     have hlt : e.on < i := hok.dep i _ e.on ho (by
      unfold fdeps
      rw [List.mem_map]
      exact ⟨e, List.mem_filter.2 ⟨Array.mem_toList_iff.2 he, hb⟩, rfl⟩)
     have h1 := ih e.on hlt (by omega)
     have hsz : e.on < listed.size := by
      have : i < listed.size := by
       rcases Nat.lt_or_ge i listed.size with h | h
       ·exact h
       ·simp [Array.getD_eq_getD_getElem?, Array.getElem?_eq_none h] at hl
      omega
     simp only [Array.getD_eq_getD_getElem?, Array.getElem?_eq_getElem hsz, Option.getD_some] at h1 ⊢
     exact h1
    rw [hr] at this
    cases this
 have done : ∀ (listed : Array Bool) (a : Act) (W : World), FamInv ops a0 C V listed a W → Region.ready .any ops listed = [] → Q .normal a W := by
  intro listed a W inv hr
  have hall : ∀ j, j < ops.size → listed.getD j false = true := by
   intro j hj
   have := least listed hr j hj
   have hl : j < listed.size := by rw [inv.lsize]; exact hj
   simp only [Array.getD_eq_getD_getElem?, Array.getElem?_eq_getElem hl, Option.getD_some] at this ⊢
   exact this
  have hfin := hQ (fun j => ((fdst ops j).map fun d => a.tmps.getD d undef).getD undef) W inv.c fun j hj => inv.vals j (hall j hj)
  have hact : fact ops a0 (fun j => ((fdst ops j).map fun d => a.tmps.getD d undef).getD undef) (List.range ops.size) = a := by
   have hs : (fact ops a0 (fun j => ((fdst ops j).map fun d => a.tmps.getD d undef).getD undef) (List.range ops.size)).tmps = a.tmps := by
    apply Array.ext
    ·rw [fact_size, inv.size]
    ·intro t h1 h2
     have e1 : ∀ (x : Array Value) (h : t < x.size), x[t] = x.getD t undef := fun x h => by simp [Array.getD_eq_getD_getElem?, h]
     rw [e1 _ h1, e1 _ h2]
     by_cases hex : ∃ j, fdst ops j = some t
     ·obtain ⟨j, hj⟩ := hex
      have hjl : j < ops.size := by
       unfold fdst at hj
       cases ho : ops[j]? with
       | none => rw [ho] at hj; cases hj
       | some o => exact (Array.getElem?_eq_some_iff.1 ho).1
      rw [fact_at hok _ j t hj _ (List.mem_range.2 hjl)]
      simp [hj]
     ·have hne : ∀ j, fdst ops j ≠ some t := fun j e => hex ⟨j, e⟩
      rw [fact_other _ t _ fun j _ => hne j, inv.other t fun j _ => hne j]
   have hd := fact_defers (ops := ops) (a0 := a0) (fun j => ((fdst ops j).map fun d => a.tmps.getD d undef).getD undef) (List.range ops.size)
   rw [← inv.defers] at hd
   generalize fact ops a0 (fun j => ((fdst ops j).map fun d => a.tmps.getD d undef).getD undef) (List.range ops.size) = x at hs hd
   cases x; cases a
   simp_all
  rw [hact] at hfin
  exact hfin
 intro fuel
 induction fuel with
 | zero =>
  intro listed a W inv hf
  have hr : Region.ready .any ops listed = [] := by
   cases hr : Region.ready .any ops listed with
   | nil => rfl
   | cons x xs =>
    have hx : x ∈ Region.ready .any ops listed := by rw [hr]; exact List.mem_cons_self
    rw [mem_ready] at hx
    obtain ⟨h0, o, ho, _⟩ := hx
    have hxl : x < ops.size := (Array.getElem?_eq_some_iff.1 ho).1
    have hl : x < listed.size := by rw [inv.lsize]; exact hxl
    have : x ∈ (List.range ops.size).filter fun i => !listed.getD i false := by
     rw [List.mem_filter]
     refine ⟨List.mem_range.2 hxl, ?_⟩
     simp only [Array.getD_eq_getD_getElem?, Array.getElem?_eq_getElem hl, Option.getD_some] at h0 ⊢
     simp [h0]
    rw [List.eq_nil_of_length_eq_zero (Nat.le_zero.1 hf)] at this
    cases this
  exact ⟨hr, done listed a W inv hr⟩
 | succ fuel ih =>
  intro listed a W inv hf
  refine ⟨done listed a W inv, fun i hi => ?_⟩
  have hi' := hi
  rw [mem_ready] at hi'
  obtain ⟨h0, o, ho, hall⟩ := hi'
  refine wpOp_mono ?_ (famStep_real hok inv ho h0 (fun k hk => by
   unfold fdeps at hk
   rw [List.mem_map] at hk
   obtain ⟨e, he, rfl⟩ := hk
   rw [List.mem_filter] at he
   exact hall e (Array.mem_toList_iff.1 he.1) he.2) hstab (hstep i o ho))
  intro a' W' inv'
  refine ih _ a' W' inv' ?_
  have hil : i < ops.size := (Array.getElem?_eq_some_iff.1 ho).1
  have hll : i < listed.size := by rw [inv.lsize]; exact hil
  have hsub : ((List.range ops.size).filter fun k => !(listed.setIfInBounds i true).getD k false).length < ((List.range ops.size).filter fun k => !listed.getD k false).length := by
   have h1 : (List.range ops.size).filter (fun k => !(listed.setIfInBounds i true).getD k false) = ((List.range ops.size).filter fun k => !listed.getD k false).filter (fun k => k != i) := by
    rw [List.filter_filter]
    apply List.filter_congr
    intro k _
    by_cases hki : k = i
    ·subst hki; simp [Array.getD_eq_getD_getElem?, hll]
    ·rw [getD_set_ne false (Ne.symm hki)]; simp [hki]
   rw [h1]
   have hmem : i ∈ (List.range ops.size).filter fun k => !listed.getD k false := by
    rw [List.mem_filter]
    refine ⟨List.mem_range.2 hil, ?_⟩
    simp only [Array.getD_eq_getD_getElem?, Array.getElem?_eq_getElem hll, Option.getD_some] at h0 ⊢
    simp [h0]
   exact List.length_filter_lt_length_iff_exists.2 ⟨i, hmem, by simp⟩
  omega
def famHyp (V : Nat → Value → World → Prop) (f : Nat → Value) (W : World) : List Nat → Prop
 | [] => True
 | j :: js => V j (f j) W ∧ famHyp V f W js
theorem famHyp_of {f : Nat → Value} {W : World} : ∀ {l : List Nat}, (∀ j ∈ l, V j (f j) W) → famHyp V f W l
 | [], _ => trivial
 | j :: _, h => ⟨h j List.mem_cons_self, famHyp_of fun k hk => h k (List.mem_cons_of_mem _ hk)⟩
def famSteps (P : Program) (ops : Array Oper) (a0 : Act) (C : World → Prop) (G : World → World → Prop) (V : Nat → Value → World → Prop) : List Oper → Nat → Prop
 | [], _ => True
 | o :: l, i => (∀ f W, C W → famHyp V f W (fdeps o) → famStep P ops a0 C G V i o f W) ∧ famSteps P ops a0 C G V l (i + 1)
theorem famSteps_at : ∀ {l : List Oper} {k : Nat}, famSteps P ops a0 C G V l k → ∀ (i : Nat) (o : Oper), l[i]? = some o → ∀ f W, C W → famHyp V f W (fdeps o) → famStep P ops a0 C G V (k + i) o f W
 | [], _, _, i, o, h => by simp at h
 | x :: l, k, hs, 0, o, h => by cases h; exact hs.1
 | x :: l, k, hs, i + 1, o, h => by
  have := famSteps_at hs.2 i o (by simpa using h)
  rwa [Nat.add_assoc, Nat.add_comm 1] at this
theorem wp_region_fam {id : Nat} {l : List Oper} {Q : Exit → Act → World → Prop} {w0 : World} (hm : P.follows .mixedOrders = true) (hok : famOk l.toArray a0.tmps.size = true)
  (C : World → Prop) (G : World → World → Prop) (V : Nat → Value → World → Prop)
  (hC : C w0.drew) (hstab : ∀ i v W W', C W → C W' → G W W' → V i v W → V i v W')
  (hstep : famSteps P l.toArray a0 C G V l 0)
  (hQ : ∀ f W, C W → famHyp V f W (List.range l.length) → Q .normal (fact l.toArray a0 f (List.range l.length)) W) :
  (Code.region id l.toArray true).wp P Q a0 w0 := by
 have hok' := famOk_spec hok
 refine wp_region_any hm (fam_any (C := C) (G := G) (V := V) hok' hstab ?_ ?_ _ _ _ _ ?_ ?_)
 ·intro i o ho f W hc hh
  have := famSteps_at hstep i o (by simpa using ho) f W hc (famHyp_of hh)
  rwa [Nat.zero_add] at this
 ·intro f W hc hh
  have := hQ f W hc (famHyp_of fun j hj => hh j (by simpa using hj))
  simpa using this
 ·refine ⟨hC, rfl, rfl, by simp, fun _ _ => rfl, ?_, ?_⟩
  ·intro j hj
   exfalso
   simp [Array.getD_eq_getD_getElem?, Array.getElem?_replicate] at hj
   split at hj <;> simp at hj
  ·intro j o hj
   exfalso
   simp [Array.getD_eq_getD_getElem?, Array.getElem?_replicate] at hj
   split at hj <;> simp at hj
 ·refine Nat.le_trans (List.length_filter_le _ _) ?_
  simp
end
def Ex (e : Value) : Value → World → Prop := fun v _ => v = e
def fv (l : List (Value → World → Prop)) (i : Nat) : Value → World → Prop := l.getD i fun _ _ => True
def Stays (V : Value → World → Prop) : Prop := ∀ v W W', Below W.heap.size W W' → V v W → V v W'
theorem stays_ex (e : Value) : Stays (Ex e) := fun _ _ _ _ h => h
theorem stays_fv {l : List (Value → World → Prop)} (h : ∀ p ∈ l, Stays p) : ∀ i, Stays (fv l i) := by
 intro i
 unfold fv
 rw [List.getD_eq_getElem?_getD]
 cases hi : l[i]? with
 | none => exact fun _ _ _ _ _ => trivial
 | some p => exact h p (List.mem_of_getElem? hi)
def AllStay : List (Value → World → Prop) → Prop
 | [] => True
 | p :: l => Stays p ∧ AllStay l
theorem AllStay.mem : ∀ {l : List (Value → World → Prop)}, AllStay l → ∀ p ∈ l, Stays p
 | [], _, p, h => by cases h
 | q :: l, h, p, hp => by
  rcases List.mem_cons.1 hp with rfl | hp
  ·exact h.1
  ·exact h.2.mem p hp
def famTab (l : List Oper) : List (List (Nat × Nat)) := l.map fun o => (fdeps o).filterMap fun j => (fdst l.toArray j).map fun d => (j, d)
def puts (f : Nat → Value) (d : List (Nat × Nat)) (t : Array Value) : Array Value := d.foldr (fun p t => t.setIfInBounds p.2 (f p.1)) t
def hyps (V : Nat → Value → World → Prop) (f : Nat → Value) (W : World) : List (Nat × Nat) → Prop
 | [] => True
 | j :: js => V j.1 (f j.1) W ∧ hyps V f W js
def tabStep (P : Program) (a0 : Act) (C : World → Prop) (G : World → World → Prop) (Vi : Value → World → Prop) (o : Oper) (f : Nat → Value) (d : List (Nat × Nat)) (W : World) : Prop :=
 if Region.wanted o (fyield f) = true then
  o.wp P { tmps := puts f d a0.tmps, defers := a0.defers } W (famPost a0.defers C G Vi o W) (fun _ _ _ => False)
 else Vi undef W
def tabSteps (P : Program) (a0 : Act) (C : World → Prop) (G : World → World → Prop) (V : Nat → Value → World → Prop) : List Oper → List (List (Nat × Nat)) → Nat → Prop
 | o :: l, d :: ds, i => (∀ f W, C W → hyps V f W d → tabStep P a0 C G (V i) o f d W) ∧ tabSteps P a0 C G V l ds (i + 1)
 | _, _, _ => True
theorem fact_puts {ops : Array Oper} {a0 : Act} (f : Nat → Value) : ∀ l : List Nat, fact ops a0 f l = { tmps := puts f (l.filterMap fun j => (fdst ops j).map fun d => (j, d)) a0.tmps, defers := a0.defers }
 | [] => rfl
 | j :: js => by
  rw [fact, fact_puts f js]
  cases h : fdst ops j with
  | none => simp [h, Act.put]
  | some d => simp [h, Act.put, puts]
theorem hyps_of {V : Nat → Value → World → Prop} {ops : Array Oper} {f : Nat → Value} {W : World} : ∀ {l : List Nat}, famHyp V f W l → hyps V f W (l.filterMap fun j => (fdst ops j).map fun d => (j, d))
 | [], _ => trivial
 | j :: js, h => by
  cases hd : fdst ops j with
  | none => simp only [List.filterMap_cons, hd, Option.map_none]; exact hyps_of h.2
  | some d => simp only [List.filterMap_cons, hd, Option.map_some]; exact ⟨h.1, hyps_of h.2⟩
theorem tab_steps {P : Program} {ops : Array Oper} {a0 : Act} {C : World → Prop} {G : World → World → Prop} {V : Nat → Value → World → Prop} :
  ∀ (l : List Oper) (k : Nat), tabSteps P a0 C G V l (l.map fun o => (fdeps o).filterMap fun j => (fdst ops j).map fun d => (j, d)) k → famSteps P ops a0 C G V l k
 | [], _, _ => trivial
 | o :: l, k, h => by
  refine ⟨fun f W hc hh => ?_, tab_steps l (k + 1) h.2⟩
  have := h.1 f W hc (hyps_of hh)
  unfold tabStep at this
  unfold famStep
  rw [fact_puts]
  exact this
section
variable {P : Program} {a0 : Act} {C : World → Prop} {G : World → World → Prop} {Vi : Value → World → Prop} {o : Oper} {f : Nat → Value} {d : List (Nat × Nat)} {W : World}
theorem tab_plain {dst : Option Tmp} {op : Op} {type : TypeId} {pos : String} {after : Array Edge}
  (h : ∀ (K : Act → World → Prop) (Q : Exit → Act → World → Prop), Hid (∀ a w, famPost a0.defers C G Vi { dst, op, type, pos, after, guard := none } W a w → K a w) →
   Oper.wp P { dst, op, type, pos, after, guard := none } { tmps := puts f d a0.tmps, defers := a0.defers } W K Q) : tabStep P a0 C G Vi { dst, op, type, pos, after, guard := none } f d W := by
 unfold tabStep
 rw [if_pos (by simp [Region.wanted])]
 exact h _ (fun _ _ _ => False) (Lib.hid fun _ _ h => h)
theorem tab_yes {dst : Option Tmp} {op : Op} {type : TypeId} {pos : String} {after : Array Edge} {j : Nat} {b : Bool} (hf : f j = .bool b)
  (h : ∀ (K : Act → World → Prop) (Q : Exit → Act → World → Prop), Hid (∀ a w, famPost a0.defers C G Vi { dst, op, type, pos, after, guard := some (j, b) } W a w → K a w) →
   Oper.wp P { dst, op, type, pos, after, guard := none } { tmps := puts f d a0.tmps, defers := a0.defers } W K Q) : tabStep P a0 C G Vi { dst, op, type, pos, after, guard := some (j, b) } f d W := by
 unfold tabStep
 rw [if_pos (by simp [Region.wanted, fyield, hf])]
 exact h _ (fun _ _ _ => False) (Lib.hid fun _ _ h => h)
theorem tab_no {j : Nat} {b c : Bool} (hg : o.guard = some (j, b)) (hf : f j = .bool c) (hne : c ≠ b) (h : Vi undef W) : tabStep P a0 C G Vi o f d W := by
 unfold tabStep
 rw [if_neg (by simp [Region.wanted, hg, fyield, hf, hne])]
 exact h
theorem fam_fin {a' : Act} {W' : World} {K : Act → World → Prop} (hK : Hid (∀ a w, famPost a0.defers C G Vi o W a w → K a w)) (hd : a'.defers = a0.defers) (hv : Vi (fval o a') W') (hg : G W W') (hc : C W') : K a' W' :=
 hK.out _ _ ⟨hd, hv, hg, hc⟩
theorem fam_ex {a' : Act} {Vs : List (Value → World → Prop)} {i : Nat} {e u : Value} {K : Act → World → Prop} {d : Tmp} {op : Op} {type : TypeId} {pos : String} {after : Array Edge} {guard : Option (Nat × Bool)}
  (hK : Hid (∀ a w, famPost a0.defers C G (fv Vs i) { dst := some d, op, type, pos, after, guard } W a w → K a w)) (hd : a'.defers = a0.defers) (hV : fv Vs i = Ex e) (hu : a'.tmps.getD d undef = u) (he : u = e) (hg : G W W) (hc : C W) : K a' W :=
 hK.out _ _ ⟨hd, by rw [hV]; exact hu.trans he, hg, hc⟩
end
/-! ### A region whose operations write, too: what is known hangs on which operations have been carried out. -/
section
variable {P : Program} {ops : Array Oper} {a0 : Act} {I : (Nat → Bool) → (Nat → Value) → World → Prop}
def invPost (d0 : List Deferred) (I : (Nat → Bool) → (Nat → Value) → World → Prop) (i : Nat) (o : Oper) (L : Nat → Bool) (f : Nat → Value) (a' : Act) (W' : World) : Prop :=
 a'.defers = d0 ∧ I (fun j => if j = i then true else L j) (fun j => if j = i then fval o a' else f j) W'
def invStep (P : Program) (ops : Array Oper) (a0 : Act) (I : (Nat → Bool) → (Nat → Value) → World → Prop) (i : Nat) (o : Oper) (L : Nat → Bool) (f : Nat → Value) (W : World) : Prop :=
 if Region.wanted o (fyield f) = true then
  o.wp P (fact ops a0 f (fdeps o)) W (invPost a0.defers I i o L f) (fun _ _ _ => False)
 else I (fun j => if j = i then true else L j) (fun j => if j = i then undef else f j) W
theorem invPost_move {i : Nat} {o : Oper} {L : Nat → Bool} {f : Nat → Value} {A a : Act} {W : World} (hA : A.defers = a.defers) (hl : ∀ d, o.dst = some d → d < A.tmps.size)
  (he : execOp a.eval o = execOp A.eval o) (h : o.wp P A W (invPost a.defers I i o L f) (fun _ _ _ => False)) :
  o.wp P a W (fun a' W' => ∃ v, a' = a.put o.dst v ∧ I (fun j => if j = i then true else L j) (fun j => if j = i then (o.dst.map fun _ => v).getD undef else f j) W') (fun _ _ _ => False) := by
 unfold Oper.wp at *
 rw [he]
 have key : ∀ v w', invPost a.defers I i o L f (A.put o.dst v) w' → ∃ u, a.put o.dst v = a.put o.dst u ∧ I (fun j => if j = i then true else L j) (fun j => if j = i then (o.dst.map fun _ => u).getD undef else f j) w' := by
  rintro v w' ⟨_, h1⟩
  rw [fval_put o A v hl] at h1
  exact ⟨v, rfl, h1⟩
 generalize (execOp A.eval o).run P W = r at *
 cases r with
 | ok n w' =>
  cases n <;> simp only [Oper.upon] at h ⊢
  case value => exact key _ _ h
  case skip => exact key _ _ h
  case defer d =>
   have := h.1
   have e : ∀ x : Act, (x.put o.dst undef).defers = x.defers := fun x => by cases o.dst <;> rfl
   rw [e, hA] at this
   exact absurd (congrArg List.length this) (by simp)
  case enter => exact Calls.mono h fun e w'' he => by cases e <;> first | exact key _ _ he | exact he
  case row => exact Rows.mono h fun _ _ he => key _ _ he
 | halt x w' => cases x <;> simp only [Oper.upon] at h ⊢
structure InvInv (ops : Array Oper) (a0 : Act) (I : (Nat → Bool) → (Nat → Value) → World → Prop) (listed : Array Bool) (a : Act) (W : World) : Prop where
 inv : I (fun j => listed.getD j false) (fun j => ((fdst ops j).map fun d => a.tmps.getD d undef).getD undef) W
 defers : a.defers = a0.defers
 size : a.tmps.size = a0.tmps.size
 lsize : listed.size = ops.size
 other : ∀ t, (∀ j, listed.getD j false = true → fdst ops j ≠ some t) → a.tmps.getD t undef = a0.tmps.getD t undef
 down : ∀ j o, listed.getD j false = true → ops[j]? = some o → ∀ k ∈ fdeps o, listed.getD k false = true
theorem invStep_real (hok : FamOk ops a0.tmps.size) {Q : Exit → Act → World → Prop} {listed : Array Bool} {a : Act} {W : World} (inv : InvInv ops a0 I listed a W) {i : Nat} {o : Oper} (ho : ops[i]? = some o)
  (hun : listed.getD i true = false) (hdeps : ∀ k ∈ fdeps o, listed.getD k false = true)
  (hstep : ∀ L f W, L i = false → (∀ j ∈ fdeps o, L j = true) → (∀ j o, L j = true → ops[j]? = some o → ∀ k ∈ fdeps o, L k = true) → I L f W → invStep P ops a0 I i o L f W) :
  wpOp P ops Q i (fun a' W' => InvInv ops a0 I (listed.setIfInBounds i true) a' W') a W := by
 have hi : i < ops.size := (Array.getElem?_eq_some_iff.1 ho).1
 have hsel : ∀ cs b, o.op ≠ .select cs b := fun cs b => Region.noSelect_spec hok.sel i o cs b ho
 let f : Nat → Value := fun j => ((fdst ops j).map fun d => a.tmps.getD d undef).getD undef
 have hfi : fdst ops i = o.dst := by simp [fdst, ho]
 have hil : i < listed.size := by rw [inv.lsize]; exact hi
 have huni : listed.getD i false = false := by
  simp only [Array.getD_eq_getD_getElem?, Array.getElem?_eq_getElem hil, Option.getD_some] at hun ⊢
  exact hun
 have hst := hstep (fun j => listed.getD j false) f W huni hdeps inv.down inv.inv
 have hev : ∀ x ∈ o.op.operands, a.eval x = (fact ops a0 f (fdeps o)).eval x := by
  intro x hx
  cases x with
  | tmp t =>
   show a.tmps.getD t undef = (fact ops a0 f (fdeps o)).tmps.getD t undef
   have ht : t ∈ ftmps o := by
    unfold ftmps
    rw [List.mem_filterMap]
    exact ⟨.tmp t, Array.mem_toList_iff.2 hx, rfl⟩
   by_cases hex : ∃ j, fdst ops j = some t
   ·obtain ⟨j, hj⟩ := hex
    rcases hok.reads i o j t ho ht hj with hd | ⟨oj, hoj, hij⟩
    ·rw [fact_at hok f j t hj _ hd]
     simp [f, hj]
    ·have hnl : listed.getD j false ≠ true := fun h => by have := inv.down j oj h hoj i hij; rw [huni] at this; cases this
     have h1 : ∀ k, listed.getD k false = true → fdst ops k ≠ some t := fun k hk e => hnl (by rw [hok.uniq j k t hj e]; exact hk)
     rw [inv.other t h1, fact_other f t _ (fun k hk => h1 k (hdeps k hk))]
   ·have hne : ∀ j, fdst ops j ≠ some t := fun j e => hex ⟨j, e⟩
    rw [inv.other t fun j _ => hne j, fact_other f t _ fun j _ => hne j]
  | const v => rfl
  | global g => rfl
  | func g => rfl
 have hex : execOp a.eval o = execOp (fact ops a0 f (fdeps o)).eval o := execOp_congr o hsel hev
 have hwant : Region.wanted o (yielded ops a.tmps) = Region.wanted o (fyield f) := by
  unfold Region.wanted
  cases hg : o.guard with
  | none => rfl
  | some p =>
   obtain ⟨j, b⟩ := p
   obtain ⟨_, hs⟩ := hok.guard i o j b ho hg
   obtain ⟨d, hd⟩ := Option.isSome_iff_exists.1 hs
   have hdl : d < a.tmps.size := by
    rw [inv.size]
    unfold fdst at hd
    cases hoj : ops[j]? with
    | none => rw [hoj] at hd; cases hd
    | some oj => rw [hoj] at hd; exact hok.lt j oj d hoj hd
   have : yielded ops a.tmps j = fyield f j := by
    have hd' : (ops[j]?).bind (·.dst) = some d := hd
    simp [yielded, fyield, f, hd, hd', hdl, Array.getD_eq_getD_getElem?]
    cases a.tmps[d] <;> rfl
   simp only [this]
 have fin : ∀ v W', I (fun j => if j = i then true else listed.getD j false) (fun j => if j = i then (o.dst.map fun _ => v).getD undef else f j) W' → InvInv ops a0 I (listed.setIfInBounds i true) (a.put o.dst v) W' := by
  intro v W' hv
  refine ⟨?_, ?_, ?_, by simp [inv.lsize], ?_, ?_⟩
  ·have e1 : (fun j => (listed.setIfInBounds i true).getD j false) = fun j => if j = i then true else listed.getD j false := by
    funext j
    by_cases hji : j = i
    ·subst hji; simp [Array.getD_eq_getD_getElem?, hil]
    ·rw [if_neg hji, getD_set_ne false (Ne.symm hji)]
   have e2 : (fun j => ((fdst ops j).map fun d => (a.put o.dst v).tmps.getD d undef).getD undef) = fun j => if j = i then (o.dst.map fun _ => v).getD undef else f j := by
    funext j
    by_cases hji : j = i
    ·subst hji
     rw [if_pos rfl, hfi]
     cases hd : o.dst with
     | none => rfl
     | some d =>
      have hdl : d < a.tmps.size := by rw [inv.size]; exact hok.lt j o d ho hd
      simp [Act.put, Array.getD_eq_getD_getElem?, hdl]
    ·rw [if_neg hji]
     show _ = ((fdst ops j).map fun d => a.tmps.getD d undef).getD undef
     cases hdj : fdst ops j with
     | none => rfl
     | some e =>
      cases hd : o.dst with
      | none => rfl
      | some d =>
       have hne : d ≠ e := fun he => hji (hok.uniq j i e hdj (by rw [hfi, hd, he]))
       simp [Act.put, Array.getD_eq_getD_getElem?, Array.getElem?_setIfInBounds_ne hne]
   rw [e1, e2]
   exact hv
  ·cases o.dst <;> simp [Act.put, inv.defers]
  ·cases o.dst <;> simp [Act.put, inv.size]
  ·intro t ht
   have hti : o.dst ≠ some t := by
    rw [← hfi]
    refine ht i ?_
    simp [Array.getD_eq_getD_getElem?, hil]
   have : (a.put o.dst v).tmps.getD t undef = a.tmps.getD t undef := by
    cases hd : o.dst with
    | none => rfl
    | some d =>
     have hne : d ≠ t := fun e => hti (by rw [hd, e])
     simp [Act.put, Array.getD_eq_getD_getElem?, Array.getElem?_setIfInBounds_ne hne]
   rw [this]
   exact inv.other t fun j hj => ht j (getD_set_true hj)
  ·intro j oj hj hoj k hk
   by_cases hji : j = i
   ·subst hji
    rw [ho] at hoj
    cases hoj
    exact getD_set_true (hdeps k hk)
   ·have hj' : listed.getD j false = true := by rw [← getD_set_ne false (Ne.symm hji)]; exact hj
    exact getD_set_true (inv.down j oj hj' hoj k hk)
 unfold wpOp
 rw [ho]
 simp only []
 rw [hwant]
 unfold invStep at hst
 split
 ·rename_i hw
  rw [if_pos hw] at hst
  left
  have h1 := invPost_move (P := P) (a := a) (by rw [fact_defers, inv.defers]) (fun d hd => by rw [fact_size]; exact hok.lt i o d ho hd) hex (by rw [inv.defers]; exact hst)
  exact wp_monoQ (fun _ _ _ h => h.elim) (Oper.wp_mono (fun a' W' ⟨v, e, hv⟩ => by rw [e]; exact fin v W' hv) h1)
 ·rename_i hw
  rw [if_neg hw] at hst
  exact fin undef W (by cases o.dst <;> exact hst)
theorem inv_any (hok : FamOk ops a0.tmps.size) {Q : Exit → Act → World → Prop}
  (hstep : ∀ i o, ops[i]? = some o → ∀ L f W, L i = false → (∀ j ∈ fdeps o, L j = true) → (∀ j o, L j = true → ops[j]? = some o → ∀ k ∈ fdeps o, L k = true) → I L f W → invStep P ops a0 I i o L f W)
  (hQ : ∀ L f W, (∀ j, j < ops.size → L j = true) → I L f W → Q .normal (fact ops a0 f (List.range ops.size)) W) :
  ∀ (fuel : Nat) (listed : Array Bool) (a : Act) (W : World), InvInv ops a0 I listed a W → (((List.range ops.size).filter fun i => !listed.getD i false).length ≤ fuel) →
   wpAny P .any ops Q fuel listed a W := by
 have least : ∀ (listed : Array Bool), Region.ready .any ops listed = [] → ∀ i, i < ops.size → listed.getD i true = true := by
  intro listed hr i
  induction i using Nat.strongRecOn with
  | _ i ih =>
   intro hi
   cases hl : listed.getD i true with
   | true => rfl
   | false =>
    have ho : ops[i]? = some ops[i] := Array.getElem?_eq_getElem hi
    have : i ∈ Region.ready .any ops listed := by
     rw [mem_ready]
     refine ⟨hl, _, ho, fun e he hb => ?_⟩
     have hlt : e.on < i := hok.dep i _ e.on ho (by
      unfold fdeps
      rw [List.mem_map]
      exact ⟨e, List.mem_filter.2 ⟨Array.mem_toList_iff.2 he, hb⟩, rfl⟩)
     have h1 := ih e.on hlt (by omega)
     have hsz : e.on < listed.size := by
      have : i < listed.size := by
       rcases Nat.lt_or_ge i listed.size with h | h
       ·exact h
       ·simp [Array.getD_eq_getD_getElem?, Array.getElem?_eq_none h] at hl
      omega
     simp only [Array.getD_eq_getD_getElem?, Array.getElem?_eq_getElem hsz, Option.getD_some] at h1 ⊢
     exact h1
    rw [hr] at this
    cases this
 have done : ∀ (listed : Array Bool) (a : Act) (W : World), InvInv ops a0 I listed a W → Region.ready .any ops listed = [] → Q .normal a W := by
  intro listed a W inv hr
  have hall : ∀ j, j < ops.size → listed.getD j false = true := by
   intro j hj
   have := least listed hr j hj
   have hl : j < listed.size := by rw [inv.lsize]; exact hj
   simp only [Array.getD_eq_getD_getElem?, Array.getElem?_eq_getElem hl, Option.getD_some] at this ⊢
   exact this
  have hfin := hQ _ _ W hall inv.inv
  have hact : fact ops a0 (fun j => ((fdst ops j).map fun d => a.tmps.getD d undef).getD undef) (List.range ops.size) = a := by
   have hs : (fact ops a0 (fun j => ((fdst ops j).map fun d => a.tmps.getD d undef).getD undef) (List.range ops.size)).tmps = a.tmps := by
    apply Array.ext
    ·rw [fact_size, inv.size]
    ·intro t h1 h2
     have e1 : ∀ (x : Array Value) (h : t < x.size), x[t] = x.getD t undef := fun x h => by simp [Array.getD_eq_getD_getElem?, h]
     rw [e1 _ h1, e1 _ h2]
     by_cases hex : ∃ j, fdst ops j = some t
     ·obtain ⟨j, hj⟩ := hex
      have hjl : j < ops.size := by
       unfold fdst at hj
       cases ho : ops[j]? with
       | none => rw [ho] at hj; cases hj
       | some o => exact (Array.getElem?_eq_some_iff.1 ho).1
      rw [fact_at hok _ j t hj _ (List.mem_range.2 hjl)]
      simp [hj]
     ·have hne : ∀ j, fdst ops j ≠ some t := fun j e => hex ⟨j, e⟩
      rw [fact_other _ t _ fun j _ => hne j, inv.other t fun j _ => hne j]
   have hd := fact_defers (ops := ops) (a0 := a0) (fun j => ((fdst ops j).map fun d => a.tmps.getD d undef).getD undef) (List.range ops.size)
   rw [← inv.defers] at hd
   generalize fact ops a0 (fun j => ((fdst ops j).map fun d => a.tmps.getD d undef).getD undef) (List.range ops.size) = x at hs hd
   cases x; cases a
   simp_all
  rw [hact] at hfin
  exact hfin
 intro fuel
 induction fuel with
 | zero =>
  intro listed a W inv hf
  have hr : Region.ready .any ops listed = [] := by
   cases hr : Region.ready .any ops listed with
   | nil => rfl
   | cons x xs =>
    have hx : x ∈ Region.ready .any ops listed := by rw [hr]; exact List.mem_cons_self
    rw [mem_ready] at hx
    obtain ⟨h0, o, ho, _⟩ := hx
    have hxl : x < ops.size := (Array.getElem?_eq_some_iff.1 ho).1
    have hl : x < listed.size := by rw [inv.lsize]; exact hxl
    have : x ∈ (List.range ops.size).filter fun i => !listed.getD i false := by
     rw [List.mem_filter]
     refine ⟨List.mem_range.2 hxl, ?_⟩
     simp only [Array.getD_eq_getD_getElem?, Array.getElem?_eq_getElem hl, Option.getD_some] at h0 ⊢
     simp [h0]
    rw [List.eq_nil_of_length_eq_zero (Nat.le_zero.1 hf)] at this
    cases this
  exact ⟨hr, done listed a W inv hr⟩
 | succ fuel ih =>
  intro listed a W inv hf
  refine ⟨done listed a W inv, fun i hi => ?_⟩
  have hi' := hi
  rw [mem_ready] at hi'
  obtain ⟨h0, o, ho, hall⟩ := hi'
  refine wpOp_mono ?_ (invStep_real hok inv ho h0 (fun k hk => by
   unfold fdeps at hk
   rw [List.mem_map] at hk
   obtain ⟨e, he, rfl⟩ := hk
   rw [List.mem_filter] at he
   exact hall e (Array.mem_toList_iff.1 he.1) he.2) (hstep i o ho))
  intro a' W' inv'
  refine ih _ a' W' inv' ?_
  have hil : i < ops.size := (Array.getElem?_eq_some_iff.1 ho).1
  have hll : i < listed.size := by rw [inv.lsize]; exact hil
  have hsub : ((List.range ops.size).filter fun k => !(listed.setIfInBounds i true).getD k false).length < ((List.range ops.size).filter fun k => !listed.getD k false).length := by
   have h1 : (List.range ops.size).filter (fun k => !(listed.setIfInBounds i true).getD k false) = ((List.range ops.size).filter fun k => !listed.getD k false).filter (fun k => k != i) := by
    rw [List.filter_filter]
    apply List.filter_congr
    intro k _
    by_cases hki : k = i
    ·subst hki; simp [Array.getD_eq_getD_getElem?, hll]
    ·rw [getD_set_ne false (Ne.symm hki)]; simp [hki]
   rw [h1]
   have hmem : i ∈ (List.range ops.size).filter fun k => !listed.getD k false := by
    rw [List.mem_filter]
    refine ⟨List.mem_range.2 hil, ?_⟩
    simp only [Array.getD_eq_getD_getElem?, Array.getElem?_eq_getElem hll, Option.getD_some] at h0 ⊢
    simp [h0]
   exact List.length_filter_lt_length_iff_exists.2 ⟨i, hmem, by simp⟩
  omega
end
theorem wp_region_inv {P : Program} {id : Nat} {l : List Oper} {a0 : Act} {Q : Exit → Act → World → Prop} {w0 : World} (hm : P.follows .mixedOrders = true) (hok : famOk l.toArray a0.tmps.size = true)
  (I : (Nat → Bool) → (Nat → Value) → World → Prop) (h0 : ∀ f, I (fun _ => false) f w0.drew)
  (hstep : ∀ i o, l[i]? = some o → ∀ L f W, L i = false → (∀ j ∈ fdeps o, L j = true) → (∀ j o, L j = true → l[j]? = some o → ∀ k ∈ fdeps o, L k = true) → I L f W → invStep P l.toArray a0 I i o L f W)
  (hQ : ∀ L f W, (∀ j, j < l.length → L j = true) → I L f W → Q .normal (fact l.toArray a0 f (List.range l.length)) W) :
  (Code.region id l.toArray true).wp P Q a0 w0 := by
 have hok' := famOk_spec hok
 refine wp_region_any hm (inv_any (I := I) hok' ?_ ?_ _ _ _ _ ?_ ?_)
 ·intro i o ho L f W h1 h2 h3 hi
  exact hstep i o (by simpa using ho) L f W h1 h2 (fun j o hj hoj => h3 j o hj (by simpa using hoj)) hi
 ·intro L f W hL hi
  have := hQ L f W (fun j hj => hL j (by simpa using hj)) hi
  simpa using this
 ·refine ⟨?_, rfl, rfl, by simp, fun _ _ => rfl, ?_⟩
  ·have e1 : (fun j => (Array.replicate l.toArray.size false).getD j false) = fun _ => false := by
    funext j
    simp [Array.getD_eq_getD_getElem?, Array.getElem?_replicate]
    split <;> rfl
   rw [e1]
   exact h0 _
  ·intro j o hj
   exfalso
   simp [Array.getD_eq_getD_getElem?, Array.getElem?_replicate] at hj
   split at hj <;> simp at hj
 ·refine Nat.le_trans (List.length_filter_le _ _) ?_
  simp
theorem wp_region_grow {P : Program} {id : Nat} {l : List Oper} {a0 : Act} {Q : Exit → Act → World → Prop} {w0 : World} (hm : P.follows .mixedOrders = true) (hok : famOk l.toArray a0.tmps.size = true)
  (ds : List (List (Nat × Nat))) (all : List (Nat × Nat)) (hds : famTab l = ds) (hall : ((List.range l.length).filterMap fun j => (fdst l.toArray j).map fun d => (j, d)) = all) (Vs : List (Value → World → Prop)) (hst : AllStay Vs)
  (hstep : tabSteps P a0 (fun W => Below w0.heap.size w0 W) (fun W W' => Below W.heap.size W W') (fv Vs) l ds 0)
  (hQ : ∀ f W, Below w0.heap.size w0 W → hyps (fv Vs) f W all → Q .normal { tmps := puts f all a0.tmps, defers := a0.defers } W) :
  (Code.region id l.toArray true).wp P Q a0 w0 := by
 subst hds
 subst hall
 refine wp_region_fam hm hok (fun W => Below w0.heap.size w0 W) (fun W W' => Below W.heap.size W W') (fv Vs) ((Below.refl _ _).drew)
  (fun i v W W' _ _ hg h => stays_fv hst.mem i v W W' hg h) (tab_steps _ _ hstep) ?_
 intro f W hc hh
 rw [fact_puts]
 exact hQ f W hc (hyps_of hh)
/-! ### Regions with a chain of operations that write: the state by stages. -/
def stage (L : Nat → Bool) (f : Nat → Value) (W : World) (base : World → Prop) : List (Nat × ((Nat → Value) → World → Prop)) → Prop
 | [] => base W
 | (k, st) :: r => if L k = true then st f W else stage L f W base r
def known (Vs : List (Value → Prop)) (L : Nat → Bool) (f : Nat → Value) : Prop := ∀ j, L j = true → (Vs.getD j fun _ => True) (f j)
def EV (e : Value) : Value → Prop := fun v => v = e
def hypsL (Vs : List (Value → Prop)) (f : Nat → Value) : List (Nat × Nat) → Prop
 | [] => True
 | j :: js => (Vs.getD j.1 fun _ => True) (f j.1) ∧ hypsL Vs f js
theorem hypsL_of {Vs : List (Value → Prop)} {L : Nat → Bool} {f : Nat → Value} (h : known Vs L f) {ops : Array Oper} : ∀ {l : List Nat}, (∀ j ∈ l, L j = true) → hypsL Vs f (l.filterMap fun j => (fdst ops j).map fun d => (j, d))
 | [], _ => trivial
 | j :: js, hl => by
  have ih := hypsL_of h (ops := ops) (l := js) fun k hk => hl k (List.mem_cons_of_mem _ hk)
  cases hd : fdst ops j with
  | none => simp only [List.filterMap_cons, hd, Option.map_none]; exact ih
  | some d => simp only [List.filterMap_cons, hd, Option.map_some]; exact ⟨h j (hl j List.mem_cons_self), ih⟩
def stStep (P : Program) (a0 : Act) (Vs : List (Value → Prop)) (S : (Nat → Bool) → (Nat → Value) → World → Prop) (i : Nat) (o : Oper) (d : List (Nat × Nat)) (L : Nat → Bool) (f : Nat → Value) (W : World) : Prop :=
 if Region.wanted o (fyield f) = true then
  ∀ (K : Act → World → Prop) (Q : Exit → Act → World → Prop),
   Hid (∀ a' W', a'.defers = a0.defers → (Vs.getD i fun _ => True) (fval o a') → S (fun j => if j = i then true else L j) (fun j => if j = i then fval o a' else f j) W' → K a' W') →
   o.wp P { tmps := puts f d a0.tmps, defers := a0.defers } W K Q
 else (Vs.getD i fun _ => True) undef ∧ S (fun j => if j = i then true else L j) (fun j => if j = i then undef else f j) W
def stSteps (P : Program) (a0 : Act) (Vs : List (Value → Prop)) (S : (Nat → Bool) → (Nat → Value) → World → Prop) (all : List Oper) : List Oper → List (List (Nat × Nat)) → Nat → Prop
 | o :: l, d :: ds, i => (∀ L f W, L i = false → (∀ j ∈ fdeps o, L j = true) → (∀ j o, L j = true → all[j]? = some o → ∀ k ∈ fdeps o, L k = true) → hypsL Vs f d → S L f W → stStep P a0 Vs S i o d L f W) ∧ stSteps P a0 Vs S all l ds (i + 1)
 | _, _, _ => True
theorem stSteps_at {P : Program} {a0 : Act} {Vs : List (Value → Prop)} {S : (Nat → Bool) → (Nat → Value) → World → Prop} {all : List Oper} {ops : Array Oper} :
  ∀ {l : List Oper} {k : Nat}, stSteps P a0 Vs S all l (l.map fun o => (fdeps o).filterMap fun j => (fdst ops j).map fun d => (j, d)) k → ∀ (i : Nat) (o : Oper), l[i]? = some o →
   ∀ L f W, L (k + i) = false → (∀ j ∈ fdeps o, L j = true) → (∀ j o, L j = true → all[j]? = some o → ∀ k ∈ fdeps o, L k = true) → hypsL Vs f ((fdeps o).filterMap fun j => (fdst ops j).map fun d => (j, d)) → S L f W →
    stStep P a0 Vs S (k + i) o ((fdeps o).filterMap fun j => (fdst ops j).map fun d => (j, d)) L f W
 | [], _, _, i, o, h => by simp at h
 | x :: l, k, hs, 0, o, h => by cases h; exact hs.1
 | x :: l, k, hs, i + 1, o, h => by
  have := stSteps_at hs.2 i o (by simpa using h)
  rwa [Nat.add_assoc, Nat.add_comm 1 i] at this
theorem wp_region_st {P : Program} {id : Nat} {l : List Oper} {a0 : Act} {Q : Exit → Act → World → Prop} {w0 : World} (hm : P.follows .mixedOrders = true) (hok : famOk l.toArray a0.tmps.size = true)
  (ds : List (List (Nat × Nat))) (all : List (Nat × Nat)) (hds : famTab l = ds) (hall : ((List.range l.length).filterMap fun j => (fdst l.toArray j).map fun d => (j, d)) = all) (Vs : List (Value → Prop))
  (S : (Nat → Bool) → (Nat → Value) → World → Prop) (h0 : ∀ f, S (fun _ => false) f w0.drew)
  (hstep : stSteps P a0 Vs S l l ds 0)
  (hQ : ∀ L f W, (∀ j, j < l.length → L j = true) → hypsL Vs f all → S L f W → Q .normal { tmps := puts f all a0.tmps, defers := a0.defers } W) :
  (Code.region id l.toArray true).wp P Q a0 w0 := by
 subst hds
 subst hall
 refine wp_region_inv hm hok (fun L f W => known Vs L f ∧ S L f W) (fun f => ⟨(fun _ h => (by cases h)), h0 f⟩) ?_ ?_
 ·intro i o ho L f W hi hd hdn hh
  obtain ⟨hk, hS⟩ := hh
  have := stSteps_at hstep i o ho L f W (by rw [Nat.zero_add]; exact hi) hd hdn (hypsL_of hk hd) hS
  rw [Nat.zero_add] at this
  unfold stStep at this
  unfold invStep
  rw [fact_puts]
  have kn : ∀ v, (Vs.getD i fun _ => True) v → known Vs (fun j => if j = i then true else L j) (fun j => if j = i then v else f j) := by
   intro v hv j hj
   by_cases hji : j = i
   ·subst hji; simpa using hv
   ·simp only [if_neg hji] at hj ⊢
    exact hk j hj
  split
  ·rename_i hw
   rw [if_pos hw] at this
   exact this _ _ (Lib.hid fun a' W' h1 h2 h3 => ⟨h1, kn _ h2, h3⟩)
  ·rename_i hw
   rw [if_neg hw] at this
   exact ⟨kn _ this.1, this.2⟩
 ·intro L f W hL hh
  rw [fact_puts]
  exact hQ L f W hL (hypsL_of hh.1 fun j hj => hL j (List.mem_range.1 hj)) hh.2
section
variable {P : Program} {a0 : Act} {Vs : List (Value → Prop)} {S : (Nat → Bool) → (Nat → Value) → World → Prop} {i : Nat} {d : List (Nat × Nat)} {L : Nat → Bool} {f : Nat → Value} {W : World}
theorem st_ex {a' : Act} {W' : World} {e u : Value} {K : Act → World → Prop} {t : Tmp} {op : Op} {type : TypeId} {pos : String} {after : Array Edge} {guard : Option (Nat × Bool)}
  (hK : Hid (∀ a' W', a'.defers = a0.defers → (Vs.getD i fun _ => True) (fval { dst := some t, op, type, pos, after, guard } a') → S (fun j => if j = i then true else L j) (fun j => if j = i then fval { dst := some t, op, type, pos, after, guard } a' else f j) W' → K a' W'))
  (hd : a'.defers = a0.defers) (hV : (Vs.getD i fun _ => True) = EV e) (hu : a'.tmps.getD t undef = u) (he : u = e) (hS : S (fun j => if j = i then true else L j) (fun j => if j = i then a'.tmps.getD t undef else f j) W') : K a' W' :=
 hK.out _ _ hd (by rw [hV]; exact hu.trans he) hS
end
theorem fam_e {a0 : Act} {C : World → Prop} {G : World → World → Prop} {W : World} {a' : Act} {Vs : List (Value → World → Prop)} {i : Nat} {e : Value} {K : Act → World → Prop} {d : Tmp} {op : Op} {type : TypeId} {pos : String} {after : Array Edge} {guard : Option (Nat × Bool)}
  (hK : Hid (∀ a w, famPost a0.defers C G (fv Vs i) { dst := some d, op, type, pos, after, guard } W a w → K a w)) (hd : a'.defers = a0.defers) (hV : fv Vs i = Ex e) (hg : G W W) (hc : C W) (hu : a'.tmps.getD d undef = e := by simp only [Act.put, List.setIfInBounds_toArray, List.set_cons_succ, List.set_cons_zero, Array.getD_eq_getD_getElem?, List.getElem?_toArray, List.getElem?_cons_succ, List.getElem?_cons_zero, Option.getD_some] <;> rfl) : K a' W :=
 fam_ex hK hd hV hu rfl hg hc
theorem Za {α β : Type} {a : α} {l : List α} {f : α → β → β} {b : β} : (a :: l).foldr f b = f a (l.foldr f b) := rfl
theorem Zb {α β : Type} {f : α → β → β} {b : β} : ([] : List α).foldr f b = b := rfl
theorem Zc {α : Type} (l : List α) (i : Nat) (a : α) : l.toArray.setIfInBounds i a = (l.set i a).toArray := by simp only [List.setIfInBounds_toArray]
theorem Zd {α : Type} {a b : α} {l : List α} {i : Nat} : (a :: l).set (i + 1) b = a :: l.set i b := rfl
theorem Ze {α : Type} {a b : α} {l : List α} : (a :: l).set 0 b = b :: l := rfl
end Go.Proofs.YtbjdglopkpigbaaGreatDoor
