/-
  A loop over a function whose iterator keeps its state in a cell: the law of the statement; operations and regions of a round, out of the plain walk.
-/
import Derived.Test.YtpmhnmkpmkeadaaBox
import Derived.Test.YtpmhnmkpmkeadaaFam
import Derived.RangeFuncNested
import Derived.RangeFuncBound
import Derived.RangeFuncCalls
import Derived.RangeFuncLeaves
import Derived.OwnWalkIn
import Derived.TacticsInMore
import Derived.LoopNIn
import Derived.LoopIn
set_option linter.unusedSimpArgs false
set_option linter.unusedVariables false
namespace Go.Proofs.Ytpmhnmkpmkeadaa
open Go.RowKit

/-- In a round an operation that defers nothing does what it does anywhere. -/
theorem wpIn_of_wp {l n : Nat} {P : Program} {o : Oper} {a : Act} {w : World} {K : Act → World → Prop} {Q : Exit → Act → World → Prop} (hnd : ∀ c, o.op ≠ .defer c) (h : o.wp P a w K Q) : o.wpIn (Fence.wide.inRound l) n P a w K Q := by
  refine ⟨fun _ _ => trivial, ?_⟩
  rw [show (Fence.wide.inRound l).round = some l from rfl, Oper.semAt_eq _ _ _ hnd]
  unfold Oper.wp at h
  generalize (execOp a.eval o).run P w = r at *
  cases r with
  | ok x w' =>
    cases x <;> simp only [Oper.upon, Oper.uponIn] at h ⊢ <;>
      first
        | exact h
        | exact ⟨fun hh => (by cases hh), callsIn_wide.2 h⟩
        | (refine ⟨fun hh => (by cases hh), fun c cs _ => ?_⟩; obtain ⟨v, w2, r, s⟩ := h c cs; exact ⟨v, w2, r, stepsIn_wide.2 s⟩)
  | halt x w' => cases x <;> simp only [Oper.upon, Oper.uponIn] at h ⊢ <;> exact h

theorem wpListIn_bridge {l n : Nat} {P : Program} {ops : Array Oper} {rest : List Oper} {o : Oper} {a : Act} {w : World} {Q : Exit → Act → World → Prop} (hnd : ∀ c, o.op ≠ .defer c) (hg : Region.wanted o (yielded ops a.tmps) = true)
    (h : ∀ K : Act → World → Prop, (∀ a w, wpListIn (Fence.wide.inRound l) n P ops Q rest a w → K a w) → o.wp P a w K Q) : wpListIn (Fence.wide.inRound l) n P ops Q (o :: rest) a w :=
  wpListIn_step fun K hK => by rw [if_pos hg]; exact wpIn_of_wp hnd (h K hK)

theorem wpAny_in {l n : Nat} {P : Program} {ops : Array Oper} {Q : Exit → Act → World → Prop} (hnd : ∀ o ∈ ops, ∀ c, o.op ≠ .defer c) (hQ : ¬ LetsOut Q) :
    ∀ (fuel : Nat) (listed : Array Bool) (a : Act) (w : World), wpAny P .any ops Q fuel listed a w → wpAnyIn (Fence.wide.inRound l) n P .any ops Q fuel listed a w
  | 0, _, _, _, h => h
  | fuel + 1, listed, a, w, h => by
    refine ⟨h.1, fun i hi => ?_⟩
    have := h.2 i hi
    unfold wpOp at this
    unfold wpOpIn
    cases ho : ops[i]? with
    | none => rw [ho] at this; exact wpAny_in hnd hQ fuel _ _ _ this
    | some o =>
      rw [ho] at this
      simp only at this ⊢
      split
      · rename_i hw
        rw [if_pos hw] at this
        rcases this with h1 | ⟨_, h2⟩
        · exact Oper.wpIn_mono (fun a w => wpAny_in hnd hQ fuel _ a w) (wpIn_of_wp (hnd o (Array.mem_of_getElem? ho)) h1)
        · exact absurd h2 hQ
      · rename_i hw
        rw [if_neg hw] at this
        exact ⟨fun _ _ => trivial, wpAny_in hnd hQ fuel _ _ _ this⟩

/-- **The region, by an invariant that knows which operations have been carried out.** -/
theorem wpAny_inv {P : Program} {l : List Oper} {a0 : Act} {Q : Exit → Act → World → Prop} {w0 : World} (hok : famOk l.toArray a0.tmps.size = true)
    (I : (Nat → Bool) → (Nat → Value) → World → Prop) (h0 : ∀ f, I (fun _ => false) f w0.drew)
    (hstep : ∀ i o, l[i]? = some o → ∀ L f W, L i = false → (∀ j ∈ fdeps o, L j = true) → (∀ j o, L j = true → l[j]? = some o → ∀ k ∈ fdeps o, L k = true) → I L f W → invStep P l.toArray a0 I i o L f W)
    (hQ : ∀ L f W, (∀ j, j < l.length → L j = true) → I L f W → Q .normal (fact l.toArray a0 f (List.range l.length)) W) :
    wpAny P .any l.toArray Q l.toArray.size (Array.replicate l.toArray.size false) a0 w0.drew := by
  have hok' := famOk_spec hok
  refine inv_any (I := I) hok' ?_ ?_ _ _ _ _ ?_ ?_
  · intro i o ho L f W h1 h2 h3 hi
    exact hstep i o (by simpa using ho) L f W h1 h2 (fun j o hj hoj => h3 j o hj (by simpa using hoj)) hi
  · intro L f W hL hi
    have := hQ L f W (fun j hj => hL j (by simpa using hj)) hi
    simpa using this
  · refine ⟨?_, rfl, rfl, by simp, fun _ _ => rfl, ?_⟩
    · have e1 : (fun j => (Array.replicate l.toArray.size false).getD j false) = fun _ => false := by
        funext j
        simp [Array.getD_eq_getD_getElem?, Array.getElem?_replicate]
        split <;> rfl
      rw [e1]
      exact h0 _
    · intro j o hj
      exfalso
      simp [Array.getD_eq_getD_getElem?, Array.getElem?_replicate] at hj
      split at hj <;> simp at hj
  · refine Nat.le_trans (List.length_filter_le _ _) ?_
    simp

theorem wpAny_st {P : Program} {l : List Oper} {a0 : Act} {Q : Exit → Act → World → Prop} {w0 : World} (hok : famOk l.toArray a0.tmps.size = true)
    (ds : List (List (Nat × Nat))) (all : List (Nat × Nat)) (hds : famTab l = ds) (hall : ((List.range l.length).filterMap fun j => (fdst l.toArray j).map fun d => (j, d)) = all) (Vs : List (Value → Prop))
    (S : (Nat → Bool) → (Nat → Value) → World → Prop) (h0 : ∀ f, S (fun _ => false) f w0.drew)
    (hstep : stSteps P a0 Vs S l l ds 0)
    (hQ : ∀ L f W, (∀ j, j < l.length → L j = true) → hypsL Vs f all → S L f W → Q .normal { tmps := puts f all a0.tmps, defers := a0.defers } W) :
    wpAny P .any l.toArray Q l.toArray.size (Array.replicate l.toArray.size false) a0 w0.drew := by
  subst hds
  subst hall
  refine wpAny_inv hok (fun L f W => known Vs L f ∧ S L f W) (fun f => ⟨(fun _ h => (by cases h)), h0 f⟩) ?_ ?_
  · intro i o ho L f W hi hd hdn hh
    obtain ⟨hk, hS⟩ := hh
    have := stSteps_at hstep i o ho L f W (by rw [Nat.zero_add]; exact hi) hd hdn (hypsL_of hk hd) hS
    rw [Nat.zero_add] at this
    unfold stStep at this
    unfold invStep
    rw [fact_puts]
    have kn : ∀ v, (Vs.getD i fun _ => True) v → known Vs (fun j => if j = i then true else L j) (fun j => if j = i then v else f j) := by
      intro v hv j hj
      by_cases hji : j = i
      · subst hji; simpa using hv
      · simp only [if_neg hji] at hj ⊢
        exact hk j hj
    split
    · rename_i hw
      rw [if_pos hw] at this
      exact this _ _ (Lib.hid fun a' W' h1 h2 h3 => ⟨h1, kn _ h2, h3⟩)
    · rename_i hw
      rw [if_neg hw] at this
      exact ⟨kn _ this.1, this.2⟩
  · intro L f W hL hh
    rw [fact_puts]
    exact hQ L f W hL (hypsL_of hh.1 fun j hj => hL j (List.mem_range.1 hj)) hh.2


def noDefer (l : List Oper) : Bool := l.all fun o => match o.op with | .defer _ => false | _ => true
theorem noDefer_spec {l : List Oper} (h : noDefer l = true) : ∀ o ∈ l.toArray, ∀ c, o.op ≠ .defer c := by
  intro o ho c e
  unfold noDefer at h
  rw [List.all_eq_true] at h
  have := h o (by simpa using ho)
  rw [e] at this
  simp at this

theorem wpIn_region_st {P : Program} {id lr n : Nat} {l : List Oper} {a0 : Act} {Q : Exit → Act → World → Prop} {w0 : World} (hq : ¬ LetsOut Q) (hnd : noDefer l = true) (hm : P.follows .mixedOrders = true) (hok : famOk l.toArray a0.tmps.size = true)
    (ds : List (List (Nat × Nat))) (all : List (Nat × Nat)) (hds : famTab l = ds) (hall : ((List.range l.length).filterMap fun j => (fdst l.toArray j).map fun d => (j, d)) = all) (Vs : List (Value → Prop))
    (S : (Nat → Bool) → (Nat → Value) → World → Prop) (h0 : ∀ f, S (fun _ => false) f w0.drew)
    (hstep : stSteps P a0 Vs S l l ds 0)
    (hQ : ∀ L f W, (∀ j, j < l.length → L j = true) → hypsL Vs f all → S L f W → Q .normal { tmps := puts f all a0.tmps, defers := a0.defers } W) :
    (Code.region id l.toArray true).wpIn (Fence.wide.inRound lr) n P Q a0 w0 :=
  wpIn_region_any hm (wpAny_in (noDefer_spec hnd) hq _ _ _ _ (wpAny_st hok ds all hds hall Vs S h0 hstep hQ))

/-! The statement. -/
/-- What an iterator whose state lies in block R promises: N rounds, the k-th one at the values e k. -/
def SeqN (P : Program) (gf : Nat) (lb : Array Value) (e : Nat → Array Value) (N R : Nat) (rv : Value) : Prop :=
  ∀ (l : Nat) (J : Nat → World → Prop) (W : World), Box1 W R rv → (∀ k W x, J k W → J k (W.setCell ⟨R, 0, none⟩ x)) →
    (∀ k W1, k < N → J k W1 → YieldAt Fence.wide 0 P l (e k) W1 fun v W' => v = .returned (.bool true) ∧ J (k + 1) W' ∧ ∀ x, Box1 W1 R x → Box1 W' R x) →
    J 0 W → CallsIn Fence.wide 0 P gf (#[.func (.yield l) #[] #[]] ++ lb) W fun v W' => (∃ u, v = .returned u) ∧ J N W'

/-- How a round is left: it goes on. -/
def postN (B R : Nat) (I : Nat → World → Prop) (k : Nat) (W : World) : Exit → Act → World → Prop
  | .normal, _, W' => KeepsFrom B W W' ∧ (∀ x, Box1 W R x → Box1 W' R x) ∧ I k W'
  | _, _, _ => False

theorem Box1.putObj {W : World} {R l : Nat} {u : Value} (h : Box1 W R u) (hne : R ≠ l) (o : Obj) : Box1 (W.putObj l o) R u := by
  obtain ⟨T, h⟩ := h
  exact ⟨T, (World.putObj_heap_other hne).trans h⟩

theorem wpIn_rangeN {P : Program} {g : Operand} {ps : Array Tmp} {assign body : Code} {Q : Exit → Act → World → Prop} {a : Act} {w : World}
    {gf : Nat} {lb : Array Value} (hg : a.eval g = .func (.func gf) #[] lb) (eg : ∀ args w, (callFunc gf args).run P w = .ok (.enter gf args) w)
    {e : Nat → Array Value} {N R : Nat} {rv : Value} (hseq : SeqN P gf lb e N R rv) (hrv : Box1 w R rv) (hps : ∀ k, (e k).size = ps.size)
    (I : Nat → World → Prop) (hI : OwnFrom w.heap.size I) (hIR : ∀ k W x, I k W → I k (W.setCell ⟨R, 0, none⟩ x)) (h0 : I 0 w) (a₁ : Nat → Act)
    (hassign : ∀ (l : Nat) (k : Nat) (W : World) (K : Act → World → Prop), K (a₁ k) W →
      assign.wpIn (Fence.wide.inRound l) 0 P (Exit.then K (fun _ _ _ => False)) { tmps := (ps.zip (e k)).foldl (fun t (p, v) => t.setIfInBounds p v) a.tmps, defers := [] } W)
    (hbody : ∀ (l : Nat) (k : Nat) (W : World), w.heap.size ≤ l → k < N → I k W → body.wpIn (Fence.wide.inRound l) 0 P (postN w.heap.size R I (k + 1) W) (a₁ k) W)
    (hdone : ∀ (D : Nat) (W : World), w.heap.size ≤ D → I N W → W.heap[D]? = some (.deferred (some [])) → Q .normal { a with defers := { target := .collected D, args := #[] } :: a.defers } W) :
    (Code.rangeFunc g ps assign body).wpIn Fence.wide 0 P Q a w := by
  have hRlt := hrv.lt
  refine wpIn_rangeFunc ?_
  intro fn hfn
  rw [show Fence.wide.round = none from rfl]
  obtain ⟨rec, hrec⟩ : ∃ rec : LoopState → Option Code → Loop, rec = fun st pe => { state := st, pending := pe, fn, tmps := a.tmps, params := ps, assign, body, defers := w.heap.size } := ⟨_, rfl⟩
  obtain ⟨W1, hW1⟩ : ∃ W1, (w.alloc (.deferred (some []))).alloc (.loop (rec .ready none)) = W1 := ⟨_, rfl⟩
  have hL1 : W1.heap[w.heap.size + 1]? = some (.loop (rec .ready none)) := by
    rw [← hW1]; have := World.alloc_heap_new (w.alloc (.deferred (some []))) (.loop (rec .ready none)); rwa [World.size_alloc] at this
  have hK1 : W1.heap[w.heap.size]? = some (.deferred (some [])) := by
    rw [← hW1]; exact (Below.heap_alloc _ _ _ (by simp)).trans (World.alloc_heap_new w _)
  have hI1 : I 0 W1 := by rw [← hW1]; exact hI.alloc _ (hI.alloc _ h0)
  have hrv1 : Box1 W1 R rv := by
    rw [← hW1]; exact hrv.later (((Below.refl _ w).alloc (Nat.le_refl _) _).alloc (by simp) _)
  refine ⟨w.heap.size + 1, [{ target := .collected w.heap.size, args := #[] }], W1, { target := .fn (.func gf) lb, args := #[.func (.yield (w.heap.size + 1)) #[] #[]] }, W1, gf,
    #[.func (.yield (w.heap.size + 1)) #[] #[]] ++ lb, W1, ?_, ?_, ?_, ?_, (fun h => by cases h), ?_⟩
  · rw [← hW1, hrec]; exact run_enterLoop_outer _ _ _ _ _
  · simp only [resolve, hg]
    simp [go_sem]
  · intro f' hf'; trivial
  · simp [invoke, go_sem, eg]
  · refine (hseq (w.heap.size + 1)
      (fun k W => I k W ∧ W.heap[w.heap.size + 1]? = some (.loop (rec .ready none)) ∧ W.heap[w.heap.size]? = some (.deferred (some [])))
      W1 hrv1 ?_ ?_ ⟨hI1, hL1, hK1⟩).mono ?_
    · rintro k W x ⟨hi, hl, hk⟩
      refine ⟨hIR k W x hi, ?_, ?_⟩
      · rw [Below.heap_setCell W _ x _ (by show w.heap.size + 1 ≠ R; omega)]; exact hl
      · rw [Below.heap_setCell W _ x _ (by show w.heap.size ≠ R; omega)]; exact hk
    · -- ONE ROUND
      rintro k W hkN ⟨hi, hl, hk⟩
      have hlt : w.heap.size + 1 < W.heap.size := (Array.getElem?_eq_some_iff.1 hl).1
      have hy := run_yield (P := P) (args := e k) hl (by rw [hrec]; exact hps k)
      rw [hrec] at hy
      refine ⟨fn, _, assign, body, hy, roundIn_of_wpIn hfn (hassign _ k W _ ⟨_, run_beginRound hl (by rw [hrec]), ?_⟩)⟩
      have hl2 : (W.putObj (w.heap.size + 1) (.loop { rec .ready none with state := .busy })).heap[w.heap.size + 1]? = some (.loop { rec .ready none with state := .busy }) := World.putObj_heap_same hlt
      have hk2 : (W.putObj (w.heap.size + 1) (.loop { rec .ready none with state := .busy })).heap[w.heap.size]? = some (.deferred (some [])) := (World.putObj_heap_other (by omega)).trans hk
      have hw2 : ∀ x, Box1 W R x → Box1 (W.putObj (w.heap.size + 1) (.loop { rec .ready none with state := .busy })) R x := fun x hx => hx.putObj (by omega) _
      refine wpIn_mono (hbody _ k _ (by omega) hkN (hI.putObj _ hi (by omega) hl rfl)) ?_
      rintro e a3 W3 hp
      cases e with
      | normal =>
        obtain ⟨hk3, hkp3, hi3⟩ := hp
        have hl3 := hk3.same _ _ (by omega) hl2 rfl
        have hr := run_endRound (P := P) none hl3
        rw [hrec] at hr
        refine ⟨_, _, hr, rfl, ⟨hI.putObj _ hi3 (by omega) hl3 rfl, ?_, (World.putObj_heap_other (by omega)).trans (hk3.same _ _ (Nat.le_refl _) hk2 rfl)⟩, fun x hx => (hkp3 x (hw2 x hx)).putObj (by omega) _⟩
        rw [hrec]
        exact World.putObj_heap_same (Array.getElem?_eq_some_iff.1 hl3).1
      | ret => exact hp.elim
      | exit id => exact hp.elim
      | goto t => exact hp.elim
      | panic ch => exact hp.elim
      | outgrown => exact hp.elim
    · -- BEHIND THE ITERATOR
      rintro e W2 ⟨⟨v, rfl⟩, hi, hl, hk⟩
      exact ⟨none, _, by have := run_endLoop (P := P) hl (by rw [hrec]; simp); rw [hrec] at this; exact this, hdone _ _ (Nat.le_refl _) (hI.putObj _ hi (by omega) hl rfl) ((World.putObj_heap_other (by omega)).trans hk)⟩
end Go.Proofs.Ytpmhnmkpmkeadaa
