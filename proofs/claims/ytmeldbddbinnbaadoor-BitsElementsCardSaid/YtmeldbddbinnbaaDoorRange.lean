/-
  A loop over a method value: the receiver stands ahead of yield.
-/
import Derived.RangeFuncNested
import Derived.RangeFuncBound
import Derived.RangeFuncCalls
import Derived.RangeFuncLeaves
import Derived.Shelf.Abstract
import Derived.Shelf.RegionOpen
import Derived.WalkKit
import Derived.OwnWalkIn
import Derived.TacticsInMore
import Derived.LoopNIn
import Derived.LoopIn
import Derived.Test.YtmeldbddbinnbaaDoorOwn
namespace Go.Proofs.YtmeldbddbinnbaaDoor
open Go.RowKit Go.Shelf

/-- What an iterator promises that is called with its receiver and with yield: all of xs, or a part of it where a round has said no. -/
def MethGives {α : Type} (F : Fence) (n : Nat) (P : Program) (gf : Nat) (s : Value) (enc : α → Value) (xs : List α) (B : Nat) (w : World) : Prop :=
  ∀ (l : Nat) (J Jx : List α → World → Prop) (W : World), (∀ pre W, J pre W → Below B w W) →
    (∀ pre x W, J pre W → pre ++ [x] <+: xs → YieldAt F (n - 1) P l #[enc x] W fun e W' => (e = .returned (.bool true) ∧ J (pre ++ [x]) W') ∨ (e = .returned (.bool false) ∧ Jx (pre ++ [x]) W')) →
    J [] W → CallsIn F n P gf #[s, .func (.yield l) #[] #[]] W fun e W' => (∃ v, e = .returned v) ∧ (J xs W' ∨ ∃ pre, pre <+: xs ∧ Jx pre W')

/-- How a round may be left. -/
def roundEnd {α : Type} (H : Nat) (I : List α → World → Prop) (Ix : List α → World → Prop) (pre : List α) (W : World) : Exit → Act → World → Prop
  | .normal, _, W' => (∀ j o, H ≤ j → j < H + 2 → W.heap[j]? = some o → o.isCells = false → W'.heap[j]? = some o) ∧ I pre W'
  | .ret, _, W' => (∀ j o, H ≤ j → j < H + 2 → W.heap[j]? = some o → o.isCells = false → W'.heap[j]? = some o) ∧ Ix pre W'
  | _, _, _ => False

theorem range_meth {α : Type} {F : Fence} {n : Nat} {P : Program} {g : Operand} {ps : Array Tmp} {assign body : Code} {Q : Exit → Act → World → Prop} {a : Act} {w : World}
    (hro : F.round = none) (h1 : 1 ≤ n) {gf : Nat} {s : Value} (hg : a.eval g = .func (.func gf) #[s] #[]) (hFg : F.fn gf) (eg : ∀ args w, (callFunc gf args).run P w = .ok (.enter gf args) w)
    {enc : α → Value} {xs : List α} {B : Nat} {w0 : World} (hseq : MethGives F (n - 1) P gf s enc xs B w0) (hps : ps.size = 1)
    (I Ix : List α → World → Prop) (hIb : ∀ pre W, I pre W → Below B w0 W)
    (hI : ∀ pre W j o o', w.heap.size ≤ j → W.heap[j]? = some o' → o'.isCells = false → I pre W → I pre (W.putObj j o)) (hIx : ∀ pre W j o o', w.heap.size ≤ j → W.heap[j]? = some o' → o'.isCells = false → Ix pre W → Ix pre (W.putObj j o))
    (h0 : ∀ r, I [] ((w.alloc (.deferred (some []))).alloc (.loop r))) (a₁ : α → Act)
    (hassign : ∀ (l : Nat) (x : α) (W : World) (K : Act → World → Prop), K (a₁ x) W →
      assign.wpIn (F.inRound l) (n - 1 - 1) P (Exit.then K (fun _ _ _ => False)) { tmps := (ps.zip #[enc x]).foldl (fun t (p, v) => t.setIfInBounds p v) a.tmps, defers := [] } W)
    (hbody : ∀ (l : Nat) (pre : List α) (x : α) (W : World), w.heap.size + 2 ≤ W.heap.size → pre ++ [x] <+: xs → I pre W → body.wpIn (F.inRound l) (n - 1 - 1) P (roundEnd w.heap.size I Ix (pre ++ [x]) W) (a₁ x) W)
    (hdone : ∀ (W : World), I xs W → W.heap[w.heap.size]? = some (.deferred (some [])) → Q .normal { a with defers := { target := .collected w.heap.size, args := #[] } :: a.defers } W)
    (hstop : ∀ (pre : List α) (W : World), pre <+: xs → Ix pre W → W.heap[w.heap.size]? = some (.deferred (some [])) → Code.ret.wpIn F n P Q { a with defers := { target := .collected w.heap.size, args := #[] } :: a.defers } W) :
    (Code.rangeFunc g ps assign body).wpIn F n P Q a w := by
  refine wpIn_rangeFunc fun fn hfn => ?_
  rw [hro]
  obtain ⟨R, hR⟩ : ∃ R : LoopState → Option Code → Loop, R = fun st pe => { state := st, pending := pe, fn, tmps := a.tmps, params := ps, assign, body, defers := w.heap.size } := ⟨_, rfl⟩
  have hnew := heap_alloc_new (w.alloc (.deferred (some []))) (.loop (R .ready none))
  rw [World.size_alloc] at hnew
  have hdef : ((w.alloc (.deferred (some []))).alloc (.loop (R .ready none))).heap[w.heap.size]? = some (.deferred (some [])) :=
    (Below.heap_alloc _ _ _ (by simp)).trans (heap_alloc_new w _)
  have hst := h0 (R .ready none)
  obtain ⟨W1, hW1⟩ : ∃ W1, (w.alloc (.deferred (some []))).alloc (.loop (R .ready none)) = W1 := ⟨_, rfl⟩
  rw [hW1] at hnew hdef hst
  refine ⟨w.heap.size + 1, [{ target := .collected w.heap.size, args := #[] }], W1, { target := .fn (.func gf) #[], args := #[s, .func (.yield (w.heap.size + 1)) #[] #[]] }, W1, gf, #[s, .func (.yield (w.heap.size + 1)) #[] #[]], W1, by rw [← hW1, hR]; exact run_enterLoop_outer _ _ _ _ _, ?_, ?_, ?_, fun _ => h1, ?_⟩
  · simp only [resolve, hg]
    simp [go_sem]
  · intro f' hf'; simp [Target.leads] at hf'; subst hf'; exact hFg
  · simp [invoke, go_sem, eg]
  · refine (hseq (w.heap.size + 1)
      (fun pre W => I pre W ∧ W.heap[w.heap.size + 1]? = some (.loop (R .ready none)) ∧ W.heap[w.heap.size]? = some (.deferred (some [])))
      (fun pre W => Ix pre W ∧ W.heap[w.heap.size + 1]? = some (.loop (R .done (some .ret))) ∧ W.heap[w.heap.size]? = some (.deferred (some [])))
      W1 (fun pre W h => hIb pre W h.1) ?_ ⟨hst, hnew, hdef⟩).mono ?_
    · rintro pre x W ⟨hi, hl, hk⟩ hpre
      have hlt : w.heap.size + 1 < W.heap.size := (Array.getElem?_eq_some_iff.1 hl).1
      have hy := run_yield (P := P) (args := #[enc x]) hl (by rw [hR]; exact hps.symm)
      rw [hR] at hy
      refine ⟨fn, _, assign, body, hy, roundIn_of_wpIn hfn (hassign _ x W _ ⟨_, run_beginRound hl (by rw [hR]), ?_⟩)⟩
      obtain ⟨W2, hW2⟩ : ∃ W2, W.putObj (w.heap.size + 1) (.loop { R .ready none with state := .busy }) = W2 := ⟨_, rfl⟩
      have hl2 : W2.heap[w.heap.size + 1]? = some (.loop { R .ready none with state := .busy }) := by rw [← hW2]; exact World.putObj_heap_same hlt
      have hk2 : W2.heap[w.heap.size]? = some (.deferred (some [])) := by rw [← hW2]; exact (World.putObj_heap_other (by omega)).trans hk
      have hi2 : I pre W2 := by rw [← hW2]; exact hI _ _ _ _ _ (by omega) hl rfl hi
      rw [hW2]
      refine wpIn_mono (hbody _ pre x _ (by have := (Array.getElem?_eq_some_iff.1 hl2).1; omega) hpre hi2) ?_
      rintro e a3 W3 hp
      cases e with
      | normal =>
        obtain ⟨hkeep, hi3⟩ := hp
        have hl3 := hkeep _ _ (by omega) (by omega) hl2 rfl
        have hk3 := hkeep _ _ (by omega) (by omega) hk2 rfl
        have hr := run_endRound (P := P) none hl3
        refine ⟨_, _, hr, .inl ⟨rfl, hI _ _ _ _ _ (by omega) hl3 rfl hi3, ?_, (World.putObj_heap_other (by omega)).trans hk3⟩⟩
        rw [hR]
        exact World.putObj_heap_same (Array.getElem?_eq_some_iff.1 hl3).1
      | ret =>
        obtain ⟨hkeep, hi3⟩ := hp
        have hl3 := hkeep _ _ (by omega) (by omega) hl2 rfl
        have hk3 := hkeep _ _ (by omega) (by omega) hk2 rfl
        have hr := run_endRound (P := P) (some .ret) hl3
        refine ⟨_, _, hr, .inr ⟨rfl, hIx _ _ _ _ _ (by omega) hl3 rfl hi3, ?_, (World.putObj_heap_other (by omega)).trans hk3⟩⟩
        rw [hR]
        exact World.putObj_heap_same (Array.getElem?_eq_some_iff.1 hl3).1
      | exit id => exact hp.elim
      | goto t => exact hp.elim
      | panic ch => exact hp.elim
      | outgrown => exact hp.elim
    · rintro e W2 ⟨⟨v, rfl⟩, (⟨hi, hl, hk⟩ | ⟨pre, hpre, hi, hl, hk⟩)⟩
      · have hr := run_endLoop (P := P) hl (by rw [hR]; simp)
        rw [hR] at hr
        exact ⟨none, _, hr, hdone _ (hI _ _ _ _ _ (by omega) hl rfl hi) ((World.putObj_heap_other (by omega)).trans hk)⟩
      · have hr := run_endLoop (P := P) hl (by rw [hR]; simp)
        rw [hR] at hr
        exact ⟨some .ret, _, hr, hstop pre _ hpre (hIx _ _ _ _ _ (by omega) hl rfl hi) ((World.putObj_heap_other (by omega)).trans hk)⟩
end Go.Proofs.YtmeldbddbinnbaaDoor
