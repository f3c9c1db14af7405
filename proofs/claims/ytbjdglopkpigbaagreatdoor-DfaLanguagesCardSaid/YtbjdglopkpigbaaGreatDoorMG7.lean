import Derived.Laws.CopyOwn
import Derived.RangeFuncNested
import Derived.RangeFuncBound
import Derived.RangeFuncCalls
import Derived.RangeFuncLeaves
import Derived.Shelf.Abstract
import Derived.Shelf.RegionOpen
import Derived.WalkKit
import Derived.OwnWalkIn
import Derived.TacticsInMore
import Derived.LoopNIn
import Derived.LoopIn
import Derived.Test.YtbjdglopkpigbaaGreatDoorMG0
import Derived.Test.YtbjdglopkpigbaaGreatDoorMG4
import Derived.Test.YtbjdglopkpigbaaGreatDoorMG5
import Derived.Test.YtbjdglopkpigbaaGreatDoorMG6
/-
  NaO, NaEb, Range
-/
set_option linter.unusedSimpArgs false
set_option linter.unusedVariables false
namespace Go.Proofs.YtbjdglopkpigbaaGreatDoor.Na
open Go.RowKit
attribute [local go_sem] Oper.semAt_some
theorem elI64 : Elem Tryz.prog 26 3 (.int .i64 0) 1 8 := ⟨Tryz.underlying26, by kernel_rfl, rfl, by decide⟩
theorem elB : Elem Tryz.prog 22 4 (.bool false) 1 1 := ⟨Tryz.underlying22, by kernel_rfl, rfl, by decide⟩
theorem elA : Elem Tryz.prog 35 49 (.agg #[.int .i64 0, .int .i64 0, .int .i64 0]) 3 24 := ⟨Tryz.underlying35, by kernel_rfl, rfl, by decide⟩
theorem boxNW (a : Nfa) (h : NH) (w : World) (hd : IsNfa w h a) : ∃ W1, w.alloc (.cells #[.int .i64 a.n, .slice h.sa h.sl h.sc, .slice h.fa h.fl h.fc, .slice h.aa h.al h.ac] 43) = W1 ∧ W1.heap.size = w.heap.size + 1 ∧ Below w.heap.size w W1 ∧ ∀ W, Below (w.heap.size + 1) W1 W → (W.cell? ⟨w.heap.size, 0, none⟩ = some (.int .i64 a.n) ∧ W.cell? ⟨w.heap.size, 1, none⟩ = some (.slice h.sa h.sl h.sc) ∧ W.cell? ⟨w.heap.size, 2, none⟩ = some (.slice h.fa h.fl h.fc) ∧ W.cell? ⟨w.heap.size, 3, none⟩ = some (.slice h.aa h.al h.ac)) ∧ IsNfa W h a ∧ Below w.heap.size w W := by
 obtain ⟨hb1, hs1, hO⟩ := boxN a.n h.sa h.sl h.sc h.fa h.fl h.fc h.aa h.al h.ac w
 refine ⟨_, rfl, hs1, hb1, fun W hb => ?_⟩
 have hB : Below w.heap.size w W := hb1.trans (hb.mono (Nat.le_succ _))
 exact ⟨hO W hb, hd.later hB, hB⟩
theorem _root_.Go.Proofs.YtbjdglopkpigbaaGreatDoor.Pcs.oneN {W : World} {B : Nat} {p : Pc} (h : p.At W B) : Pcs W B [p] := by
 refine ⟨fun i q hq => ?_, fun i j q r hne hq hr => ?_⟩
 ·cases i with
  | zero => simp at hq; subst hq; exact h
  | succ i => simp at hq
 ·cases i with
  | zero =>
   cases j with
   | zero => omega
   | succ j => simp at hr
  | succ i => simp at hq
theorem set_gb {os : List Bool} {n : Nat} (h : gb os n = true) : os.set n true = os := by
 have hl : n < os.length := Nat.lt_of_not_le fun hle => by
  have : gb os n = false := by unfold gb; rw [List.getD_eq_getElem?_getD, List.getElem?_eq_none hle]; rfl
  rw [this] at h; cases h
 refine gb_ext' (by simp) fun i hi => ?_
 rw [gb_set' hl]
 by_cases e : i = n
 ·subst e; rw [if_pos rfl, h]
 ·rw [if_neg e]
end Go.Proofs.YtbjdglopkpigbaaGreatDoor.Na
namespace Go.Proofs.YtbjdglopkpigbaaGreatDoor.Na
open Go.RowKit
attribute [local go_sem] Oper.semAt_some
def cloPs (po pt gr N : Nat) (os : List Bool) (td : List Int) (vt : Value) : List Pc :=
 [.row 4 1 (.slice (some ⟨gr, 0, none⟩) N N) N (bvs os), .blk po #[.slice (some ⟨gr, 0, none⟩) N N], .blk pt #[vt], .row 3 1 vt td.length (ivs .i64 td)]
def Visited (B po pt gr N : Nat) (os : List Bool) (td : List Int) (n : Nat) (W W' : World) : Prop := (∃ a' c', Pcs W' B (cloPs po pt gr N (os.set n true) (tdN os td n) (.slice a' (tdN os td n).length c'))) ∧ Below B W W'
theorem visit_any {W : World} {B po pt gr N n : Nat} {os : List Bool} {td : List Int} {at' : Option Addr} {ct : Nat} (hP : Pcs W B (cloPs po pt gr N os td (.slice at' td.length ct))) (hos : os.length = N) (hn : n < N) (htd : td.length ≤ 1000) (hB : B ≤ W.heap.size) :
  Calls Tryz.prog 44 #[.int .i64 (n : Int), .pointer (some ⟨po, 0, none⟩), .pointer (some ⟨pt, 0, none⟩)] W fun e W' => e = .returned (.tuple #[]) ∧ Visited B po pt gr N os td n W W' := by
 have c0 : W.cell? ⟨po, 0, none⟩ = some (.slice (some ⟨gr, 0, none⟩) N N) := ((hP.blk 1 rfl).2.cell 0).1
 obtain ⟨k0, f0⟩ := bown_cell (hP.row 0 rfl) hn hos
 cases hg : gb os n with
 | true =>
  rw [hg] at k0
  have HV : Hid (Visited B po pt gr N os td n W W) := Lib.hid ⟨⟨at', ct, by unfold tdN; rw [if_pos hg, set_gb hg]; exact hP⟩, Below.refl _ _⟩
  clear hP
  go_enter Tryz.func44, Tryz.ntmps44
  go_wp2
  exact ⟨rfl, _, results_none rfl _ _ _, rfl, HV.out⟩
 | false =>
  rw [hg] at k0
  have hT : Hid (tdN os td n = td ++ [(n : Int)]) := Lib.hid (by unfold tdN; rw [hg]; rfl)
  have hP1 := hP.rowStore 0 rfl n (.bool true)
  obtain ⟨W1, hW1⟩ : ∃ W1, W.setCell ⟨gr, n, none⟩ (.bool true) = W1 := ⟨_, rfl⟩
  rw [hW1] at hP1
  have hgB : B ≤ gr := ((hP.each 0 _ rfl).lt rfl).1
  have hb1 : Below B W W1 := by rw [← hW1]; exact (Below.refl _ _).setCell hgB _
  have hs1 : W1.heap.size = W.heap.size := by rw [← hW1, World.size_setCell]
  have c1 : W1.cell? ⟨pt, 0, none⟩ = some (.slice at' td.length ct) := ((hP1.blk 2 rfl).2.cell 0).1
  have hb2 : Below B W (W1.alloc (.cells #[.int .i64 (n : Int)] 3)) := hb1.alloc (by omega) _
  have hP2 := hP1.quiet (below_grows ((Below.refl _ _).alloc (Nat.le_refl _) (.cells #[.int .i64 (n : Int)] 3)) none)
  have HP2 := Lib.hid hP2
  have HB2 := Lib.hid hb2
  have HW1 := Lib.hid hW1
  have hsz : Hid (B ≤ (W1.alloc (.cells #[.int .i64 (n : Int)] 3)).heap.size ∧ W.heap.size = W1.heap.size) := Lib.hid ⟨by simp; omega, hs1.symm⟩
  clear hP hP1 hP2 hb1 hb2 hs1 hgB
  go_enter Tryz.func44, Tryz.ntmps44
  subst hW1
  go_wp2_with (at_builtin; refine app_pcs elI64 rfl _ _ rfl 3 rfl HP2.out rfl rfl (by rw [hsz.out.2]; exact new_src _ #[.int .i64 (n : Int)] _ rfl) (by intro u hu; rw [List.mem_singleton.1 hu]; rfl) (by omega) hsz.out.1 ?_; intro a9 c9 w9 hp9 hb9; have z9 := (hp9.blk 2 rfl).2.cell 0; have z9a : w9.cell? ⟨pt, 0, none⟩ = some (.slice at' td.length ct) := z9.1; have z9b : w9.frozen? ⟨pt, 0, none⟩ = false := z9.2; clear z9)
  refine ⟨rfl, _, results_none rfl _ _ _, rfl, ⟨a9, c9, ?_⟩, Below.setCell (p := ⟨pt, 0, none⟩) (HB2.out.trans hb9) (hp9.blk 2 rfl).1 _⟩
  have h1 := hp9.blkStore 2 rfl 0 (.slice a9 (td.length + 1) c9)
  have e1 : (td ++ [(n : Int)]).length = td.length + 1 := by simp
  have e2 : bvs (os.set n true) = (bvs os).set n (.bool true) := by simp [bvs]
  have e3 : ivs .i64 (td ++ [(n : Int)]) = ivs .i64 td ++ [.int .i64 (n : Int)] := by simp [ivs]
  unfold cloPs
  rw [hT.out, e1, e2, e3]
  exact h1
end Go.Proofs.YtbjdglopkpigbaaGreatDoor.Na
namespace Go.Proofs.YtbjdglopkpigbaaGreatDoor
open Go.RowKit Go.Shelf
def MethGives {α : Type} (F : Fence) (n : Nat) (P : Program) (gf : Nat) (s : Value) (enc : α → Value) (xs : List α) (B : Nat) (w : World) : Prop :=
 ∀ (l : Nat) (J Jx : List α → World → Prop) (W : World), (∀ pre W, J pre W → Below B w W) →
  (∀ pre x W, J pre W → pre ++ [x] <+: xs → YieldAt F (n - 1) P l #[enc x] W fun e W' => (e = .returned (.bool true) ∧ J (pre ++ [x]) W') ∨ (e = .returned (.bool false) ∧ Jx (pre ++ [x]) W')) →
  J [] W → CallsIn F n P gf #[s, .func (.yield l) #[] #[]] W fun e W' => (∃ v, e = .returned v) ∧ (J xs W' ∨ ∃ pre, pre <+: xs ∧ Jx pre W')
def roundEnd {α : Type} (H : Nat) (I : List α → World → Prop) (Ix : List α → World → Prop) (pre : List α) (W : World) : Exit → Act → World → Prop
 | .normal, _, W' => (∀ j o, H ≤ j → j < H + 2 → W.heap[j]? = some o → o.isCells = false → W'.heap[j]? = some o) ∧ I pre W'
 | .ret, _, W' => (∀ j o, H ≤ j → j < H + 2 → W.heap[j]? = some o → o.isCells = false → W'.heap[j]? = some o) ∧ Ix pre W'
 | _, _, _ => False
theorem range_meth {α : Type} {F : Fence} {n : Nat} {P : Program} {g : Operand} {ps : Array Tmp} {assign body : Code} {Q : Exit → Act → World → Prop} {a : Act} {w : World}
  (hro : F.round = none) (h1 : 1 ≤ n) {gf : Nat} {s : Value} (hg : a.eval g = .func (.func gf) #[s] #[]) (hFg : F.fn gf) (eg : ∀ args w, (callFunc gf args).run P w = .ok (.enter gf args) w)
  {enc : α → Value} {xs : List α} {B : Nat} {w0 : World} (hseq : MethGives F (n - 1) P gf s enc xs B w0) (hps : ps.size = 1)
  (I Ix : List α → World → Prop) (hIb : ∀ pre W, I pre W → Below B w0 W)
  (hI : ∀ pre W j o o', w.heap.size ≤ j → W.heap[j]? = some o' → o'.isCells = false → I pre W → I pre (W.putObj j o)) (hIx : ∀ pre W j o o', w.heap.size ≤ j → W.heap[j]? = some o' → o'.isCells = false → Ix pre W → Ix pre (W.putObj j o))
  (h0 : ∀ r, I [] ((w.alloc (.deferred (some []))).alloc (.loop r))) (a₁ : α → Act)
  (hassign : ∀ (l : Nat) (x : α) (W : World) (K : Act → World → Prop), K (a₁ x) W →
   assign.wpIn (F.inRound l) (n - 1 - 1) P (Exit.then K (fun _ _ _ => False)) { tmps := (ps.zip #[enc x]).foldl (fun t (p, v) => t.setIfInBounds p v) a.tmps, defers := [] } W)
  (hbody : ∀ (l : Nat) (pre : List α) (x : α) (W : World), w.heap.size + 2 ≤ W.heap.size → pre ++ [x] <+: xs → I pre W → body.wpIn (F.inRound l) (n - 1 - 1) P (roundEnd w.heap.size I Ix (pre ++ [x]) W) (a₁ x) W)
  (hdone : ∀ (W : World), I xs W → W.heap[w.heap.size]? = some (.deferred (some [])) → Q .normal { a with defers := { target := .collected w.heap.size, args := #[] } :: a.defers } W)
  (hstop : ∀ (pre : List α) (W : World), pre <+: xs → Ix pre W → W.heap[w.heap.size]? = some (.deferred (some [])) → Code.ret.wpIn F n P Q { a with defers := { target := .collected w.heap.size, args := #[] } :: a.defers } W) :
  (Code.rangeFunc g ps assign body).wpIn F n P Q a w := by
 refine wpIn_rangeFunc fun fn hfn => ?_
 rw [hro]
 obtain ⟨R, hR⟩ : ∃ R : LoopState → Option Code → Loop, R = fun st pe => { state := st, pending := pe, fn, tmps := a.tmps, params := ps, assign, body, defers := w.heap.size } := ⟨_, rfl⟩
 have hnew := heap_alloc_new (w.alloc (.deferred (some []))) (.loop (R .ready none))
 rw [World.size_alloc] at hnew
 have hdef : ((w.alloc (.deferred (some []))).alloc (.loop (R .ready none))).heap[w.heap.size]? = some (.deferred (some [])) :=
  (Below.heap_alloc _ _ _ (by simp)).trans (heap_alloc_new w _)
 have hst := h0 (R .ready none)
 obtain ⟨W1, hW1⟩ : ∃ W1, (w.alloc (.deferred (some []))).alloc (.loop (R .ready none)) = W1 := ⟨_, rfl⟩
 rw [hW1] at hnew hdef hst
 refine ⟨w.heap.size + 1, [{ target := .collected w.heap.size, args := #[] }], W1, { target := .fn (.func gf) #[], args := #[s, .func (.yield (w.heap.size + 1)) #[] #[]] }, W1, gf, #[s, .func (.yield (w.heap.size + 1)) #[] #[]], W1, by rw [← hW1, hR]; exact run_enterLoop_outer _ _ _ _ _, ?_, ?_, ?_, fun _ => h1, ?_⟩
 ·simp only [resolve, hg]
  simp [go_sem]
 ·intro f' hf'; simp [Target.leads] at hf'; subst hf'; exact hFg
 ·simp [invoke, go_sem, eg]
 ·refine (hseq (w.heap.size + 1)
   (fun pre W => I pre W ∧ W.heap[w.heap.size + 1]? = some (.loop (R .ready none)) ∧ W.heap[w.heap.size]? = some (.deferred (some [])))
   (fun pre W => Ix pre W ∧ W.heap[w.heap.size + 1]? = some (.loop (R .done (some .ret))) ∧ W.heap[w.heap.size]? = some (.deferred (some [])))
   W1 (fun pre W h => hIb pre W h.1) ?_ ⟨hst, hnew, hdef⟩).mono ?_
  ·rintro pre x W ⟨hi, hl, hk⟩ hpre
   have hlt : w.heap.size + 1 < W.heap.size := (Array.getElem?_eq_some_iff.1 hl).1
   have hy := run_yield (P := P) (args := #[enc x]) hl (by rw [hR]; exact hps.symm)
   rw [hR] at hy
   refine ⟨fn, _, assign, body, hy, roundIn_of_wpIn hfn (hassign _ x W _ ⟨_, run_beginRound hl (by rw [hR]), ?_⟩)⟩
   obtain ⟨W2, hW2⟩ : ∃ W2, W.putObj (w.heap.size + 1) (.loop { R .ready none with state := .busy }) = W2 := ⟨_, rfl⟩
   have hl2 : W2.heap[w.heap.size + 1]? = some (.loop { R .ready none with state := .busy }) := by rw [← hW2]; exact World.putObj_heap_same hlt
   have hk2 : W2.heap[w.heap.size]? = some (.deferred (some [])) := by rw [← hW2]; exact (World.putObj_heap_other (by omega)).trans hk
   have hi2 : I pre W2 := by rw [← hW2]; exact hI _ _ _ _ _ (by omega) hl rfl hi
   rw [hW2]
   refine wpIn_mono (hbody _ pre x _ (by have := (Array.getElem?_eq_some_iff.1 hl2).1; omega) hpre hi2) ?_
   rintro e a3 W3 hp
   cases e with
   | normal =>
    obtain ⟨hkeep, hi3⟩ := hp
    have hl3 := hkeep _ _ (by omega) (by omega) hl2 rfl
    have hk3 := hkeep _ _ (by omega) (by omega) hk2 rfl
    have hr := run_endRound (P := P) none hl3
    refine ⟨_, _, hr, .inl ⟨rfl, hI _ _ _ _ _ (by omega) hl3 rfl hi3, ?_, (World.putObj_heap_other (by omega)).trans hk3⟩⟩
    rw [hR]
    exact World.putObj_heap_same (Array.getElem?_eq_some_iff.1 hl3).1
   | ret =>
    obtain ⟨hkeep, hi3⟩ := hp
    have hl3 := hkeep _ _ (by omega) (by omega) hl2 rfl
    have hk3 := hkeep _ _ (by omega) (by omega) hk2 rfl
    have hr := run_endRound (P := P) (some .ret) hl3
    refine ⟨_, _, hr, .inr ⟨rfl, hIx _ _ _ _ _ (by omega) hl3 rfl hi3, ?_, (World.putObj_heap_other (by omega)).trans hk3⟩⟩
    rw [hR]
    exact World.putObj_heap_same (Array.getElem?_eq_some_iff.1 hl3).1
   | exit id => exact hp.elim
   | goto t => exact hp.elim
   | panic ch => exact hp.elim
   | outgrown => exact hp.elim
  ·rintro e W2 ⟨⟨v, rfl⟩, (⟨hi, hl, hk⟩ | ⟨pre, hpre, hi, hl, hk⟩)⟩
   ·have hr := run_endLoop (P := P) hl (by rw [hR]; simp)
    rw [hR] at hr
    exact ⟨none, _, hr, hdone _ (hI _ _ _ _ _ (by omega) hl rfl hi) ((World.putObj_heap_other (by omega)).trans hk)⟩
   ·have hr := run_endLoop (P := P) hl (by rw [hR]; simp)
    rw [hR] at hr
    exact ⟨some .ret, _, hr, hstop pre _ hpre (hIx _ _ _ _ _ (by omega) hl rfl hi) ((World.putObj_heap_other (by omega)).trans hk)⟩
end Go.Proofs.YtbjdglopkpigbaaGreatDoor
