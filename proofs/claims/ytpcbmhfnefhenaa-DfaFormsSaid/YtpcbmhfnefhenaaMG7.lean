import Derived.Test.YtpcbmhfnefhenaaMG3
import Derived.Test.YtpcbmhfnefhenaaMG6
/-
  DfaP, DfaD
-/
set_option linter.unusedVariables false
namespace Go.Proofs.Ytpcbmhfnefhenaa

def runD (ar : List A3) : Int → List Int → Option Int
  | q, [] => some q
  | q, c :: w => match nxtD ar q c with
    | some x => runD ar x.t w
    | none => none
def accQ (d : Dfa) (q : Int) (w : List Int) : Bool := match runD d.arcs q w with
  | some p => gb d.fin p.toNat
  | none => false
theorem accQ_nil (d : Dfa) (q : Int) : accQ d q [] = gb d.fin q.toNat := rfl
theorem accQ_some {d : Dfa} {q c : Int} {x : A3} (h : nxtD d.arcs q c = some x) (w : List Int) : accQ d q (c :: w) = accQ d x.t w := by
  unfold accQ
  rw [runD, h]
theorem accQ_none {d : Dfa} {q c : Int} (h : nxtD d.arcs q c = none) (w : List Int) : accQ d q (c :: w) = false := by
  unfold accQ
  rw [runD, h]
open Classical in
noncomputable def accD (d : Dfa) (w : List Int) : Bool := vD d && accQ d d.s w
theorem nxtD_mem {ar : List A3} {q c : Int} {x : A3} (h : nxtD ar q c = some x) : x ∈ ar ∧ x.f = q ∧ x.l = c := by
  unfold nxtD at h
  have h1 := List.mem_of_find?_eq_some h
  have h2 := List.find?_some h
  simp at h2
  exact ⟨h1, h2⟩
theorem nxtD_unique {ar : List A3} (hS : SortedA ar) {x : A3} (hx : x ∈ ar) : nxtD ar x.f x.l = some x := by
  cases h : nxtD ar x.f x.l with
  | none =>
    unfold nxtD at h
    have := List.find?_eq_none.1 h x hx
    simp at this
  | some y =>
    obtain ⟨hy, h1, h2⟩ := nxtD_mem h
    obtain ⟨i, hi, ei⟩ := List.getElem_of_mem hx
    obtain ⟨j, hj, ej⟩ := List.getElem_of_mem hy
    rcases Nat.lt_trichotomy i j with h3 | h3 | h3
    · have := hS.lt h3 hj
      rw [g3_eq _ _ hi, g3_eq _ _ hj, ei, ej] at this
      unfold LtA at this
      omega
    · subst h3; rw [← ei, ← ej]
    · have := hS.lt h3 hi
      rw [g3_eq _ _ hi, g3_eq _ _ hj, ei, ej] at this
      unfold LtA at this
      omega
end Go.Proofs.Ytpcbmhfnefhenaa

set_option linter.unusedSimpArgs false
set_option linter.unusedVariables false
namespace Go.Proofs.Ytpcbmhfnefhenaa
open Go.RowKit
attribute [local go_sem] Oper.semAt_some

variable {d : Dfa} {h : DH} {w : World}
theorem valid_yes (hv : ValidD d) (hd : IsDfa w h d) : Calls Try.prog 22 #[vDf d h] w fun e w' => e = .returned (.bool true) ∧ Below w.heap.size w w' :=
  (valid_any d h w hd).mono fun e w' ⟨h1, h2⟩ => ⟨by rw [h1, vD_yes hv], h2⟩
theorem valid_no (hv : ¬ ValidD d) (hd : IsDfa w h d) : Calls Try.prog 22 #[vDf d h] w fun e w' => e = .returned (.bool false) ∧ Below w.heap.size w w' :=
  (valid_any d h w hd).mono fun e w' ⟨h1, h2⟩ => ⟨by rw [h1, vD_no hv], h2⟩
theorem boxDW (d : Dfa) (h : DH) (w : World) (hd : IsDfa w h d) : ∃ W1, w.alloc (.cells #[.int .i64 d.n, .int .i64 d.s, .slice h.fa h.fl h.fc, .slice h.aa h.al h.ac] 30) = W1 ∧ W1.heap.size = w.heap.size + 1 ∧ Below w.heap.size w W1 ∧
    ∀ W, Below (w.heap.size + 1) W1 W → (W.cell? ⟨w.heap.size, 0, none⟩ = some (.int .i64 d.n) ∧ W.cell? ⟨w.heap.size, 1, none⟩ = some (.int .i64 d.s) ∧ W.cell? ⟨w.heap.size, 2, none⟩ = some (.slice h.fa h.fl h.fc) ∧ W.cell? ⟨w.heap.size, 3, none⟩ = some (.slice h.aa h.al h.ac)) ∧ IsDfa W h d ∧ Below w.heap.size w W := by
  obtain ⟨h1, h2, h3⟩ := boxD d.n d.s h.fa h.fl h.fc h.aa h.al h.ac w
  exact ⟨_, rfl, h2, h1, fun W hb => ⟨h3 W hb, hd.later (h1.trans (hb.mono (by omega))), h1.trans (hb.mono (by omega))⟩⟩
open Classical in
noncomputable def nextR (d : Dfa) (q c : Int) : Value := if ValidD d then nextV d.arcs q c else .tuple #[.int .i64 0, .bool false]
theorem nextV_two (ar : List A3) (q c : Int) : ∃ x b, nextV ar q c = .tuple #[.int .i64 x, .bool b] := by
  unfold nextV
  cases nxtD ar q c with
  | none => exact ⟨_, _, rfl⟩
  | some x => exact ⟨_, _, rfl⟩
theorem Next_any (q c : Int) (hd : IsDfa w h d) : Calls Try.prog 27 #[vDf d h, .int .i64 q, .int .i64 c] w fun e w' => e = .returned (nextR d q c) ∧ Below w.heap.size w w' := by
  by_cases hv : ValidD d
  · have HR : Hid (nextR d q c = nextV d.arcs q c) := Lib.hid (by unfold nextR; rw [if_pos hv])
    have hS := hv.sorted
    have hl := hv.2.2.2.1
    obtain ⟨x, b, hxb⟩ := nextV_two d.arcs q c
    have HX := Lib.hid hxb
    obtain ⟨W1, hW1, hs1, hb1, hO⟩ := boxDW d h w hd
    obtain ⟨⟨c1, c2, c3, c4⟩, hd1, -⟩ := hO W1 (Below.refl _ _)
    have hva := valid_yes hv hd1
    have hne := fun W hW => next_any d h q c W hW hS hl
    obtain ⟨n, s, fin, es⟩ := d
    obtain ⟨fa, fl, fc, aa, al, ac⟩ := h
    simp only [vDf] at hW1 hs1 hb1 hO c1 c2 c3 c4 hva hne HX HR ⊢
    rw [HX.out] at hne
    clear hv hxb
    go_enter Try.func27, Try.ntmps27
    go_wp2_with (first | (go_at_call 22; refine hva.mono ?_; rintro e w2 ⟨rfl, hb2⟩; obtain ⟨⟨c1', c2', c3', c4'⟩, hd2, hb02⟩ := hO w2 (hb2.mono (by omega))) | (go_at_call 53; refine (hne _ hd2).mono ?_; rintro e w3 ⟨rfl, hb3⟩))
    go_ret2
    exact ⟨by rw [HR.out, HX.out]; rfl, hb02.trans (hb3.mono hb02.size)⟩
  · have HR : Hid (nextR d q c = .tuple #[.int .i64 0, .bool false]) := Lib.hid (by unfold nextR; rw [if_neg hv])
    obtain ⟨W1, hW1, hs1, hb1, hO⟩ := boxDW d h w hd
    obtain ⟨⟨c1, c2, c3, c4⟩, hd1, -⟩ := hO W1 (Below.refl _ _)
    have hva := valid_no hv hd1
    obtain ⟨n, s, fin, es⟩ := d
    obtain ⟨fa, fl, fc, aa, al, ac⟩ := h
    simp only [vDf] at hW1 hs1 hb1 hO c1 c2 c3 c4 hva HR ⊢
    clear hv
    go_enter Try.func27, Try.ntmps27
    go_wp2_with (go_at_call 22; refine hva.mono ?_; rintro e w2 ⟨rfl, hb2⟩)
    go_ret2
    exact ⟨by rw [HR.out]; rfl, hb1.trans (hb2.mono (by omega))⟩
end Go.Proofs.Ytpcbmhfnefhenaa
