import Derived.Test.YtpcbmhfnefhenaaMG10
import Derived.Test.YtpcbmhfnefhenaaMG27
/-
  DfaMx, DfaAm
-/
set_option linter.unusedSimpArgs false
set_option linter.unusedVariables false
namespace Go.Proofs.Ytpcbmhfnefhenaa
open Go.RowKit
attribute [local go_sem] Oper.semAt_some
set_option maxRecDepth 20000 in
set_option maxHeartbeats 4000000 in
theorem minimize_no {d : Dfa} {h : DH} {w : World} (hv : ¬ ValidD d) (hd : IsDfa w h d) : Calls Try.prog 18 #[vDf d h] w (GivesDE zeroD 1 w) := by
 obtain ⟨W1, hW1, hs1, hb1, hO⟩ := boxDW d h w hd
 obtain ⟨W2, hW2, hb2, hs2, hZ2⟩ := box_ready hs1
 have HO : Hid (∀ W, Below (w.heap.size + 1) W2 W → (W.cell? ⟨w.heap.size, 0, none⟩ = some (.int .i64 d.n) ∧ W.cell? ⟨w.heap.size, 1, none⟩ = some (.int .i64 d.s) ∧ W.cell? ⟨w.heap.size, 2, none⟩ = some (.slice h.fa h.fl h.fc) ∧ W.cell? ⟨w.heap.size, 3, none⟩ = some (.slice h.aa h.al h.ac)) ∧ IsDfa W h d ∧ Below w.heap.size w W) := Lib.hid (fun W hb => hO W ((hb2.mono (by omega)).trans hb))
 obtain ⟨⟨c1, c2, c3, c4⟩, hd2, -⟩ := HO.out W2 (Below.refl _ _)
 have hva := valid_no hv hd2
 have HS2 := Lib.hid hs2
 have HZ2 := Lib.hid hZ2
 unfold vDf at hva ⊢
 clear hO hb2 hb1 hd2 hv hs2 hZ2
 go_enter Try.func18, Try.ntmps18
 go_wp2_with (first | (go_at_call 22; refine hva.mono ?_; rintro e w3 ⟨rfl, hb3⟩; obtain ⟨⟨k1, k2, k3, k4⟩, hd3, hbw3⟩ := HO.out w3 (hb3.mono (by rw [HS2.out]; omega)); have HZ3 : Hid (w3.heap[w.heap.size + 1]? = some (.cells #[.int .i64 0, .int .i64 0, .slice none 0 0, .slice none 0 0] 30 (0, 0))) := Lib.hid (by rw [hb3.block _ (by rw [HS2.out]; omega)]; exact HZ2.out)) | (show wpList _ _ _ (⟨_, .store 30 _ _, _, _, _, _⟩ :: _) _ _; refine wpList_store_row rfl 30 _ _ rfl (w.heap.size + 1) #[.int .i64 0, .int .i64 0, .slice none 0 0, .slice none 0 0] rfl rfl _ _ HZ3.out dfa_i rfl (dfa_one _ _ _ _ _ _ _ _) ?_))
 refine bodyPost_ret (results_cell_row2 rfl _ _ (w.heap.size + 1) _ _ _ _ rfl rfl (setRow_heap _ _ _ _ _ _ HZ3.out) Try.underlying30 rfl dfa_i) rfl ?_
 exact ⟨⟨⟨none, 0, 0, none, 0, 0⟩, rfl, isDfa_zero _⟩, below_setRow hbw3 (by omega) _⟩

theorem minimize_any {d : Dfa} {h : DH} {w : World} (hd : IsDfa w h d) : Calls Try.prog 18 #[vDf d h] w (GivesDE (orZero d (minD d)) (orErr d) w) := by
 by_cases hv : ValidD d
 ·unfold orZero orErr
  rw [if_pos hv, if_pos hv]
  exact minimize_yes hv hd
 ·unfold orZero orErr
  rw [if_neg hv, if_neg hv]
  exact minimize_no hv hd
end Go.Proofs.Ytpcbmhfnefhenaa

namespace Go.Proofs.Ytpcbmhfnefhenaa
def awD : Dfa := ⟨3, 0, [false, true, true], [⟨0, 1, 1⟩, ⟨1, 1, 2⟩, ⟨2, 1, 1⟩]⟩
def awM : Dfa := ⟨2, 0, [false, true], [⟨0, 1, 1⟩, ⟨1, 1, 1⟩]⟩
theorem three {P : Nat → Prop} (h0 : P 0) (h1 : P 1) (h2 : P 2) : ∀ i : Nat, (i : Int) < 3 → P i := by
 intro i hi
 have : i = 0 ∨ i = 1 ∨ i = 2 := by omega
 rcases this with rfl | rfl | rfl <;> assumption
theorem awD_valid : ValidD awD := by
 refine ⟨⟨by decide, by decide⟩, ⟨by decide, by decide⟩, rfl, by decide, fun i hi => ?_⟩
 have h : i < 3 := hi
 exact three (P := fun i => ArcOk awD.n awD.arcs i) (by unfold ArcOk; decide) (by unfold ArcOk; decide) (by unfold ArcOk; decide) i (by omega)
theorem awD_keep : keepU awD = [true, true, true] := by
 refine (keepU_eq awD_valid rfl (fun i hi _ => ?_) (by decide) (fun i hi _ => ?_)).symm
 ·exact three (P := fun i => gb [true, true, true] i = true) rfl rfl rfl i hi
 ·exact three (P := fun i => ∃ w, accQ awD i w = true) ⟨[1], by decide⟩ ⟨[], by decide⟩ ⟨[], by decide⟩ i hi
theorem awD_trim : trimD awD = awD := by
 unfold trimD
 rw [awD_keep]
 rfl
theorem awD_classes : Classes awD [0, 1, 1] 2 :=
 ⟨rfl, three (P := fun i => 0 ≤ gi [0, 1, 1] i ∧ gi [0, 1, 1] i < (2 : Nat)) (by decide) (by decide) (by decide), fun v hv => by
  have : v = 0 ∨ v = 1 := by omega
  rcases this with rfl | rfl
  ·exact ⟨0, by decide, rfl⟩
  ·exact ⟨1, by decide, rfl⟩⟩
theorem awD_bylang : ByLang awD [0, 1, 1] := by
 have h1 := bisim awD_valid [0, 1, 1] (fun i j hi hj => by
  refine three (P := fun i => gi [0, 1, 1] i = gi [0, 1, 1] j → gb awD.fin i = gb awD.fin j ∧ (outsD awD.arcs i).map (fun x => (x.l, gi [0, 1, 1] x.t.toNat)) = (outsD awD.arcs j).map fun x => (x.l, gi [0, 1, 1] x.t.toNat)) ?_ ?_ ?_ i hi
  ·exact three (P := fun j => gi [0, 1, 1] (0 : Nat) = gi [0, 1, 1] j → gb awD.fin (0 : Nat) = gb awD.fin j ∧ (outsD awD.arcs (0 : Nat)).map (fun x => (x.l, gi [0, 1, 1] x.t.toNat)) = (outsD awD.arcs j).map fun x => (x.l, gi [0, 1, 1] x.t.toNat)) (by decide) (by decide) (by decide) j hj
  ·exact three (P := fun j => gi [0, 1, 1] (1 : Nat) = gi [0, 1, 1] j → gb awD.fin (1 : Nat) = gb awD.fin j ∧ (outsD awD.arcs (1 : Nat)).map (fun x => (x.l, gi [0, 1, 1] x.t.toNat)) = (outsD awD.arcs j).map fun x => (x.l, gi [0, 1, 1] x.t.toNat)) (by decide) (by decide) (by decide) j hj
  ·exact three (P := fun j => gi [0, 1, 1] (2 : Nat) = gi [0, 1, 1] j → gb awD.fin (2 : Nat) = gb awD.fin j ∧ (outsD awD.arcs (2 : Nat)).map (fun x => (x.l, gi [0, 1, 1] x.t.toNat)) = (outsD awD.arcs j).map fun x => (x.l, gi [0, 1, 1] x.t.toNat)) (by decide) (by decide) (by decide) j hj)
 intro i j hi hj
 refine ⟨fun e => funext fun w => h1 w i j hi hj e, fun e => ?_⟩
 have e1 : accQ awD i [] = accQ awD j [] := congrFun e []
 revert e1
 refine three (P := fun i => accQ awD i [] = accQ awD j [] → gi [0, 1, 1] i = gi [0, 1, 1] j) ?_ ?_ ?_ i hi
 ·exact three (P := fun j => accQ awD (0 : Nat) [] = accQ awD j [] → gi [0, 1, 1] (0 : Nat) = gi [0, 1, 1] j) (by decide) (by decide) (by decide) j hj
 ·exact three (P := fun j => accQ awD (1 : Nat) [] = accQ awD j [] → gi [0, 1, 1] (1 : Nat) = gi [0, 1, 1] j) (by decide) (by decide) (by decide) j hj
 ·exact three (P := fun j => accQ awD (2 : Nat) [] = accQ awD j [] → gi [0, 1, 1] (2 : Nat) = gi [0, 1, 1] j) (by decide) (by decide) (by decide) j hj
theorem awD_min : minD awD = awM := by
 have h := prog_minD awD_valid (C := [0, 1, 1]) (m := 2) (by rw [awD_trim]; exact awD_classes) (by rw [awD_trim]; exact awD_bylang)
 rw [awD_trim] at h
 rw [← h]
 rfl
theorem awM_valid : ValidD awM := by
 have h := minL_of (t := awD) (C := [0, 1, 1]) (m := 2) awD_valid (by rw [← awD_trim]; exact trimD_useful awD_valid) awD_classes awD_bylang
 rw [← awD_min]
 exact h.1
theorem awM_one : accQ awM awM.s [1, 1] = true := by decide
theorem awM_nil : accQ awM awM.s [] = false := by decide
end Go.Proofs.Ytpcbmhfnefhenaa
