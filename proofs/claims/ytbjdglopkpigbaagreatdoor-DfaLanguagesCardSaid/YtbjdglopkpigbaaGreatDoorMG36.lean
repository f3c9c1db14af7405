import Derived.Test.YtbjdglopkpigbaaGreatDoorMG6
import Derived.Test.YtbjdglopkpigbaaGreatDoorMG27
import Derived.Test.YtbjdglopkpigbaaGreatDoorMG28
import Derived.Test.YtbjdglopkpigbaaGreatDoorMG35
/-
  DfaMx, DfaAm, DfaE
-/
set_option linter.unusedSimpArgs false
set_option linter.unusedVariables false
namespace Go.Proofs.YtbjdglopkpigbaaGreatDoor
open Go.RowKit
attribute [local go_sem] Oper.semAt_some
set_option maxRecDepth 20000 in
set_option maxHeartbeats 4000000 in
theorem minimize_no {d : Dfa} {h : DH} {w : World} (hv : ¬ ValidD d) (hd : IsDfa w h d) : Calls Tryz.prog 12 #[vDf d h] w (GivesDE zeroD 1 w) := by
 obtain ⟨W1, hW1, hs1, hb1, hO⟩ := boxDW d h w hd
 obtain ⟨W2, hW2, hb2, hs2, hZ2⟩ := box_ready hs1
 have HO : Hid (∀ W, Below (w.heap.size + 1) W2 W → (W.cell? ⟨w.heap.size, 0, none⟩ = some (.int .i64 d.n) ∧ W.cell? ⟨w.heap.size, 1, none⟩ = some (.int .i64 d.s) ∧ W.cell? ⟨w.heap.size, 2, none⟩ = some (.slice h.fa h.fl h.fc) ∧ W.cell? ⟨w.heap.size, 3, none⟩ = some (.slice h.aa h.al h.ac)) ∧ IsDfa W h d ∧ Below w.heap.size w W) := Lib.hid (fun W hb => hO W ((hb2.mono (by omega)).trans hb))
 obtain ⟨⟨c1, c2, c3, c4⟩, hd2, -⟩ := HO.out W2 (Below.refl _ _)
 have hva := valid_no hv hd2
 have HS2 := Lib.hid hs2
 have HZ2 := Lib.hid hZ2
 unfold vDf at hva ⊢
 clear hO hb2 hb1 hd2 hv hs2 hZ2
 go_enter Tryz.func12, Tryz.ntmps12
 go_wp2_with (first | (go_at_call 17; refine hva.mono ?_; rintro e w3 ⟨rfl, hb3⟩; obtain ⟨⟨k1, k2, k3, k4⟩, hd3, hbw3⟩ := HO.out w3 (hb3.mono (by rw [HS2.out]; omega)); have HZ3 : Hid (w3.heap[w.heap.size + 1]? = some (.cells #[.int .i64 0, .int .i64 0, .slice none 0 0, .slice none 0 0] 37 (0, 0))) := Lib.hid (by rw [hb3.block _ (by rw [HS2.out]; omega)]; exact HZ2.out)) | (show wpList _ _ _ (⟨_, .store 37 _ _, _, _, _, _⟩ :: _) _ _; refine wpList_store_row rfl 37 _ _ rfl (w.heap.size + 1) #[.int .i64 0, .int .i64 0, .slice none 0 0, .slice none 0 0] rfl rfl _ _ HZ3.out dfa_i rfl (dfa_one _ _ _ _ _ _ _ _) ?_))
 refine bodyPost_ret (results_cell_row2 rfl _ _ (w.heap.size + 1) _ _ _ _ rfl rfl (setRow_heap _ _ _ _ _ _ HZ3.out) Tryz.underlying37 rfl dfa_i) rfl ?_
 exact ⟨⟨⟨none, 0, 0, none, 0, 0⟩, rfl, isDfa_zero _⟩, below_setRow hbw3 (by omega) _⟩
theorem minimize_any {d : Dfa} {h : DH} {w : World} (hd : IsDfa w h d) : Calls Tryz.prog 12 #[vDf d h] w (GivesDE (orZero d (minD d)) (orErr d) w) := by
 by_cases hv : ValidD d
 ·unfold orZero orErr
  rw [if_pos hv, if_pos hv]
  exact minimize_yes hv hd
 ·unfold orZero orErr
  rw [if_neg hv, if_neg hv]
  exact minimize_no hv hd
end Go.Proofs.YtbjdglopkpigbaaGreatDoor
namespace Go.Proofs.YtbjdglopkpigbaaGreatDoor
def awD : Dfa := ⟨3, 0, [false, true, true], [⟨0, 1, 1⟩, ⟨1, 1, 2⟩, ⟨2, 1, 1⟩]⟩
def awM : Dfa := ⟨2, 0, [false, true], [⟨0, 1, 1⟩, ⟨1, 1, 1⟩]⟩
theorem three {P : Nat → Prop} (h0 : P 0) (h1 : P 1) (h2 : P 2) : ∀ i : Nat, (i : Int) < 3 → P i := by
 intro i hi
 have : i = 0 ∨ i = 1 ∨ i = 2 := by omega
 rcases this with rfl | rfl | rfl <;> assumption
theorem awD_valid : ValidD awD := by
 refine ⟨⟨by decide, by decide⟩, ⟨by decide, by decide⟩, rfl, by decide, fun i hi => ?_⟩
 have h : i < 3 := hi
 exact three (P := fun i => ArcOk awD.n awD.arcs i) (by unfold ArcOk; decide) (by unfold ArcOk; decide) (by unfold ArcOk; decide) i (by omega)
theorem awD_keep : keepU awD = [true, true, true] := by
 refine (keepU_eq awD_valid rfl (fun i hi _ => ?_) (by decide) (fun i hi _ => ?_)).symm
 ·exact three (P := fun i => gb [true, true, true] i = true) rfl rfl rfl i hi
 ·exact three (P := fun i => ∃ w, accQ awD i w = true) ⟨[1], by decide⟩ ⟨[], by decide⟩ ⟨[], by decide⟩ i hi
theorem awD_trim : trimD awD = awD := by
 unfold trimD
 rw [awD_keep]
 rfl
theorem awD_classes : Classes awD [0, 1, 1] 2 :=
 ⟨rfl, three (P := fun i => 0 ≤ gi [0, 1, 1] i ∧ gi [0, 1, 1] i < (2 : Nat)) (by decide) (by decide) (by decide), fun v hv => by
  have : v = 0 ∨ v = 1 := by omega
  rcases this with rfl | rfl
  ·exact ⟨0, by decide, rfl⟩
  ·exact ⟨1, by decide, rfl⟩⟩
theorem awD_bylang : ByLang awD [0, 1, 1] := by
 have h1 := bisim awD_valid [0, 1, 1] (fun i j hi hj => by
  refine three (P := fun i => gi [0, 1, 1] i = gi [0, 1, 1] j → gb awD.fin i = gb awD.fin j ∧ (outsD awD.arcs i).map (fun x => (x.l, gi [0, 1, 1] x.t.toNat)) = (outsD awD.arcs j).map fun x => (x.l, gi [0, 1, 1] x.t.toNat)) ?_ ?_ ?_ i hi
  ·exact three (P := fun j => gi [0, 1, 1] (0 : Nat) = gi [0, 1, 1] j → gb awD.fin (0 : Nat) = gb awD.fin j ∧ (outsD awD.arcs (0 : Nat)).map (fun x => (x.l, gi [0, 1, 1] x.t.toNat)) = (outsD awD.arcs j).map fun x => (x.l, gi [0, 1, 1] x.t.toNat)) (by decide) (by decide) (by decide) j hj
  ·exact three (P := fun j => gi [0, 1, 1] (1 : Nat) = gi [0, 1, 1] j → gb awD.fin (1 : Nat) = gb awD.fin j ∧ (outsD awD.arcs (1 : Nat)).map (fun x => (x.l, gi [0, 1, 1] x.t.toNat)) = (outsD awD.arcs j).map fun x => (x.l, gi [0, 1, 1] x.t.toNat)) (by decide) (by decide) (by decide) j hj
  ·exact three (P := fun j => gi [0, 1, 1] (2 : Nat) = gi [0, 1, 1] j → gb awD.fin (2 : Nat) = gb awD.fin j ∧ (outsD awD.arcs (2 : Nat)).map (fun x => (x.l, gi [0, 1, 1] x.t.toNat)) = (outsD awD.arcs j).map fun x => (x.l, gi [0, 1, 1] x.t.toNat)) (by decide) (by decide) (by decide) j hj)
 intro i j hi hj
 refine ⟨fun e => funext fun w => h1 w i j hi hj e, fun e => ?_⟩
 have e1 : accQ awD i [] = accQ awD j [] := congrFun e []
 revert e1
 refine three (P := fun i => accQ awD i [] = accQ awD j [] → gi [0, 1, 1] i = gi [0, 1, 1] j) ?_ ?_ ?_ i hi
 ·exact three (P := fun j => accQ awD (0 : Nat) [] = accQ awD j [] → gi [0, 1, 1] (0 : Nat) = gi [0, 1, 1] j) (by decide) (by decide) (by decide) j hj
 ·exact three (P := fun j => accQ awD (1 : Nat) [] = accQ awD j [] → gi [0, 1, 1] (1 : Nat) = gi [0, 1, 1] j) (by decide) (by decide) (by decide) j hj
 ·exact three (P := fun j => accQ awD (2 : Nat) [] = accQ awD j [] → gi [0, 1, 1] (2 : Nat) = gi [0, 1, 1] j) (by decide) (by decide) (by decide) j hj
theorem awD_min : minD awD = awM := by
 have h := prog_minD awD_valid (C := [0, 1, 1]) (m := 2) (by rw [awD_trim]; exact awD_classes) (by rw [awD_trim]; exact awD_bylang)
 rw [awD_trim] at h
 rw [← h]
 rfl
theorem awM_valid : ValidD awM := by
 have h := minL_of (t := awD) (C := [0, 1, 1]) (m := 2) awD_valid (by rw [← awD_trim]; exact trimD_useful awD_valid) awD_classes awD_bylang
 rw [← awD_min]
 exact h.1
theorem awM_one : accQ awM awM.s [1, 1] = true := by decide
theorem awM_nil : accQ awM awM.s [] = false := by decide
end Go.Proofs.YtbjdglopkpigbaaGreatDoor
namespace Go.Proofs.YtbjdglopkpigbaaGreatDoor
open List (foldr_cons foldr_nil setIfInBounds_toArray set_cons_succ set_cons_zero)
open Go.RowKit
attribute [local go_sem] Oper.semAt_some
open Classical in
noncomputable def accV (d : Dfa) (zs : List Int) : Value := .tuple #[.bool (accD d zs), .int .i64 (if ValidD d then 0 else 1)]
theorem accV_yes {d : Dfa} (hv : ValidD d) (zs : List Int) : accV d zs = .tuple #[.bool (accQ d d.s zs), .int .i64 0] := by
 unfold accV accD
 rw [vD_yes hv, if_pos hv, Bool.true_and]
theorem accV_no {d : Dfa} (hv : ¬ ValidD d) (zs : List Int) : accV d zs = .tuple #[.bool false, .int .i64 1] := by
 unfold accV accD
 rw [vD_no hv, if_neg hv, Bool.false_and]
variable {d : Dfa} {h : DH} {w : World}
set_option maxRecDepth 20000 in
set_option maxHeartbeats 4000000 in
theorem accepts_any (hd : IsDfa w h d) {aw : Option Addr} {lw cw : Nat} {zs : List Int} (hw : IsInts .i64 w aw lw cw zs) (hlw : lw ≤ 1000000) :
  Calls Tryz.prog 8 #[vDf d h, .slice aw lw cw] w fun e w' => e = .returned (accV d zs) ∧ Below w.heap.size w w' := by
 have hwl := hw.length
 by_cases hv : ValidD d
 ·obtain ⟨V, hV⟩ : ∃ V, accQ d d.s zs = V := ⟨_, rfl⟩
  have HR : Hid (accV d zs = .tuple #[.bool V, .int .i64 0]) := Lib.hid (by rw [accV_yes hv, hV])
  have HV := Lib.hid hV
  have hS := hv.sorted
  have hl := hv.2.2.2.1
  have hfin := hv.2.2.1
  have harc := fun (x : A3) (hx : x ∈ d.arcs) => (hv.arc hx).1.2
  obtain ⟨hn1, hn2⟩ := hv.1
  obtain ⟨hs1', hs2'⟩ := hv.2.1
  obtain ⟨W1, hW1, hs1, hb1, hO⟩ := boxDW d h w hd
  obtain ⟨⟨c1, c2, c3, c4⟩, hd1, -⟩ := hO W1 (Below.refl _ _)
  have hva := valid_yes hv hd1
  have hne := fun q c W hW => next_any d h q c W hW hS hl
  have hff := hd.fin
  have HACC : Hid (accQ d d.s zs = V) := HV
  have HSOME := Lib.hid (fun (q c : Int) (x : A3) (h : nxtD d.arcs q c = some x) (w : List Int) => accQ_some (d := d) h w)
  have HNONE := Lib.hid (fun (q c : Int) (h : nxtD d.arcs q c = none) (w : List Int) => accQ_none (d := d) h w)
  obtain ⟨acc, hacc⟩ : ∃ acc, accQ d = acc := ⟨_, rfl⟩
  have HNIL : Hid (∀ q, acc q [] = gb d.fin q.toNat) := Lib.hid (fun q => by rw [← hacc]; rfl)
  rw [hacc] at HV HSOME HNONE
  clear hV hacc HACC
  have hfl := hff.length
  obtain ⟨n, s, fin, es⟩ := d
  obtain ⟨fa, fl, fc, aa, al, ac⟩ := h
  simp only [vDf] at hW1 hs1 hb1 hO c1 c2 c3 c4 hva hne HR HV HNIL HSOME HNONE hS hl hfin harc hn1 hn2 hs1' hs2' hff hfl ⊢
  have hnfl : (fl : Int) = n := by omega
  have hflc := hff.capLe
  unfold maxLen at hflc
  obtain ⟨bf, of, rfl, hfc⟩ := hff.fix (by omega)
  obtain ⟨S, rfl⟩ := Int.eq_ofNat_of_zero_le hs1'
  have HFIN := Lib.hid hfin
  have hcapw := hw.cap
  clear hv hd hd1 hff hfin hfl
  go_enter Tryz.func8, Tryz.ntmps8
  go_wp2_with (go_at_call 17; refine hva.mono ?_; rintro e w2 ⟨rfl, hb2⟩; obtain ⟨⟨c1', c2', c3', c4'⟩, hd2, hb02⟩ := hO w2 (hb2.mono (by omega)))
  have hsz2 : w.heap.size + 1 ≤ w2.heap.size := by have := hb2.size; omega
  have HB2 := Lib.hid (show Below (w.heap.size + 1) W1 w2 from hb2.mono (by omega))
  have HO := Lib.hid hO
  have HB02 := Lib.hid hb02
  clear hO hs1 hb1 hW1 hb2 c1 c2 c3 c4 c1' c2' c3' c4' hva hd2 hb02
  go_loopw [6, 7, 8] (fun p u c W => ∃ (k q : Nat) (b : Bool), k ≤ lw ∧ c = .int .i64 (k : Int) ∧ u = .bool b ∧ p = .int .i64 (q : Int) ∧ q < fl ∧ Hid (V = if b then acc q (zs.drop k) else false) ∧ Below w2.heap.size w2 W) (fun _ _ c _ => lw - (intOf c).toNat)
  case atStart => exact ⟨0, S, true, Nat.zero_le _, rfl, rfl, rfl, by omega, Lib.hid (by rw [if_pos rfl]; exact HV.out.symm), Below.refl _ _⟩
  case round =>
   obtain ⟨k, q, b, hk, rfl, rfl, rfl, hq, HI, hb⟩ := hrel
   have hbb := HB2.out.trans (hb.mono hsz2)
   obtain ⟨⟨c1, c2, c3, c4⟩, hd2, hbW⟩ := HO.out wr hbb
   have cf := hfc wr hbW q hq
   have HBW := Lib.hid hbW
   cases b with
   | false =>
    have HF : Hid (V = false) := Lib.hid (by rw [HI.out]; rfl)
    clear hfc cf hbW
    by_cases hkl : k < lw
    ·have t1 : decide ((k : Int) < lw) = true := decide_eq_true (by omega)
     go_wp2
     go_ret2
     exact ⟨by rw [HR.out, HF.out]; rfl, HBW.out⟩
    ·have t1 : decide ((k : Int) < lw) = false := decide_eq_false (by omega)
     go_wp2
     go_ret2
     exact ⟨by rw [HR.out, HF.out]; rfl, HBW.out⟩
   | true =>
    rw [if_pos rfl] at HI
    rcases Nat.lt_or_ge k lw with hlt | hge
    ·obtain ⟨bw, ow, rfl, hbw, hcw⟩ := hw.at w (Below.refl _ _) k hlt
     obtain ⟨z, hz⟩ : ∃ z, gi zs k = z := ⟨_, rfl⟩
     rw [hz] at hcw
     have HDROP : Hid (zs.drop k = z :: zs.drop (k + 1)) := Lib.hid (by rw [drop_gi zs k (by omega), hz])
     have hcm : ∀ W, Below wr.heap.size wr W → (W.cell? ⟨w.heap.size, 0, none⟩ = some (.int .i64 n) ∧ W.cell? ⟨w.heap.size, 1, none⟩ = some (.int .i64 (S : Int)) ∧ W.cell? ⟨w.heap.size, 2, none⟩ = some (.slice (some ⟨bf, of, none⟩) fl fc) ∧ W.cell? ⟨w.heap.size, 3, none⟩ = some (.slice aa al ac)) ∧ IsDfa W ⟨some ⟨bf, of, none⟩, fl, fc, aa, al, ac⟩ ⟨n, S, fin, es⟩ ∧ W.cell? ⟨bw, ow + k, none⟩ = some (.int .i64 z) := fun W h => by
      have h1 := HO.out W (hbb.trans (h.mono (Nat.le_trans hsz2 hb.size)))
      exact ⟨h1.1, h1.2.1, (h1.2.2.cell (p := ⟨bw, ow + k, none⟩) hbw).trans hcw⟩
     have HB := Lib.hid hb
     have t1 : decide ((k : Int) < lw) = true := decide_eq_true (by omega)
     clear hb hbb hfc cf hcw hbW hz hw c1 c2 c3 c4 hd2
     cases hx : nxtD es q z with
     | some x =>
      have HX : Hid (nextV es q z = .tuple #[.int .i64 x.t, .bool true]) := Lib.hid (by unfold nextV; rw [hx])
      have hxt := harc x (nxtD_mem hx).1
      have HA := Lib.hid (HSOME.out q z x hx (zs.drop (k + 1)))
      obtain ⟨x1, x2, x3⟩ := x
      simp only at HX hxt HA
      obtain ⟨X, rfl⟩ := Int.eq_ofNat_of_zero_le hxt.1
      clear hx harc
      go_wp2_with (fail)
      refine wp_region_grow mixed (by kernel_rfl) [[], [], [], [], [(2, 26), (3, 27)], [(4, 28)], [(0, 24), (1, 25), (5, 29)], [(6, 30)], [(7, 23)], [(7, 23)], [(8, 31), (6, 30), (0, 24), (1, 25), (2, 26), (3, 27), (4, 28), (5, 29), (6, 30), (7, 23), (8, 31)], [(9, 32), (10, 6), (0, 24), (1, 25), (2, 26), (3, 27), (4, 28), (5, 29), (6, 30), (7, 23), (8, 31), (9, 32), (10, 6)]] [(0, 24), (1, 25), (2, 26), (3, 27), (4, 28), (5, 29), (6, 30), (7, 23), (8, 31), (9, 32), (10, 6), (11, 7)] rfl rfl [Ex ?ea0, Ex ?ea1, Ex ?ea2, Ex ?ea3, Ex ?ea4, Ex ?ea5, Ex (.tuple #[.int .i64 (X : Int), .bool true]), Ex ?ea7, Ex ?ea8, Ex ?ea9, Ex ?ea10, Ex ?ea11] ⟨stays_ex _, stays_ex _, stays_ex _, stays_ex _, stays_ex _, stays_ex _, stays_ex _, stays_ex _, stays_ex _, stays_ex _, stays_ex _, stays_ex _, trivial⟩ ?asteps ?arest
      case asteps =>
       refine ⟨fun f W hC hh => ?_, fun f W hC hh => ?_, fun f W hC hh => ?_, fun f W hC hh => ?_, fun f W hC hh => ?_, fun f W hC hh => ?_, fun f W hC hh => ?_, fun f W hC hh => ?_, fun f W hC hh => ?_, fun f W hC hh => ?_, fun f W hC hh => ?_, fun f W hC hh => ?_, trivial⟩
       ·
        refine tab_plain fun K Q hK => ?_;simp only [puts, foldr_nil]
        obtain ⟨⟨f1, f2, f3, f4⟩, f5, f6⟩ := hcm W hC
        go_step;exact fam_e hK rfl rfl (Below.refl _ _) hC
       ·
        refine tab_plain fun K Q hK => ?_;simp only [puts, foldr_nil];go_step;exact fam_e hK rfl rfl (Below.refl _ _) hC
       ·
        refine tab_plain fun K Q hK => ?_;simp only [puts, foldr_nil];go_step;exact fam_e hK rfl rfl (Below.refl _ _) hC
       ·
        refine tab_plain fun K Q hK => ?_;simp only [puts, foldr_nil];go_step;exact fam_e hK rfl rfl (Below.refl _ _) hC
       ·
        obtain ⟨h2, h3, -⟩ := hh;have g2 : f 2=_:=h2;have g3 : f 3=_:=h3;refine tab_plain fun K Q hK => ?_;simp only [puts, Za, Zb, Zc, Zd, Ze, g2, g3];go_step;exact fam_e hK rfl rfl (Below.refl _ _) hC
       ·
        obtain ⟨h4, -⟩ := hh;have g4 : f 4=_:=h4;refine tab_plain fun K Q hK => ?_;simp only [puts, Za, Zb, Zc, Zd, Ze, g4]
        obtain ⟨⟨f1, f2, f3, f4⟩, f5, f6⟩ := hcm W hC
        go_step;exact fam_e hK rfl rfl (Below.refl _ _) hC
       ·
        obtain ⟨h0, h1, h5, -⟩ := hh;have g0 : f 0=_:=h0;have g1 : f 1=_:=h1;have g5 : f 5=_:=h5;refine tab_plain fun K Q hK => ?_;simp only [puts, Za, Zb, Zc, Zd, Ze, g0, g1, g5]
        obtain ⟨⟨f1, f2, f3, f4⟩, f5, f6⟩ := hcm W hC
        go_step
        go_at_call 18
        refine (hne q z W f5).mono ?_
        rintro e w' ⟨rfl, hb⟩
        rw [HX.out]
        exact fam_fin hK rfl rfl hb (hC.trans (hb.mono hC.size))
       ·
        obtain ⟨h6, -⟩ := hh;have g6 : f 6=_:=h6;refine tab_plain fun K Q hK => ?_;simp only [puts, Za, Zb, Zc, Zd, Ze, g6];go_step;exact fam_e hK rfl rfl (Below.refl _ _) hC
       ·
        obtain ⟨h7, -⟩ := hh;have g7 : f 7=_:=h7;refine tab_plain fun K Q hK => ?_;simp only [puts, Za, Zb, Zc, Zd, Ze, g7];go_step;exact fam_e hK rfl rfl (Below.refl _ _) hC
       ·
        obtain ⟨h7, -⟩ := hh;have g7 : f 7=_:=h7;refine tab_plain fun K Q hK => ?_;simp only [puts, Za, Zb, Zc, Zd, Ze, g7];go_step;exact fam_e hK rfl rfl (Below.refl _ _) hC
       ·
        obtain ⟨h8, h6, h0, h1, h2, h3, h4, h5, _, h7, _, -⟩ := hh;have g8 : f 8=_:=h8;have g6 : f 6=_:=h6;have g0 : f 0=_:=h0;have g1 : f 1=_:=h1;have g2 : f 2=_:=h2;have g3 : f 3=_:=h3;have g4 : f 4=_:=h4;have g5 : f 5=_:=h5;have g7 : f 7=_:=h7;refine tab_plain fun K Q hK => ?_;simp only [puts, Za, Zb, Zc, Zd, Ze, g8, g6, g0, g1, g2, g3, g4, g5, g7];go_step;exact fam_e hK rfl rfl (Below.refl _ _) hC
       ·
        obtain ⟨h9, h10, h0, h1, h2, h3, h4, h5, h6, h7, h8, _, _, -⟩ := hh;have g9 : f 9=_:=h9;have g10 : f 10=_:=h10;have g0 : f 0=_:=h0;have g1 : f 1=_:=h1;have g2 : f 2=_:=h2;have g3 : f 3=_:=h3;have g4 : f 4=_:=h4;have g5 : f 5=_:=h5;have g6 : f 6=_:=h6;have g7 : f 7=_:=h7;have g8 : f 8=_:=h8;refine tab_plain fun K Q hK => ?_;simp only [puts, Za, Zb, Zc, Zd, Ze, g9, g10, g0, g1, g2, g3, g4, g5, g6, g7, g8];go_step;exact fam_e hK rfl rfl (Below.refl _ _) hC
      case arest =>
       intro f W2 hC hh
       obtain ⟨h0, h1, h2, h3, h4, h5, h6, h7, h8, h9, h10, h11, -⟩ := hh;have g0 : f 0=_:=h0;have g1 : f 1=_:=h1;have g2 : f 2=_:=h2;have g3 : f 3=_:=h3;have g4 : f 4=_:=h4;have g5 : f 5=_:=h5;have g6 : f 6=_:=h6;have g7 : f 7=_:=h7;have g8 : f 8=_:=h8;have g9 : f 9=_:=h9;have g10 : f 10=_:=h10;have g11 : f 11=_:=h11;simp only [puts, Za, Zb, Zc, Zd, Ze, g0, g1, g2, g3, g4, g5, g6, g7, g8, g9, g10, g11]
       clear h0 h1 h2 h3 h4 h5 h6 h7 h8 h9 h10 h11 g0 g1 g2 g3 g4 g5 g6 g7 g8 g9 g10 g11
       go_wp2
       go_roundw
       case rel => exact ⟨k + 1, X, true, by omega, by go_num, rfl, rfl, by omega, Lib.hid (by rw [if_pos rfl, HI.out, HDROP.out]; exact HA.out), HB.out.trans (hC.mono HB.out.size)⟩
       case measure => simp [intOf]; omega
     | none =>
      have HX : Hid (nextV es q z = .tuple #[.int .i64 0, .bool false]) := Lib.hid (by unfold nextV; rw [hx])
      have HA := Lib.hid (HNONE.out q z hx (zs.drop (k + 1)))
      clear hx harc
      go_wp2_with (fail)
      refine wp_region_grow mixed (by kernel_rfl) [[], [], [], [], [(2, 26), (3, 27)], [(4, 28)], [(0, 24), (1, 25), (5, 29)], [(6, 30)], [(7, 23)], [(7, 23)], [(8, 31), (6, 30), (0, 24), (1, 25), (2, 26), (3, 27), (4, 28), (5, 29), (6, 30), (7, 23), (8, 31)], [(9, 32), (10, 6), (0, 24), (1, 25), (2, 26), (3, 27), (4, 28), (5, 29), (6, 30), (7, 23), (8, 31), (9, 32), (10, 6)]] [(0, 24), (1, 25), (2, 26), (3, 27), (4, 28), (5, 29), (6, 30), (7, 23), (8, 31), (9, 32), (10, 6), (11, 7)] rfl rfl [Ex ?eb0, Ex ?eb1, Ex ?eb2, Ex ?eb3, Ex ?eb4, Ex ?eb5, Ex (.tuple #[.int .i64 0, .bool false]), Ex ?eb7, Ex ?eb8, Ex ?eb9, Ex ?eb10, Ex ?eb11] ⟨stays_ex _, stays_ex _, stays_ex _, stays_ex _, stays_ex _, stays_ex _, stays_ex _, stays_ex _, stays_ex _, stays_ex _, stays_ex _, stays_ex _, trivial⟩ ?bsteps ?brest
      case bsteps =>
       refine ⟨fun f W hC hh => ?_, fun f W hC hh => ?_, fun f W hC hh => ?_, fun f W hC hh => ?_, fun f W hC hh => ?_, fun f W hC hh => ?_, fun f W hC hh => ?_, fun f W hC hh => ?_, fun f W hC hh => ?_, fun f W hC hh => ?_, fun f W hC hh => ?_, fun f W hC hh => ?_, trivial⟩
       ·
        refine tab_plain fun K Q hK => ?_;simp only [puts, foldr_nil]
        obtain ⟨⟨f1, f2, f3, f4⟩, f5, f6⟩ := hcm W hC
        go_step;exact fam_e hK rfl rfl (Below.refl _ _) hC
       ·
        refine tab_plain fun K Q hK => ?_;simp only [puts, foldr_nil];go_step;exact fam_e hK rfl rfl (Below.refl _ _) hC
       ·
        refine tab_plain fun K Q hK => ?_;simp only [puts, foldr_nil];go_step;exact fam_e hK rfl rfl (Below.refl _ _) hC
       ·
        refine tab_plain fun K Q hK => ?_;simp only [puts, foldr_nil];go_step;exact fam_e hK rfl rfl (Below.refl _ _) hC
       ·
        obtain ⟨h2, h3, -⟩ := hh;have g2 : f 2=_:=h2;have g3 : f 3=_:=h3;refine tab_plain fun K Q hK => ?_;simp only [puts, Za, Zb, Zc, Zd, Ze, g2, g3];go_step;exact fam_e hK rfl rfl (Below.refl _ _) hC
       ·
        obtain ⟨h4, -⟩ := hh;have g4 : f 4=_:=h4;refine tab_plain fun K Q hK => ?_;simp only [puts, Za, Zb, Zc, Zd, Ze, g4]
        obtain ⟨⟨f1, f2, f3, f4⟩, f5, f6⟩ := hcm W hC
        go_step;exact fam_e hK rfl rfl (Below.refl _ _) hC
       ·
        obtain ⟨h0, h1, h5, -⟩ := hh;have g0 : f 0=_:=h0;have g1 : f 1=_:=h1;have g5 : f 5=_:=h5;refine tab_plain fun K Q hK => ?_;simp only [puts, Za, Zb, Zc, Zd, Ze, g0, g1, g5]
        obtain ⟨⟨f1, f2, f3, f4⟩, f5, f6⟩ := hcm W hC
        go_step
        go_at_call 18
        refine (hne q z W f5).mono ?_
        rintro e w' ⟨rfl, hb⟩
        rw [HX.out]
        exact fam_fin hK rfl rfl hb (hC.trans (hb.mono hC.size))
       ·
        obtain ⟨h6, -⟩ := hh;have g6 : f 6=_:=h6;refine tab_plain fun K Q hK => ?_;simp only [puts, Za, Zb, Zc, Zd, Ze, g6];go_step;exact fam_e hK rfl rfl (Below.refl _ _) hC
       ·
        obtain ⟨h7, -⟩ := hh;have g7 : f 7=_:=h7;refine tab_plain fun K Q hK => ?_;simp only [puts, Za, Zb, Zc, Zd, Ze, g7];go_step;exact fam_e hK rfl rfl (Below.refl _ _) hC
       ·
        obtain ⟨h7, -⟩ := hh;have g7 : f 7=_:=h7;refine tab_plain fun K Q hK => ?_;simp only [puts, Za, Zb, Zc, Zd, Ze, g7];go_step;exact fam_e hK rfl rfl (Below.refl _ _) hC
       ·
        obtain ⟨h8, h6, h0, h1, h2, h3, h4, h5, _, h7, _, -⟩ := hh;have g8 : f 8=_:=h8;have g6 : f 6=_:=h6;have g0 : f 0=_:=h0;have g1 : f 1=_:=h1;have g2 : f 2=_:=h2;have g3 : f 3=_:=h3;have g4 : f 4=_:=h4;have g5 : f 5=_:=h5;have g7 : f 7=_:=h7;refine tab_plain fun K Q hK => ?_;simp only [puts, Za, Zb, Zc, Zd, Ze, g8, g6, g0, g1, g2, g3, g4, g5, g7];go_step;exact fam_e hK rfl rfl (Below.refl _ _) hC
       ·
        obtain ⟨h9, h10, h0, h1, h2, h3, h4, h5, h6, h7, h8, _, _, -⟩ := hh;have g9 : f 9=_:=h9;have g10 : f 10=_:=h10;have g0 : f 0=_:=h0;have g1 : f 1=_:=h1;have g2 : f 2=_:=h2;have g3 : f 3=_:=h3;have g4 : f 4=_:=h4;have g5 : f 5=_:=h5;have g6 : f 6=_:=h6;have g7 : f 7=_:=h7;have g8 : f 8=_:=h8;refine tab_plain fun K Q hK => ?_;simp only [puts, Za, Zb, Zc, Zd, Ze, g9, g10, g0, g1, g2, g3, g4, g5, g6, g7, g8];go_step;exact fam_e hK rfl rfl (Below.refl _ _) hC
      case brest =>
       intro f W2 hC hh
       obtain ⟨h0, h1, h2, h3, h4, h5, h6, h7, h8, h9, h10, h11, -⟩ := hh;have g0 : f 0=_:=h0;have g1 : f 1=_:=h1;have g2 : f 2=_:=h2;have g3 : f 3=_:=h3;have g4 : f 4=_:=h4;have g5 : f 5=_:=h5;have g6 : f 6=_:=h6;have g7 : f 7=_:=h7;have g8 : f 8=_:=h8;have g9 : f 9=_:=h9;have g10 : f 10=_:=h10;have g11 : f 11=_:=h11;simp only [puts, Za, Zb, Zc, Zd, Ze, g0, g1, g2, g3, g4, g5, g6, g7, g8, g9, g10, g11]
       clear h0 h1 h2 h3 h4 h5 h6 h7 h8 h9 h10 h11 g0 g1 g2 g3 g4 g5 g6 g7 g8 g9 g10 g11
       go_wp2
       go_roundw
       case rel => exact ⟨k + 1, 0, false, by omega, by go_num, rfl, rfl, by omega, Lib.hid (by rw [HI.out, HDROP.out]; exact HA.out), HB.out.trans (hC.mono HB.out.size)⟩
       case measure => simp [intOf]; omega
    ·have hkl : k = lw := by omega
     subst hkl
     have HF : Hid (V = gb fin q) := Lib.hid (by rw [HI.out, List.drop_eq_nil_of_le (by omega), HNIL.out]; simp)
     clear hfc hbW
     go_wp2
     go_ret2
     exact ⟨by rw [HR.out, HF.out]; rfl, HBW.out⟩
 ·have HR : Hid (accV d zs = .tuple #[.bool false, .int .i64 1]) := Lib.hid (accV_no hv zs)
  obtain ⟨W1, hW1, hs1, hb1, hO⟩ := boxDW d h w hd
  obtain ⟨⟨c1, c2, c3, c4⟩, hd1, -⟩ := hO W1 (Below.refl _ _)
  have hva := valid_no hv hd1
  obtain ⟨n, s, fin, es⟩ := d
  obtain ⟨fa, fl, fc, aa, al, ac⟩ := h
  simp only [vDf] at hW1 hs1 hb1 hO c1 c2 c3 c4 hva HR ⊢
  clear hv
  go_enter Tryz.func8, Tryz.ntmps8
  go_wp2_with (go_at_call 17; refine hva.mono ?_; rintro e w2 ⟨rfl, hb2⟩)
  go_ret2
  exact ⟨by rw [HR.out]; rfl, hb1.trans (hb2.mono (by omega))⟩
end Go.Proofs.YtbjdglopkpigbaaGreatDoor
