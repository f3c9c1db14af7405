import Derived.Test.YtpcbmhfnefhenaaMG13
import Derived.Test.YtpcbmhfnefhenaaMG14
import Derived.Test.YtpcbmhfnefhenaaMG28
/-
  DfaE, DfaAw
-/
set_option linter.unusedSimpArgs false
set_option linter.unusedVariables false
namespace Go.Proofs.Ytpcbmhfnefhenaa
open List (foldr_cons foldr_nil setIfInBounds_toArray set_cons_succ set_cons_zero)
open Go.RowKit
attribute [local go_sem] Oper.semAt_some

open Classical in
noncomputable def accV (d : Dfa) (zs : List Int) : Value := .tuple #[.bool (accD d zs), .int .i64 (if ValidD d then 0 else 1)]
theorem accV_yes {d : Dfa} (hv : ValidD d) (zs : List Int) : accV d zs = .tuple #[.bool (accQ d d.s zs), .int .i64 0] := by
 unfold accV accD
 rw [vD_yes hv, if_pos hv, Bool.true_and]
theorem accV_no {d : Dfa} (hv : ¬ ValidD d) (zs : List Int) : accV d zs = .tuple #[.bool false, .int .i64 1] := by
 unfold accV accD
 rw [vD_no hv, if_neg hv, Bool.false_and]
variable {d : Dfa} {h : DH} {w : World}
set_option maxRecDepth 20000 in
set_option maxHeartbeats 4000000 in
theorem accepts_any (hd : IsDfa w h d) {aw : Option Addr} {lw cw : Nat} {zs : List Int} (hw : IsInts .i64 w aw lw cw zs) (hlw : lw ≤ 1000000) :
  Calls Try.prog 23 #[vDf d h, .slice aw lw cw] w fun e w' => e = .returned (accV d zs) ∧ Below w.heap.size w w' := by
 have hwl := hw.length
 by_cases hv : ValidD d
 ·obtain ⟨V, hV⟩ : ∃ V, accQ d d.s zs = V := ⟨_, rfl⟩
  have HR : Hid (accV d zs = .tuple #[.bool V, .int .i64 0]) := Lib.hid (by rw [accV_yes hv, hV])
  have HV := Lib.hid hV
  have hS := hv.sorted
  have hl := hv.2.2.2.1
  have hfin := hv.2.2.1
  have harc := fun (x : A3) (hx : x ∈ d.arcs) => (hv.arc hx).1.2
  obtain ⟨hn1, hn2⟩ := hv.1
  obtain ⟨hs1', hs2'⟩ := hv.2.1
  obtain ⟨W1, hW1, hs1, hb1, hO⟩ := boxDW d h w hd
  obtain ⟨⟨c1, c2, c3, c4⟩, hd1, -⟩ := hO W1 (Below.refl _ _)
  have hva := valid_yes hv hd1
  have hne := fun q c W hW => next_any d h q c W hW hS hl
  have hff := hd.fin
  have HACC : Hid (accQ d d.s zs = V) := HV
  have HSOME := Lib.hid (fun (q c : Int) (x : A3) (h : nxtD d.arcs q c = some x) (w : List Int) => accQ_some (d := d) h w)
  have HNONE := Lib.hid (fun (q c : Int) (h : nxtD d.arcs q c = none) (w : List Int) => accQ_none (d := d) h w)
  obtain ⟨acc, hacc⟩ : ∃ acc, accQ d = acc := ⟨_, rfl⟩
  have HNIL : Hid (∀ q, acc q [] = gb d.fin q.toNat) := Lib.hid (fun q => by rw [← hacc]; rfl)
  rw [hacc] at HV HSOME HNONE
  clear hV hacc HACC
  have hfl := hff.length
  obtain ⟨n, s, fin, es⟩ := d
  obtain ⟨fa, fl, fc, aa, al, ac⟩ := h
  simp only [vDf] at hW1 hs1 hb1 hO c1 c2 c3 c4 hva hne HR HV HNIL HSOME HNONE hS hl hfin harc hn1 hn2 hs1' hs2' hff hfl ⊢
  have hnfl : (fl : Int) = n := by omega
  have hflc := hff.capLe
  unfold maxLen at hflc
  obtain ⟨bf, of, rfl, hfc⟩ := hff.fix (by omega)
  obtain ⟨S, rfl⟩ := Int.eq_ofNat_of_zero_le hs1'
  have HFIN := Lib.hid hfin
  have hcapw := hw.cap
  clear hv hd hd1 hff hfin hfl
  go_enter Try.func23, Try.ntmps23
  go_wp2_with (go_at_call 22; refine hva.mono ?_; rintro e w2 ⟨rfl, hb2⟩; obtain ⟨⟨c1', c2', c3', c4'⟩, hd2, hb02⟩ := hO w2 (hb2.mono (by omega)))
  have hsz2 : w.heap.size + 1 ≤ w2.heap.size := by have := hb2.size; omega
  have HB2 := Lib.hid (show Below (w.heap.size + 1) W1 w2 from hb2.mono (by omega))
  have HO := Lib.hid hO
  have HB02 := Lib.hid hb02
  clear hO hs1 hb1 hW1 hb2 c1 c2 c3 c4 c1' c2' c3' c4' hva hd2 hb02
  go_loopw [6, 7, 8] (fun p u c W => ∃ (k q : Nat) (b : Bool), k ≤ lw ∧ c = .int .i64 (k : Int) ∧ u = .bool b ∧ p = .int .i64 (q : Int) ∧ q < fl ∧ Hid (V = if b then acc q (zs.drop k) else false) ∧ Below w2.heap.size w2 W) (fun _ _ c _ => lw - (intOf c).toNat)
  case atStart => exact ⟨0, S, true, Nat.zero_le _, rfl, rfl, rfl, by omega, Lib.hid (by rw [if_pos rfl]; exact HV.out.symm), Below.refl _ _⟩
  case round =>
   obtain ⟨k, q, b, hk, rfl, rfl, rfl, hq, HI, hb⟩ := hrel
   have hbb := HB2.out.trans (hb.mono hsz2)
   obtain ⟨⟨c1, c2, c3, c4⟩, hd2, hbW⟩ := HO.out wr hbb
   have cf := hfc wr hbW q hq
   have HBW := Lib.hid hbW
   cases b with
   | false =>
    have HF : Hid (V = false) := Lib.hid (by rw [HI.out]; rfl)
    clear hfc cf hbW
    by_cases hkl : k < lw
    ·have t1 : decide ((k : Int) < lw) = true := decide_eq_true (by omega)
     go_wp2
     go_ret2
     exact ⟨by rw [HR.out, HF.out]; rfl, HBW.out⟩
    ·have t1 : decide ((k : Int) < lw) = false := decide_eq_false (by omega)
     go_wp2
     go_ret2
     exact ⟨by rw [HR.out, HF.out]; rfl, HBW.out⟩
   | true =>
    rw [if_pos rfl] at HI
    rcases Nat.lt_or_ge k lw with hlt | hge
    ·obtain ⟨bw, ow, rfl, hbw, hcw⟩ := hw.at w (Below.refl _ _) k hlt
     obtain ⟨z, hz⟩ : ∃ z, gi zs k = z := ⟨_, rfl⟩
     rw [hz] at hcw
     have HDROP : Hid (zs.drop k = z :: zs.drop (k + 1)) := Lib.hid (by rw [drop_gi zs k (by omega), hz])
     have hcm : ∀ W, Below wr.heap.size wr W → (W.cell? ⟨w.heap.size, 0, none⟩ = some (.int .i64 n) ∧ W.cell? ⟨w.heap.size, 1, none⟩ = some (.int .i64 (S : Int)) ∧ W.cell? ⟨w.heap.size, 2, none⟩ = some (.slice (some ⟨bf, of, none⟩) fl fc) ∧ W.cell? ⟨w.heap.size, 3, none⟩ = some (.slice aa al ac)) ∧ IsDfa W ⟨some ⟨bf, of, none⟩, fl, fc, aa, al, ac⟩ ⟨n, S, fin, es⟩ ∧ W.cell? ⟨bw, ow + k, none⟩ = some (.int .i64 z) := fun W h => by
      have h1 := HO.out W (hbb.trans (h.mono (Nat.le_trans hsz2 hb.size)))
      exact ⟨h1.1, h1.2.1, (h1.2.2.cell (p := ⟨bw, ow + k, none⟩) hbw).trans hcw⟩
     have HB := Lib.hid hb
     have t1 : decide ((k : Int) < lw) = true := decide_eq_true (by omega)
     clear hb hbb hfc cf hcw hbW hz hw c1 c2 c3 c4 hd2
     cases hx : nxtD es q z with
     | some x =>
      have HX : Hid (nextV es q z = .tuple #[.int .i64 x.t, .bool true]) := Lib.hid (by unfold nextV; rw [hx])
      have hxt := harc x (nxtD_mem hx).1
      have HA := Lib.hid (HSOME.out q z x hx (zs.drop (k + 1)))
      obtain ⟨x1, x2, x3⟩ := x
      simp only at HX hxt HA
      obtain ⟨X, rfl⟩ := Int.eq_ofNat_of_zero_le hxt.1
      clear hx harc
      go_wp2_with (fail)
      refine wp_region_grow mixed (by kernel_rfl) [[], [], [], [], [(2, 26), (3, 27)], [(4, 28)], [(0, 24), (1, 25), (5, 29)], [(6, 30)], [(7, 23)], [(7, 23)], [(8, 31), (6, 30), (0, 24), (1, 25), (2, 26), (3, 27), (4, 28), (5, 29), (6, 30), (7, 23), (8, 31)], [(9, 32), (10, 6), (0, 24), (1, 25), (2, 26), (3, 27), (4, 28), (5, 29), (6, 30), (7, 23), (8, 31), (9, 32), (10, 6)]] [(0, 24), (1, 25), (2, 26), (3, 27), (4, 28), (5, 29), (6, 30), (7, 23), (8, 31), (9, 32), (10, 6), (11, 7)] rfl rfl [Ex ?ea0, Ex ?ea1, Ex ?ea2, Ex ?ea3, Ex ?ea4, Ex ?ea5, Ex (.tuple #[.int .i64 (X : Int), .bool true]), Ex ?ea7, Ex ?ea8, Ex ?ea9, Ex ?ea10, Ex ?ea11] ⟨stays_ex _, stays_ex _, stays_ex _, stays_ex _, stays_ex _, stays_ex _, stays_ex _, stays_ex _, stays_ex _, stays_ex _, stays_ex _, stays_ex _, trivial⟩ ?asteps ?arest
      case asteps =>
       refine ⟨fun f W hC hh => ?_, fun f W hC hh => ?_, fun f W hC hh => ?_, fun f W hC hh => ?_, fun f W hC hh => ?_, fun f W hC hh => ?_, fun f W hC hh => ?_, fun f W hC hh => ?_, fun f W hC hh => ?_, fun f W hC hh => ?_, fun f W hC hh => ?_, fun f W hC hh => ?_, trivial⟩
       ·
        refine tab_plain fun K Q hK => ?_
        simp only [puts, foldr_nil]
        obtain ⟨⟨f1, f2, f3, f4⟩, f5, f6⟩ := hcm W hC
        go_step
        exact fam_e hK rfl rfl (Below.refl _ _) hC
       ·
        refine tab_plain fun K Q hK => ?_
        simp only [puts, foldr_nil]
        go_step
        exact fam_e hK rfl rfl (Below.refl _ _) hC
       ·
        refine tab_plain fun K Q hK => ?_
        simp only [puts, foldr_nil]
        go_step
        exact fam_e hK rfl rfl (Below.refl _ _) hC
       ·
        refine tab_plain fun K Q hK => ?_
        simp only [puts, foldr_nil]
        go_step
        exact fam_e hK rfl rfl (Below.refl _ _) hC
       ·
        obtain ⟨h2, h3, -⟩ := hh
        have g2 : f 2 = _ := h2
        have g3 : f 3 = _ := h3
        refine tab_plain fun K Q hK => ?_
        simp only [puts, Za, Zb, Zc, Zd, Ze, g2, g3]
        go_step
        exact fam_e hK rfl rfl (Below.refl _ _) hC
       ·
        obtain ⟨h4, -⟩ := hh
        have g4 : f 4 = _ := h4
        refine tab_plain fun K Q hK => ?_
        simp only [puts, Za, Zb, Zc, Zd, Ze, g4]
        obtain ⟨⟨f1, f2, f3, f4⟩, f5, f6⟩ := hcm W hC
        go_step
        exact fam_e hK rfl rfl (Below.refl _ _) hC
       ·
        obtain ⟨h0, h1, h5, -⟩ := hh
        have g0 : f 0 = _ := h0
        have g1 : f 1 = _ := h1
        have g5 : f 5 = _ := h5
        refine tab_plain fun K Q hK => ?_
        simp only [puts, Za, Zb, Zc, Zd, Ze, g0, g1, g5]
        obtain ⟨⟨f1, f2, f3, f4⟩, f5, f6⟩ := hcm W hC
        go_step
        go_at_call 53
        refine (hne q z W f5).mono ?_
        rintro e w' ⟨rfl, hb⟩
        rw [HX.out]
        exact fam_fin hK rfl rfl hb (hC.trans (hb.mono hC.size))
       ·
        obtain ⟨h6, -⟩ := hh
        have g6 : f 6 = _ := h6
        refine tab_plain fun K Q hK => ?_
        simp only [puts, Za, Zb, Zc, Zd, Ze, g6]
        go_step
        exact fam_e hK rfl rfl (Below.refl _ _) hC
       ·
        obtain ⟨h7, -⟩ := hh
        have g7 : f 7 = _ := h7
        refine tab_plain fun K Q hK => ?_
        simp only [puts, Za, Zb, Zc, Zd, Ze, g7]
        go_step
        exact fam_e hK rfl rfl (Below.refl _ _) hC
       ·
        obtain ⟨h7, -⟩ := hh
        have g7 : f 7 = _ := h7
        refine tab_plain fun K Q hK => ?_
        simp only [puts, Za, Zb, Zc, Zd, Ze, g7]
        go_step
        exact fam_e hK rfl rfl (Below.refl _ _) hC
       ·
        obtain ⟨h8, h6, h0, h1, h2, h3, h4, h5, _, h7, _, -⟩ := hh
        have g8 : f 8 = _ := h8
        have g6 : f 6 = _ := h6
        have g0 : f 0 = _ := h0
        have g1 : f 1 = _ := h1
        have g2 : f 2 = _ := h2
        have g3 : f 3 = _ := h3
        have g4 : f 4 = _ := h4
        have g5 : f 5 = _ := h5
        have g7 : f 7 = _ := h7
        refine tab_plain fun K Q hK => ?_
        simp only [puts, Za, Zb, Zc, Zd, Ze, g8, g6, g0, g1, g2, g3, g4, g5, g7]
        go_step
        exact fam_e hK rfl rfl (Below.refl _ _) hC
       ·
        obtain ⟨h9, h10, h0, h1, h2, h3, h4, h5, h6, h7, h8, _, _, -⟩ := hh
        have g9 : f 9 = _ := h9
        have g10 : f 10 = _ := h10
        have g0 : f 0 = _ := h0
        have g1 : f 1 = _ := h1
        have g2 : f 2 = _ := h2
        have g3 : f 3 = _ := h3
        have g4 : f 4 = _ := h4
        have g5 : f 5 = _ := h5
        have g6 : f 6 = _ := h6
        have g7 : f 7 = _ := h7
        have g8 : f 8 = _ := h8
        refine tab_plain fun K Q hK => ?_
        simp only [puts, Za, Zb, Zc, Zd, Ze, g9, g10, g0, g1, g2, g3, g4, g5, g6, g7, g8]
        go_step
        exact fam_e hK rfl rfl (Below.refl _ _) hC
      case arest =>
       intro f W2 hC hh
       obtain ⟨h0, h1, h2, h3, h4, h5, h6, h7, h8, h9, h10, h11, -⟩ := hh
       have g0 : f 0 = _ := h0
       have g1 : f 1 = _ := h1
       have g2 : f 2 = _ := h2
       have g3 : f 3 = _ := h3
       have g4 : f 4 = _ := h4
       have g5 : f 5 = _ := h5
       have g6 : f 6 = _ := h6
       have g7 : f 7 = _ := h7
       have g8 : f 8 = _ := h8
       have g9 : f 9 = _ := h9
       have g10 : f 10 = _ := h10
       have g11 : f 11 = _ := h11
       simp only [puts, Za, Zb, Zc, Zd, Ze, g0, g1, g2, g3, g4, g5, g6, g7, g8, g9, g10, g11]
       clear h0 h1 h2 h3 h4 h5 h6 h7 h8 h9 h10 h11 g0 g1 g2 g3 g4 g5 g6 g7 g8 g9 g10 g11
       go_wp2
       go_roundw
       case rel => exact ⟨k + 1, X, true, by omega, by go_num, rfl, rfl, by omega, Lib.hid (by rw [if_pos rfl, HI.out, HDROP.out]; exact HA.out), HB.out.trans (hC.mono HB.out.size)⟩
       case measure => simp [intOf]; omega
     | none =>
      have HX : Hid (nextV es q z = .tuple #[.int .i64 0, .bool false]) := Lib.hid (by unfold nextV; rw [hx])
      have HA := Lib.hid (HNONE.out q z hx (zs.drop (k + 1)))
      clear hx harc
      go_wp2_with (fail)
      refine wp_region_grow mixed (by kernel_rfl) [[], [], [], [], [(2, 26), (3, 27)], [(4, 28)], [(0, 24), (1, 25), (5, 29)], [(6, 30)], [(7, 23)], [(7, 23)], [(8, 31), (6, 30), (0, 24), (1, 25), (2, 26), (3, 27), (4, 28), (5, 29), (6, 30), (7, 23), (8, 31)], [(9, 32), (10, 6), (0, 24), (1, 25), (2, 26), (3, 27), (4, 28), (5, 29), (6, 30), (7, 23), (8, 31), (9, 32), (10, 6)]] [(0, 24), (1, 25), (2, 26), (3, 27), (4, 28), (5, 29), (6, 30), (7, 23), (8, 31), (9, 32), (10, 6), (11, 7)] rfl rfl [Ex ?eb0, Ex ?eb1, Ex ?eb2, Ex ?eb3, Ex ?eb4, Ex ?eb5, Ex (.tuple #[.int .i64 0, .bool false]), Ex ?eb7, Ex ?eb8, Ex ?eb9, Ex ?eb10, Ex ?eb11] ⟨stays_ex _, stays_ex _, stays_ex _, stays_ex _, stays_ex _, stays_ex _, stays_ex _, stays_ex _, stays_ex _, stays_ex _, stays_ex _, stays_ex _, trivial⟩ ?bsteps ?brest
      case bsteps =>
       refine ⟨fun f W hC hh => ?_, fun f W hC hh => ?_, fun f W hC hh => ?_, fun f W hC hh => ?_, fun f W hC hh => ?_, fun f W hC hh => ?_, fun f W hC hh => ?_, fun f W hC hh => ?_, fun f W hC hh => ?_, fun f W hC hh => ?_, fun f W hC hh => ?_, fun f W hC hh => ?_, trivial⟩
       ·
        refine tab_plain fun K Q hK => ?_
        simp only [puts, foldr_nil]
        obtain ⟨⟨f1, f2, f3, f4⟩, f5, f6⟩ := hcm W hC
        go_step
        exact fam_e hK rfl rfl (Below.refl _ _) hC
       ·
        refine tab_plain fun K Q hK => ?_
        simp only [puts, foldr_nil]
        go_step
        exact fam_e hK rfl rfl (Below.refl _ _) hC
       ·
        refine tab_plain fun K Q hK => ?_
        simp only [puts, foldr_nil]
        go_step
        exact fam_e hK rfl rfl (Below.refl _ _) hC
       ·
        refine tab_plain fun K Q hK => ?_
        simp only [puts, foldr_nil]
        go_step
        exact fam_e hK rfl rfl (Below.refl _ _) hC
       ·
        obtain ⟨h2, h3, -⟩ := hh
        have g2 : f 2 = _ := h2
        have g3 : f 3 = _ := h3
        refine tab_plain fun K Q hK => ?_
        simp only [puts, Za, Zb, Zc, Zd, Ze, g2, g3]
        go_step
        exact fam_e hK rfl rfl (Below.refl _ _) hC
       ·
        obtain ⟨h4, -⟩ := hh
        have g4 : f 4 = _ := h4
        refine tab_plain fun K Q hK => ?_
        simp only [puts, Za, Zb, Zc, Zd, Ze, g4]
        obtain ⟨⟨f1, f2, f3, f4⟩, f5, f6⟩ := hcm W hC
        go_step
        exact fam_e hK rfl rfl (Below.refl _ _) hC
       ·
        obtain ⟨h0, h1, h5, -⟩ := hh
        have g0 : f 0 = _ := h0
        have g1 : f 1 = _ := h1
        have g5 : f 5 = _ := h5
        refine tab_plain fun K Q hK => ?_
        simp only [puts, Za, Zb, Zc, Zd, Ze, g0, g1, g5]
        obtain ⟨⟨f1, f2, f3, f4⟩, f5, f6⟩ := hcm W hC
        go_step
        go_at_call 53
        refine (hne q z W f5).mono ?_
        rintro e w' ⟨rfl, hb⟩
        rw [HX.out]
        exact fam_fin hK rfl rfl hb (hC.trans (hb.mono hC.size))
       ·
        obtain ⟨h6, -⟩ := hh
        have g6 : f 6 = _ := h6
        refine tab_plain fun K Q hK => ?_
        simp only [puts, Za, Zb, Zc, Zd, Ze, g6]
        go_step
        exact fam_e hK rfl rfl (Below.refl _ _) hC
       ·
        obtain ⟨h7, -⟩ := hh
        have g7 : f 7 = _ := h7
        refine tab_plain fun K Q hK => ?_
        simp only [puts, Za, Zb, Zc, Zd, Ze, g7]
        go_step
        exact fam_e hK rfl rfl (Below.refl _ _) hC
       ·
        obtain ⟨h7, -⟩ := hh
        have g7 : f 7 = _ := h7
        refine tab_plain fun K Q hK => ?_
        simp only [puts, Za, Zb, Zc, Zd, Ze, g7]
        go_step
        exact fam_e hK rfl rfl (Below.refl _ _) hC
       ·
        obtain ⟨h8, h6, h0, h1, h2, h3, h4, h5, _, h7, _, -⟩ := hh
        have g8 : f 8 = _ := h8
        have g6 : f 6 = _ := h6
        have g0 : f 0 = _ := h0
        have g1 : f 1 = _ := h1
        have g2 : f 2 = _ := h2
        have g3 : f 3 = _ := h3
        have g4 : f 4 = _ := h4
        have g5 : f 5 = _ := h5
        have g7 : f 7 = _ := h7
        refine tab_plain fun K Q hK => ?_
        simp only [puts, Za, Zb, Zc, Zd, Ze, g8, g6, g0, g1, g2, g3, g4, g5, g7]
        go_step
        exact fam_e hK rfl rfl (Below.refl _ _) hC
       ·
        obtain ⟨h9, h10, h0, h1, h2, h3, h4, h5, h6, h7, h8, _, _, -⟩ := hh
        have g9 : f 9 = _ := h9
        have g10 : f 10 = _ := h10
        have g0 : f 0 = _ := h0
        have g1 : f 1 = _ := h1
        have g2 : f 2 = _ := h2
        have g3 : f 3 = _ := h3
        have g4 : f 4 = _ := h4
        have g5 : f 5 = _ := h5
        have g6 : f 6 = _ := h6
        have g7 : f 7 = _ := h7
        have g8 : f 8 = _ := h8
        refine tab_plain fun K Q hK => ?_
        simp only [puts, Za, Zb, Zc, Zd, Ze, g9, g10, g0, g1, g2, g3, g4, g5, g6, g7, g8]
        go_step
        exact fam_e hK rfl rfl (Below.refl _ _) hC
      case brest =>
       intro f W2 hC hh
       obtain ⟨h0, h1, h2, h3, h4, h5, h6, h7, h8, h9, h10, h11, -⟩ := hh
       have g0 : f 0 = _ := h0
       have g1 : f 1 = _ := h1
       have g2 : f 2 = _ := h2
       have g3 : f 3 = _ := h3
       have g4 : f 4 = _ := h4
       have g5 : f 5 = _ := h5
       have g6 : f 6 = _ := h6
       have g7 : f 7 = _ := h7
       have g8 : f 8 = _ := h8
       have g9 : f 9 = _ := h9
       have g10 : f 10 = _ := h10
       have g11 : f 11 = _ := h11
       simp only [puts, Za, Zb, Zc, Zd, Ze, g0, g1, g2, g3, g4, g5, g6, g7, g8, g9, g10, g11]
       clear h0 h1 h2 h3 h4 h5 h6 h7 h8 h9 h10 h11 g0 g1 g2 g3 g4 g5 g6 g7 g8 g9 g10 g11
       go_wp2
       go_roundw
       case rel => exact ⟨k + 1, 0, false, by omega, by go_num, rfl, rfl, by omega, Lib.hid (by rw [HI.out, HDROP.out]; exact HA.out), HB.out.trans (hC.mono HB.out.size)⟩
       case measure => simp [intOf]; omega
    ·have hkl : k = lw := by omega
     subst hkl
     have HF : Hid (V = gb fin q) := Lib.hid (by rw [HI.out, List.drop_eq_nil_of_le (by omega), HNIL.out]; simp)
     clear hfc hbW
     go_wp2
     go_ret2
     exact ⟨by rw [HR.out, HF.out]; rfl, HBW.out⟩
 ·have HR : Hid (accV d zs = .tuple #[.bool false, .int .i64 1]) := Lib.hid (accV_no hv zs)
  obtain ⟨W1, hW1, hs1, hb1, hO⟩ := boxDW d h w hd
  obtain ⟨⟨c1, c2, c3, c4⟩, hd1, -⟩ := hO W1 (Below.refl _ _)
  have hva := valid_no hv hd1
  obtain ⟨n, s, fin, es⟩ := d
  obtain ⟨fa, fl, fc, aa, al, ac⟩ := h
  simp only [vDf] at hW1 hs1 hb1 hO c1 c2 c3 c4 hva HR ⊢
  clear hv
  go_enter Try.func23, Try.ntmps23
  go_wp2_with (go_at_call 22; refine hva.mono ?_; rintro e w2 ⟨rfl, hb2⟩)
  go_ret2
  exact ⟨by rw [HR.out]; rfl, hb1.trans (hb2.mono (by omega))⟩
end Go.Proofs.Ytpcbmhfnefhenaa

set_option linter.unusedSimpArgs false
set_option linter.unusedVariables false
namespace Go.Proofs.Ytpcbmhfnefhenaa
open Go.RowKit
attribute [local go_sem] Oper.semAt_some
theorem IsArcs.of_block {w : World} {b : Nat} {T : TypeId} {es : List A3} {n : Nat} (h : w.heap[b]? = some (.cells (tvs es).toArray T (0, 0))) (hn : es.length = n) (hm : n ≤ maxLen) : IsArcs w (some ⟨b, 0, none⟩) n n es := by
 refine .inr ⟨b, 0, rfl, Nat.le_refl _, hm, hn, fun i hi => ?_⟩
 obtain ⟨h1, h2, h3⟩ := tvs_get es i (by omega)
 refine ⟨?_, ?_, ?_⟩
 ·rw [cell_of_row w b _ _ _ _ h]; simp only [Nat.zero_add, List.getElem?_toArray]; exact h1
 ·rw [cell_of_row w b _ _ _ _ h]; simp only [Nat.zero_add, List.getElem?_toArray]; exact h2
 ·rw [cell_of_row w b _ _ _ _ h]; simp only [Nat.zero_add, List.getElem?_toArray]; exact h3
theorem IsBools.of_block {w : World} {b : Nat} {T : TypeId} {ss : List Bool} {n : Nat} (h : w.heap[b]? = some (.cells (bvs ss).toArray T (0, 0))) (hn : ss.length = n) (hm : n ≤ maxLen) : IsBools w (some ⟨b, 0, none⟩) n n ss := by
 refine .inr ⟨b, 0, rfl, Nat.le_refl _, hm, hn, fun i hi => ?_⟩
 rw [cell_of_row w b _ _ _ _ h]
 simp [bvs, List.getElem?_eq_getElem (show i < ss.length by omega), gb_eq _ _ (show i < ss.length by omega)]
theorem ints_block {w : World} {b : Nat} {T : TypeId} {zs : List Int} {n : Nat} (h : w.heap[b]? = some (.cells (zs.map (Value.int .i64)).toArray T (0, 0))) (hn : zs.length = n) (hm : n ≤ maxLen) : IsInts .i64 w (some ⟨b, 0, none⟩) n n zs := by
 refine .inr ⟨b, 0, rfl, Nat.le_refl _, hm, hn, fun i hi => ?_⟩
 rw [cell_of_row w b _ _ _ _ h]
 simp [List.getElem?_eq_getElem (show i < zs.length by omega), gi_eq _ _ (show i < zs.length by omega)]
theorem heap_push {W : World} {b : Nat} {o : Obj} (h : W.heap[b]? = some o) (o' : Obj) : (W.alloc o').heap[b]? = some o := by
 rw [((Below.refl W.heap.size W).alloc (Nat.le_refl _) o').block b (Array.getElem?_eq_some_iff.1 h).1]
 exact h
theorem aw_start (w : World) (T : TypeId) : IsDfa (((w.alloc (.cells #[.bool false, .bool true, .bool true] 4)).alloc (.cells #[.int .i64 0, .int .i64 1, .int .i64 1, .int .i64 1, .int .i64 1, .int .i64 2, .int .i64 2, .int .i64 1, .int .i64 1] 63)).alloc (.cells #[.int .i64 3, .int .i64 0, .slice (some ⟨w.heap.size, 0, none⟩) 3 3, .slice (some ⟨w.heap.size + 1, 0, none⟩) 3 3] T)) ⟨some ⟨w.heap.size, 0, none⟩, 3, 3, some ⟨w.heap.size + 1, 0, none⟩, 3, 3⟩ awD := by
 refine ⟨IsBools.of_block (T := 4) (heap_push (heap_push (heap_alloc_new w _) _) _) rfl (by show (3:Nat) ≤ maxLen; decide), IsArcs.of_block (T := 63) (heap_push ?_ _) rfl (by show (3:Nat) ≤ maxLen; decide)⟩
 have h := heap_alloc_new (w.alloc (.cells #[.bool false, .bool true, .bool true] 4)) (.cells #[.int .i64 0, .int .i64 1, .int .i64 1, .int .i64 1, .int .i64 1, .int .i64 2, .int .i64 2, .int .i64 1, .int .i64 1] 63)
 rw [World.size_alloc] at h
 exact h
theorem below_three (w : World) (o1 o2 o3 : Obj) : Below w.heap.size w (((w.alloc o1).alloc o2).alloc o3) ∧ w.heap.size ≤ (((w.alloc o1).alloc o2).alloc o3).heap.size := by
 refine ⟨(((Below.refl _ _).alloc (Nat.le_refl _) o1).alloc (by simp) o2).alloc (by simp; omega) o3, by simp; omega⟩
theorem below_two (w : World) (o1 o2 : Obj) : Below w.heap.size w ((w.alloc o1).alloc o2) ∧ w.heap.size ≤ ((w.alloc o1).alloc o2).heap.size := by
 refine ⟨((Below.refl _ _).alloc (Nat.le_refl _) o1).alloc (by simp) o2, by simp; omega⟩
theorem awM_n : awM.n = 2 := rfl
set_option maxRecDepth 20000 in
set_option maxHeartbeats 4000000 in
theorem awake_any (w : World) : Calls Try.prog 11 #[] w fun e w' => e = .returned (.bool true) ∧ Below w.heap.size w w' := by
 go_enter Try.func11, Try.ntmps11
 go_wp2_with (fail)
 have hmi := minimize_any (aw_start w 30)
 rw [awD_min] at hmi
 unfold orZero orErr at hmi
 rw [if_pos awD_valid, if_pos awD_valid] at hmi
 refine hmi.mono ?_
 rintro e w1 ⟨⟨h1, rfl, hd1⟩, hb1⟩
 have hw1 : Below w.heap.size w w1 := (below_three w _ _ _).1.trans (hb1.mono (below_three w _ _ _).2)
 have hal1 := hd1.2.length
 have hal2 : (2 : Nat) = h1.al := hal1
 clear hmi hb1 hal1
 unfold vDf
 rw [← hal2, awM_n]
 have HD := Lib.hid hd1
 have HB := Lib.hid hw1
 have HA := Lib.hid hal2
 clear hd1 hw1 hal2
 go_wp2_with (fail)
 have h2 := below_two w1 (Obj.cells #[Value.int IntKind.i64 2, Value.int IntKind.i64 awM.s, Value.slice h1.fa h1.fl h1.fc, Value.slice h1.aa 2 h1.ac] 30) (Obj.cells #[Value.int IntKind.i64 1, Value.int IntKind.i64 1] 3)
 have hac := accepts_any (HD.out.later h2.1) (ints_block (w := ((w1.alloc (Obj.cells #[Value.int IntKind.i64 2, Value.int IntKind.i64 awM.s, Value.slice h1.fa h1.fl h1.fc, Value.slice h1.aa 2 h1.ac] 30)).alloc (Obj.cells #[Value.int IntKind.i64 1, Value.int IntKind.i64 1] 3))) (b := w1.heap.size + 1) (T := 3) (zs := [1, 1]) (n := 2) (by have h := heap_alloc_new (w1.alloc (Obj.cells #[Value.int IntKind.i64 2, Value.int IntKind.i64 awM.s, Value.slice h1.fa h1.fl h1.fc, Value.slice h1.aa 2 h1.ac] 30)) (Obj.cells #[Value.int IntKind.i64 1, Value.int IntKind.i64 1] 3); rw [World.size_alloc] at h; exact h) rfl (by decide)) (by omega)
 rw [accV_yes awM_valid, awM_one] at hac
 unfold vDf at hac
 rw [← HA.out, awM_n] at hac
 refine hac.mono ?_
 rintro e w2 ⟨rfl, hb2⟩
 have hw2 : Below w1.heap.size w1 w2 := h2.1.trans (hb2.mono h2.2)
 have hbx : w2.heap[w1.heap.size]? = some (Obj.cells #[Value.int IntKind.i64 2, Value.int IntKind.i64 awM.s, Value.slice h1.fa h1.fl h1.fc, Value.slice h1.aa 2 h1.ac] 30 (0, 0)) := by
  rw [hb2.block _ (by rw [World.size_alloc, World.size_alloc]; omega)]
  exact heap_push (heap_alloc_new w1 _) _
 have c1 : w2.cell? ⟨w1.heap.size, 0, none⟩ = some (.int .i64 2) := cell_of_row _ _ 0 _ _ _ hbx
 have c2 : w2.cell? ⟨w1.heap.size, 1, none⟩ = some (.int .i64 awM.s) := cell_of_row _ _ 1 _ _ _ hbx
 have c3 : w2.cell? ⟨w1.heap.size, 2, none⟩ = some (.slice h1.fa h1.fl h1.fc) := cell_of_row _ _ 2 _ _ _ hbx
 have c4 : w2.cell? ⟨w1.heap.size, 3, none⟩ = some (.slice h1.aa 2 h1.ac) := cell_of_row _ _ 3 _ _ _ hbx
 have hac2 := accepts_any (HD.out.later hw2) (zs := []) (aw := none) (lw := 0) (cw := 0) (.inl ⟨rfl, rfl, rfl, rfl⟩) (by omega)
 rw [accV_yes awM_valid, awM_nil] at hac2
 unfold vDf at hac2
 rw [← HA.out, awM_n] at hac2
 have hlt : w1.heap.size < w2.heap.size := (Array.getElem?_eq_some_iff.1 hbx).1
 have HLT := Lib.hid hlt
 clear hac h2 hb2 hbx hlt
 have HW2 := Lib.hid hw2
 clear hw2
 go_wp2_with (go_at_call 23; refine hac2.mono ?_; rintro e w3 ⟨rfl, hb3⟩; have k1 := (hb3.cell (p := ⟨w1.heap.size, 0, none⟩) HLT.out).trans c1; have k4 := (hb3.cell (p := ⟨w1.heap.size, 3, none⟩) HLT.out).trans c4)
 go_ret
 exact ⟨rfl, HB.out.trans (HW2.out.mono HB.out.size |>.trans (hb3.mono (Nat.le_trans HB.out.size HW2.out.size)))⟩
end Go.Proofs.Ytpcbmhfnefhenaa
