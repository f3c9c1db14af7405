import Derived.Test.YtofaifeadhimjaaDoorMG10
import Derived.Test.YtofaifeadhimjaaDoorMG39
/-
  NfaStepsW
-/
set_option linter.unusedSimpArgs false
set_option linter.unusedVariables false
namespace Go.Proofs.YtofaifeadhimjaaDoor
open List (foldr_cons foldr_nil setIfInBounds_toArray set_cons_succ set_cons_zero)
open Go.RowKit
attribute [local go_sem] Oper.semAt_some

theorem cell_later {w w' : World} {b j : Nat} {v : Value} (hb : Below w.heap.size w w') (h : w.cell? ⟨b, j, none⟩ = some v) : w'.cell? ⟨b, j, none⟩ = some v := (hb.cell (p := ⟨b, j, none⟩) (lt_of_cell h)).trans h
def NfP (a : Nfa) : Value → World → Prop := fun v W => ∃ h', v = vNf a h' ∧ IsNfa W h' a
theorem bd_4096 {n : Int} {l : List Int} (h : Bd n l) (hn : n ≤ 4096) : Bd 4096 l := fun z hz => by have := h z hz; omega
theorem cloV_ok (a : Nfa) (l : List Int) : (cloV a l).Pairwise (· < ·) ∧ Bd 4096 (cloV a l) := by
 unfold cloV
 by_cases h : chkN a l = 0
 ·rw [if_pos h]
  obtain ⟨hv, hb⟩ := chk_zero h
  exact ⟨cloL_asc _ _, bd_4096 (cloL_bd hv.arcsIn hb) (by have := hv.1; omega)⟩
 ·rw [if_neg h]; exact ⟨List.Pairwise.nil, fun z hz => by cases hz⟩
theorem stpV_ok (a : Nfa) (l : List Int) (c : Int) : (stpV a l c).Pairwise (· < ·) ∧ Bd 4096 (stpV a l c) := by
 unfold stpV
 by_cases h : chkN a l = 0
 ·rw [if_pos h]
  obtain ⟨hv, hb⟩ := chk_zero h
  exact ⟨by unfold stpL movL; exact cloL_asc _ _, bd_4096 (stpL_bd hv.arcsIn l c) (by have := hv.1; omega)⟩
 ·rw [if_neg h]; exact ⟨List.Pairwise.nil, fun z hz => by cases hz⟩
theorem letV_len (a : Nfa) : (letV a).length ≤ 10001 := by
 unfold letV letL
 split
 ·rw [List.length_map]
  exact Nat.le_trans (List.length_filter_le _ _) (by rw [List.length_range]; exact Nat.le_refl _)
 ·exact Nat.zero_le _
set_option maxRecDepth 20000 in
set_option maxHeartbeats 4000000 in
theorem nfaSteps_walk (a : Nfa) (h : NH) (aw : Option Addr) (lw cw : Nat) (zs : List Int) (c : Int) (w : World) (ia : IsNfa w h a) (iw : IsInts .i64 w aw lw cw zs) (iT : TabW w) :
  Calls Tryd.prog 4 #[vNf a h, .slice aw lw cw, .int .i64 c] w fun e w' => e = .returned (.bool true) ∧ Below w.heap.size w w' := by
 obtain ⟨W0, hW0, hs0, hb0, hO0⟩ := boxRN a h w ia
 replace ia := (hO0 W0 (Below.refl _ _)).2.1
 replace iw := iw.later hb0
 obtain ⟨c01, c02, c03, c04⟩ := (hO0 W0 (Below.refl _ _)).1
 have HB : Below w.heap.size w W0 := hb0
 clear hO0 hb0
 unfold vNf
 replace iT := iT.later HB
 by_cases fa : FewN a
 rotate_left
 ·have hx := fa
  go_enter Tryd.func4, Tryd.ntmps4
  go_wp2_with (fail)
  refine (awake_any iT).mono ?_
  rintro e w1 ⟨rfl, hb⟩
  replace c01 := cell_later hb c01
  replace c02 := cell_later hb c02
  replace c03 := cell_later hb c03
  replace c04 := cell_later hb c04
  replace ia := ia.later hb
  replace iw := iw.later hb
  replace iT := iT.later hb
  replace HB := HB.trans (hb.mono HB.size)
  clear hb
  go_wp2_with (fail)
  refine (few_no ia fa).mono ?_
  rintro e w2 ⟨rfl, hb⟩
  replace c01 := cell_later hb c01
  replace c02 := cell_later hb c02
  replace c03 := cell_later hb c03
  replace c04 := cell_later hb c04
  replace ia := ia.later hb
  replace iw := iw.later hb
  replace iT := iT.later hb
  replace HB := HB.trans (hb.mono HB.size)
  clear hb
  go_wp2_with (fail)
  go_ret
  exact ⟨rfl, HB⟩
 by_cases hlw : 20 < lw
 ·have d1 : decide ((20 : Int) < (lw : Int)) = true := decide_eq_true (by omega)
  go_enter Tryd.func4, Tryd.ntmps4
  go_wp2_with (fail)
  refine (awake_any iT).mono ?_
  rintro e w3 ⟨rfl, hb⟩
  replace c01 := cell_later hb c01
  replace c02 := cell_later hb c02
  replace c03 := cell_later hb c03
  replace c04 := cell_later hb c04
  replace ia := ia.later hb
  replace iw := iw.later hb
  replace iT := iT.later hb
  replace HB := HB.trans (hb.mono HB.size)
  clear hb
  go_wp2_with (fail)
  refine (few_yes ia fa).mono ?_
  rintro e w4 ⟨rfl, hb⟩
  replace c01 := cell_later hb c01
  replace c02 := cell_later hb c02
  replace c03 := cell_later hb c03
  replace c04 := cell_later hb c04
  replace ia := ia.later hb
  replace iw := iw.later hb
  replace iT := iT.later hb
  replace HB := HB.trans (hb.mono HB.size)
  clear hb
  go_wp2_with (fail)
  go_ret
  exact ⟨rfl, HB⟩
 have d1 : decide ((20 : Int) < (lw : Int)) = false := decide_eq_false (by omega)
 have hl5 : lw ≤ 100000 := by omega
 have fa3 : a.arcs.length ≤ 1000 := by have := fa.2.2.2; omega
 have k1 := fun W h' (hd : IsNfa W h' a) (hq : IsInts .i64 W aw lw cw zs) => Closure_any (w := W) (h := h') hd hq
 have k2 := fun W h' (hd : IsNfa W h' a) (hq : IsInts .i64 W aw lw cw zs) => refClosure_any (w := W) (h := h') hd hq hl5
 have k3 := fun W h' (hd : IsNfa W h' a) (hq : IsInts .i64 W aw lw cw zs) (hT : TabW W) => Step_any (w := W) (h := h') (c := c) hd hq hT
 have k4 := fun W h' (hd : IsNfa W h' a) (hq : IsInts .i64 W aw lw cw zs) => refStep_any (w := W) (h := h') (c := c) hd hq hl5
 have k5 := fun W h' (hd : IsNfa W h' a) => Letters_any (w := W) (h := h') hd
 have k6 := fun W h' (hd : IsNfa W h' a) => refLetters_any (w := W) (h := h') hd
 have k7 := fun W h' (hd : IsNfa W h' a) => valid_any a h' W hd
 have k8 := fun W h' (hd : IsNfa W h' a) => refValid_any a h' W hd
 have p1 := cloV_ok a zs
 have p2 := stpV_ok a zs c
 have p3 := letV_len a
 obtain ⟨S1, hS1⟩ : ∃ S, cloV a zs = S := ⟨_, rfl⟩
 obtain ⟨S2, hS2⟩ : ∃ S, stpV a zs c = S := ⟨_, rfl⟩
 obtain ⟨S3, hS3⟩ : ∃ S, letV a = S := ⟨_, rfl⟩
 obtain ⟨x, hx⟩ : ∃ x, chkN a zs = x := ⟨_, rfl⟩
 obtain ⟨y, hy⟩ : ∃ y, vE a = y := ⟨_, rfl⟩
 obtain ⟨vv, hvv⟩ : ∃ v, vN a = v := ⟨_, rfl⟩
 rw [hS1] at p1 k1 k2
 rw [hS2] at p2 k3 k4
 rw [hS3] at p3 k5 k6
 rw [hx] at k1 k2 k3 k4
 rw [hy] at k5 k6
 rw [hvv] at k7 k8
 have P1 := Lib.hid p1
 have P2 := Lib.hid p2
 have P3 := Lib.hid p3
 have K1 := Lib.hid k1
 have K2 := Lib.hid k2
 have K3 := Lib.hid k3
 have K4 := Lib.hid k4
 have K5 := Lib.hid k5
 have K6 := Lib.hid k6
 have K7 := Lib.hid k7
 have K8 := Lib.hid k8
 clear k1 k2 k3 k4 k5 k6 k7 k8 p1 p2 p3 hS1 hS2 hS3 hx hy hvv
 go_enter Tryd.func4, Tryd.ntmps4
 go_wp2_with (fail)
 refine (awake_any iT).mono ?_
 rintro e w5 ⟨rfl, hb⟩
 replace c01 := cell_later hb c01
 replace c02 := cell_later hb c02
 replace c03 := cell_later hb c03
 replace c04 := cell_later hb c04
 replace ia := ia.later hb
 replace iw := iw.later hb
 replace iT := iT.later hb
 replace HB := HB.trans (hb.mono HB.size)
 clear hb
 go_wp2_with (fail)
 refine (few_yes ia fa).mono ?_
 rintro e w6 ⟨rfl, hb⟩
 replace c01 := cell_later hb c01
 replace c02 := cell_later hb c02
 replace c03 := cell_later hb c03
 replace c04 := cell_later hb c04
 replace ia := ia.later hb
 replace iw := iw.later hb
 replace iT := iT.later hb
 replace HB := HB.trans (hb.mono HB.size)
 clear hb
 go_wp2_with (fail)
 refine (own_any ia fa3).mono ?_
 rintro e w7 ⟨⟨yp, rfl, ip⟩, hb⟩
 unfold vNf
 replace c01 := cell_later hb c01
 replace c02 := cell_later hb c02
 replace c03 := cell_later hb c03
 replace c04 := cell_later hb c04
 replace ia := ia.later hb
 replace iw := iw.later hb
 replace iT := iT.later hb
 replace HB := HB.trans (hb.mono HB.size)
 clear hb
 go_upto_region 6 with (fail)
 obtain ⟨Vp, hVp, -, hb, hOp⟩ := boxNW a yp _ ip
 rw [hVp]
 obtain ⟨⟨cp1, cp2, cp3, cp4⟩, -, -⟩ := hOp Vp (Below.refl _ _)
 clear hOp hVp
 replace c01 := cell_later hb c01
 replace c02 := cell_later hb c02
 replace c03 := cell_later hb c03
 replace c04 := cell_later hb c04
 replace ia := ia.later hb
 replace iw := iw.later hb
 replace iT := iT.later hb
 replace ip := ip.later hb
 replace HB := HB.trans (hb.mono HB.size)
 clear hb
 go_wp2_with (fail)
 refine (K1.out _ _ ip iw).mono ?_
 rintro e w8 ⟨⟨g1, t1, e1, z1, rfl, i1, s1, l1⟩, hb⟩
 replace c01 := cell_later hb c01
 replace c02 := cell_later hb c02
 replace c03 := cell_later hb c03
 replace c04 := cell_later hb c04
 replace cp1 := cell_later hb cp1
 replace cp2 := cell_later hb cp2
 replace cp3 := cell_later hb cp3
 replace cp4 := cell_later hb cp4
 replace ia := ia.later hb
 replace iw := iw.later hb
 replace iT := iT.later hb
 replace ip := ip.later hb
 replace HB := HB.trans (hb.mono HB.size)
 clear hb
 go_wp2_with (fail)
 refine (K2.out _ _ ia iw).mono ?_
 rintro e w9 ⟨⟨g2, e2, rfl, i2⟩, hb⟩
 replace c01 := cell_later hb c01
 replace c02 := cell_later hb c02
 replace c03 := cell_later hb c03
 replace c04 := cell_later hb c04
 replace cp1 := cell_later hb cp1
 replace cp2 := cell_later hb cp2
 replace cp3 := cell_later hb cp3
 replace cp4 := cell_later hb cp4
 replace ia := ia.later hb
 replace iw := iw.later hb
 replace iT := iT.later hb
 replace ip := ip.later hb
 replace i1 := i1.later hb
 replace HB := HB.trans (hb.mono HB.size)
 clear hb
 go_wp2_with (fail)
 refine (K3.out _ _ ip iw iT).mono ?_
 rintro e w10 ⟨⟨g3, t3, e3, z3, rfl, i3, s3, l3⟩, hb⟩
 replace c01 := cell_later hb c01
 replace c02 := cell_later hb c02
 replace c03 := cell_later hb c03
 replace c04 := cell_later hb c04
 replace cp1 := cell_later hb cp1
 replace cp2 := cell_later hb cp2
 replace cp3 := cell_later hb cp3
 replace cp4 := cell_later hb cp4
 replace ia := ia.later hb
 replace iw := iw.later hb
 replace iT := iT.later hb
 replace ip := ip.later hb
 replace i1 := i1.later hb
 replace i2 := i2.later hb
 replace HB := HB.trans (hb.mono HB.size)
 clear hb
 go_wp2_with (fail)
 refine (K4.out _ _ ia iw).mono ?_
 rintro e w11 ⟨⟨g4, e4, rfl, i4⟩, hb⟩
 replace c01 := cell_later hb c01
 replace c02 := cell_later hb c02
 replace c03 := cell_later hb c03
 replace c04 := cell_later hb c04
 replace cp1 := cell_later hb cp1
 replace cp2 := cell_later hb cp2
 replace cp3 := cell_later hb cp3
 replace cp4 := cell_later hb cp4
 replace ia := ia.later hb
 replace iw := iw.later hb
 replace iT := iT.later hb
 replace ip := ip.later hb
 replace i1 := i1.later hb
 replace i2 := i2.later hb
 replace i3 := i3.later hb
 replace HB := HB.trans (hb.mono HB.size)
 clear hb
 go_wp2_with (fail)
 refine (K5.out _ _ ip).mono ?_
 rintro e w12 ⟨⟨g5, e5, rfl, i5⟩, hb⟩
 replace c01 := cell_later hb c01
 replace c02 := cell_later hb c02
 replace c03 := cell_later hb c03
 replace c04 := cell_later hb c04
 replace cp1 := cell_later hb cp1
 replace cp2 := cell_later hb cp2
 replace cp3 := cell_later hb cp3
 replace cp4 := cell_later hb cp4
 replace ia := ia.later hb
 replace iw := iw.later hb
 replace iT := iT.later hb
 replace ip := ip.later hb
 replace i1 := i1.later hb
 replace i2 := i2.later hb
 replace i3 := i3.later hb
 replace i4 := i4.later hb
 replace HB := HB.trans (hb.mono HB.size)
 clear hb
 go_wp2_with (fail)
 refine (K6.out _ _ ia).mono ?_
 rintro e w13 ⟨⟨g6, e6, rfl, i6⟩, hb⟩
 replace c01 := cell_later hb c01
 replace c02 := cell_later hb c02
 replace c03 := cell_later hb c03
 replace c04 := cell_later hb c04
 replace cp1 := cell_later hb cp1
 replace cp2 := cell_later hb cp2
 replace cp3 := cell_later hb cp3
 replace cp4 := cell_later hb cp4
 replace ia := ia.later hb
 replace iw := iw.later hb
 replace iT := iT.later hb
 replace ip := ip.later hb
 replace i1 := i1.later hb
 replace i2 := i2.later hb
 replace i3 := i3.later hb
 replace i4 := i4.later hb
 replace i5 := i5.later hb
 replace HB := HB.trans (hb.mono HB.size)
 clear hb
 go_upto_region 12 with (fail)
 refine wp_region_grow mixed (by kernel_rfl) [[], [(0, 68)], [], [(2, 70), (1, 69)], [(1, 69), (3, 71)], [(4, 72), (3, 71)], [(5, 73)], [(5, 73)], [(6, 74), (7, 75), (5, 73)], [(5, 73), (8, 76)], [(9, 77), (5, 73)], [(10, 78)], [(10, 78)], [(11, 79), (12, 80), (10, 78)], [(10, 78), (13, 81)], [(14, 82), (10, 78)], [(15, 83)], [(15, 83)], [(16, 84), (17, 85), (15, 83)], [(15, 83), (18, 86)], [(19, 87), (15, 83)], [(20, 88)], [(20, 88)], [(21, 89), (22, 90), (20, 88), (20, 88)], [(20, 88), (23, 91)], [(24, 92), (23, 91)], [(25, 93)], [(25, 93)], [(26, 94), (27, 95), (25, 93), (25, 93)], [(25, 93), (28, 96)], [(29, 97), (28, 96)], [(30, 98)], [(30, 98)], [(31, 99), (32, 100), (30, 98), (30, 98)], [(30, 98), (33, 101)], [(34, 102), (33, 101), (0, 68), (1, 69), (2, 70), (3, 71), (4, 72), (5, 73), (6, 74), (7, 75), (8, 76), (9, 77), (10, 78), (11, 79), (12, 80), (13, 81), (14, 82), (15, 83), (16, 84), (17, 85), (18, 86), (19, 87), (20, 88), (21, 89), (22, 90), (23, 91), (24, 92), (25, 93), (26, 94), (27, 95), (28, 96), (29, 97), (30, 98), (31, 99), (32, 100), (33, 101), (34, 102)]] [(0, 68), (1, 69), (2, 70), (3, 71), (4, 72), (5, 73), (6, 74), (7, 75), (8, 76), (9, 77), (10, 78), (11, 79), (12, 80), (13, 81), (14, 82), (15, 83), (16, 84), (17, 85), (18, 86), (19, 87), (20, 88), (21, 89), (22, 90), (23, 91), (24, 92), (25, 93), (26, 94), (27, 95), (28, 96), (29, 97), (30, 98), (31, 99), (32, 100), (33, 101), (34, 102), (35, 6)] rfl rfl [Ex ?ee0, Ex (.bool vv), Ex ?ee2, Ex (.bool vv), Ex ?ee4, Ex ?ee5, Ex ?ee6, Ex ?ee7, Ex ?ee8, Ex ?ee9, Ex ?ee10, Ex ?ee11, Ex ?ee12, Ex ?ee13, Ex ?ee14, Ex ?ee15, Ex ?ee16, Ex ?ee17, Ex ?ee18, Ex ?ee19, Ex ?ee20, Ex ?ee21, Ex ?ee22, Ex (.bool true), Ex ?ee24, Ex ?ee25, Ex ?ee26, Ex ?ee27, Ex (.bool true), Ex ?ee29, Ex ?ee30, Ex ?ee31, Ex ?ee32, Ex (.bool true), Ex ?ee34, Ex ?ee35] ⟨stays_ex _, stays_ex _, stays_ex _, stays_ex _, stays_ex _, stays_ex _, stays_ex _, stays_ex _, stays_ex _, stays_ex _, stays_ex _, stays_ex _, stays_ex _, stays_ex _, stays_ex _, stays_ex _, stays_ex _, stays_ex _, stays_ex _, stays_ex _, stays_ex _, stays_ex _, stays_ex _, stays_ex _, stays_ex _, stays_ex _, stays_ex _, stays_ex _, stays_ex _, stays_ex _, stays_ex _, stays_ex _, stays_ex _, stays_ex _, stays_ex _, stays_ex _, trivial⟩ ?esteps ?erest
 case esteps =>
  refine ⟨fun f W hC hh => ?_, fun f W hC hh => ?_, fun f W hC hh => ?_, fun f W hC hh => ?_, fun f W hC hh => ?_, fun f W hC hh => ?_, fun f W hC hh => ?_, fun f W hC hh => ?_, fun f W hC hh => ?_, fun f W hC hh => ?_, fun f W hC hh => ?_, fun f W hC hh => ?_, fun f W hC hh => ?_, fun f W hC hh => ?_, fun f W hC hh => ?_, fun f W hC hh => ?_, fun f W hC hh => ?_, fun f W hC hh => ?_, fun f W hC hh => ?_, fun f W hC hh => ?_, fun f W hC hh => ?_, fun f W hC hh => ?_, fun f W hC hh => ?_, fun f W hC hh => ?_, fun f W hC hh => ?_, fun f W hC hh => ?_, fun f W hC hh => ?_, fun f W hC hh => ?_, fun f W hC hh => ?_, fun f W hC hh => ?_, fun f W hC hh => ?_, fun f W hC hh => ?_, fun f W hC hh => ?_, fun f W hC hh => ?_, fun f W hC hh => ?_, fun f W hC hh => ?_, trivial⟩
  ·
   refine tab_plain fun K Q hK => ?_
   simp only [puts, foldr_nil]
   have mp1 := cell_later hC cp1
   have mp2 := cell_later hC cp2
   have mp3 := cell_later hC cp3
   have mp4 := cell_later hC cp4
   go_step
   exact fam_e hK rfl rfl (Below.refl _ _) hC
  ·
   obtain ⟨h0, -⟩ := hh
   have g0 : f 0 = _ := h0
   refine tab_plain fun K Q hK => ?_
   simp only [puts, Za, Zb, Zc, Zd, Ze, g0]
   go_step
   go_at_call 24
   refine (K7.out _ _ (ip.later hC)).mono ?_
   rintro e w' ⟨rfl, hb⟩
   exact fam_fin hK rfl rfl hb (hC.trans (hb.mono hC.size))
  ·
   refine tab_plain fun K Q hK => ?_
   simp only [puts, foldr_nil]
   have m01 := cell_later hC c01
   have m02 := cell_later hC c02
   have m03 := cell_later hC c03
   have m04 := cell_later hC c04
   go_step
   exact fam_e hK rfl rfl (Below.refl _ _) hC
  ·
   obtain ⟨h2, h1, -⟩ := hh
   have g2 : f 2 = _ := h2
   have g1 : f 1 = _ := h1
   refine tab_plain fun K Q hK => ?_
   simp only [puts, Za, Zb, Zc, Zd, Ze, g2, g1]
   go_step
   go_at_call 25
   refine (K8.out _ _ (ia.later hC)).mono ?_
   rintro e w' ⟨rfl, hb⟩
   exact fam_fin hK rfl rfl hb (hC.trans (hb.mono hC.size))
  ·
   obtain ⟨h1, h3, -⟩ := hh
   have g1 : f 1 = _ := h1
   have g3 : f 3 = _ := h3
   refine tab_plain fun K Q hK => ?_
   simp only [puts, Za, Zb, Zc, Zd, Ze, g1, g3]
   go_step
   exact fam_e hK rfl rfl (Below.refl _ _) hC
  ·
   obtain ⟨h4, h3, -⟩ := hh
   have g4 : f 4 = _ := h4
   have g3 : f 3 = _ := h3
   refine tab_plain fun K Q hK => ?_
   simp only [puts, Za, Zb, Zc, Zd, Ze, g4, g3]
   go_step
   exact fam_e hK rfl rfl (Below.refl _ _) hC
  ·
   obtain ⟨h5, -⟩ := hh
   have g5 : f 5 = _ := h5
   refine tab_yes g5 fun K Q hK => ?_
   simp only [puts, Za, Zb, Zc, Zd, Ze, g5]
   go_step
   exact fam_e hK rfl rfl (Below.refl _ _) hC
  ·
   obtain ⟨h5, -⟩ := hh
   have g5 : f 5 = _ := h5
   refine tab_yes g5 fun K Q hK => ?_
   simp only [puts, Za, Zb, Zc, Zd, Ze, g5]
   go_step
   exact fam_e hK rfl rfl (Below.refl _ _) hC
  ·
   obtain ⟨h6, h7, h5, -⟩ := hh
   have g6 : f 6 = _ := h6
   have g7 : f 7 = _ := h7
   have g5 : f 5 = _ := h5
   refine tab_yes g5 fun K Q hK => ?_
   simp only [puts, Za, Zb, Zc, Zd, Ze, g6, g7, g5]
   go_step
   exact fam_e hK rfl rfl (Below.refl _ _) hC
  ·
   obtain ⟨h5, h8, -⟩ := hh
   have g5 : f 5 = _ := h5
   have g8 : f 8 = _ := h8
   refine tab_plain fun K Q hK => ?_
   simp only [puts, Za, Zb, Zc, Zd, Ze, g5, g8]
   go_step
   exact fam_e hK rfl rfl (Below.refl _ _) hC
  ·
   obtain ⟨h9, h5, -⟩ := hh
   have g9 : f 9 = _ := h9
   have g5 : f 5 = _ := h5
   refine tab_plain fun K Q hK => ?_
   simp only [puts, Za, Zb, Zc, Zd, Ze, g9, g5]
   go_step
   exact fam_e hK rfl rfl (Below.refl _ _) hC
  ·
   obtain ⟨h10, -⟩ := hh
   have g10 : f 10 = _ := h10
   refine tab_yes g10 fun K Q hK => ?_
   simp only [puts, Za, Zb, Zc, Zd, Ze, g10]
   go_step
   exact fam_e hK rfl rfl (Below.refl _ _) hC
  ·
   obtain ⟨h10, -⟩ := hh
   have g10 : f 10 = _ := h10
   refine tab_yes g10 fun K Q hK => ?_
   simp only [puts, Za, Zb, Zc, Zd, Ze, g10]
   go_step
   exact fam_e hK rfl rfl (Below.refl _ _) hC
  ·
   obtain ⟨h11, h12, h10, -⟩ := hh
   have g11 : f 11 = _ := h11
   have g12 : f 12 = _ := h12
   have g10 : f 10 = _ := h10
   refine tab_yes g10 fun K Q hK => ?_
   simp only [puts, Za, Zb, Zc, Zd, Ze, g11, g12, g10]
   go_step
   exact fam_e hK rfl rfl (Below.refl _ _) hC
  ·
   obtain ⟨h10, h13, -⟩ := hh
   have g10 : f 10 = _ := h10
   have g13 : f 13 = _ := h13
   refine tab_plain fun K Q hK => ?_
   simp only [puts, Za, Zb, Zc, Zd, Ze, g10, g13]
   go_step
   exact fam_e hK rfl rfl (Below.refl _ _) hC
  ·
   obtain ⟨h14, h10, -⟩ := hh
   have g14 : f 14 = _ := h14
   have g10 : f 10 = _ := h10
   refine tab_plain fun K Q hK => ?_
   simp only [puts, Za, Zb, Zc, Zd, Ze, g14, g10]
   go_step
   exact fam_e hK rfl rfl (Below.refl _ _) hC
  ·
   obtain ⟨h15, -⟩ := hh
   have g15 : f 15 = _ := h15
   refine tab_yes g15 fun K Q hK => ?_
   simp only [puts, Za, Zb, Zc, Zd, Ze, g15]
   go_step
   exact fam_e hK rfl rfl (Below.refl _ _) hC
  ·
   obtain ⟨h15, -⟩ := hh
   have g15 : f 15 = _ := h15
   refine tab_yes g15 fun K Q hK => ?_
   simp only [puts, Za, Zb, Zc, Zd, Ze, g15]
   go_step
   exact fam_e hK rfl rfl (Below.refl _ _) hC
  ·
   obtain ⟨h16, h17, h15, -⟩ := hh
   have g16 : f 16 = _ := h16
   have g17 : f 17 = _ := h17
   have g15 : f 15 = _ := h15
   refine tab_yes g15 fun K Q hK => ?_
   simp only [puts, Za, Zb, Zc, Zd, Ze, g16, g17, g15]
   go_step
   exact fam_e hK rfl rfl (Below.refl _ _) hC
  ·
   obtain ⟨h15, h18, -⟩ := hh
   have g15 : f 15 = _ := h15
   have g18 : f 18 = _ := h18
   refine tab_plain fun K Q hK => ?_
   simp only [puts, Za, Zb, Zc, Zd, Ze, g15, g18]
   go_step
   exact fam_e hK rfl rfl (Below.refl _ _) hC
  ·
   obtain ⟨h19, h15, -⟩ := hh
   have g19 : f 19 = _ := h19
   have g15 : f 15 = _ := h15
   refine tab_plain fun K Q hK => ?_
   simp only [puts, Za, Zb, Zc, Zd, Ze, g19, g15]
   go_step
   exact fam_e hK rfl rfl (Below.refl _ _) hC
  ·
   obtain ⟨h20, -⟩ := hh
   have g20 : f 20 = _ := h20
   refine tab_yes g20 fun K Q hK => ?_
   simp only [puts, Za, Zb, Zc, Zd, Ze, g20]
   go_step
   exact fam_e hK rfl rfl (Below.refl _ _) hC
  ·
   obtain ⟨h20, -⟩ := hh
   have g20 : f 20 = _ := h20
   refine tab_yes g20 fun K Q hK => ?_
   simp only [puts, Za, Zb, Zc, Zd, Ze, g20]
   go_step
   exact fam_e hK rfl rfl (Below.refl _ _) hC
  ·
   obtain ⟨h21, h22, h20, _, -⟩ := hh
   have g21 : f 21 = _ := h21
   have g22 : f 22 = _ := h22
   have g20 : f 20 = _ := h20
   refine tab_yes g20 fun K Q hK => ?_
   simp only [puts, Za, Zb, Zc, Zd, Ze, g21, g22, g20]
   go_step
   go_at_call 17
   refine (lawSame_yes (n := 4096) (i1.later hC) s1 P1.out.1 P1.out.2 (by omega) (i2.later hC) (iT.later hC)).mono ?_
   rintro e w' ⟨rfl, hb⟩
   exact fam_fin hK rfl rfl hb (hC.trans (hb.mono hC.size))
  ·
   obtain ⟨h20, h23, -⟩ := hh
   have g20 : f 20 = _ := h20
   have g23 : f 23 = _ := h23
   refine tab_plain fun K Q hK => ?_
   simp only [puts, Za, Zb, Zc, Zd, Ze, g20, g23]
   go_step
   exact fam_e hK rfl rfl (Below.refl _ _) hC
  ·
   obtain ⟨h24, h23, -⟩ := hh
   have g24 : f 24 = _ := h24
   have g23 : f 23 = _ := h23
   refine tab_plain fun K Q hK => ?_
   simp only [puts, Za, Zb, Zc, Zd, Ze, g24, g23]
   go_step
   exact fam_e hK rfl rfl (Below.refl _ _) hC
  ·
   obtain ⟨h25, -⟩ := hh
   have g25 : f 25 = _ := h25
   refine tab_yes g25 fun K Q hK => ?_
   simp only [puts, Za, Zb, Zc, Zd, Ze, g25]
   go_step
   exact fam_e hK rfl rfl (Below.refl _ _) hC
  ·
   obtain ⟨h25, -⟩ := hh
   have g25 : f 25 = _ := h25
   refine tab_yes g25 fun K Q hK => ?_
   simp only [puts, Za, Zb, Zc, Zd, Ze, g25]
   go_step
   exact fam_e hK rfl rfl (Below.refl _ _) hC
  ·
   obtain ⟨h26, h27, h25, _, -⟩ := hh
   have g26 : f 26 = _ := h26
   have g27 : f 27 = _ := h27
   have g25 : f 25 = _ := h25
   refine tab_yes g25 fun K Q hK => ?_
   simp only [puts, Za, Zb, Zc, Zd, Ze, g26, g27, g25]
   go_step
   go_at_call 17
   refine (lawSame_yes (n := 4096) (i3.later hC) s3 P2.out.1 P2.out.2 (by omega) (i4.later hC) (iT.later hC)).mono ?_
   rintro e w' ⟨rfl, hb⟩
   exact fam_fin hK rfl rfl hb (hC.trans (hb.mono hC.size))
  ·
   obtain ⟨h25, h28, -⟩ := hh
   have g25 : f 25 = _ := h25
   have g28 : f 28 = _ := h28
   refine tab_plain fun K Q hK => ?_
   simp only [puts, Za, Zb, Zc, Zd, Ze, g25, g28]
   go_step
   exact fam_e hK rfl rfl (Below.refl _ _) hC
  ·
   obtain ⟨h29, h28, -⟩ := hh
   have g29 : f 29 = _ := h29
   have g28 : f 28 = _ := h28
   refine tab_plain fun K Q hK => ?_
   simp only [puts, Za, Zb, Zc, Zd, Ze, g29, g28]
   go_step
   exact fam_e hK rfl rfl (Below.refl _ _) hC
  ·
   obtain ⟨h30, -⟩ := hh
   have g30 : f 30 = _ := h30
   refine tab_yes g30 fun K Q hK => ?_
   simp only [puts, Za, Zb, Zc, Zd, Ze, g30]
   go_step
   exact fam_e hK rfl rfl (Below.refl _ _) hC
  ·
   obtain ⟨h30, -⟩ := hh
   have g30 : f 30 = _ := h30
   refine tab_yes g30 fun K Q hK => ?_
   simp only [puts, Za, Zb, Zc, Zd, Ze, g30]
   go_step
   exact fam_e hK rfl rfl (Below.refl _ _) hC
  ·
   obtain ⟨h31, h32, h30, _, -⟩ := hh
   have g31 : f 31 = _ := h31
   have g32 : f 32 = _ := h32
   have g30 : f 30 = _ := h30
   refine tab_yes g30 fun K Q hK => ?_
   simp only [puts, Za, Zb, Zc, Zd, Ze, g31, g32, g30]
   go_step
   go_at_call 26
   have hs := Bt.same_any _ _ _ _ _ _ _ _ W (i5.later hC) (i6.later hC) (by have := P3.out; omega)
   rw [decide_eq_true (rfl : S3 = S3)] at hs
   refine (hs).mono ?_
   rintro e w' ⟨rfl, hb⟩
   exact fam_fin hK rfl rfl hb (hC.trans (hb.mono hC.size))
  ·
   obtain ⟨h30, h33, -⟩ := hh
   have g30 : f 30 = _ := h30
   have g33 : f 33 = _ := h33
   refine tab_plain fun K Q hK => ?_
   simp only [puts, Za, Zb, Zc, Zd, Ze, g30, g33]
   go_step
   exact fam_e hK rfl rfl (Below.refl _ _) hC
  ·
   obtain ⟨h34, h33, h0, h1, h2, h3, h4, h5, h6, h7, h8, h9, h10, h11, h12, h13, h14, h15, h16, h17, h18, h19, h20, h21, h22, h23, h24, h25, h26, h27, h28, h29, h30, h31, h32, _, _, -⟩ := hh
   have g34 : f 34 = _ := h34
   have g33 : f 33 = _ := h33
   have g0 : f 0 = _ := h0
   have g1 : f 1 = _ := h1
   have g2 : f 2 = _ := h2
   have g3 : f 3 = _ := h3
   have g4 : f 4 = _ := h4
   have g5 : f 5 = _ := h5
   have g6 : f 6 = _ := h6
   have g7 : f 7 = _ := h7
   have g8 : f 8 = _ := h8
   have g9 : f 9 = _ := h9
   have g10 : f 10 = _ := h10
   have g11 : f 11 = _ := h11
   have g12 : f 12 = _ := h12
   have g13 : f 13 = _ := h13
   have g14 : f 14 = _ := h14
   have g15 : f 15 = _ := h15
   have g16 : f 16 = _ := h16
   have g17 : f 17 = _ := h17
   have g18 : f 18 = _ := h18
   have g19 : f 19 = _ := h19
   have g20 : f 20 = _ := h20
   have g21 : f 21 = _ := h21
   have g22 : f 22 = _ := h22
   have g23 : f 23 = _ := h23
   have g24 : f 24 = _ := h24
   have g25 : f 25 = _ := h25
   have g26 : f 26 = _ := h26
   have g27 : f 27 = _ := h27
   have g28 : f 28 = _ := h28
   have g29 : f 29 = _ := h29
   have g30 : f 30 = _ := h30
   have g31 : f 31 = _ := h31
   have g32 : f 32 = _ := h32
   refine tab_plain fun K Q hK => ?_
   simp only [puts, Za, Zb, Zc, Zd, Ze, g34, g33, g0, g1, g2, g3, g4, g5, g6, g7, g8, g9, g10, g11, g12, g13, g14, g15, g16, g17, g18, g19, g20, g21, g22, g23, g24, g25, g26, g27, g28, g29, g30, g31, g32]
   go_step
   exact fam_e hK rfl rfl (Below.refl _ _) hC
 case erest =>
  intro f WE hC hh
  obtain ⟨h0, h1, h2, h3, h4, h5, h6, h7, h8, h9, h10, h11, h12, h13, h14, h15, h16, h17, h18, h19, h20, h21, h22, h23, h24, h25, h26, h27, h28, h29, h30, h31, h32, h33, h34, h35, -⟩ := hh
  have g0 : f 0 = _ := h0
  have g1 : f 1 = _ := h1
  have g2 : f 2 = _ := h2
  have g3 : f 3 = _ := h3
  have g4 : f 4 = _ := h4
  have g5 : f 5 = _ := h5
  have g6 : f 6 = _ := h6
  have g7 : f 7 = _ := h7
  have g8 : f 8 = _ := h8
  have g9 : f 9 = _ := h9
  have g10 : f 10 = _ := h10
  have g11 : f 11 = _ := h11
  have g12 : f 12 = _ := h12
  have g13 : f 13 = _ := h13
  have g14 : f 14 = _ := h14
  have g15 : f 15 = _ := h15
  have g16 : f 16 = _ := h16
  have g17 : f 17 = _ := h17
  have g18 : f 18 = _ := h18
  have g19 : f 19 = _ := h19
  have g20 : f 20 = _ := h20
  have g21 : f 21 = _ := h21
  have g22 : f 22 = _ := h22
  have g23 : f 23 = _ := h23
  have g24 : f 24 = _ := h24
  have g25 : f 25 = _ := h25
  have g26 : f 26 = _ := h26
  have g27 : f 27 = _ := h27
  have g28 : f 28 = _ := h28
  have g29 : f 29 = _ := h29
  have g30 : f 30 = _ := h30
  have g31 : f 31 = _ := h31
  have g32 : f 32 = _ := h32
  have g33 : f 33 = _ := h33
  have g34 : f 34 = _ := h34
  have g35 : f 35 = _ := h35
  simp only [puts, Za, Zb, Zc, Zd, Ze, g0, g1, g2, g3, g4, g5, g6, g7, g8, g9, g10, g11, g12, g13, g14, g15, g16, g17, g18, g19, g20, g21, g22, g23, g24, g25, g26, g27, g28, g29, g30, g31, g32, g33, g34, g35]
  clear h0 h1 h2 h3 h4 h5 h6 h7 h8 h9 h10 h11 h12 h13 h14 h15 h16 h17 h18 h19 h20 h21 h22 h23 h24 h25 h26 h27 h28 h29 h30 h31 h32 h33 h34 h35 g0 g1 g2 g3 g4 g5 g6 g7 g8 g9 g10 g11 g12 g13 g14 g15 g16 g17 g18 g19 g20 g21 g22 g23 g24 g25 g26 g27 g28 g29 g30 g31 g32 g33 g34 g35
  have hb := hC
  clear hC
  replace c01 := cell_later hb c01
  replace c02 := cell_later hb c02
  replace c03 := cell_later hb c03
  replace c04 := cell_later hb c04
  replace cp1 := cell_later hb cp1
  replace cp2 := cell_later hb cp2
  replace cp3 := cell_later hb cp3
  replace cp4 := cell_later hb cp4
  replace ia := ia.later hb
  replace iw := iw.later hb
  replace iT := iT.later hb
  replace ip := ip.later hb
  replace i1 := i1.later hb
  replace i2 := i2.later hb
  replace i3 := i3.later hb
  replace i4 := i4.later hb
  replace i5 := i5.later hb
  replace i6 := i6.later hb
  replace HB := HB.trans (hb.mono HB.size)
  clear hb
  go_wp2_with (fail)
  go_ret
  exact ⟨rfl, HB⟩
theorem nfaSteps_top (a : Nfa) (h : NH) (aw : Option Addr) (lw cw : Nat) (zs : List Int) (c : Int) (w : World) (ia : IsNfa w h a) (iw : IsInts .i64 w aw lw cw zs) {P Q R : Prop} (_ : P) (_ : Q) (_ : R) (iT : TabW w) :
  Calls Tryd.prog 4 #[vNf a h, .slice aw lw cw, .int .i64 c] w fun e w' => e = .returned (.bool true) ∧ Below w.heap.size w w' := nfaSteps_walk a h aw lw cw zs c w ia iw iT
end Go.Proofs.YtofaifeadhimjaaDoor
