import Derived.Test.YtehdkcjoaogbeaaMG36
/-
  DfaProductsW
-/
set_option linter.unusedSimpArgs false
set_option linter.unusedVariables false
namespace Go.Proofs.Ytehdkcjoaogbeaa
open Go.RowKit
attribute [local go_sem] Oper.semAt_some

theorem accJ_yes {d : Dfa} (hv : ValidD d) {zs : List Int} {x : Bool} (hx : accQ d d.s zs = x) (W : World) (h' : DH) (aw : Option Addr) (lw cw : Nat) (hd : IsDfa W h' d) (hi : IsInts .i64 W aw lw cw zs) (hl : lw ≤ 1000000) :
    Calls Try.prog 22 #[vDf d h', .slice aw lw cw] W fun e w' => e = .returned (.tuple #[.bool x, .int .i64 0]) ∧ Below W.heap.size W w' := by
  have h := accepts_any hd hi hl
  rw [accV_yes hv, hx] at h
  exact h
set_option maxRecDepth 20000 in
set_option maxHeartbeats 2000000 in
theorem dfaProducts_walk (a : Dfa) (h : DH) (b : Dfa) (k : DH) (aw : Option Addr) (lw cw : Nat) (zs : List Int) (w : World) (ia : IsDfa w h a) (ib : IsDfa w k b) (iw : IsInts .i64 w aw lw cw zs) :
    Calls Try.prog 5 #[vDf a h, vDf b k, .slice aw lw cw] w fun e w' => e = .returned (.bool true) ∧ Below w.heap.size w w' := by
  obtain ⟨W0, hW0, hs0, hb0, hO0⟩ := boxRW a h w ia
  replace ib := ib.later hb0
  replace ia := (hO0 W0 (Below.refl _ _)).2.1
  replace iw := iw.later hb0
  obtain ⟨c01, c02, c03, c04⟩ := (hO0 W0 (Below.refl _ _)).1
  obtain ⟨W1, hW1, hs1, hb1, hO1⟩ := boxRW b k W0 ib
  replace ia := ia.later hb1
  replace ib := (hO1 W1 (Below.refl _ _)).2.1
  replace iw := iw.later hb1
  replace c01 := cell_later hb1 c01
  replace c02 := cell_later hb1 c02
  replace c03 := cell_later hb1 c03
  replace c04 := cell_later hb1 c04
  obtain ⟨c11, c12, c13, c14⟩ := (hO1 W1 (Below.refl _ _)).1
  have HB : Below w.heap.size w W1 := (hb0.trans (hb1.mono (hb0).size))
  rw [hs0] at c11 c12 c13 c14
  clear hO0 hb0 hO1 hb1
  unfold vDf
  by_cases fa : FewD a
  rotate_left
  · have hx := fa
    go_enter Try.func5, Try.ntmps5
    go_wp2_with (fail)
    refine (awake_any _).mono ?_
    rintro e w1 ⟨rfl, hb⟩
    replace c01 := cell_later hb c01
    replace c02 := cell_later hb c02
    replace c03 := cell_later hb c03
    replace c04 := cell_later hb c04
    replace c11 := cell_later hb c11
    replace c12 := cell_later hb c12
    replace c13 := cell_later hb c13
    replace c14 := cell_later hb c14
    replace ia := ia.later hb
    replace ib := ib.later hb
    replace iw := iw.later hb
    replace HB := HB.trans (hb.mono HB.size)
    clear hb
    go_wp2_with (fail)
    refine (few_no ia fa).mono ?_
    rintro e w2 ⟨rfl, hb⟩
    replace c01 := cell_later hb c01
    replace c02 := cell_later hb c02
    replace c03 := cell_later hb c03
    replace c04 := cell_later hb c04
    replace c11 := cell_later hb c11
    replace c12 := cell_later hb c12
    replace c13 := cell_later hb c13
    replace c14 := cell_later hb c14
    replace ia := ia.later hb
    replace ib := ib.later hb
    replace iw := iw.later hb
    replace HB := HB.trans (hb.mono HB.size)
    clear hb
    go_wp2_with (fail)
    go_ret
    exact ⟨rfl, HB⟩
  by_cases fb : FewD b
  rotate_left
  · have hx := fb
    go_enter Try.func5, Try.ntmps5
    go_wp2_with (fail)
    refine (awake_any _).mono ?_
    rintro e w3 ⟨rfl, hb⟩
    replace c01 := cell_later hb c01
    replace c02 := cell_later hb c02
    replace c03 := cell_later hb c03
    replace c04 := cell_later hb c04
    replace c11 := cell_later hb c11
    replace c12 := cell_later hb c12
    replace c13 := cell_later hb c13
    replace c14 := cell_later hb c14
    replace ia := ia.later hb
    replace ib := ib.later hb
    replace iw := iw.later hb
    replace HB := HB.trans (hb.mono HB.size)
    clear hb
    go_wp2_with (fail)
    refine (few_yes ia fa).mono ?_
    rintro e w4 ⟨rfl, hb⟩
    replace c01 := cell_later hb c01
    replace c02 := cell_later hb c02
    replace c03 := cell_later hb c03
    replace c04 := cell_later hb c04
    replace c11 := cell_later hb c11
    replace c12 := cell_later hb c12
    replace c13 := cell_later hb c13
    replace c14 := cell_later hb c14
    replace ia := ia.later hb
    replace ib := ib.later hb
    replace iw := iw.later hb
    replace HB := HB.trans (hb.mono HB.size)
    clear hb
    go_wp2_with (fail)
    refine (few_no ib fb).mono ?_
    rintro e w5 ⟨rfl, hb⟩
    replace c01 := cell_later hb c01
    replace c02 := cell_later hb c02
    replace c03 := cell_later hb c03
    replace c04 := cell_later hb c04
    replace c11 := cell_later hb c11
    replace c12 := cell_later hb c12
    replace c13 := cell_later hb c13
    replace c14 := cell_later hb c14
    replace ia := ia.later hb
    replace ib := ib.later hb
    replace iw := iw.later hb
    replace HB := HB.trans (hb.mono HB.size)
    clear hb
    go_wp2_with (fail)
    go_ret
    exact ⟨rfl, HB⟩
  by_cases va : ValidD a
  rotate_left
  · have hx := va
    go_enter Try.func5, Try.ntmps5
    go_wp2_with (fail)
    refine (awake_any _).mono ?_
    rintro e w6 ⟨rfl, hb⟩
    replace c01 := cell_later hb c01
    replace c02 := cell_later hb c02
    replace c03 := cell_later hb c03
    replace c04 := cell_later hb c04
    replace c11 := cell_later hb c11
    replace c12 := cell_later hb c12
    replace c13 := cell_later hb c13
    replace c14 := cell_later hb c14
    replace ia := ia.later hb
    replace ib := ib.later hb
    replace iw := iw.later hb
    replace HB := HB.trans (hb.mono HB.size)
    clear hb
    go_wp2_with (fail)
    refine (few_yes ia fa).mono ?_
    rintro e w7 ⟨rfl, hb⟩
    replace c01 := cell_later hb c01
    replace c02 := cell_later hb c02
    replace c03 := cell_later hb c03
    replace c04 := cell_later hb c04
    replace c11 := cell_later hb c11
    replace c12 := cell_later hb c12
    replace c13 := cell_later hb c13
    replace c14 := cell_later hb c14
    replace ia := ia.later hb
    replace ib := ib.later hb
    replace iw := iw.later hb
    replace HB := HB.trans (hb.mono HB.size)
    clear hb
    go_wp2_with (fail)
    refine (few_yes ib fb).mono ?_
    rintro e w8 ⟨rfl, hb⟩
    replace c01 := cell_later hb c01
    replace c02 := cell_later hb c02
    replace c03 := cell_later hb c03
    replace c04 := cell_later hb c04
    replace c11 := cell_later hb c11
    replace c12 := cell_later hb c12
    replace c13 := cell_later hb c13
    replace c14 := cell_later hb c14
    replace ia := ia.later hb
    replace ib := ib.later hb
    replace iw := iw.later hb
    replace HB := HB.trans (hb.mono HB.size)
    clear hb
    go_wp2_with (fail)
    refine (refValid_no va ia).mono ?_
    rintro e w9 ⟨rfl, hb⟩
    replace c01 := cell_later hb c01
    replace c02 := cell_later hb c02
    replace c03 := cell_later hb c03
    replace c04 := cell_later hb c04
    replace c11 := cell_later hb c11
    replace c12 := cell_later hb c12
    replace c13 := cell_later hb c13
    replace c14 := cell_later hb c14
    replace ia := ia.later hb
    replace ib := ib.later hb
    replace iw := iw.later hb
    replace HB := HB.trans (hb.mono HB.size)
    clear hb
    go_wp2_with (fail)
    go_ret
    exact ⟨rfl, HB⟩
  by_cases vb : ValidD b
  rotate_left
  · have hx := vb
    go_enter Try.func5, Try.ntmps5
    go_wp2_with (fail)
    refine (awake_any _).mono ?_
    rintro e w10 ⟨rfl, hb⟩
    replace c01 := cell_later hb c01
    replace c02 := cell_later hb c02
    replace c03 := cell_later hb c03
    replace c04 := cell_later hb c04
    replace c11 := cell_later hb c11
    replace c12 := cell_later hb c12
    replace c13 := cell_later hb c13
    replace c14 := cell_later hb c14
    replace ia := ia.later hb
    replace ib := ib.later hb
    replace iw := iw.later hb
    replace HB := HB.trans (hb.mono HB.size)
    clear hb
    go_wp2_with (fail)
    refine (few_yes ia fa).mono ?_
    rintro e w11 ⟨rfl, hb⟩
    replace c01 := cell_later hb c01
    replace c02 := cell_later hb c02
    replace c03 := cell_later hb c03
    replace c04 := cell_later hb c04
    replace c11 := cell_later hb c11
    replace c12 := cell_later hb c12
    replace c13 := cell_later hb c13
    replace c14 := cell_later hb c14
    replace ia := ia.later hb
    replace ib := ib.later hb
    replace iw := iw.later hb
    replace HB := HB.trans (hb.mono HB.size)
    clear hb
    go_wp2_with (fail)
    refine (few_yes ib fb).mono ?_
    rintro e w12 ⟨rfl, hb⟩
    replace c01 := cell_later hb c01
    replace c02 := cell_later hb c02
    replace c03 := cell_later hb c03
    replace c04 := cell_later hb c04
    replace c11 := cell_later hb c11
    replace c12 := cell_later hb c12
    replace c13 := cell_later hb c13
    replace c14 := cell_later hb c14
    replace ia := ia.later hb
    replace ib := ib.later hb
    replace iw := iw.later hb
    replace HB := HB.trans (hb.mono HB.size)
    clear hb
    go_wp2_with (fail)
    refine (refValid_yes va ia).mono ?_
    rintro e w13 ⟨rfl, hb⟩
    replace c01 := cell_later hb c01
    replace c02 := cell_later hb c02
    replace c03 := cell_later hb c03
    replace c04 := cell_later hb c04
    replace c11 := cell_later hb c11
    replace c12 := cell_later hb c12
    replace c13 := cell_later hb c13
    replace c14 := cell_later hb c14
    replace ia := ia.later hb
    replace ib := ib.later hb
    replace iw := iw.later hb
    replace HB := HB.trans (hb.mono HB.size)
    clear hb
    go_wp2_with (fail)
    refine (refValid_no vb ib).mono ?_
    rintro e w14 ⟨rfl, hb⟩
    replace c01 := cell_later hb c01
    replace c02 := cell_later hb c02
    replace c03 := cell_later hb c03
    replace c04 := cell_later hb c04
    replace c11 := cell_later hb c11
    replace c12 := cell_later hb c12
    replace c13 := cell_later hb c13
    replace c14 := cell_later hb c14
    replace ia := ia.later hb
    replace ib := ib.later hb
    replace iw := iw.later hb
    replace HB := HB.trans (hb.mono HB.size)
    clear hb
    go_wp2_with (fail)
    go_ret
    exact ⟨rfl, HB⟩
  by_cases hlw : 20 < lw
  · have d1 : decide ((20 : Int) < (lw : Int)) = true := decide_eq_true (by omega)
    go_enter Try.func5, Try.ntmps5
    go_wp2_with (fail)
    refine (awake_any _).mono ?_
    rintro e w15 ⟨rfl, hb⟩
    replace c01 := cell_later hb c01
    replace c02 := cell_later hb c02
    replace c03 := cell_later hb c03
    replace c04 := cell_later hb c04
    replace c11 := cell_later hb c11
    replace c12 := cell_later hb c12
    replace c13 := cell_later hb c13
    replace c14 := cell_later hb c14
    replace ia := ia.later hb
    replace ib := ib.later hb
    replace iw := iw.later hb
    replace HB := HB.trans (hb.mono HB.size)
    clear hb
    go_wp2_with (fail)
    refine (few_yes ia fa).mono ?_
    rintro e w16 ⟨rfl, hb⟩
    replace c01 := cell_later hb c01
    replace c02 := cell_later hb c02
    replace c03 := cell_later hb c03
    replace c04 := cell_later hb c04
    replace c11 := cell_later hb c11
    replace c12 := cell_later hb c12
    replace c13 := cell_later hb c13
    replace c14 := cell_later hb c14
    replace ia := ia.later hb
    replace ib := ib.later hb
    replace iw := iw.later hb
    replace HB := HB.trans (hb.mono HB.size)
    clear hb
    go_wp2_with (fail)
    refine (few_yes ib fb).mono ?_
    rintro e w17 ⟨rfl, hb⟩
    replace c01 := cell_later hb c01
    replace c02 := cell_later hb c02
    replace c03 := cell_later hb c03
    replace c04 := cell_later hb c04
    replace c11 := cell_later hb c11
    replace c12 := cell_later hb c12
    replace c13 := cell_later hb c13
    replace c14 := cell_later hb c14
    replace ia := ia.later hb
    replace ib := ib.later hb
    replace iw := iw.later hb
    replace HB := HB.trans (hb.mono HB.size)
    clear hb
    go_wp2_with (fail)
    refine (refValid_yes va ia).mono ?_
    rintro e w18 ⟨rfl, hb⟩
    replace c01 := cell_later hb c01
    replace c02 := cell_later hb c02
    replace c03 := cell_later hb c03
    replace c04 := cell_later hb c04
    replace c11 := cell_later hb c11
    replace c12 := cell_later hb c12
    replace c13 := cell_later hb c13
    replace c14 := cell_later hb c14
    replace ia := ia.later hb
    replace ib := ib.later hb
    replace iw := iw.later hb
    replace HB := HB.trans (hb.mono HB.size)
    clear hb
    go_wp2_with (fail)
    refine (refValid_yes vb ib).mono ?_
    rintro e w19 ⟨rfl, hb⟩
    replace c01 := cell_later hb c01
    replace c02 := cell_later hb c02
    replace c03 := cell_later hb c03
    replace c04 := cell_later hb c04
    replace c11 := cell_later hb c11
    replace c12 := cell_later hb c12
    replace c13 := cell_later hb c13
    replace c14 := cell_later hb c14
    replace ia := ia.later hb
    replace ib := ib.later hb
    replace iw := iw.later hb
    replace HB := HB.trans (hb.mono HB.size)
    clear hb
    go_wp2_with (fail)
    go_ret
    exact ⟨rfl, HB⟩
  have d1 : decide ((20 : Int) < (lw : Int)) = false := decide_eq_false (by omega)
  have hlw2 : lw ≤ 1000000 := by omega
  obtain ⟨hn1, hm1⟩ := few_prod fa fb
  obtain ⟨hn2, hm2⟩ := few_prod fa fa
  have hp1 := fun W h' k' (hd : IsDfa W h' a) (he : IsDfa W k' b) => product_yes (w := W) (h := h') (kh := k') va vb hn1 hm1 hd he
  have hp2 := fun W h' k' (hd : IsDfa W h' a) (he : IsDfa W k' a) => product_yes (w := W) (h := h') (kh := k') va va hn2 hm2 hd he
  have v1 := prodD_valid va vb hn1 hm1
  have v2 := prodD_valid va va hn2 hm2
  obtain ⟨x, hx⟩ : ∃ x, accQ a a.s zs = x := ⟨_, rfl⟩
  obtain ⟨y, hy⟩ : ∃ y, accQ b b.s zs = y := ⟨_, rfl⟩
  have z1 : accQ (prodD a b) (prodD a b).s zs = (x && y) := by rw [show (prodD a b).s = 0 from rfl, prodD_lang va vb, hx, hy]
  have z2 : accQ (prodD a a) (prodD a a).s zs = x := by rw [show (prodD a a).s = 0 from rfl, prodD_lang va va, hx, Bool.and_self]
  have HAX := accJ_yes va hx
  have HBY := accJ_yes vb hy
  have H1 := accJ_yes v1 z1
  have H2 := accJ_yes v2 z2
  obtain ⟨P1, hP1⟩ : ∃ P, prodD a b = P := ⟨_, rfl⟩
  obtain ⟨P2, hP2⟩ : ∃ P, prodD a a = P := ⟨_, rfl⟩
  rw [hP1] at hp1 H1
  rw [hP2] at hp2 H2
  have HP1 := Lib.hid hp1
  have HP2 := Lib.hid hp2
  have fa3 : a.arcs.length ≤ 1000 := by have := fa.2.2; omega
  have fb3 : b.arcs.length ≤ 1000 := by have := fb.2.2; omega
  have HZ := Lib.hid iw.length
  clear hn1 hm1 hn2 hm2 hp1 hp2 v1 v2 z1 z2 hx hy hP1 hP2
  go_enter Try.func5, Try.ntmps5
  go_wp2_with (fail)
  refine (awake_any _).mono ?_
  rintro e w20 ⟨rfl, hb⟩
  replace c01 := cell_later hb c01
  replace c02 := cell_later hb c02
  replace c03 := cell_later hb c03
  replace c04 := cell_later hb c04
  replace c11 := cell_later hb c11
  replace c12 := cell_later hb c12
  replace c13 := cell_later hb c13
  replace c14 := cell_later hb c14
  replace ia := ia.later hb
  replace ib := ib.later hb
  replace iw := iw.later hb
  replace HB := HB.trans (hb.mono HB.size)
  clear hb
  go_wp2_with (fail)
  refine (few_yes ia fa).mono ?_
  rintro e w21 ⟨rfl, hb⟩
  replace c01 := cell_later hb c01
  replace c02 := cell_later hb c02
  replace c03 := cell_later hb c03
  replace c04 := cell_later hb c04
  replace c11 := cell_later hb c11
  replace c12 := cell_later hb c12
  replace c13 := cell_later hb c13
  replace c14 := cell_later hb c14
  replace ia := ia.later hb
  replace ib := ib.later hb
  replace iw := iw.later hb
  replace HB := HB.trans (hb.mono HB.size)
  clear hb
  go_wp2_with (fail)
  refine (few_yes ib fb).mono ?_
  rintro e w22 ⟨rfl, hb⟩
  replace c01 := cell_later hb c01
  replace c02 := cell_later hb c02
  replace c03 := cell_later hb c03
  replace c04 := cell_later hb c04
  replace c11 := cell_later hb c11
  replace c12 := cell_later hb c12
  replace c13 := cell_later hb c13
  replace c14 := cell_later hb c14
  replace ia := ia.later hb
  replace ib := ib.later hb
  replace iw := iw.later hb
  replace HB := HB.trans (hb.mono HB.size)
  clear hb
  go_wp2_with (fail)
  refine (refValid_yes va ia).mono ?_
  rintro e w23 ⟨rfl, hb⟩
  replace c01 := cell_later hb c01
  replace c02 := cell_later hb c02
  replace c03 := cell_later hb c03
  replace c04 := cell_later hb c04
  replace c11 := cell_later hb c11
  replace c12 := cell_later hb c12
  replace c13 := cell_later hb c13
  replace c14 := cell_later hb c14
  replace ia := ia.later hb
  replace ib := ib.later hb
  replace iw := iw.later hb
  replace HB := HB.trans (hb.mono HB.size)
  clear hb
  go_wp2_with (fail)
  refine (refValid_yes vb ib).mono ?_
  rintro e w24 ⟨rfl, hb⟩
  replace c01 := cell_later hb c01
  replace c02 := cell_later hb c02
  replace c03 := cell_later hb c03
  replace c04 := cell_later hb c04
  replace c11 := cell_later hb c11
  replace c12 := cell_later hb c12
  replace c13 := cell_later hb c13
  replace c14 := cell_later hb c14
  replace ia := ia.later hb
  replace ib := ib.later hb
  replace iw := iw.later hb
  replace HB := HB.trans (hb.mono HB.size)
  clear hb
  go_upto_region 5 with (fail)
  obtain ⟨S, hSd⟩ : ∃ S : (Nat → Bool) → (Nat → Value) → World → Prop, S = SBox w24 a b P1 0 := ⟨_, rfl⟩
  refine wp_region_st mixed (by kernel_rfl) [[], [(0, 45)], [], [(2, 47), (1, 46)], [(1, 46), (3, 48), (3, 48)], [(4, 49)], [(5, 44)], [(5, 44)], [], [(8, 7), (6, 50), (4, 49), (0, 45), (1, 46), (2, 47), (3, 48), (4, 49), (5, 44), (6, 50), (8, 7)], [(7, 51), (0, 45), (1, 46), (2, 47), (3, 48), (4, 49), (5, 44), (6, 50), (7, 51), (8, 7)]] [(0, 45), (1, 46), (2, 47), (3, 48), (4, 49), (5, 44), (6, 50), (7, 51), (8, 7), (10, 8)] rfl rfl [EV ?ep0, fun _ => True, EV ?ep2, fun _ => True, fun _ => True, fun _ => True, fun _ => True, EV ?ep7, fun _ => True, fun _ => True, EV ?ep10] S ?pstart ?psteps ?prest
  case pstart =>
    intro f
    rw [hSd]
    exact SBox.start f
  case psteps =>
    refine ⟨fun L f W hi hd hdn hh hS => ?_, fun L f W hi hd hdn hh hS => ?_, fun L f W hi hd hdn hh hS => ?_, fun L f W hi hd hdn hh hS => ?_, fun L f W hi hd hdn hh hS => ?_, fun L f W hi hd hdn hh hS => ?_, fun L f W hi hd hdn hh hS => ?_, fun L f W hi hd hdn hh hS => ?_, fun L f W hi hd hdn hh hS => ?_, fun L f W hi hd hdn hh hS => ?_, fun L f W hi hd hdn hh hS => ?_, trivial⟩
    ·
      unfold stStep
      rw [if_pos (by simp [Region.wanted])]
      intro K Q hK
      simp only [puts, List.foldr_nil]
      have m0 := hS
      rw [hSd] at m0
      have mc01 := cell_later m0.1 c01
      have mc02 := cell_later m0.1 c02
      have mc03 := cell_later m0.1 c03
      have mc04 := cell_later m0.1 c04
      have mc11 := cell_later m0.1 c11
      have mc12 := cell_later m0.1 c12
      have mc13 := cell_later m0.1 c13
      have mc14 := cell_later m0.1 c14
      go_step
      refine st_ex hK rfl rfl (by simp only [Act.put, List.setIfInBounds_toArray, List.set_cons_succ, List.set_cons_zero, Array.getD_eq_getD_getElem?, List.getElem?_toArray, List.getElem?_cons_succ, List.getElem?_cons_zero, Option.getD_some] <;> rfl) rfl (by rw [hSd] at hS ⊢; exact hS)
    ·
      obtain ⟨h0, -⟩ := hh
      have g0 : f 0 = _ := h0
      unfold stStep
      rw [if_pos (by simp [Region.wanted])]
      intro K Q hK
      simp only [puts, List.foldr_cons, List.foldr_nil, List.setIfInBounds_toArray, List.set_cons_succ, List.set_cons_zero, g0]
      rw [hSd] at hS hK
      have l1 : L 1 = false := hi
      try simp only [stage, l1, if_true, if_false, Bool.false_eq_true] at hS
      go_step
      go_at_call 13
      refine (own_any (ia.later hS.1) fa3).mono ?_
      rintro e w' ⟨⟨hy, rfl, iy⟩, hb⟩
      exact hK.out _ _ rfl trivial ((hS.later hb).put1 ⟨hy, rfl, iy⟩)
    ·
      unfold stStep
      rw [if_pos (by simp [Region.wanted])]
      intro K Q hK
      simp only [puts, List.foldr_nil]
      have m0 := hS
      rw [hSd] at m0
      have mc01 := cell_later m0.1 c01
      have mc02 := cell_later m0.1 c02
      have mc03 := cell_later m0.1 c03
      have mc04 := cell_later m0.1 c04
      have mc11 := cell_later m0.1 c11
      have mc12 := cell_later m0.1 c12
      have mc13 := cell_later m0.1 c13
      have mc14 := cell_later m0.1 c14
      go_step
      refine st_ex hK rfl rfl (by simp only [Act.put, List.setIfInBounds_toArray, List.set_cons_succ, List.set_cons_zero, Array.getD_eq_getD_getElem?, List.getElem?_toArray, List.getElem?_cons_succ, List.getElem?_cons_zero, Option.getD_some] <;> rfl) rfl (by rw [hSd] at hS ⊢; exact hS)
    ·
      obtain ⟨h2, h1, -⟩ := hh
      have g2 : f 2 = _ := h2
      (first | (have q1 := hd 1 (by decide); have p1 := hS; rw [hSd] at p1; replace p1 := p1.2.1 q1) | (have p1 := hS.2.1 (hL 1 (by decide)))); obtain ⟨y1, g1, s1⟩ := p1
      unfold stStep
      rw [if_pos (by simp [Region.wanted])]
      intro K Q hK
      simp only [puts, List.foldr_cons, List.foldr_nil, List.setIfInBounds_toArray, List.set_cons_succ, List.set_cons_zero, g2, g1]
      rw [hSd] at hS hK
      have l3 : L 3 = false := hi
      try simp only [stage, l3, if_true, if_false, Bool.false_eq_true] at hS
      go_step
      go_at_call 13
      refine (own_any (ib.later hS.1) fb3).mono ?_
      rintro e w' ⟨⟨hy, rfl, iy⟩, hb⟩
      exact hK.out _ _ rfl trivial ((hS.later hb).put3 ⟨hy, rfl, iy⟩)
    ·
      obtain ⟨h1, h3, _, -⟩ := hh
      (first | (have q1 := hd 1 (by decide); have p1 := hS; rw [hSd] at p1; replace p1 := p1.2.1 q1) | (have p1 := hS.2.1 (hL 1 (by decide)))); obtain ⟨y1, g1, s1⟩ := p1
      (first | (have q3 := hd 3 (by decide); have p3 := hS; rw [hSd] at p3; replace p3 := p3.2.2.1 q3) | (have p3 := hS.2.2.1 (hL 3 (by decide)))); obtain ⟨y3, g3, s3⟩ := p3
      unfold stStep
      rw [if_pos (by simp [Region.wanted])]
      intro K Q hK
      simp only [puts, List.foldr_cons, List.foldr_nil, List.setIfInBounds_toArray, List.set_cons_succ, List.set_cons_zero, g1, g3]
      rw [hSd] at hS hK
      have l4 : L 4 = false := hi
      try simp only [stage, l4, if_true, if_false, Bool.false_eq_true] at hS
      go_step
      go_at_call 28
      refine (HP1.out _ _ _ s1 s3).mono ?_
      rintro e w' ⟨⟨hy, rfl, iy⟩, hb⟩
      exact hK.out _ _ rfl trivial ((hS.later hb).put4 ⟨hy, rfl, iy⟩)
    ·
      obtain ⟨h4, -⟩ := hh
      (first | (have q4 := hd 4 (by decide); have p4 := hS; rw [hSd] at p4; replace p4 := p4.2.2.2.1 q4) | (have p4 := hS.2.2.2.1 (hL 4 (by decide)))); obtain ⟨y4, g4, s4⟩ := p4
      unfold stStep
      rw [if_pos (by simp [Region.wanted])]
      intro K Q hK
      simp only [puts, List.foldr_cons, List.foldr_nil, List.setIfInBounds_toArray, List.set_cons_succ, List.set_cons_zero, g4]
      rw [hSd] at hS hK
      have l5 : L 5 = false := hi
      try simp only [stage, l5, if_true, if_false, Bool.false_eq_true] at hS
      go_step
      exact hK.out _ _ rfl trivial (hS.put5 ⟨y4, rfl, s4⟩)
    ·
      obtain ⟨h5, -⟩ := hh
      (first | (have q5 := hd 5 (by decide); have p5 := hS; rw [hSd] at p5; replace p5 := p5.2.2.2.2.1 q5) | (have p5 := hS.2.2.2.2.1 (hL 5 (by decide)))); obtain ⟨y5, g5, s5⟩ := p5
      unfold stStep
      rw [if_pos (by simp [Region.wanted])]
      intro K Q hK
      simp only [puts, List.foldr_cons, List.foldr_nil, List.setIfInBounds_toArray, List.set_cons_succ, List.set_cons_zero, g5]
      rw [hSd] at hS hK
      have l6 : L 6 = false := hi
      try simp only [stage, l6, if_true, if_false, Bool.false_eq_true] at hS
      go_step
      exact hK.out _ _ rfl trivial (hS.put6 ⟨y5, rfl, s5⟩)
    ·
      obtain ⟨h5, -⟩ := hh
      (first | (have q5 := hd 5 (by decide); have p5 := hS; rw [hSd] at p5; replace p5 := p5.2.2.2.2.1 q5) | (have p5 := hS.2.2.2.2.1 (hL 5 (by decide)))); obtain ⟨y5, g5, s5⟩ := p5
      unfold stStep
      rw [if_pos (by simp [Region.wanted])]
      intro K Q hK
      simp only [puts, List.foldr_cons, List.foldr_nil, List.setIfInBounds_toArray, List.set_cons_succ, List.set_cons_zero, g5]
      go_step
      refine st_ex hK rfl rfl (by simp only [Act.put, List.setIfInBounds_toArray, List.set_cons_succ, List.set_cons_zero, Array.getD_eq_getD_getElem?, List.getElem?_toArray, List.getElem?_cons_succ, List.getElem?_cons_zero, Option.getD_some] <;> rfl) rfl (by rw [hSd] at hS ⊢; exact hS)
    ·
      have l9 : L 9 = false := Bool.eq_false_iff.2 fun h => by have q := hdn 9 _ h rfl 8 (by decide); rw [show L 8 = false from hi] at q; cases q
      unfold stStep
      rw [if_pos (by simp [Region.wanted])]
      intro K Q hK
      simp only [puts, List.foldr_nil]
      rw [hSd] at hS hK
      have l8 : L 8 = false := hi
      try simp only [stage, l9, l8, if_true, if_false, Bool.false_eq_true] at hS
      have hal : Below W.heap.size W (W.alloc (.cells #[.int .i64 0, .int .i64 0, .slice none 0 0, .slice none 0 0] 30)) := (Below.refl _ _).alloc (Nat.le_refl _) _
      have hz := heap_alloc_new W (.cells #[.int .i64 0, .int .i64 0, .slice none 0 0, .slice none 0 0] 30)
      go_step
      exact hK.out _ _ rfl trivial ((hS.later hal).put8 hS.1.size l9 hz)
    ·
      obtain ⟨h8, h6, h4, h0, h1, h2, h3, _, h5, _, _, -⟩ := hh
      (first | (have q8 := hd 8 (by decide); have p8 := hS; rw [hSd] at p8; replace p8 := p8.2.2.2.2.2.2 q8) | (have p8 := hS.2.2.2.2.2.2 (hL 8 (by decide)))); obtain ⟨y8, g8, s8⟩ := p8
      (first | (have q6 := hd 6 (by decide); have p6 := hS; rw [hSd] at p6; replace p6 := p6.2.2.2.2.2.1 q6) | (have p6 := hS.2.2.2.2.2.1 (hL 6 (by decide)))); obtain ⟨y6, g6, s6⟩ := p6
      (first | (have q4 := hd 4 (by decide); have p4 := hS; rw [hSd] at p4; replace p4 := p4.2.2.2.1 q4) | (have p4 := hS.2.2.2.1 (hL 4 (by decide)))); obtain ⟨y4, g4, s4⟩ := p4
      have g0 : f 0 = _ := h0
      (first | (have q1 := hd 1 (by decide); have p1 := hS; rw [hSd] at p1; replace p1 := p1.2.1 q1) | (have p1 := hS.2.1 (hL 1 (by decide)))); obtain ⟨y1, g1, s1⟩ := p1
      have g2 : f 2 = _ := h2
      (first | (have q3 := hd 3 (by decide); have p3 := hS; rw [hSd] at p3; replace p3 := p3.2.2.1 q3) | (have p3 := hS.2.2.1 (hL 3 (by decide)))); obtain ⟨y3, g3, s3⟩ := p3
      (first | (have q5 := hd 5 (by decide); have p5 := hS; rw [hSd] at p5; replace p5 := p5.2.2.2.2.1 q5) | (have p5 := hS.2.2.2.2.1 (hL 5 (by decide)))); obtain ⟨y5, g5, s5⟩ := p5
      have l6 : L 6 = true := hd 6 (by decide)
      have l8 : L 8 = true := hd 8 (by decide)
      unfold stStep
      rw [if_pos (by simp [Region.wanted])]
      intro K Q hK
      simp only [puts, List.foldr_cons, List.foldr_nil, List.setIfInBounds_toArray, List.set_cons_succ, List.set_cons_zero, g8, g6, g4, g0, g1, g2, g3, g5]
      rw [hSd] at hS hK
      have l9 : L 9 = false := hi
      try simp only [stage, l9, l6, l8, if_true, if_false, Bool.false_eq_true] at hS
      have hzz : ZBox W y8 := s8.2.1 l9
      refine wp_store_row 30 _ _ rfl y8 #[.int .i64 (P1).n, .int .i64 (P1).s, .slice y6.fa y6.fl y6.fc, .slice y6.aa y6.al y6.ac] rfl rfl _ _ hzz dfa_i rfl (dfa_one _ _ _ _ _ _ _ _) ?_
      exact hK.out _ _ rfl trivial (hS.put9 l8 g8 hzz s8.1 s6 _)
    ·
      obtain ⟨h7, h0, h1, h2, h3, h4, h5, h6, _, h8, -⟩ := hh
      have g7 : f 7 = _ := h7
      have g0 : f 0 = _ := h0
      (first | (have q1 := hd 1 (by decide); have p1 := hS; rw [hSd] at p1; replace p1 := p1.2.1 q1) | (have p1 := hS.2.1 (hL 1 (by decide)))); obtain ⟨y1, g1, s1⟩ := p1
      have g2 : f 2 = _ := h2
      (first | (have q3 := hd 3 (by decide); have p3 := hS; rw [hSd] at p3; replace p3 := p3.2.2.1 q3) | (have p3 := hS.2.2.1 (hL 3 (by decide)))); obtain ⟨y3, g3, s3⟩ := p3
      (first | (have q4 := hd 4 (by decide); have p4 := hS; rw [hSd] at p4; replace p4 := p4.2.2.2.1 q4) | (have p4 := hS.2.2.2.1 (hL 4 (by decide)))); obtain ⟨y4, g4, s4⟩ := p4
      (first | (have q5 := hd 5 (by decide); have p5 := hS; rw [hSd] at p5; replace p5 := p5.2.2.2.2.1 q5) | (have p5 := hS.2.2.2.2.1 (hL 5 (by decide)))); obtain ⟨y5, g5, s5⟩ := p5
      (first | (have q6 := hd 6 (by decide); have p6 := hS; rw [hSd] at p6; replace p6 := p6.2.2.2.2.2.1 q6) | (have p6 := hS.2.2.2.2.2.1 (hL 6 (by decide)))); obtain ⟨y6, g6, s6⟩ := p6
      (first | (have q8 := hd 8 (by decide); have p8 := hS; rw [hSd] at p8; replace p8 := p8.2.2.2.2.2.2 q8) | (have p8 := hS.2.2.2.2.2.2 (hL 8 (by decide)))); obtain ⟨y8, g8, s8⟩ := p8
      unfold stStep
      rw [if_pos (by simp [Region.wanted])]
      intro K Q hK
      simp only [puts, List.foldr_cons, List.foldr_nil, List.setIfInBounds_toArray, List.set_cons_succ, List.set_cons_zero, g7, g0, g1, g2, g3, g4, g5, g6, g8]
      go_step
      refine st_ex hK rfl rfl (by simp only [Act.put, List.setIfInBounds_toArray, List.set_cons_succ, List.set_cons_zero, Array.getD_eq_getD_getElem?, List.getElem?_toArray, List.getElem?_cons_succ, List.getElem?_cons_zero, Option.getD_some] <;> rfl) rfl (by rw [hSd] at hS ⊢; exact hS)
  case prest =>
    intro L f WR hL hh hS
    rw [hSd] at hS
    clear hSd
    obtain ⟨h0, h1, h2, h3, h4, h5, h6, h7, h8, h10, -⟩ := hh
    have g0 : f 0 = _ := h0
    (first | (have q1 := hd 1 (by decide); have p1 := hS; rw [hSd] at p1; replace p1 := p1.2.1 q1) | (have p1 := hS.2.1 (hL 1 (by decide)))); obtain ⟨y1, g1, s1⟩ := p1
    have g2 : f 2 = _ := h2
    (first | (have q3 := hd 3 (by decide); have p3 := hS; rw [hSd] at p3; replace p3 := p3.2.2.1 q3) | (have p3 := hS.2.2.1 (hL 3 (by decide)))); obtain ⟨y3, g3, s3⟩ := p3
    (first | (have q4 := hd 4 (by decide); have p4 := hS; rw [hSd] at p4; replace p4 := p4.2.2.2.1 q4) | (have p4 := hS.2.2.2.1 (hL 4 (by decide)))); obtain ⟨y4, g4, s4⟩ := p4
    (first | (have q5 := hd 5 (by decide); have p5 := hS; rw [hSd] at p5; replace p5 := p5.2.2.2.2.1 q5) | (have p5 := hS.2.2.2.2.1 (hL 5 (by decide)))); obtain ⟨y5, g5, s5⟩ := p5
    (first | (have q6 := hd 6 (by decide); have p6 := hS; rw [hSd] at p6; replace p6 := p6.2.2.2.2.2.1 q6) | (have p6 := hS.2.2.2.2.2.1 (hL 6 (by decide)))); obtain ⟨y6, g6, s6⟩ := p6
    have g7 : f 7 = _ := h7
    (first | (have q8 := hd 8 (by decide); have p8 := hS; rw [hSd] at p8; replace p8 := p8.2.2.2.2.2.2 q8) | (have p8 := hS.2.2.2.2.2.2 (hL 8 (by decide)))); obtain ⟨y8, g8, s8⟩ := p8
    have g10 : f 10 = _ := h10
    simp only [puts, List.foldr_cons, List.foldr_nil, List.setIfInBounds_toArray, List.set_cons_succ, List.set_cons_zero, g0, g1, g2, g3, g4, g5, g6, g7, g8, g10]
    clear h0 h2 h7 h10 g0 g2 g7 g10
    obtain ⟨yr, hhr, ir⟩ := s8.2.2 (hL 9 (by decide))
    obtain ⟨hb, -⟩ := hS
    have cr1 := cell_of_row _ _ 0 _ _ _ hhr
    have cr2 := cell_of_row _ _ 1 _ _ _ hhr
    have cr3 := cell_of_row _ _ 2 _ _ _ hhr
    have cr4 := cell_of_row _ _ 3 _ _ _ hhr
    clear hhr hL g1 s1 g3 s3 g4 s4 g5 s5 g6 s6 g8 s8
    replace c01 := cell_later hb c01
    replace c02 := cell_later hb c02
    replace c03 := cell_later hb c03
    replace c04 := cell_later hb c04
    replace c11 := cell_later hb c11
    replace c12 := cell_later hb c12
    replace c13 := cell_later hb c13
    replace c14 := cell_later hb c14
    replace ia := ia.later hb
    replace ib := ib.later hb
    replace iw := iw.later hb
    replace HB := HB.trans (hb.mono HB.size)
    clear hb
    go_upto_region 6 with (fail)
    obtain ⟨S, hSd⟩ : ∃ S : (Nat → Bool) → (Nat → Value) → World → Prop, S = SBox WR a a P2 0 := ⟨_, rfl⟩
    refine wp_region_st mixed (by kernel_rfl) [[], [(0, 53)], [], [(2, 55), (1, 54)], [(1, 54), (3, 56), (3, 56)], [(4, 57)], [(5, 52)], [(5, 52)], [], [(8, 9), (6, 58), (4, 57), (0, 53), (1, 54), (2, 55), (3, 56), (4, 57), (5, 52), (6, 58), (8, 9)], [(7, 59), (0, 53), (1, 54), (2, 55), (3, 56), (4, 57), (5, 52), (6, 58), (7, 59), (8, 9)]] [(0, 53), (1, 54), (2, 55), (3, 56), (4, 57), (5, 52), (6, 58), (7, 59), (8, 9), (10, 10)] rfl rfl [EV ?eq0, fun _ => True, EV ?eq2, fun _ => True, fun _ => True, fun _ => True, fun _ => True, EV ?eq7, fun _ => True, fun _ => True, EV ?eq10] S ?qstart ?qsteps ?qrest
    case qstart =>
      intro f
      rw [hSd]
      exact SBox.start f
    case qsteps =>
      refine ⟨fun L f W hi hd hdn hh hS => ?_, fun L f W hi hd hdn hh hS => ?_, fun L f W hi hd hdn hh hS => ?_, fun L f W hi hd hdn hh hS => ?_, fun L f W hi hd hdn hh hS => ?_, fun L f W hi hd hdn hh hS => ?_, fun L f W hi hd hdn hh hS => ?_, fun L f W hi hd hdn hh hS => ?_, fun L f W hi hd hdn hh hS => ?_, fun L f W hi hd hdn hh hS => ?_, fun L f W hi hd hdn hh hS => ?_, trivial⟩
      ·
        unfold stStep
        rw [if_pos (by simp [Region.wanted])]
        intro K Q hK
        simp only [puts, List.foldr_nil]
        have m0 := hS
        rw [hSd] at m0
        have mc01 := cell_later m0.1 c01
        have mc02 := cell_later m0.1 c02
        have mc03 := cell_later m0.1 c03
        have mc04 := cell_later m0.1 c04
        have mc11 := cell_later m0.1 c11
        have mc12 := cell_later m0.1 c12
        have mc13 := cell_later m0.1 c13
        have mc14 := cell_later m0.1 c14
        have mcr1 := cell_later m0.1 cr1
        have mcr2 := cell_later m0.1 cr2
        have mcr3 := cell_later m0.1 cr3
        have mcr4 := cell_later m0.1 cr4
        go_step
        refine st_ex hK rfl rfl (by simp only [Act.put, List.setIfInBounds_toArray, List.set_cons_succ, List.set_cons_zero, Array.getD_eq_getD_getElem?, List.getElem?_toArray, List.getElem?_cons_succ, List.getElem?_cons_zero, Option.getD_some] <;> rfl) rfl (by rw [hSd] at hS ⊢; exact hS)
      ·
        obtain ⟨h0, -⟩ := hh
        have g0 : f 0 = _ := h0
        unfold stStep
        rw [if_pos (by simp [Region.wanted])]
        intro K Q hK
        simp only [puts, List.foldr_cons, List.foldr_nil, List.setIfInBounds_toArray, List.set_cons_succ, List.set_cons_zero, g0]
        rw [hSd] at hS hK
        have l1 : L 1 = false := hi
        try simp only [stage, l1, if_true, if_false, Bool.false_eq_true] at hS
        go_step
        go_at_call 13
        refine (own_any (ia.later hS.1) fa3).mono ?_
        rintro e w' ⟨⟨hy, rfl, iy⟩, hb⟩
        exact hK.out _ _ rfl trivial ((hS.later hb).put1 ⟨hy, rfl, iy⟩)
      ·
        unfold stStep
        rw [if_pos (by simp [Region.wanted])]
        intro K Q hK
        simp only [puts, List.foldr_nil]
        have m0 := hS
        rw [hSd] at m0
        have mc01 := cell_later m0.1 c01
        have mc02 := cell_later m0.1 c02
        have mc03 := cell_later m0.1 c03
        have mc04 := cell_later m0.1 c04
        have mc11 := cell_later m0.1 c11
        have mc12 := cell_later m0.1 c12
        have mc13 := cell_later m0.1 c13
        have mc14 := cell_later m0.1 c14
        have mcr1 := cell_later m0.1 cr1
        have mcr2 := cell_later m0.1 cr2
        have mcr3 := cell_later m0.1 cr3
        have mcr4 := cell_later m0.1 cr4
        go_step
        refine st_ex hK rfl rfl (by simp only [Act.put, List.setIfInBounds_toArray, List.set_cons_succ, List.set_cons_zero, Array.getD_eq_getD_getElem?, List.getElem?_toArray, List.getElem?_cons_succ, List.getElem?_cons_zero, Option.getD_some] <;> rfl) rfl (by rw [hSd] at hS ⊢; exact hS)
      ·
        obtain ⟨h2, h1, -⟩ := hh
        have g2 : f 2 = _ := h2
        (first | (have q1 := hd 1 (by decide); have p1 := hS; rw [hSd] at p1; replace p1 := p1.2.1 q1) | (have p1 := hS.2.1 (hL 1 (by decide)))); obtain ⟨y1, g1, s1⟩ := p1
        unfold stStep
        rw [if_pos (by simp [Region.wanted])]
        intro K Q hK
        simp only [puts, List.foldr_cons, List.foldr_nil, List.setIfInBounds_toArray, List.set_cons_succ, List.set_cons_zero, g2, g1]
        rw [hSd] at hS hK
        have l3 : L 3 = false := hi
        try simp only [stage, l3, if_true, if_false, Bool.false_eq_true] at hS
        go_step
        go_at_call 13
        refine (own_any (ia.later hS.1) fa3).mono ?_
        rintro e w' ⟨⟨hy, rfl, iy⟩, hb⟩
        exact hK.out _ _ rfl trivial ((hS.later hb).put3 ⟨hy, rfl, iy⟩)
      ·
        obtain ⟨h1, h3, _, -⟩ := hh
        (first | (have q1 := hd 1 (by decide); have p1 := hS; rw [hSd] at p1; replace p1 := p1.2.1 q1) | (have p1 := hS.2.1 (hL 1 (by decide)))); obtain ⟨y1, g1, s1⟩ := p1
        (first | (have q3 := hd 3 (by decide); have p3 := hS; rw [hSd] at p3; replace p3 := p3.2.2.1 q3) | (have p3 := hS.2.2.1 (hL 3 (by decide)))); obtain ⟨y3, g3, s3⟩ := p3
        unfold stStep
        rw [if_pos (by simp [Region.wanted])]
        intro K Q hK
        simp only [puts, List.foldr_cons, List.foldr_nil, List.setIfInBounds_toArray, List.set_cons_succ, List.set_cons_zero, g1, g3]
        rw [hSd] at hS hK
        have l4 : L 4 = false := hi
        try simp only [stage, l4, if_true, if_false, Bool.false_eq_true] at hS
        go_step
        go_at_call 28
        refine (HP2.out _ _ _ s1 s3).mono ?_
        rintro e w' ⟨⟨hy, rfl, iy⟩, hb⟩
        exact hK.out _ _ rfl trivial ((hS.later hb).put4 ⟨hy, rfl, iy⟩)
      ·
        obtain ⟨h4, -⟩ := hh
        (first | (have q4 := hd 4 (by decide); have p4 := hS; rw [hSd] at p4; replace p4 := p4.2.2.2.1 q4) | (have p4 := hS.2.2.2.1 (hL 4 (by decide)))); obtain ⟨y4, g4, s4⟩ := p4
        unfold stStep
        rw [if_pos (by simp [Region.wanted])]
        intro K Q hK
        simp only [puts, List.foldr_cons, List.foldr_nil, List.setIfInBounds_toArray, List.set_cons_succ, List.set_cons_zero, g4]
        rw [hSd] at hS hK
        have l5 : L 5 = false := hi
        try simp only [stage, l5, if_true, if_false, Bool.false_eq_true] at hS
        go_step
        exact hK.out _ _ rfl trivial (hS.put5 ⟨y4, rfl, s4⟩)
      ·
        obtain ⟨h5, -⟩ := hh
        (first | (have q5 := hd 5 (by decide); have p5 := hS; rw [hSd] at p5; replace p5 := p5.2.2.2.2.1 q5) | (have p5 := hS.2.2.2.2.1 (hL 5 (by decide)))); obtain ⟨y5, g5, s5⟩ := p5
        unfold stStep
        rw [if_pos (by simp [Region.wanted])]
        intro K Q hK
        simp only [puts, List.foldr_cons, List.foldr_nil, List.setIfInBounds_toArray, List.set_cons_succ, List.set_cons_zero, g5]
        rw [hSd] at hS hK
        have l6 : L 6 = false := hi
        try simp only [stage, l6, if_true, if_false, Bool.false_eq_true] at hS
        go_step
        exact hK.out _ _ rfl trivial (hS.put6 ⟨y5, rfl, s5⟩)
      ·
        obtain ⟨h5, -⟩ := hh
        (first | (have q5 := hd 5 (by decide); have p5 := hS; rw [hSd] at p5; replace p5 := p5.2.2.2.2.1 q5) | (have p5 := hS.2.2.2.2.1 (hL 5 (by decide)))); obtain ⟨y5, g5, s5⟩ := p5
        unfold stStep
        rw [if_pos (by simp [Region.wanted])]
        intro K Q hK
        simp only [puts, List.foldr_cons, List.foldr_nil, List.setIfInBounds_toArray, List.set_cons_succ, List.set_cons_zero, g5]
        go_step
        refine st_ex hK rfl rfl (by simp only [Act.put, List.setIfInBounds_toArray, List.set_cons_succ, List.set_cons_zero, Array.getD_eq_getD_getElem?, List.getElem?_toArray, List.getElem?_cons_succ, List.getElem?_cons_zero, Option.getD_some] <;> rfl) rfl (by rw [hSd] at hS ⊢; exact hS)
      ·
        have l9 : L 9 = false := Bool.eq_false_iff.2 fun h => by have q := hdn 9 _ h rfl 8 (by decide); rw [show L 8 = false from hi] at q; cases q
        unfold stStep
        rw [if_pos (by simp [Region.wanted])]
        intro K Q hK
        simp only [puts, List.foldr_nil]
        rw [hSd] at hS hK
        have l8 : L 8 = false := hi
        try simp only [stage, l9, l8, if_true, if_false, Bool.false_eq_true] at hS
        have hal : Below W.heap.size W (W.alloc (.cells #[.int .i64 0, .int .i64 0, .slice none 0 0, .slice none 0 0] 30)) := (Below.refl _ _).alloc (Nat.le_refl _) _
        have hz := heap_alloc_new W (.cells #[.int .i64 0, .int .i64 0, .slice none 0 0, .slice none 0 0] 30)
        go_step
        exact hK.out _ _ rfl trivial ((hS.later hal).put8 hS.1.size l9 hz)
      ·
        obtain ⟨h8, h6, h4, h0, h1, h2, h3, _, h5, _, _, -⟩ := hh
        (first | (have q8 := hd 8 (by decide); have p8 := hS; rw [hSd] at p8; replace p8 := p8.2.2.2.2.2.2 q8) | (have p8 := hS.2.2.2.2.2.2 (hL 8 (by decide)))); obtain ⟨y8, g8, s8⟩ := p8
        (first | (have q6 := hd 6 (by decide); have p6 := hS; rw [hSd] at p6; replace p6 := p6.2.2.2.2.2.1 q6) | (have p6 := hS.2.2.2.2.2.1 (hL 6 (by decide)))); obtain ⟨y6, g6, s6⟩ := p6
        (first | (have q4 := hd 4 (by decide); have p4 := hS; rw [hSd] at p4; replace p4 := p4.2.2.2.1 q4) | (have p4 := hS.2.2.2.1 (hL 4 (by decide)))); obtain ⟨y4, g4, s4⟩ := p4
        have g0 : f 0 = _ := h0
        (first | (have q1 := hd 1 (by decide); have p1 := hS; rw [hSd] at p1; replace p1 := p1.2.1 q1) | (have p1 := hS.2.1 (hL 1 (by decide)))); obtain ⟨y1, g1, s1⟩ := p1
        have g2 : f 2 = _ := h2
        (first | (have q3 := hd 3 (by decide); have p3 := hS; rw [hSd] at p3; replace p3 := p3.2.2.1 q3) | (have p3 := hS.2.2.1 (hL 3 (by decide)))); obtain ⟨y3, g3, s3⟩ := p3
        (first | (have q5 := hd 5 (by decide); have p5 := hS; rw [hSd] at p5; replace p5 := p5.2.2.2.2.1 q5) | (have p5 := hS.2.2.2.2.1 (hL 5 (by decide)))); obtain ⟨y5, g5, s5⟩ := p5
        have l6 : L 6 = true := hd 6 (by decide)
        have l8 : L 8 = true := hd 8 (by decide)
        unfold stStep
        rw [if_pos (by simp [Region.wanted])]
        intro K Q hK
        simp only [puts, List.foldr_cons, List.foldr_nil, List.setIfInBounds_toArray, List.set_cons_succ, List.set_cons_zero, g8, g6, g4, g0, g1, g2, g3, g5]
        rw [hSd] at hS hK
        have l9 : L 9 = false := hi
        try simp only [stage, l9, l6, l8, if_true, if_false, Bool.false_eq_true] at hS
        have hzz : ZBox W y8 := s8.2.1 l9
        refine wp_store_row 30 _ _ rfl y8 #[.int .i64 (P2).n, .int .i64 (P2).s, .slice y6.fa y6.fl y6.fc, .slice y6.aa y6.al y6.ac] rfl rfl _ _ hzz dfa_i rfl (dfa_one _ _ _ _ _ _ _ _) ?_
        exact hK.out _ _ rfl trivial (hS.put9 l8 g8 hzz s8.1 s6 _)
      ·
        obtain ⟨h7, h0, h1, h2, h3, h4, h5, h6, _, h8, -⟩ := hh
        have g7 : f 7 = _ := h7
        have g0 : f 0 = _ := h0
        (first | (have q1 := hd 1 (by decide); have p1 := hS; rw [hSd] at p1; replace p1 := p1.2.1 q1) | (have p1 := hS.2.1 (hL 1 (by decide)))); obtain ⟨y1, g1, s1⟩ := p1
        have g2 : f 2 = _ := h2
        (first | (have q3 := hd 3 (by decide); have p3 := hS; rw [hSd] at p3; replace p3 := p3.2.2.1 q3) | (have p3 := hS.2.2.1 (hL 3 (by decide)))); obtain ⟨y3, g3, s3⟩ := p3
        (first | (have q4 := hd 4 (by decide); have p4 := hS; rw [hSd] at p4; replace p4 := p4.2.2.2.1 q4) | (have p4 := hS.2.2.2.1 (hL 4 (by decide)))); obtain ⟨y4, g4, s4⟩ := p4
        (first | (have q5 := hd 5 (by decide); have p5 := hS; rw [hSd] at p5; replace p5 := p5.2.2.2.2.1 q5) | (have p5 := hS.2.2.2.2.1 (hL 5 (by decide)))); obtain ⟨y5, g5, s5⟩ := p5
        (first | (have q6 := hd 6 (by decide); have p6 := hS; rw [hSd] at p6; replace p6 := p6.2.2.2.2.2.1 q6) | (have p6 := hS.2.2.2.2.2.1 (hL 6 (by decide)))); obtain ⟨y6, g6, s6⟩ := p6
        (first | (have q8 := hd 8 (by decide); have p8 := hS; rw [hSd] at p8; replace p8 := p8.2.2.2.2.2.2 q8) | (have p8 := hS.2.2.2.2.2.2 (hL 8 (by decide)))); obtain ⟨y8, g8, s8⟩ := p8
        unfold stStep
        rw [if_pos (by simp [Region.wanted])]
        intro K Q hK
        simp only [puts, List.foldr_cons, List.foldr_nil, List.setIfInBounds_toArray, List.set_cons_succ, List.set_cons_zero, g7, g0, g1, g2, g3, g4, g5, g6, g8]
        go_step
        refine st_ex hK rfl rfl (by simp only [Act.put, List.setIfInBounds_toArray, List.set_cons_succ, List.set_cons_zero, Array.getD_eq_getD_getElem?, List.getElem?_toArray, List.getElem?_cons_succ, List.getElem?_cons_zero, Option.getD_some] <;> rfl) rfl (by rw [hSd] at hS ⊢; exact hS)
    case qrest =>
      intro L f WS hL hh hS
      rw [hSd] at hS
      clear hSd
      obtain ⟨h0, h1, h2, h3, h4, h5, h6, h7, h8, h10, -⟩ := hh
      have g0 : f 0 = _ := h0
      (first | (have q1 := hd 1 (by decide); have p1 := hS; rw [hSd] at p1; replace p1 := p1.2.1 q1) | (have p1 := hS.2.1 (hL 1 (by decide)))); obtain ⟨y1, g1, s1⟩ := p1
      have g2 : f 2 = _ := h2
      (first | (have q3 := hd 3 (by decide); have p3 := hS; rw [hSd] at p3; replace p3 := p3.2.2.1 q3) | (have p3 := hS.2.2.1 (hL 3 (by decide)))); obtain ⟨y3, g3, s3⟩ := p3
      (first | (have q4 := hd 4 (by decide); have p4 := hS; rw [hSd] at p4; replace p4 := p4.2.2.2.1 q4) | (have p4 := hS.2.2.2.1 (hL 4 (by decide)))); obtain ⟨y4, g4, s4⟩ := p4
      (first | (have q5 := hd 5 (by decide); have p5 := hS; rw [hSd] at p5; replace p5 := p5.2.2.2.2.1 q5) | (have p5 := hS.2.2.2.2.1 (hL 5 (by decide)))); obtain ⟨y5, g5, s5⟩ := p5
      (first | (have q6 := hd 6 (by decide); have p6 := hS; rw [hSd] at p6; replace p6 := p6.2.2.2.2.2.1 q6) | (have p6 := hS.2.2.2.2.2.1 (hL 6 (by decide)))); obtain ⟨y6, g6, s6⟩ := p6
      have g7 : f 7 = _ := h7
      (first | (have q8 := hd 8 (by decide); have p8 := hS; rw [hSd] at p8; replace p8 := p8.2.2.2.2.2.2 q8) | (have p8 := hS.2.2.2.2.2.2 (hL 8 (by decide)))); obtain ⟨y8, g8, s8⟩ := p8
      have g10 : f 10 = _ := h10
      simp only [puts, List.foldr_cons, List.foldr_nil, List.setIfInBounds_toArray, List.set_cons_succ, List.set_cons_zero, g0, g1, g2, g3, g4, g5, g6, g7, g8, g10]
      clear h0 h2 h7 h10 g0 g2 g7 g10
      obtain ⟨ys, hhs, is⟩ := s8.2.2 (hL 9 (by decide))
      obtain ⟨hb, -⟩ := hS
      have cs1 := cell_of_row _ _ 0 _ _ _ hhs
      have cs2 := cell_of_row _ _ 1 _ _ _ hhs
      have cs3 := cell_of_row _ _ 2 _ _ _ hhs
      have cs4 := cell_of_row _ _ 3 _ _ _ hhs
      clear hhs hL g1 s1 g3 s3 g4 s4 g5 s5 g6 s6 g8 s8
      replace c01 := cell_later hb c01
      replace c02 := cell_later hb c02
      replace c03 := cell_later hb c03
      replace c04 := cell_later hb c04
      replace c11 := cell_later hb c11
      replace c12 := cell_later hb c12
      replace c13 := cell_later hb c13
      replace c14 := cell_later hb c14
      replace cr1 := cell_later hb cr1
      replace cr2 := cell_later hb cr2
      replace cr3 := cell_later hb cr3
      replace cr4 := cell_later hb cr4
      replace ia := ia.later hb
      replace ib := ib.later hb
      replace iw := iw.later hb
      replace ir := ir.later hb
      replace HB := HB.trans (hb.mono HB.size)
      clear hb
      go_wp2_with (fail)
      refine (own_any ia fa3).mono ?_
      rintro e w25 ⟨⟨yp, rfl, ip⟩, hb⟩
      unfold vDf
      replace c01 := cell_later hb c01
      replace c02 := cell_later hb c02
      replace c03 := cell_later hb c03
      replace c04 := cell_later hb c04
      replace c11 := cell_later hb c11
      replace c12 := cell_later hb c12
      replace c13 := cell_later hb c13
      replace c14 := cell_later hb c14
      replace cr1 := cell_later hb cr1
      replace cr2 := cell_later hb cr2
      replace cr3 := cell_later hb cr3
      replace cr4 := cell_later hb cr4
      replace cs1 := cell_later hb cs1
      replace cs2 := cell_later hb cs2
      replace cs3 := cell_later hb cs3
      replace cs4 := cell_later hb cs4
      replace ia := ia.later hb
      replace ib := ib.later hb
      replace iw := iw.later hb
      replace ir := ir.later hb
      replace is := is.later hb
      replace HB := HB.trans (hb.mono HB.size)
      clear hb
      go_wp2_with (fail)
      refine (HAX _ _ _ _ _ ip iw hlw2).mono ?_
      rintro e w26 ⟨rfl, hb⟩
      replace c01 := cell_later hb c01
      replace c02 := cell_later hb c02
      replace c03 := cell_later hb c03
      replace c04 := cell_later hb c04
      replace c11 := cell_later hb c11
      replace c12 := cell_later hb c12
      replace c13 := cell_later hb c13
      replace c14 := cell_later hb c14
      replace cr1 := cell_later hb cr1
      replace cr2 := cell_later hb cr2
      replace cr3 := cell_later hb cr3
      replace cr4 := cell_later hb cr4
      replace cs1 := cell_later hb cs1
      replace cs2 := cell_later hb cs2
      replace cs3 := cell_later hb cs3
      replace cs4 := cell_later hb cs4
      replace ia := ia.later hb
      replace ib := ib.later hb
      replace iw := iw.later hb
      replace ir := ir.later hb
      replace is := is.later hb
      replace ip := ip.later hb
      replace HB := HB.trans (hb.mono HB.size)
      clear hb
      go_wp2_with (fail)
      refine (own_any ib fb3).mono ?_
      rintro e w27 ⟨⟨yq, rfl, iq⟩, hb⟩
      unfold vDf
      replace c01 := cell_later hb c01
      replace c02 := cell_later hb c02
      replace c03 := cell_later hb c03
      replace c04 := cell_later hb c04
      replace c11 := cell_later hb c11
      replace c12 := cell_later hb c12
      replace c13 := cell_later hb c13
      replace c14 := cell_later hb c14
      replace cr1 := cell_later hb cr1
      replace cr2 := cell_later hb cr2
      replace cr3 := cell_later hb cr3
      replace cr4 := cell_later hb cr4
      replace cs1 := cell_later hb cs1
      replace cs2 := cell_later hb cs2
      replace cs3 := cell_later hb cs3
      replace cs4 := cell_later hb cs4
      replace ia := ia.later hb
      replace ib := ib.later hb
      replace iw := iw.later hb
      replace ir := ir.later hb
      replace is := is.later hb
      replace ip := ip.later hb
      replace HB := HB.trans (hb.mono HB.size)
      clear hb
      go_wp2_with (fail)
      refine (HBY _ _ _ _ _ iq iw hlw2).mono ?_
      rintro e w28 ⟨rfl, hb⟩
      replace c01 := cell_later hb c01
      replace c02 := cell_later hb c02
      replace c03 := cell_later hb c03
      replace c04 := cell_later hb c04
      replace c11 := cell_later hb c11
      replace c12 := cell_later hb c12
      replace c13 := cell_later hb c13
      replace c14 := cell_later hb c14
      replace cr1 := cell_later hb cr1
      replace cr2 := cell_later hb cr2
      replace cr3 := cell_later hb cr3
      replace cr4 := cell_later hb cr4
      replace cs1 := cell_later hb cs1
      replace cs2 := cell_later hb cs2
      replace cs3 := cell_later hb cs3
      replace cs4 := cell_later hb cs4
      replace ia := ia.later hb
      replace ib := ib.later hb
      replace iw := iw.later hb
      replace ir := ir.later hb
      replace is := is.later hb
      replace ip := ip.later hb
      replace iq := iq.later hb
      replace HB := HB.trans (hb.mono HB.size)
      clear hb
      go_wp2_with (fail)
      refine (H1 _ _ _ _ _ ir iw hlw2).mono ?_
      rintro e w29 ⟨rfl, hb⟩
      replace c01 := cell_later hb c01
      replace c02 := cell_later hb c02
      replace c03 := cell_later hb c03
      replace c04 := cell_later hb c04
      replace c11 := cell_later hb c11
      replace c12 := cell_later hb c12
      replace c13 := cell_later hb c13
      replace c14 := cell_later hb c14
      replace cr1 := cell_later hb cr1
      replace cr2 := cell_later hb cr2
      replace cr3 := cell_later hb cr3
      replace cr4 := cell_later hb cr4
      replace cs1 := cell_later hb cs1
      replace cs2 := cell_later hb cs2
      replace cs3 := cell_later hb cs3
      replace cs4 := cell_later hb cs4
      replace ia := ia.later hb
      replace ib := ib.later hb
      replace iw := iw.later hb
      replace ir := ir.later hb
      replace is := is.later hb
      replace ip := ip.later hb
      replace iq := iq.later hb
      replace HB := HB.trans (hb.mono HB.size)
      clear hb
      go_wp2_with (fail)
      refine (H2 _ _ _ _ _ is iw hlw2).mono ?_
      rintro e w30 ⟨rfl, hb⟩
      replace c01 := cell_later hb c01
      replace c02 := cell_later hb c02
      replace c03 := cell_later hb c03
      replace c04 := cell_later hb c04
      replace c11 := cell_later hb c11
      replace c12 := cell_later hb c12
      replace c13 := cell_later hb c13
      replace c14 := cell_later hb c14
      replace cr1 := cell_later hb cr1
      replace cr2 := cell_later hb cr2
      replace cr3 := cell_later hb cr3
      replace cr4 := cell_later hb cr4
      replace cs1 := cell_later hb cs1
      replace cs2 := cell_later hb cs2
      replace cs3 := cell_later hb cs3
      replace cs4 := cell_later hb cs4
      replace ia := ia.later hb
      replace ib := ib.later hb
      replace iw := iw.later hb
      replace ir := ir.later hb
      replace is := is.later hb
      replace ip := ip.later hb
      replace iq := iq.later hb
      replace HB := HB.trans (hb.mono HB.size)
      clear hb
      cases x <;> cases y
      · skip
        go_wp2_with (fail)
        go_ret
        exact ⟨rfl, HB⟩
      · skip
        go_wp2_with (fail)
        go_ret
        exact ⟨rfl, HB⟩
      · skip
        go_wp2_with (fail)
        go_ret
        exact ⟨rfl, HB⟩
      · skip
        go_wp2_with (fail)
        go_ret
        exact ⟨rfl, HB⟩
theorem dfaProducts_top (a : Dfa) (h : DH) (b : Dfa) (k : DH) (aw : Option Addr) (lw cw : Nat) (zs : List Int) (w : World) (ia : IsDfa w h a) (ib : IsDfa w k b) (iw : IsInts .i64 w aw lw cw zs) {P Q : Prop} (_ : P) (_ : Q) :
    Calls Try.prog 5 #[vDf a h, vDf b k, .slice aw lw cw] w fun e w' => e = .returned (.bool true) ∧ Below w.heap.size w w' := dfaProducts_walk a h b k aw lw cw zs w ia ib iw
end Go.Proofs.Ytehdkcjoaogbeaa
