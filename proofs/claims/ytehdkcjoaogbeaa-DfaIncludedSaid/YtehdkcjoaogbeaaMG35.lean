import Derived.Test.YtehdkcjoaogbeaaMG28
import Derived.Test.YtehdkcjoaogbeaaMG32
import Derived.Test.YtehdkcjoaogbeaaMG34
/-
  DfaIncludedW
-/
set_option linter.unusedSimpArgs false
set_option linter.unusedVariables false
namespace Go.Proofs.Ytehdkcjoaogbeaa
open Go.RowKit
attribute [local go_sem] Oper.semAt_some

def IncPi (r : List Int) (ok : Bool) : Value → World → Prop := fun v W => ∃ aw cw, v = .tuple #[.slice aw r.length cw, .bool ok, .int .i64 0] ∧ IsInts .i64 W aw r.length cw r
theorem stays_incpi (r : List Int) (ok : Bool) : Stays (IncPi r ok) := fun _ _ _ hb ⟨a, c, e, hd⟩ => ⟨a, c, e, hd.later hb⟩
def LsPi (r : List Int) : Value → World → Prop := fun v W => ∃ aw cw, v = .slice aw r.length cw ∧ IsInts .i64 W aw r.length cw r
theorem stays_lspi (r : List Int) : Stays (LsPi r) := fun _ _ _ hb ⟨a, c, e, hd⟩ => ⟨a, c, e, hd.later hb⟩
theorem accI_yes {d : Dfa} (hv : ValidD d) {zs : List Int} {x : Bool} (hx : accQ d d.s zs = x) (W : World) (h' : DH) (aw : Option Addr) (lw cw : Nat) (hd : IsDfa W h' d) (hi : IsInts .i64 W aw lw cw zs) (hl : lw ≤ 1000000) :
    Calls Try.prog 22 #[vDf d h', .slice aw lw cw] W fun e w' => e = .returned (.tuple #[.bool x, .int .i64 0]) ∧ Below W.heap.size W w' := by
  have h := accepts_any hd hi hl
  rw [accV_yes hv, hx] at h
  exact h
set_option maxRecDepth 20000 in
set_option maxHeartbeats 4000000 in
theorem dfaIncluded_walk (a : Dfa) (h : DH) (b : Dfa) (k : DH) (aw : Option Addr) (lw cw : Nat) (zs : List Int) (w : World) (ia : IsDfa w h a) (ib : IsDfa w k b) (iw : IsInts .i64 w aw lw cw zs) :
    Calls Try.prog 6 #[vDf a h, vDf b k, .slice aw lw cw] w fun e w' => e = .returned (.bool true) ∧ Below w.heap.size w w' := by
  obtain ⟨W0, hW0, hs0, hb0, hO0⟩ := boxRW a h w ia
  replace ib := ib.later hb0
  replace ia := (hO0 W0 (Below.refl _ _)).2.1
  replace iw := iw.later hb0
  obtain ⟨c01, c02, c03, c04⟩ := (hO0 W0 (Below.refl _ _)).1
  obtain ⟨W1, hW1, hs1, hb1, hO1⟩ := boxRW b k W0 ib
  replace ia := ia.later hb1
  replace ib := (hO1 W1 (Below.refl _ _)).2.1
  replace iw := iw.later hb1
  replace c01 := cell_later hb1 c01
  replace c02 := cell_later hb1 c02
  replace c03 := cell_later hb1 c03
  replace c04 := cell_later hb1 c04
  obtain ⟨c11, c12, c13, c14⟩ := (hO1 W1 (Below.refl _ _)).1
  have HB : Below w.heap.size w W1 := (hb0.trans (hb1.mono (hb0).size))
  rw [hs0] at c11 c12 c13 c14
  clear hO0 hb0 hO1 hb1
  unfold vDf
  by_cases fa : FewD a
  rotate_left
  · have hx := fa
    go_enter Try.func6, Try.ntmps6
    go_wp2_with (fail)
    refine (awake_any _).mono ?_
    rintro e w1 ⟨rfl, hb⟩
    replace c01 := cell_later hb c01
    replace c02 := cell_later hb c02
    replace c03 := cell_later hb c03
    replace c04 := cell_later hb c04
    replace c11 := cell_later hb c11
    replace c12 := cell_later hb c12
    replace c13 := cell_later hb c13
    replace c14 := cell_later hb c14
    replace ia := ia.later hb
    replace ib := ib.later hb
    replace iw := iw.later hb
    replace HB := HB.trans (hb.mono HB.size)
    clear hb
    go_wp2_with (fail)
    refine (few_no ia fa).mono ?_
    rintro e w2 ⟨rfl, hb⟩
    replace c01 := cell_later hb c01
    replace c02 := cell_later hb c02
    replace c03 := cell_later hb c03
    replace c04 := cell_later hb c04
    replace c11 := cell_later hb c11
    replace c12 := cell_later hb c12
    replace c13 := cell_later hb c13
    replace c14 := cell_later hb c14
    replace ia := ia.later hb
    replace ib := ib.later hb
    replace iw := iw.later hb
    replace HB := HB.trans (hb.mono HB.size)
    clear hb
    go_wp2_with (fail)
    go_ret
    exact ⟨rfl, HB⟩
  by_cases fb : FewD b
  rotate_left
  · have hx := fb
    go_enter Try.func6, Try.ntmps6
    go_wp2_with (fail)
    refine (awake_any _).mono ?_
    rintro e w3 ⟨rfl, hb⟩
    replace c01 := cell_later hb c01
    replace c02 := cell_later hb c02
    replace c03 := cell_later hb c03
    replace c04 := cell_later hb c04
    replace c11 := cell_later hb c11
    replace c12 := cell_later hb c12
    replace c13 := cell_later hb c13
    replace c14 := cell_later hb c14
    replace ia := ia.later hb
    replace ib := ib.later hb
    replace iw := iw.later hb
    replace HB := HB.trans (hb.mono HB.size)
    clear hb
    go_wp2_with (fail)
    refine (few_yes ia fa).mono ?_
    rintro e w4 ⟨rfl, hb⟩
    replace c01 := cell_later hb c01
    replace c02 := cell_later hb c02
    replace c03 := cell_later hb c03
    replace c04 := cell_later hb c04
    replace c11 := cell_later hb c11
    replace c12 := cell_later hb c12
    replace c13 := cell_later hb c13
    replace c14 := cell_later hb c14
    replace ia := ia.later hb
    replace ib := ib.later hb
    replace iw := iw.later hb
    replace HB := HB.trans (hb.mono HB.size)
    clear hb
    go_wp2_with (fail)
    refine (few_no ib fb).mono ?_
    rintro e w5 ⟨rfl, hb⟩
    replace c01 := cell_later hb c01
    replace c02 := cell_later hb c02
    replace c03 := cell_later hb c03
    replace c04 := cell_later hb c04
    replace c11 := cell_later hb c11
    replace c12 := cell_later hb c12
    replace c13 := cell_later hb c13
    replace c14 := cell_later hb c14
    replace ia := ia.later hb
    replace ib := ib.later hb
    replace iw := iw.later hb
    replace HB := HB.trans (hb.mono HB.size)
    clear hb
    go_wp2_with (fail)
    go_ret
    exact ⟨rfl, HB⟩
  by_cases va : ValidD a
  rotate_left
  · have hx := va
    go_enter Try.func6, Try.ntmps6
    go_wp2_with (fail)
    refine (awake_any _).mono ?_
    rintro e w6 ⟨rfl, hb⟩
    replace c01 := cell_later hb c01
    replace c02 := cell_later hb c02
    replace c03 := cell_later hb c03
    replace c04 := cell_later hb c04
    replace c11 := cell_later hb c11
    replace c12 := cell_later hb c12
    replace c13 := cell_later hb c13
    replace c14 := cell_later hb c14
    replace ia := ia.later hb
    replace ib := ib.later hb
    replace iw := iw.later hb
    replace HB := HB.trans (hb.mono HB.size)
    clear hb
    go_wp2_with (fail)
    refine (few_yes ia fa).mono ?_
    rintro e w7 ⟨rfl, hb⟩
    replace c01 := cell_later hb c01
    replace c02 := cell_later hb c02
    replace c03 := cell_later hb c03
    replace c04 := cell_later hb c04
    replace c11 := cell_later hb c11
    replace c12 := cell_later hb c12
    replace c13 := cell_later hb c13
    replace c14 := cell_later hb c14
    replace ia := ia.later hb
    replace ib := ib.later hb
    replace iw := iw.later hb
    replace HB := HB.trans (hb.mono HB.size)
    clear hb
    go_wp2_with (fail)
    refine (few_yes ib fb).mono ?_
    rintro e w8 ⟨rfl, hb⟩
    replace c01 := cell_later hb c01
    replace c02 := cell_later hb c02
    replace c03 := cell_later hb c03
    replace c04 := cell_later hb c04
    replace c11 := cell_later hb c11
    replace c12 := cell_later hb c12
    replace c13 := cell_later hb c13
    replace c14 := cell_later hb c14
    replace ia := ia.later hb
    replace ib := ib.later hb
    replace iw := iw.later hb
    replace HB := HB.trans (hb.mono HB.size)
    clear hb
    go_wp2_with (fail)
    refine (refValid_no va ia).mono ?_
    rintro e w9 ⟨rfl, hb⟩
    replace c01 := cell_later hb c01
    replace c02 := cell_later hb c02
    replace c03 := cell_later hb c03
    replace c04 := cell_later hb c04
    replace c11 := cell_later hb c11
    replace c12 := cell_later hb c12
    replace c13 := cell_later hb c13
    replace c14 := cell_later hb c14
    replace ia := ia.later hb
    replace ib := ib.later hb
    replace iw := iw.later hb
    replace HB := HB.trans (hb.mono HB.size)
    clear hb
    go_wp2_with (fail)
    go_ret
    exact ⟨rfl, HB⟩
  by_cases vb : ValidD b
  rotate_left
  · have hx := vb
    go_enter Try.func6, Try.ntmps6
    go_wp2_with (fail)
    refine (awake_any _).mono ?_
    rintro e w10 ⟨rfl, hb⟩
    replace c01 := cell_later hb c01
    replace c02 := cell_later hb c02
    replace c03 := cell_later hb c03
    replace c04 := cell_later hb c04
    replace c11 := cell_later hb c11
    replace c12 := cell_later hb c12
    replace c13 := cell_later hb c13
    replace c14 := cell_later hb c14
    replace ia := ia.later hb
    replace ib := ib.later hb
    replace iw := iw.later hb
    replace HB := HB.trans (hb.mono HB.size)
    clear hb
    go_wp2_with (fail)
    refine (few_yes ia fa).mono ?_
    rintro e w11 ⟨rfl, hb⟩
    replace c01 := cell_later hb c01
    replace c02 := cell_later hb c02
    replace c03 := cell_later hb c03
    replace c04 := cell_later hb c04
    replace c11 := cell_later hb c11
    replace c12 := cell_later hb c12
    replace c13 := cell_later hb c13
    replace c14 := cell_later hb c14
    replace ia := ia.later hb
    replace ib := ib.later hb
    replace iw := iw.later hb
    replace HB := HB.trans (hb.mono HB.size)
    clear hb
    go_wp2_with (fail)
    refine (few_yes ib fb).mono ?_
    rintro e w12 ⟨rfl, hb⟩
    replace c01 := cell_later hb c01
    replace c02 := cell_later hb c02
    replace c03 := cell_later hb c03
    replace c04 := cell_later hb c04
    replace c11 := cell_later hb c11
    replace c12 := cell_later hb c12
    replace c13 := cell_later hb c13
    replace c14 := cell_later hb c14
    replace ia := ia.later hb
    replace ib := ib.later hb
    replace iw := iw.later hb
    replace HB := HB.trans (hb.mono HB.size)
    clear hb
    go_wp2_with (fail)
    refine (refValid_yes va ia).mono ?_
    rintro e w13 ⟨rfl, hb⟩
    replace c01 := cell_later hb c01
    replace c02 := cell_later hb c02
    replace c03 := cell_later hb c03
    replace c04 := cell_later hb c04
    replace c11 := cell_later hb c11
    replace c12 := cell_later hb c12
    replace c13 := cell_later hb c13
    replace c14 := cell_later hb c14
    replace ia := ia.later hb
    replace ib := ib.later hb
    replace iw := iw.later hb
    replace HB := HB.trans (hb.mono HB.size)
    clear hb
    go_wp2_with (fail)
    refine (refValid_no vb ib).mono ?_
    rintro e w14 ⟨rfl, hb⟩
    replace c01 := cell_later hb c01
    replace c02 := cell_later hb c02
    replace c03 := cell_later hb c03
    replace c04 := cell_later hb c04
    replace c11 := cell_later hb c11
    replace c12 := cell_later hb c12
    replace c13 := cell_later hb c13
    replace c14 := cell_later hb c14
    replace ia := ia.later hb
    replace ib := ib.later hb
    replace iw := iw.later hb
    replace HB := HB.trans (hb.mono HB.size)
    clear hb
    go_wp2_with (fail)
    go_ret
    exact ⟨rfl, HB⟩
  by_cases hlw : 20 < lw
  · have d1 : decide ((20 : Int) < (lw : Int)) = true := decide_eq_true (by omega)
    go_enter Try.func6, Try.ntmps6
    go_wp2_with (fail)
    refine (awake_any _).mono ?_
    rintro e w15 ⟨rfl, hb⟩
    replace c01 := cell_later hb c01
    replace c02 := cell_later hb c02
    replace c03 := cell_later hb c03
    replace c04 := cell_later hb c04
    replace c11 := cell_later hb c11
    replace c12 := cell_later hb c12
    replace c13 := cell_later hb c13
    replace c14 := cell_later hb c14
    replace ia := ia.later hb
    replace ib := ib.later hb
    replace iw := iw.later hb
    replace HB := HB.trans (hb.mono HB.size)
    clear hb
    go_wp2_with (fail)
    refine (few_yes ia fa).mono ?_
    rintro e w16 ⟨rfl, hb⟩
    replace c01 := cell_later hb c01
    replace c02 := cell_later hb c02
    replace c03 := cell_later hb c03
    replace c04 := cell_later hb c04
    replace c11 := cell_later hb c11
    replace c12 := cell_later hb c12
    replace c13 := cell_later hb c13
    replace c14 := cell_later hb c14
    replace ia := ia.later hb
    replace ib := ib.later hb
    replace iw := iw.later hb
    replace HB := HB.trans (hb.mono HB.size)
    clear hb
    go_wp2_with (fail)
    refine (few_yes ib fb).mono ?_
    rintro e w17 ⟨rfl, hb⟩
    replace c01 := cell_later hb c01
    replace c02 := cell_later hb c02
    replace c03 := cell_later hb c03
    replace c04 := cell_later hb c04
    replace c11 := cell_later hb c11
    replace c12 := cell_later hb c12
    replace c13 := cell_later hb c13
    replace c14 := cell_later hb c14
    replace ia := ia.later hb
    replace ib := ib.later hb
    replace iw := iw.later hb
    replace HB := HB.trans (hb.mono HB.size)
    clear hb
    go_wp2_with (fail)
    refine (refValid_yes va ia).mono ?_
    rintro e w18 ⟨rfl, hb⟩
    replace c01 := cell_later hb c01
    replace c02 := cell_later hb c02
    replace c03 := cell_later hb c03
    replace c04 := cell_later hb c04
    replace c11 := cell_later hb c11
    replace c12 := cell_later hb c12
    replace c13 := cell_later hb c13
    replace c14 := cell_later hb c14
    replace ia := ia.later hb
    replace ib := ib.later hb
    replace iw := iw.later hb
    replace HB := HB.trans (hb.mono HB.size)
    clear hb
    go_wp2_with (fail)
    refine (refValid_yes vb ib).mono ?_
    rintro e w19 ⟨rfl, hb⟩
    replace c01 := cell_later hb c01
    replace c02 := cell_later hb c02
    replace c03 := cell_later hb c03
    replace c04 := cell_later hb c04
    replace c11 := cell_later hb c11
    replace c12 := cell_later hb c12
    replace c13 := cell_later hb c13
    replace c14 := cell_later hb c14
    replace ia := ia.later hb
    replace ib := ib.later hb
    replace iw := iw.later hb
    replace HB := HB.trans (hb.mono HB.size)
    clear hb
    go_wp2_with (fail)
    go_ret
    exact ⟨rfl, HB⟩
  have d1 : decide ((20 : Int) < (lw : Int)) = false := decide_eq_false (by omega)
  have HI := fun W h' k' (hd : IsDfa W h' a) (he : IsDfa W k' b) => included_yes (w := W) (h := h') (kh := k') va vb hd he
  have hzl := iw.length
  have HLW : Hid (lw ≤ 20) := Lib.hid (by omega)
  obtain ⟨x, hx⟩ : ∃ x, accQ a a.s zs = x := ⟨_, rfl⟩
  obtain ⟨y, hy⟩ : ∃ y, accQ b b.s zs = y := ⟨_, rfl⟩
  have HAX := accI_yes va hx
  have HBY := accI_yes vb hy
  have fa3 : a.arcs.length ≤ 1000 := by have := fa.2.2; omega
  have fb3 : b.arcs.length ≤ 1000 := by have := fb.2.2; omega
  cases hin : incW a b with
  | none =>
    have HXY : Hid (x = true → y = true) := Lib.hid (fun h => by rw [← hy]; exact incW_no va vb hin zs (hx.trans h))
    rw [hin] at HI
    have e1 : (none : Option (List Int)).getD [] = [] := rfl
    have e2 : (none : Option (List Int)).isNone = true := rfl
    rw [e1, e2] at HI
    have HII := Lib.hid HI
    clear HI e1 e2 hin hx hy
    have HZL := Lib.hid hzl
    clear hzl
    go_enter Try.func6, Try.ntmps6
    go_wp2_with (fail)
    refine (awake_any _).mono ?_
    rintro e w20 ⟨rfl, hb⟩
    replace c01 := cell_later hb c01
    replace c02 := cell_later hb c02
    replace c03 := cell_later hb c03
    replace c04 := cell_later hb c04
    replace c11 := cell_later hb c11
    replace c12 := cell_later hb c12
    replace c13 := cell_later hb c13
    replace c14 := cell_later hb c14
    replace ia := ia.later hb
    replace ib := ib.later hb
    replace iw := iw.later hb
    replace HB := HB.trans (hb.mono HB.size)
    clear hb
    go_wp2_with (fail)
    refine (few_yes ia fa).mono ?_
    rintro e w21 ⟨rfl, hb⟩
    replace c01 := cell_later hb c01
    replace c02 := cell_later hb c02
    replace c03 := cell_later hb c03
    replace c04 := cell_later hb c04
    replace c11 := cell_later hb c11
    replace c12 := cell_later hb c12
    replace c13 := cell_later hb c13
    replace c14 := cell_later hb c14
    replace ia := ia.later hb
    replace ib := ib.later hb
    replace iw := iw.later hb
    replace HB := HB.trans (hb.mono HB.size)
    clear hb
    go_wp2_with (fail)
    refine (few_yes ib fb).mono ?_
    rintro e w22 ⟨rfl, hb⟩
    replace c01 := cell_later hb c01
    replace c02 := cell_later hb c02
    replace c03 := cell_later hb c03
    replace c04 := cell_later hb c04
    replace c11 := cell_later hb c11
    replace c12 := cell_later hb c12
    replace c13 := cell_later hb c13
    replace c14 := cell_later hb c14
    replace ia := ia.later hb
    replace ib := ib.later hb
    replace iw := iw.later hb
    replace HB := HB.trans (hb.mono HB.size)
    clear hb
    go_wp2_with (fail)
    refine (refValid_yes va ia).mono ?_
    rintro e w23 ⟨rfl, hb⟩
    replace c01 := cell_later hb c01
    replace c02 := cell_later hb c02
    replace c03 := cell_later hb c03
    replace c04 := cell_later hb c04
    replace c11 := cell_later hb c11
    replace c12 := cell_later hb c12
    replace c13 := cell_later hb c13
    replace c14 := cell_later hb c14
    replace ia := ia.later hb
    replace ib := ib.later hb
    replace iw := iw.later hb
    replace HB := HB.trans (hb.mono HB.size)
    clear hb
    go_wp2_with (fail)
    refine (refValid_yes vb ib).mono ?_
    rintro e w24 ⟨rfl, hb⟩
    replace c01 := cell_later hb c01
    replace c02 := cell_later hb c02
    replace c03 := cell_later hb c03
    replace c04 := cell_later hb c04
    replace c11 := cell_later hb c11
    replace c12 := cell_later hb c12
    replace c13 := cell_later hb c13
    replace c14 := cell_later hb c14
    replace ia := ia.later hb
    replace ib := ib.later hb
    replace iw := iw.later hb
    replace HB := HB.trans (hb.mono HB.size)
    clear hb
    go_wp2_with (fail)
    refine wp_region_grow mixed (by kernel_rfl) [[], [(0, 44)], [], [(2, 46), (1, 45)], [(1, 45), (3, 47), (3, 47)], [(4, 48)], [(5, 43)], [(5, 43)], [(5, 43)], [(6, 49), (4, 48), (0, 44), (1, 45), (2, 46), (3, 47), (4, 48), (5, 43), (6, 49)], [(7, 50), (9, 7), (0, 44), (1, 45), (2, 46), (3, 47), (4, 48), (5, 43), (6, 49), (7, 50), (9, 7)], [(8, 51), (10, 8), (0, 44), (1, 45), (2, 46), (3, 47), (4, 48), (5, 43), (6, 49), (7, 50), (8, 51), (9, 7), (10, 8)]] [(0, 44), (1, 45), (2, 46), (3, 47), (4, 48), (5, 43), (6, 49), (7, 50), (8, 51), (9, 7), (10, 8), (11, 9)] rfl rfl [Ex ?ep0, DfP a, Ex ?ep2, DfP b, IncPi [] true, IncPi [] true, LsPi [], Ex ?ep7, Ex ?ep8, LsPi [], Ex ?ep10, Ex ?ep11] ⟨stays_ex _, stays_df _, stays_ex _, stays_df _, stays_incpi _ _, stays_incpi _ _, stays_lspi _, stays_ex _, stays_ex _, stays_lspi _, stays_ex _, stays_ex _, trivial⟩ ?psteps ?prest
    case psteps =>
      refine ⟨fun f W hC hh => ?_, fun f W hC hh => ?_, fun f W hC hh => ?_, fun f W hC hh => ?_, fun f W hC hh => ?_, fun f W hC hh => ?_, fun f W hC hh => ?_, fun f W hC hh => ?_, fun f W hC hh => ?_, fun f W hC hh => ?_, fun f W hC hh => ?_, fun f W hC hh => ?_, trivial⟩
      ·
        refine tab_plain fun K Q hK => ?_
        simp only [puts, List.foldr_nil]
        have mc01 := cell_later hC c01
        have mc02 := cell_later hC c02
        have mc03 := cell_later hC c03
        have mc04 := cell_later hC c04
        have mc11 := cell_later hC c11
        have mc12 := cell_later hC c12
        have mc13 := cell_later hC c13
        have mc14 := cell_later hC c14
        go_step
        refine fam_ex hK rfl rfl (by simp only [Act.put, List.setIfInBounds_toArray, List.set_cons_succ, List.set_cons_zero, Array.getD_eq_getD_getElem?, List.getElem?_toArray, List.getElem?_cons_succ, List.getElem?_cons_zero, Option.getD_some] <;> rfl) rfl (Below.refl _ _) hC
      ·
        obtain ⟨h0, -⟩ := hh
        have g0 : f 0 = _ := h0
        refine tab_plain fun K Q hK => ?_
        simp only [puts, List.foldr_cons, List.foldr_nil, List.setIfInBounds_toArray, List.set_cons_succ, List.set_cons_zero, g0]
        go_step
        go_at_call 13
        refine (own_any (ia.later hC) fa3).mono ?_
        rintro e w' ⟨⟨hy, rfl, iy⟩, hb⟩
        exact fam_fin hK rfl ⟨hy, rfl, iy⟩ hb (hC.trans (hb.mono hC.size))
      ·
        refine tab_plain fun K Q hK => ?_
        simp only [puts, List.foldr_nil]
        have mc01 := cell_later hC c01
        have mc02 := cell_later hC c02
        have mc03 := cell_later hC c03
        have mc04 := cell_later hC c04
        have mc11 := cell_later hC c11
        have mc12 := cell_later hC c12
        have mc13 := cell_later hC c13
        have mc14 := cell_later hC c14
        go_step
        refine fam_ex hK rfl rfl (by simp only [Act.put, List.setIfInBounds_toArray, List.set_cons_succ, List.set_cons_zero, Array.getD_eq_getD_getElem?, List.getElem?_toArray, List.getElem?_cons_succ, List.getElem?_cons_zero, Option.getD_some] <;> rfl) rfl (Below.refl _ _) hC
      ·
        obtain ⟨h2, h1, -⟩ := hh
        have g2 : f 2 = _ := h2
        obtain ⟨y1, g1, s1⟩ := h1
        refine tab_plain fun K Q hK => ?_
        simp only [puts, List.foldr_cons, List.foldr_nil, List.setIfInBounds_toArray, List.set_cons_succ, List.set_cons_zero, g2, g1]
        go_step
        go_at_call 13
        refine (own_any (ib.later hC) fb3).mono ?_
        rintro e w' ⟨⟨hy, rfl, iy⟩, hb⟩
        exact fam_fin hK rfl ⟨hy, rfl, iy⟩ hb (hC.trans (hb.mono hC.size))
      ·
        obtain ⟨h1, h3, _, -⟩ := hh
        obtain ⟨y1, g1, s1⟩ := h1
        obtain ⟨y3, g3, s3⟩ := h3
        refine tab_plain fun K Q hK => ?_
        simp only [puts, List.foldr_cons, List.foldr_nil, List.setIfInBounds_toArray, List.set_cons_succ, List.set_cons_zero, g1, g3]
        go_step
        go_at_call 29
        refine (HII.out _ _ _ s1 s3).mono ?_
        rintro e w' ⟨⟨aw', cw', rfl, iw'⟩, hb⟩
        exact fam_fin hK rfl ⟨aw', cw', rfl, iw'⟩ hb (hC.trans (hb.mono hC.size))
      ·
        obtain ⟨h4, -⟩ := hh
        obtain ⟨a4, c4, g4, s4⟩ := h4
        refine tab_plain fun K Q hK => ?_
        simp only [puts, List.foldr_cons, List.foldr_nil, List.setIfInBounds_toArray, List.set_cons_succ, List.set_cons_zero, g4]
        go_step
        exact fam_fin hK rfl ⟨a4, c4, rfl, s4⟩ (Below.refl _ _) hC
      ·
        obtain ⟨h5, -⟩ := hh
        obtain ⟨a5, c5, g5, s5⟩ := h5
        refine tab_plain fun K Q hK => ?_
        simp only [puts, List.foldr_cons, List.foldr_nil, List.setIfInBounds_toArray, List.set_cons_succ, List.set_cons_zero, g5]
        go_step
        exact fam_fin hK rfl ⟨a5, c5, rfl, s5⟩ (Below.refl _ _) hC
      ·
        obtain ⟨h5, -⟩ := hh
        obtain ⟨a5, c5, g5, s5⟩ := h5
        refine tab_plain fun K Q hK => ?_
        simp only [puts, List.foldr_cons, List.foldr_nil, List.setIfInBounds_toArray, List.set_cons_succ, List.set_cons_zero, g5]
        go_step
        refine fam_ex hK rfl rfl (by simp only [Act.put, List.setIfInBounds_toArray, List.set_cons_succ, List.set_cons_zero, Array.getD_eq_getD_getElem?, List.getElem?_toArray, List.getElem?_cons_succ, List.getElem?_cons_zero, Option.getD_some] <;> rfl) rfl (Below.refl _ _) hC
      ·
        obtain ⟨h5, -⟩ := hh
        obtain ⟨a5, c5, g5, s5⟩ := h5
        refine tab_plain fun K Q hK => ?_
        simp only [puts, List.foldr_cons, List.foldr_nil, List.setIfInBounds_toArray, List.set_cons_succ, List.set_cons_zero, g5]
        go_step
        refine fam_ex hK rfl rfl (by simp only [Act.put, List.setIfInBounds_toArray, List.set_cons_succ, List.set_cons_zero, Array.getD_eq_getD_getElem?, List.getElem?_toArray, List.getElem?_cons_succ, List.getElem?_cons_zero, Option.getD_some] <;> rfl) rfl (Below.refl _ _) hC
      ·
        obtain ⟨h6, h4, h0, h1, h2, h3, _, h5, _, -⟩ := hh
        obtain ⟨a6, c6, g6, s6⟩ := h6
        obtain ⟨a4, c4, g4, s4⟩ := h4
        have g0 : f 0 = _ := h0
        obtain ⟨y1, g1, s1⟩ := h1
        have g2 : f 2 = _ := h2
        obtain ⟨y3, g3, s3⟩ := h3
        obtain ⟨a5, c5, g5, s5⟩ := h5
        refine tab_plain fun K Q hK => ?_
        simp only [puts, List.foldr_cons, List.foldr_nil, List.setIfInBounds_toArray, List.set_cons_succ, List.set_cons_zero, g6, g4, g0, g1, g2, g3, g5]
        go_step
        exact fam_fin hK rfl ⟨a6, c6, rfl, s6⟩ (Below.refl _ _) hC
      ·
        obtain ⟨h7, h9, h0, h1, h2, h3, h4, h5, h6, _, _, -⟩ := hh
        have g7 : f 7 = _ := h7
        obtain ⟨a9, c9, g9, s9⟩ := h9
        have g0 : f 0 = _ := h0
        obtain ⟨y1, g1, s1⟩ := h1
        have g2 : f 2 = _ := h2
        obtain ⟨y3, g3, s3⟩ := h3
        obtain ⟨a4, c4, g4, s4⟩ := h4
        obtain ⟨a5, c5, g5, s5⟩ := h5
        obtain ⟨a6, c6, g6, s6⟩ := h6
        refine tab_plain fun K Q hK => ?_
        simp only [puts, List.foldr_cons, List.foldr_nil, List.setIfInBounds_toArray, List.set_cons_succ, List.set_cons_zero, g7, g9, g0, g1, g2, g3, g4, g5, g6]
        go_step
        refine fam_ex hK rfl rfl (by simp only [Act.put, List.setIfInBounds_toArray, List.set_cons_succ, List.set_cons_zero, Array.getD_eq_getD_getElem?, List.getElem?_toArray, List.getElem?_cons_succ, List.getElem?_cons_zero, Option.getD_some] <;> rfl) rfl (Below.refl _ _) hC
      ·
        obtain ⟨h8, h10, h0, h1, h2, h3, h4, h5, h6, h7, _, h9, _, -⟩ := hh
        have g8 : f 8 = _ := h8
        have g10 : f 10 = _ := h10
        have g0 : f 0 = _ := h0
        obtain ⟨y1, g1, s1⟩ := h1
        have g2 : f 2 = _ := h2
        obtain ⟨y3, g3, s3⟩ := h3
        obtain ⟨a4, c4, g4, s4⟩ := h4
        obtain ⟨a5, c5, g5, s5⟩ := h5
        obtain ⟨a6, c6, g6, s6⟩ := h6
        have g7 : f 7 = _ := h7
        obtain ⟨a9, c9, g9, s9⟩ := h9
        refine tab_plain fun K Q hK => ?_
        simp only [puts, List.foldr_cons, List.foldr_nil, List.setIfInBounds_toArray, List.set_cons_succ, List.set_cons_zero, g8, g10, g0, g1, g2, g3, g4, g5, g6, g7, g9]
        go_step
        refine fam_ex hK rfl rfl (by simp only [Act.put, List.setIfInBounds_toArray, List.set_cons_succ, List.set_cons_zero, Array.getD_eq_getD_getElem?, List.getElem?_toArray, List.getElem?_cons_succ, List.getElem?_cons_zero, Option.getD_some] <;> rfl) rfl (Below.refl _ _) hC
    case prest =>
      intro f WR hC hh
      obtain ⟨h0, h1, h2, h3, h4, h5, h6, h7, h8, h9, h10, h11, -⟩ := hh
      have g0 : f 0 = _ := h0
      obtain ⟨y1, g1, s1⟩ := h1
      have g2 : f 2 = _ := h2
      obtain ⟨y3, g3, s3⟩ := h3
      obtain ⟨a4, c4, g4, s4⟩ := h4
      obtain ⟨a5, c5, g5, s5⟩ := h5
      obtain ⟨a6, c6, g6, s6⟩ := h6
      have g7 : f 7 = _ := h7
      have g8 : f 8 = _ := h8
      obtain ⟨a9, c9, g9, s9⟩ := h9
      have g10 : f 10 = _ := h10
      have g11 : f 11 = _ := h11
      simp only [puts, List.foldr_cons, List.foldr_nil, List.setIfInBounds_toArray, List.set_cons_succ, List.set_cons_zero, g0, g1, g2, g3, g4, g5, g6, g7, g8, g9, g10, g11]
      clear h0 h2 h7 h8 h10 h11 g0 g2 g7 g8 g10 g11
      have hb := hC
      clear hC
      replace c01 := cell_later hb c01
      replace c02 := cell_later hb c02
      replace c03 := cell_later hb c03
      replace c04 := cell_later hb c04
      replace c11 := cell_later hb c11
      replace c12 := cell_later hb c12
      replace c13 := cell_later hb c13
      replace c14 := cell_later hb c14
      replace ia := ia.later hb
      replace ib := ib.later hb
      replace iw := iw.later hb
      replace HB := HB.trans (hb.mono HB.size)
      clear hb
      clear g1 s1 g3 s3 g4 s4 g5 s5 g6 s6
      simp only [List.length_nil] at s9 ⊢
      have hlw2 : lw ≤ 1000000 := by have := HLW.out; omega
      go_wp2_with (fail)
      refine (own_any ia fa3).mono ?_
      rintro e w25 ⟨⟨yp, rfl, ip⟩, hb⟩
      unfold vDf
      replace c01 := cell_later hb c01
      replace c02 := cell_later hb c02
      replace c03 := cell_later hb c03
      replace c04 := cell_later hb c04
      replace c11 := cell_later hb c11
      replace c12 := cell_later hb c12
      replace c13 := cell_later hb c13
      replace c14 := cell_later hb c14
      replace ia := ia.later hb
      replace ib := ib.later hb
      replace iw := iw.later hb
      replace s9 := s9.later hb
      replace HB := HB.trans (hb.mono HB.size)
      clear hb
      go_wp2_with (fail)
      refine (HAX _ _ _ _ _ ip iw hlw2).mono ?_
      rintro e w26 ⟨rfl, hb⟩
      replace c01 := cell_later hb c01
      replace c02 := cell_later hb c02
      replace c03 := cell_later hb c03
      replace c04 := cell_later hb c04
      replace c11 := cell_later hb c11
      replace c12 := cell_later hb c12
      replace c13 := cell_later hb c13
      replace c14 := cell_later hb c14
      replace ia := ia.later hb
      replace ib := ib.later hb
      replace iw := iw.later hb
      replace s9 := s9.later hb
      replace ip := ip.later hb
      replace HB := HB.trans (hb.mono HB.size)
      clear hb
      go_wp2_with (fail)
      refine (own_any ib fb3).mono ?_
      rintro e w27 ⟨⟨yq, rfl, iq⟩, hb⟩
      unfold vDf
      replace c01 := cell_later hb c01
      replace c02 := cell_later hb c02
      replace c03 := cell_later hb c03
      replace c04 := cell_later hb c04
      replace c11 := cell_later hb c11
      replace c12 := cell_later hb c12
      replace c13 := cell_later hb c13
      replace c14 := cell_later hb c14
      replace ia := ia.later hb
      replace ib := ib.later hb
      replace iw := iw.later hb
      replace s9 := s9.later hb
      replace ip := ip.later hb
      replace HB := HB.trans (hb.mono HB.size)
      clear hb
      go_wp2_with (fail)
      refine (HBY _ _ _ _ _ iq iw hlw2).mono ?_
      rintro e w28 ⟨rfl, hb⟩
      replace c01 := cell_later hb c01
      replace c02 := cell_later hb c02
      replace c03 := cell_later hb c03
      replace c04 := cell_later hb c04
      replace c11 := cell_later hb c11
      replace c12 := cell_later hb c12
      replace c13 := cell_later hb c13
      replace c14 := cell_later hb c14
      replace ia := ia.later hb
      replace ib := ib.later hb
      replace iw := iw.later hb
      replace s9 := s9.later hb
      replace ip := ip.later hb
      replace iq := iq.later hb
      replace HB := HB.trans (hb.mono HB.size)
      clear hb
      cases x <;> cases y
      · skip
        go_wp2_with (fail)
        go_ret
        exact ⟨rfl, HB⟩
      · skip
        go_wp2_with (fail)
        go_ret
        exact ⟨rfl, HB⟩
      · skip
        exact absurd (HXY.out rfl) (by decide)
      · skip
        go_wp2_with (fail)
        go_ret
        exact ⟨rfl, HB⟩
  | some R =>
    obtain ⟨r1, r2, r3⟩ := incW_yes va vb hin
    have hrl : R.length ≤ 156 := Nat.le_trans (incW_len va vb hin) (nI_few fa.1 fb.1)
    have HAR := accI_yes va r1
    have HBR := accI_yes vb r2
    have HXY : Hid (x = true → y = false → SLe R zs) := Lib.hid (fun h1 h2 => r3 zs (hx.trans h1) (hy.trans h2))
    rw [hin] at HI
    have e1 : (some R : Option (List Int)).getD [] = R := rfl
    have e2 : (some R : Option (List Int)).isNone = false := rfl
    rw [e1, e2] at HI
    have HII := Lib.hid HI
    clear HI e1 e2 hin hx hy r1 r2 r3
    have HZL := Lib.hid hzl
    clear hzl
    go_enter Try.func6, Try.ntmps6
    go_wp2_with (fail)
    refine (awake_any _).mono ?_
    rintro e w29 ⟨rfl, hb⟩
    replace c01 := cell_later hb c01
    replace c02 := cell_later hb c02
    replace c03 := cell_later hb c03
    replace c04 := cell_later hb c04
    replace c11 := cell_later hb c11
    replace c12 := cell_later hb c12
    replace c13 := cell_later hb c13
    replace c14 := cell_later hb c14
    replace ia := ia.later hb
    replace ib := ib.later hb
    replace iw := iw.later hb
    replace HB := HB.trans (hb.mono HB.size)
    clear hb
    go_wp2_with (fail)
    refine (few_yes ia fa).mono ?_
    rintro e w30 ⟨rfl, hb⟩
    replace c01 := cell_later hb c01
    replace c02 := cell_later hb c02
    replace c03 := cell_later hb c03
    replace c04 := cell_later hb c04
    replace c11 := cell_later hb c11
    replace c12 := cell_later hb c12
    replace c13 := cell_later hb c13
    replace c14 := cell_later hb c14
    replace ia := ia.later hb
    replace ib := ib.later hb
    replace iw := iw.later hb
    replace HB := HB.trans (hb.mono HB.size)
    clear hb
    go_wp2_with (fail)
    refine (few_yes ib fb).mono ?_
    rintro e w31 ⟨rfl, hb⟩
    replace c01 := cell_later hb c01
    replace c02 := cell_later hb c02
    replace c03 := cell_later hb c03
    replace c04 := cell_later hb c04
    replace c11 := cell_later hb c11
    replace c12 := cell_later hb c12
    replace c13 := cell_later hb c13
    replace c14 := cell_later hb c14
    replace ia := ia.later hb
    replace ib := ib.later hb
    replace iw := iw.later hb
    replace HB := HB.trans (hb.mono HB.size)
    clear hb
    go_wp2_with (fail)
    refine (refValid_yes va ia).mono ?_
    rintro e w32 ⟨rfl, hb⟩
    replace c01 := cell_later hb c01
    replace c02 := cell_later hb c02
    replace c03 := cell_later hb c03
    replace c04 := cell_later hb c04
    replace c11 := cell_later hb c11
    replace c12 := cell_later hb c12
    replace c13 := cell_later hb c13
    replace c14 := cell_later hb c14
    replace ia := ia.later hb
    replace ib := ib.later hb
    replace iw := iw.later hb
    replace HB := HB.trans (hb.mono HB.size)
    clear hb
    go_wp2_with (fail)
    refine (refValid_yes vb ib).mono ?_
    rintro e w33 ⟨rfl, hb⟩
    replace c01 := cell_later hb c01
    replace c02 := cell_later hb c02
    replace c03 := cell_later hb c03
    replace c04 := cell_later hb c04
    replace c11 := cell_later hb c11
    replace c12 := cell_later hb c12
    replace c13 := cell_later hb c13
    replace c14 := cell_later hb c14
    replace ia := ia.later hb
    replace ib := ib.later hb
    replace iw := iw.later hb
    replace HB := HB.trans (hb.mono HB.size)
    clear hb
    go_wp2_with (fail)
    refine wp_region_grow mixed (by kernel_rfl) [[], [(0, 44)], [], [(2, 46), (1, 45)], [(1, 45), (3, 47), (3, 47)], [(4, 48)], [(5, 43)], [(5, 43)], [(5, 43)], [(6, 49), (4, 48), (0, 44), (1, 45), (2, 46), (3, 47), (4, 48), (5, 43), (6, 49)], [(7, 50), (9, 7), (0, 44), (1, 45), (2, 46), (3, 47), (4, 48), (5, 43), (6, 49), (7, 50), (9, 7)], [(8, 51), (10, 8), (0, 44), (1, 45), (2, 46), (3, 47), (4, 48), (5, 43), (6, 49), (7, 50), (8, 51), (9, 7), (10, 8)]] [(0, 44), (1, 45), (2, 46), (3, 47), (4, 48), (5, 43), (6, 49), (7, 50), (8, 51), (9, 7), (10, 8), (11, 9)] rfl rfl [Ex ?eq0, DfP a, Ex ?eq2, DfP b, IncPi R false, IncPi R false, LsPi R, Ex ?eq7, Ex ?eq8, LsPi R, Ex ?eq10, Ex ?eq11] ⟨stays_ex _, stays_df _, stays_ex _, stays_df _, stays_incpi _ _, stays_incpi _ _, stays_lspi _, stays_ex _, stays_ex _, stays_lspi _, stays_ex _, stays_ex _, trivial⟩ ?qsteps ?qrest
    case qsteps =>
      refine ⟨fun f W hC hh => ?_, fun f W hC hh => ?_, fun f W hC hh => ?_, fun f W hC hh => ?_, fun f W hC hh => ?_, fun f W hC hh => ?_, fun f W hC hh => ?_, fun f W hC hh => ?_, fun f W hC hh => ?_, fun f W hC hh => ?_, fun f W hC hh => ?_, fun f W hC hh => ?_, trivial⟩
      ·
        refine tab_plain fun K Q hK => ?_
        simp only [puts, List.foldr_nil]
        have mc01 := cell_later hC c01
        have mc02 := cell_later hC c02
        have mc03 := cell_later hC c03
        have mc04 := cell_later hC c04
        have mc11 := cell_later hC c11
        have mc12 := cell_later hC c12
        have mc13 := cell_later hC c13
        have mc14 := cell_later hC c14
        go_step
        refine fam_ex hK rfl rfl (by simp only [Act.put, List.setIfInBounds_toArray, List.set_cons_succ, List.set_cons_zero, Array.getD_eq_getD_getElem?, List.getElem?_toArray, List.getElem?_cons_succ, List.getElem?_cons_zero, Option.getD_some] <;> rfl) rfl (Below.refl _ _) hC
      ·
        obtain ⟨h0, -⟩ := hh
        have g0 : f 0 = _ := h0
        refine tab_plain fun K Q hK => ?_
        simp only [puts, List.foldr_cons, List.foldr_nil, List.setIfInBounds_toArray, List.set_cons_succ, List.set_cons_zero, g0]
        go_step
        go_at_call 13
        refine (own_any (ia.later hC) fa3).mono ?_
        rintro e w' ⟨⟨hy, rfl, iy⟩, hb⟩
        exact fam_fin hK rfl ⟨hy, rfl, iy⟩ hb (hC.trans (hb.mono hC.size))
      ·
        refine tab_plain fun K Q hK => ?_
        simp only [puts, List.foldr_nil]
        have mc01 := cell_later hC c01
        have mc02 := cell_later hC c02
        have mc03 := cell_later hC c03
        have mc04 := cell_later hC c04
        have mc11 := cell_later hC c11
        have mc12 := cell_later hC c12
        have mc13 := cell_later hC c13
        have mc14 := cell_later hC c14
        go_step
        refine fam_ex hK rfl rfl (by simp only [Act.put, List.setIfInBounds_toArray, List.set_cons_succ, List.set_cons_zero, Array.getD_eq_getD_getElem?, List.getElem?_toArray, List.getElem?_cons_succ, List.getElem?_cons_zero, Option.getD_some] <;> rfl) rfl (Below.refl _ _) hC
      ·
        obtain ⟨h2, h1, -⟩ := hh
        have g2 : f 2 = _ := h2
        obtain ⟨y1, g1, s1⟩ := h1
        refine tab_plain fun K Q hK => ?_
        simp only [puts, List.foldr_cons, List.foldr_nil, List.setIfInBounds_toArray, List.set_cons_succ, List.set_cons_zero, g2, g1]
        go_step
        go_at_call 13
        refine (own_any (ib.later hC) fb3).mono ?_
        rintro e w' ⟨⟨hy, rfl, iy⟩, hb⟩
        exact fam_fin hK rfl ⟨hy, rfl, iy⟩ hb (hC.trans (hb.mono hC.size))
      ·
        obtain ⟨h1, h3, _, -⟩ := hh
        obtain ⟨y1, g1, s1⟩ := h1
        obtain ⟨y3, g3, s3⟩ := h3
        refine tab_plain fun K Q hK => ?_
        simp only [puts, List.foldr_cons, List.foldr_nil, List.setIfInBounds_toArray, List.set_cons_succ, List.set_cons_zero, g1, g3]
        go_step
        go_at_call 29
        refine (HII.out _ _ _ s1 s3).mono ?_
        rintro e w' ⟨⟨aw', cw', rfl, iw'⟩, hb⟩
        exact fam_fin hK rfl ⟨aw', cw', rfl, iw'⟩ hb (hC.trans (hb.mono hC.size))
      ·
        obtain ⟨h4, -⟩ := hh
        obtain ⟨a4, c4, g4, s4⟩ := h4
        refine tab_plain fun K Q hK => ?_
        simp only [puts, List.foldr_cons, List.foldr_nil, List.setIfInBounds_toArray, List.set_cons_succ, List.set_cons_zero, g4]
        go_step
        exact fam_fin hK rfl ⟨a4, c4, rfl, s4⟩ (Below.refl _ _) hC
      ·
        obtain ⟨h5, -⟩ := hh
        obtain ⟨a5, c5, g5, s5⟩ := h5
        refine tab_plain fun K Q hK => ?_
        simp only [puts, List.foldr_cons, List.foldr_nil, List.setIfInBounds_toArray, List.set_cons_succ, List.set_cons_zero, g5]
        go_step
        exact fam_fin hK rfl ⟨a5, c5, rfl, s5⟩ (Below.refl _ _) hC
      ·
        obtain ⟨h5, -⟩ := hh
        obtain ⟨a5, c5, g5, s5⟩ := h5
        refine tab_plain fun K Q hK => ?_
        simp only [puts, List.foldr_cons, List.foldr_nil, List.setIfInBounds_toArray, List.set_cons_succ, List.set_cons_zero, g5]
        go_step
        refine fam_ex hK rfl rfl (by simp only [Act.put, List.setIfInBounds_toArray, List.set_cons_succ, List.set_cons_zero, Array.getD_eq_getD_getElem?, List.getElem?_toArray, List.getElem?_cons_succ, List.getElem?_cons_zero, Option.getD_some] <;> rfl) rfl (Below.refl _ _) hC
      ·
        obtain ⟨h5, -⟩ := hh
        obtain ⟨a5, c5, g5, s5⟩ := h5
        refine tab_plain fun K Q hK => ?_
        simp only [puts, List.foldr_cons, List.foldr_nil, List.setIfInBounds_toArray, List.set_cons_succ, List.set_cons_zero, g5]
        go_step
        refine fam_ex hK rfl rfl (by simp only [Act.put, List.setIfInBounds_toArray, List.set_cons_succ, List.set_cons_zero, Array.getD_eq_getD_getElem?, List.getElem?_toArray, List.getElem?_cons_succ, List.getElem?_cons_zero, Option.getD_some] <;> rfl) rfl (Below.refl _ _) hC
      ·
        obtain ⟨h6, h4, h0, h1, h2, h3, _, h5, _, -⟩ := hh
        obtain ⟨a6, c6, g6, s6⟩ := h6
        obtain ⟨a4, c4, g4, s4⟩ := h4
        have g0 : f 0 = _ := h0
        obtain ⟨y1, g1, s1⟩ := h1
        have g2 : f 2 = _ := h2
        obtain ⟨y3, g3, s3⟩ := h3
        obtain ⟨a5, c5, g5, s5⟩ := h5
        refine tab_plain fun K Q hK => ?_
        simp only [puts, List.foldr_cons, List.foldr_nil, List.setIfInBounds_toArray, List.set_cons_succ, List.set_cons_zero, g6, g4, g0, g1, g2, g3, g5]
        go_step
        exact fam_fin hK rfl ⟨a6, c6, rfl, s6⟩ (Below.refl _ _) hC
      ·
        obtain ⟨h7, h9, h0, h1, h2, h3, h4, h5, h6, _, _, -⟩ := hh
        have g7 : f 7 = _ := h7
        obtain ⟨a9, c9, g9, s9⟩ := h9
        have g0 : f 0 = _ := h0
        obtain ⟨y1, g1, s1⟩ := h1
        have g2 : f 2 = _ := h2
        obtain ⟨y3, g3, s3⟩ := h3
        obtain ⟨a4, c4, g4, s4⟩ := h4
        obtain ⟨a5, c5, g5, s5⟩ := h5
        obtain ⟨a6, c6, g6, s6⟩ := h6
        refine tab_plain fun K Q hK => ?_
        simp only [puts, List.foldr_cons, List.foldr_nil, List.setIfInBounds_toArray, List.set_cons_succ, List.set_cons_zero, g7, g9, g0, g1, g2, g3, g4, g5, g6]
        go_step
        refine fam_ex hK rfl rfl (by simp only [Act.put, List.setIfInBounds_toArray, List.set_cons_succ, List.set_cons_zero, Array.getD_eq_getD_getElem?, List.getElem?_toArray, List.getElem?_cons_succ, List.getElem?_cons_zero, Option.getD_some] <;> rfl) rfl (Below.refl _ _) hC
      ·
        obtain ⟨h8, h10, h0, h1, h2, h3, h4, h5, h6, h7, _, h9, _, -⟩ := hh
        have g8 : f 8 = _ := h8
        have g10 : f 10 = _ := h10
        have g0 : f 0 = _ := h0
        obtain ⟨y1, g1, s1⟩ := h1
        have g2 : f 2 = _ := h2
        obtain ⟨y3, g3, s3⟩ := h3
        obtain ⟨a4, c4, g4, s4⟩ := h4
        obtain ⟨a5, c5, g5, s5⟩ := h5
        obtain ⟨a6, c6, g6, s6⟩ := h6
        have g7 : f 7 = _ := h7
        obtain ⟨a9, c9, g9, s9⟩ := h9
        refine tab_plain fun K Q hK => ?_
        simp only [puts, List.foldr_cons, List.foldr_nil, List.setIfInBounds_toArray, List.set_cons_succ, List.set_cons_zero, g8, g10, g0, g1, g2, g3, g4, g5, g6, g7, g9]
        go_step
        refine fam_ex hK rfl rfl (by simp only [Act.put, List.setIfInBounds_toArray, List.set_cons_succ, List.set_cons_zero, Array.getD_eq_getD_getElem?, List.getElem?_toArray, List.getElem?_cons_succ, List.getElem?_cons_zero, Option.getD_some] <;> rfl) rfl (Below.refl _ _) hC
    case qrest =>
      intro f WR hC hh
      obtain ⟨h0, h1, h2, h3, h4, h5, h6, h7, h8, h9, h10, h11, -⟩ := hh
      have g0 : f 0 = _ := h0
      obtain ⟨y1, g1, s1⟩ := h1
      have g2 : f 2 = _ := h2
      obtain ⟨y3, g3, s3⟩ := h3
      obtain ⟨a4, c4, g4, s4⟩ := h4
      obtain ⟨a5, c5, g5, s5⟩ := h5
      obtain ⟨a6, c6, g6, s6⟩ := h6
      have g7 : f 7 = _ := h7
      have g8 : f 8 = _ := h8
      obtain ⟨a9, c9, g9, s9⟩ := h9
      have g10 : f 10 = _ := h10
      have g11 : f 11 = _ := h11
      simp only [puts, List.foldr_cons, List.foldr_nil, List.setIfInBounds_toArray, List.set_cons_succ, List.set_cons_zero, g0, g1, g2, g3, g4, g5, g6, g7, g8, g9, g10, g11]
      clear h0 h2 h7 h8 h10 h11 g0 g2 g7 g8 g10 g11
      have hb := hC
      clear hC
      replace c01 := cell_later hb c01
      replace c02 := cell_later hb c02
      replace c03 := cell_later hb c03
      replace c04 := cell_later hb c04
      replace c11 := cell_later hb c11
      replace c12 := cell_later hb c12
      replace c13 := cell_later hb c13
      replace c14 := cell_later hb c14
      replace ia := ia.later hb
      replace ib := ib.later hb
      replace iw := iw.later hb
      replace HB := HB.trans (hb.mono HB.size)
      clear hb
      clear g1 s1 g3 s3 g4 s4 g5 s5 g6 s6
      have hlw2 : lw ≤ 1000000 := by have := HLW.out; omega
      go_wp2_with (fail)
      refine (own_any ia fa3).mono ?_
      rintro e w34 ⟨⟨yp, rfl, ip⟩, hb⟩
      unfold vDf
      replace c01 := cell_later hb c01
      replace c02 := cell_later hb c02
      replace c03 := cell_later hb c03
      replace c04 := cell_later hb c04
      replace c11 := cell_later hb c11
      replace c12 := cell_later hb c12
      replace c13 := cell_later hb c13
      replace c14 := cell_later hb c14
      replace ia := ia.later hb
      replace ib := ib.later hb
      replace iw := iw.later hb
      replace s9 := s9.later hb
      replace HB := HB.trans (hb.mono HB.size)
      clear hb
      go_wp2_with (fail)
      refine (HAX _ _ _ _ _ ip iw hlw2).mono ?_
      rintro e w35 ⟨rfl, hb⟩
      replace c01 := cell_later hb c01
      replace c02 := cell_later hb c02
      replace c03 := cell_later hb c03
      replace c04 := cell_later hb c04
      replace c11 := cell_later hb c11
      replace c12 := cell_later hb c12
      replace c13 := cell_later hb c13
      replace c14 := cell_later hb c14
      replace ia := ia.later hb
      replace ib := ib.later hb
      replace iw := iw.later hb
      replace s9 := s9.later hb
      replace ip := ip.later hb
      replace HB := HB.trans (hb.mono HB.size)
      clear hb
      go_wp2_with (fail)
      refine (own_any ib fb3).mono ?_
      rintro e w36 ⟨⟨yq, rfl, iq⟩, hb⟩
      unfold vDf
      replace c01 := cell_later hb c01
      replace c02 := cell_later hb c02
      replace c03 := cell_later hb c03
      replace c04 := cell_later hb c04
      replace c11 := cell_later hb c11
      replace c12 := cell_later hb c12
      replace c13 := cell_later hb c13
      replace c14 := cell_later hb c14
      replace ia := ia.later hb
      replace ib := ib.later hb
      replace iw := iw.later hb
      replace s9 := s9.later hb
      replace ip := ip.later hb
      replace HB := HB.trans (hb.mono HB.size)
      clear hb
      go_wp2_with (fail)
      refine (HBY _ _ _ _ _ iq iw hlw2).mono ?_
      rintro e w37 ⟨rfl, hb⟩
      replace c01 := cell_later hb c01
      replace c02 := cell_later hb c02
      replace c03 := cell_later hb c03
      replace c04 := cell_later hb c04
      replace c11 := cell_later hb c11
      replace c12 := cell_later hb c12
      replace c13 := cell_later hb c13
      replace c14 := cell_later hb c14
      replace ia := ia.later hb
      replace ib := ib.later hb
      replace iw := iw.later hb
      replace s9 := s9.later hb
      replace ip := ip.later hb
      replace iq := iq.later hb
      replace HB := HB.trans (hb.mono HB.size)
      clear hb
      go_wp2_with (fail)
      have hlr2 : R.length ≤ 1000000 := by omega
      go_wp2_with (fail)
      refine (own_any ia fa3).mono ?_
      rintro e w38 ⟨⟨yr, rfl, ir⟩, hb⟩
      unfold vDf
      replace c01 := cell_later hb c01
      replace c02 := cell_later hb c02
      replace c03 := cell_later hb c03
      replace c04 := cell_later hb c04
      replace c11 := cell_later hb c11
      replace c12 := cell_later hb c12
      replace c13 := cell_later hb c13
      replace c14 := cell_later hb c14
      replace ia := ia.later hb
      replace ib := ib.later hb
      replace iw := iw.later hb
      replace s9 := s9.later hb
      replace ip := ip.later hb
      replace iq := iq.later hb
      replace HB := HB.trans (hb.mono HB.size)
      clear hb
      go_wp2_with (fail)
      refine (HAR _ _ _ _ _ ir s9 hlr2).mono ?_
      rintro e w39 ⟨rfl, hb⟩
      replace c01 := cell_later hb c01
      replace c02 := cell_later hb c02
      replace c03 := cell_later hb c03
      replace c04 := cell_later hb c04
      replace c11 := cell_later hb c11
      replace c12 := cell_later hb c12
      replace c13 := cell_later hb c13
      replace c14 := cell_later hb c14
      replace ia := ia.later hb
      replace ib := ib.later hb
      replace iw := iw.later hb
      replace s9 := s9.later hb
      replace ip := ip.later hb
      replace iq := iq.later hb
      replace ir := ir.later hb
      replace HB := HB.trans (hb.mono HB.size)
      clear hb
      go_wp2_with (fail)
      refine (own_any ib fb3).mono ?_
      rintro e w40 ⟨⟨yt, rfl, it⟩, hb⟩
      unfold vDf
      replace c01 := cell_later hb c01
      replace c02 := cell_later hb c02
      replace c03 := cell_later hb c03
      replace c04 := cell_later hb c04
      replace c11 := cell_later hb c11
      replace c12 := cell_later hb c12
      replace c13 := cell_later hb c13
      replace c14 := cell_later hb c14
      replace ia := ia.later hb
      replace ib := ib.later hb
      replace iw := iw.later hb
      replace s9 := s9.later hb
      replace ip := ip.later hb
      replace iq := iq.later hb
      replace ir := ir.later hb
      replace HB := HB.trans (hb.mono HB.size)
      clear hb
      go_wp2_with (fail)
      refine (HBR _ _ _ _ _ it s9 hlr2).mono ?_
      rintro e w41 ⟨rfl, hb⟩
      replace c01 := cell_later hb c01
      replace c02 := cell_later hb c02
      replace c03 := cell_later hb c03
      replace c04 := cell_later hb c04
      replace c11 := cell_later hb c11
      replace c12 := cell_later hb c12
      replace c13 := cell_later hb c13
      replace c14 := cell_later hb c14
      replace ia := ia.later hb
      replace ib := ib.later hb
      replace iw := iw.later hb
      replace s9 := s9.later hb
      replace ip := ip.later hb
      replace iq := iq.later hb
      replace ir := ir.later hb
      replace it := it.later hb
      replace HB := HB.trans (hb.mono HB.size)
      clear hb
      cases x <;> cases y
      · skip
        go_wp2_with (fail)
        go_ret
        exact ⟨rfl, HB⟩
      · skip
        go_wp2_with (fail)
        go_ret
        exact ⟨rfl, HB⟩
      · skip
        rcases HXY.out rfl rfl with hls | ⟨hle, hcm⟩
        rw [HZL.out] at hls
        · have d2 : decide ((R.length : Int) < (lw : Int)) = true := decide_eq_true (by omega)
          go_wp2_with (fail)
          go_ret
          exact ⟨rfl, HB⟩
        · rw [HZL.out] at hle
          obtain ⟨v, hv⟩ : ∃ v, cmpL R zs = v := ⟨_, rfl⟩
          rw [hv] at hcm
          have d2 : decide ((R.length : Int) < (lw : Int)) = false := decide_eq_false (by omega)
          have d6 : decide (R.length < lw) = false := decide_eq_false (by omega)
          have d4 : decide ((R.length : Int) = (lw : Int)) = true := decide_eq_true (by omega)
          have d3 : decide (v ≤ 0) = true := decide_eq_true hcm
          have d5 : ((R.length : Int) == (lw : Int)) = true := by simp only [beq_iff_eq]; omega
          have hcv := refCompare_any _ _ _ _ _ _ _ _ _ s9 iw (by omega) (by omega)
          rw [hv] at hcv
          clear hv hle hcm
          go_wp2_with (fail)
          refine (hcv).mono ?_
          rintro e w42 ⟨rfl, hb⟩
          replace c01 := cell_later hb c01
          replace c02 := cell_later hb c02
          replace c03 := cell_later hb c03
          replace c04 := cell_later hb c04
          replace c11 := cell_later hb c11
          replace c12 := cell_later hb c12
          replace c13 := cell_later hb c13
          replace c14 := cell_later hb c14
          replace ia := ia.later hb
          replace ib := ib.later hb
          replace iw := iw.later hb
          replace s9 := s9.later hb
          replace ip := ip.later hb
          replace iq := iq.later hb
          replace ir := ir.later hb
          replace it := it.later hb
          replace HB := HB.trans (hb.mono HB.size)
          clear hb
          go_wp2_with (fail)
          go_ret
          exact ⟨rfl, HB⟩
      · skip
        go_wp2_with (fail)
        go_ret
        exact ⟨rfl, HB⟩
theorem dfaIncluded_top (a : Dfa) (h : DH) (b : Dfa) (k : DH) (aw : Option Addr) (lw cw : Nat) (zs : List Int) (w : World) (ia : IsDfa w h a) (ib : IsDfa w k b) (iw : IsInts .i64 w aw lw cw zs) {P Q : Prop} (_ : P) (_ : Q) :
    Calls Try.prog 6 #[vDf a h, vDf b k, .slice aw lw cw] w fun e w' => e = .returned (.bool true) ∧ Below w.heap.size w w' := dfaIncluded_walk a h b k aw lw cw zs w ia ib iw
end Go.Proofs.Ytehdkcjoaogbeaa
