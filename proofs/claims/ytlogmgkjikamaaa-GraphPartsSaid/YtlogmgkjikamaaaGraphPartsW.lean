/-
  GraphParts: the walk.
-/
import Derived.Test.YtlogmgkjikamaaaGraCe
import Derived.Test.YtlogmgkjikamaaaGraOd
set_option linter.unusedSimpArgs false
set_option linter.unusedVariables false
set_option maxHeartbeats 4000000
namespace Go.Proofs.Ytlogmgkjikamaaa
open Go.RowKit
attribute [local go_sem] Oper.semAt_some

theorem cpR_short (g : List (List Int)) : ShortG (cpR g) := by
  unfold cpR
  split
  · rename_i h
    have hv := validGB_iff.1 h
    have h1 := compG_le g
    have h2 := hv.1
    exact ⟨by omega, fun i _ => by have := comp_rowlen g i; omega⟩
  · exact valid_nil.short
theorem cdR_valid (g : List (List Int)) : ValidG (cdR g) := by
  unfold cdR
  split
  · rename_i h
    have hv := validGB_iff.1 h
    have h1 := compG_le g
    have h2 := hv.1
    exact graphE_valid (by omega) _
  · exact valid_nil

set_option maxRecDepth 20000 in
theorem graphParts_walk (a : Option Addr) (len cap : Nat) (g : List (List Int)) (w : World) (hg : IsRows w a len cap g) :
    Calls Try.prog 4 #[.slice a len cap] w fun e w' => e = .returned (.bool true) ∧ Below w.heap.size w w' := by
  by_cases hf : FewG g
  rotate_left
  · have hg := hg
    go_enter Try.func4, Try.ntmps4
    have HB := Below.refl w.heap.size w
    go_wp2_with (fail)
    refine (awake_any _).mono ?_
    rintro e w1 ⟨rfl, hb⟩
    replace hg := hg.later hb
    replace HB := HB.trans (hb.mono HB.size)
    clear hb
    go_wp2_with (fail)
    refine (few_no hg hf).mono ?_
    rintro e w2 ⟨rfl, rfl⟩
    go_wp2_with (fail)
    go_ret
    exact ⟨rfl, HB⟩
  go_enter Try.func4, Try.ntmps4
  have HB := Below.refl w.heap.size w
  go_wp2_with (fail)
  refine (awake_any _).mono ?_
  rintro e w3 ⟨rfl, hb⟩
  replace hg := hg.later hb
  replace HB := HB.trans (hb.mono HB.size)
  clear hb
  go_wp2_with (fail)
  refine (few_yes hg hf).mono ?_
  rintro e w4 ⟨rfl, rfl⟩
  go_wp2_with (fail)
  refine (comps_g hg).mono ?_
  rintro e w5 ⟨⟨a1, n1, c1, rfl, i1, l1⟩, hb⟩
  replace hg := hg.later hb
  replace HB := HB.trans (hb.mono HB.size)
  clear hb
  go_wp2_with (fail)
  refine (refComps_g hg).mono ?_
  rintro e w6 ⟨⟨a2, n2, c2, rfl, i2, l2⟩, hb⟩
  replace hg := hg.later hb
  replace i1 := i1.later hb
  replace HB := HB.trans (hb.mono HB.size)
  clear hb
  go_wp2_with (fail)
  refine (condense_g hg).mono ?_
  rintro e w7 ⟨⟨a3, n3, c3, rfl, i3, l3⟩, hb⟩
  replace hg := hg.later hb
  replace i1 := i1.later hb
  replace i2 := i2.later hb
  replace HB := HB.trans (hb.mono HB.size)
  clear hb
  go_wp2_with (fail)
  refine (refCondense_g hg).mono ?_
  rintro e w8 ⟨⟨a4, n4, c4, rfl, i4, l4⟩, hb⟩
  replace hg := hg.later hb
  replace i1 := i1.later hb
  replace i2 := i2.later hb
  replace i3 := i3.later hb
  replace HB := HB.trans (hb.mono HB.size)
  clear hb
  go_wp2_with (fail)
  refine (order_l hg).mono ?_
  rintro e w9 ⟨⟨⟨a5, n5, c5, rfl, i5, l5⟩, H5⟩, hb⟩
  replace hg := hg.later hb
  replace i1 := i1.later hb
  replace i2 := i2.later hb
  replace i3 := i3.later hb
  replace i4 := i4.later hb
  replace HB := HB.trans (hb.mono HB.size)
  clear hb
  go_wp2_with (fail)
  refine (refOrder_l hg).mono ?_
  rintro e w10 ⟨⟨⟨a6, n6, c6, rfl, i6, l6⟩, H6⟩, hb⟩
  replace hg := hg.later hb
  replace i1 := i1.later hb
  replace i2 := i2.later hb
  replace i3 := i3.later hb
  replace i4 := i4.later hb
  replace i5 := i5.later hb
  replace HB := HB.trans (hb.mono HB.size)
  clear hb
  go_wp2_with (fail)
  refine (sameG_self (cpR_short g) i1 i2).mono ?_
  rintro e w11 ⟨rfl, hb⟩
  replace hg := hg.later hb
  replace i1 := i1.later hb
  replace i2 := i2.later hb
  replace i3 := i3.later hb
  replace i4 := i4.later hb
  replace i5 := i5.later hb
  replace i6 := i6.later hb
  replace HB := HB.trans (hb.mono HB.size)
  clear hb
  go_wp2_with (fail)
  refine (sameG_self (cdR_valid g).short i3 i4).mono ?_
  rintro e w12 ⟨rfl, hb⟩
  replace hg := hg.later hb
  replace i1 := i1.later hb
  replace i2 := i2.later hb
  replace i3 := i3.later hb
  replace i4 := i4.later hb
  replace i5 := i5.later hb
  replace i6 := i6.later hb
  replace HB := HB.trans (hb.mono HB.size)
  clear hb
  go_wp2_with (fail)
  refine (same_self i5 i6 (by omega)).mono ?_
  rintro e w13 ⟨rfl, hb⟩
  replace hg := hg.later hb
  replace i1 := i1.later hb
  replace i2 := i2.later hb
  replace i3 := i3.later hb
  replace i4 := i4.later hb
  replace i5 := i5.later hb
  replace i6 := i6.later hb
  replace HB := HB.trans (hb.mono HB.size)
  clear hb
  go_wp2_with (fail)
  go_ret
  exact ⟨rfl, HB⟩
end Go.Proofs.Ytlogmgkjikamaaa
