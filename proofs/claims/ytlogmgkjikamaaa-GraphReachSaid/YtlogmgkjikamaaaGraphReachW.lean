/-
  GraphReach: the walk.
-/
import Derived.Test.YtlogmgkjikamaaaGraLx
import Derived.Test.YtlogmgkjikamaaaGraPc
set_option linter.unusedSimpArgs false
set_option linter.unusedVariables false
set_option maxHeartbeats 4000000
namespace Go.Proofs.Ytlogmgkjikamaaa
open Go.RowKit
attribute [local go_sem] Oper.semAt_some

set_option maxRecDepth 20000 in
theorem graphReach_walk (a : Option Addr) (len cap : Nat) (g : List (List Int)) (al : Option Addr) (ll cl : Nat) (l : List Int) (t1 : Int) (w : World) (hg : IsRows w a len cap g) (hl : IsInts .i64 w al ll cl l) (hlw : ∀ n ∈ l, (Lit.int .i64 n).wf = true) (hlm : cl * 8 ≤ 140737488351232) (hto : (Lit.int .i64 t1).wf = true) :
    Calls Try.prog 6 #[.slice a len cap, .slice al ll cl, .int .i64 t1] w fun e w' => e = .returned (.bool true) ∧ Below w.heap.size w w' := by
  clear hlw hlm hto
  replace hl := hl.row
  by_cases hf : FewG g
  rotate_left
  · have hg := hg
    go_enter Try.func6, Try.ntmps6
    have HB := Below.refl w.heap.size w
    go_wp2_with (fail)
    refine (awake_any _).mono ?_
    rintro e w1 ⟨rfl, hb⟩
    replace hg := hg.later hb
    replace hl := hl.later hb
    replace HB := HB.trans (hb.mono HB.size)
    clear hb
    go_wp2_with (fail)
    refine (few_no hg hf).mono ?_
    rintro e w2 ⟨rfl, rfl⟩
    go_wp2_with (fail)
    go_ret
    exact ⟨rfl, HB⟩
  by_cases h20 : 20 < ll
  · have d1 : decide ((20 : Int) < (ll : Int)) = true := decide_eq_true (by omega)
    go_enter Try.func6, Try.ntmps6
    have HB := Below.refl w.heap.size w
    go_wp2_with (fail)
    refine (awake_any _).mono ?_
    rintro e w3 ⟨rfl, hb⟩
    replace hg := hg.later hb
    replace hl := hl.later hb
    replace HB := HB.trans (hb.mono HB.size)
    clear hb
    go_wp2_with (fail)
    refine (few_yes hg hf).mono ?_
    rintro e w4 ⟨rfl, rfl⟩
    go_wp2_with (fail)
    go_ret
    exact ⟨rfl, HB⟩
  have d1 : decide ((20 : Int) < (ll : Int)) = false := decide_eq_false (by omega)
  by_cases h0 : 0 < ll
  · have d2 : decide (0 < (ll : Int)) = true := decide_eq_true (by omega)
    go_enter Try.func6, Try.ntmps6
    have HB := Below.refl w.heap.size w
    go_wp2_with (fail)
    refine (awake_any _).mono ?_
    rintro e w5 ⟨rfl, hb⟩
    replace hg := hg.later hb
    replace hl := hl.later hb
    replace HB := HB.trans (hb.mono HB.size)
    clear hb
    go_wp2_with (fail)
    refine (few_yes hg hf).mono ?_
    rintro e w6 ⟨rfl, rfl⟩
    go_wp2_with (fail)
    refine (reach_l hg hl).mono ?_
    rintro e w7 ⟨⟨⟨a1, n1, c1, rfl, i1, l1⟩, H1⟩, hb⟩
    replace hg := hg.later hb
    replace hl := hl.later hb
    replace HB := HB.trans (hb.mono HB.size)
    clear hb
    go_wp2_with (fail)
    refine (refReach_l hg hl).mono ?_
    rintro e w8 ⟨⟨⟨a2, n2, c2, rfl, i2, l2⟩, H2⟩, hb⟩
    replace hg := hg.later hb
    replace hl := hl.later hb
    replace i1 := i1.later hb
    replace HB := HB.trans (hb.mono HB.size)
    clear hb
    go_wp2_with (fail)
    refine (dist_l hg hl).mono ?_
    rintro e w9 ⟨⟨⟨a3, n3, c3, rfl, i3, l3⟩, H3⟩, hb⟩
    replace hg := hg.later hb
    replace hl := hl.later hb
    replace i1 := i1.later hb
    replace i2 := i2.later hb
    replace HB := HB.trans (hb.mono HB.size)
    clear hb
    go_wp2_with (fail)
    refine (refDist_l hg hl).mono ?_
    rintro e w10 ⟨⟨⟨a4, n4, c4, rfl, i4, l4⟩, H4⟩, hb⟩
    replace hg := hg.later hb
    replace hl := hl.later hb
    replace i1 := i1.later hb
    replace i2 := i2.later hb
    replace i3 := i3.later hb
    replace HB := HB.trans (hb.mono HB.size)
    clear hb
    go_wp2_with (fail)
    refine (same_self i1 i2 (by omega)).mono ?_
    rintro e w11 ⟨rfl, hb⟩
    replace hg := hg.later hb
    replace hl := hl.later hb
    replace i1 := i1.later hb
    replace i2 := i2.later hb
    replace i3 := i3.later hb
    replace i4 := i4.later hb
    replace HB := HB.trans (hb.mono HB.size)
    clear hb
    go_wp2_with (fail)
    refine (same_self i3 i4 (by omega)).mono ?_
    rintro e w12 ⟨rfl, hb⟩
    replace hg := hg.later hb
    replace hl := hl.later hb
    replace i1 := i1.later hb
    replace i2 := i2.later hb
    replace i3 := i3.later hb
    replace i4 := i4.later hb
    replace HB := HB.trans (hb.mono HB.size)
    clear hb
    obtain ⟨bl, ol, e0, -, hc⟩ := hl.at w12 (Below.refl _ _) 0 h0
    subst e0
    simp only [Nat.add_zero] at hc
    go_wp2_with (fail)
    refine (path_l hg).mono ?_
    rintro e w13 ⟨⟨a5, n5, c5, rfl, i5, l5⟩, hb⟩
    replace hg := hg.later hb
    replace hl := hl.later hb
    replace i1 := i1.later hb
    replace i2 := i2.later hb
    replace i3 := i3.later hb
    replace i4 := i4.later hb
    replace HB := HB.trans (hb.mono HB.size)
    clear hb
    go_wp2_with (fail)
    refine (refPath_l hg).mono ?_
    rintro e w14 ⟨⟨a6, n6, c6, rfl, i6, l6⟩, hb⟩
    replace hg := hg.later hb
    replace hl := hl.later hb
    replace i1 := i1.later hb
    replace i2 := i2.later hb
    replace i3 := i3.later hb
    replace i4 := i4.later hb
    replace i5 := i5.later hb
    replace HB := HB.trans (hb.mono HB.size)
    clear hb
    go_wp2_with (fail)
    refine (same_self i5 i6 (by omega)).mono ?_
    rintro e w15 ⟨rfl, hb⟩
    replace hg := hg.later hb
    replace hl := hl.later hb
    replace i1 := i1.later hb
    replace i2 := i2.later hb
    replace i3 := i3.later hb
    replace i4 := i4.later hb
    replace i5 := i5.later hb
    replace i6 := i6.later hb
    replace HB := HB.trans (hb.mono HB.size)
    clear hb
    go_wp2_with (fail)
    go_ret
    exact ⟨rfl, HB⟩
  have d2 : decide (0 < (ll : Int)) = false := decide_eq_false (by omega)
  go_enter Try.func6, Try.ntmps6
  have HB := Below.refl w.heap.size w
  go_wp2_with (fail)
  refine (awake_any _).mono ?_
  rintro e w16 ⟨rfl, hb⟩
  replace hg := hg.later hb
  replace hl := hl.later hb
  replace HB := HB.trans (hb.mono HB.size)
  clear hb
  go_wp2_with (fail)
  refine (few_yes hg hf).mono ?_
  rintro e w17 ⟨rfl, rfl⟩
  go_wp2_with (fail)
  refine (reach_l hg hl).mono ?_
  rintro e w18 ⟨⟨⟨a1, n1, c1, rfl, i1, l1⟩, H1⟩, hb⟩
  replace hg := hg.later hb
  replace hl := hl.later hb
  replace HB := HB.trans (hb.mono HB.size)
  clear hb
  go_wp2_with (fail)
  refine (refReach_l hg hl).mono ?_
  rintro e w19 ⟨⟨⟨a2, n2, c2, rfl, i2, l2⟩, H2⟩, hb⟩
  replace hg := hg.later hb
  replace hl := hl.later hb
  replace i1 := i1.later hb
  replace HB := HB.trans (hb.mono HB.size)
  clear hb
  go_wp2_with (fail)
  refine (dist_l hg hl).mono ?_
  rintro e w20 ⟨⟨⟨a3, n3, c3, rfl, i3, l3⟩, H3⟩, hb⟩
  replace hg := hg.later hb
  replace hl := hl.later hb
  replace i1 := i1.later hb
  replace i2 := i2.later hb
  replace HB := HB.trans (hb.mono HB.size)
  clear hb
  go_wp2_with (fail)
  refine (refDist_l hg hl).mono ?_
  rintro e w21 ⟨⟨⟨a4, n4, c4, rfl, i4, l4⟩, H4⟩, hb⟩
  replace hg := hg.later hb
  replace hl := hl.later hb
  replace i1 := i1.later hb
  replace i2 := i2.later hb
  replace i3 := i3.later hb
  replace HB := HB.trans (hb.mono HB.size)
  clear hb
  go_wp2_with (fail)
  refine (same_self i1 i2 (by omega)).mono ?_
  rintro e w22 ⟨rfl, hb⟩
  replace hg := hg.later hb
  replace hl := hl.later hb
  replace i1 := i1.later hb
  replace i2 := i2.later hb
  replace i3 := i3.later hb
  replace i4 := i4.later hb
  replace HB := HB.trans (hb.mono HB.size)
  clear hb
  go_wp2_with (fail)
  refine (same_self i3 i4 (by omega)).mono ?_
  rintro e w23 ⟨rfl, hb⟩
  replace hg := hg.later hb
  replace hl := hl.later hb
  replace i1 := i1.later hb
  replace i2 := i2.later hb
  replace i3 := i3.later hb
  replace i4 := i4.later hb
  replace HB := HB.trans (hb.mono HB.size)
  clear hb
  skip
  go_wp2_with (fail)
  refine (path_l hg).mono ?_
  rintro e w24 ⟨⟨a5, n5, c5, rfl, i5, l5⟩, hb⟩
  replace hg := hg.later hb
  replace hl := hl.later hb
  replace i1 := i1.later hb
  replace i2 := i2.later hb
  replace i3 := i3.later hb
  replace i4 := i4.later hb
  replace HB := HB.trans (hb.mono HB.size)
  clear hb
  go_wp2_with (fail)
  refine (refPath_l hg).mono ?_
  rintro e w25 ⟨⟨a6, n6, c6, rfl, i6, l6⟩, hb⟩
  replace hg := hg.later hb
  replace hl := hl.later hb
  replace i1 := i1.later hb
  replace i2 := i2.later hb
  replace i3 := i3.later hb
  replace i4 := i4.later hb
  replace i5 := i5.later hb
  replace HB := HB.trans (hb.mono HB.size)
  clear hb
  go_wp2_with (fail)
  refine (same_self i5 i6 (by omega)).mono ?_
  rintro e w26 ⟨rfl, hb⟩
  replace hg := hg.later hb
  replace hl := hl.later hb
  replace i1 := i1.later hb
  replace i2 := i2.later hb
  replace i3 := i3.later hb
  replace i4 := i4.later hb
  replace i5 := i5.later hb
  replace i6 := i6.later hb
  replace HB := HB.trans (hb.mono HB.size)
  clear hb
  go_wp2_with (fail)
  go_ret
  exact ⟨rfl, HB⟩
end Go.Proofs.Ytlogmgkjikamaaa
