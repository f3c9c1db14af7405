/-
  BitsOps: the walk.
-/
import Derived.Test.YtmeldbddbinnbaaDoorBitAm
set_option linter.unusedSimpArgs false
set_option linter.unusedVariables false
namespace Go.Proofs.YtmeldbddbinnbaaDoor
open Go.RowKit Go.Shelf
attribute [local go_sem] Oper.semAt_some

set_option maxHeartbeats 4000000 in
theorem bitsOps_walk (a0 : Option Addr) (len0 cap0 : Nat) (z0 : List Int) (a1 : Option Addr) (len1 cap1 : Nat) (z1 : List Int) (w : World) (i0 : IsInts .u64 w a0 len0 cap0 z0) (b0 : ∀ n ∈ z0, (Lit.int .u64 n).wf = true) (m0 : cap0 * 8 ≤ 140737488351232) (i1 : IsInts .u64 w a1 len1 cap1 z1) (b1 : ∀ n ∈ z1, (Lit.int .u64 n).wf = true) (m1 : cap1 * 8 ≤ 140737488351232) (hT : TabAt 0 Lib.deBruijn64tab w) :
    Calls Tryd.prog 10 #[.slice a0 len0 cap0, .slice a1 len1 cap1] w fun e w' => e = .returned (.bool true) ∧ Below w.heap.size w w' := by
  by_cases hf : len0 ≤ 70 ∧ len1 ≤ 70
  · obtain ⟨s0, s1⟩ := hf
    have x0 := w64_of_wf b0
    have x1 := w64_of_wf b1
    have HB := Below.refl w.heap.size w
    go_enter Tryd.func10, Tryd.ntmps10
    go_wp2_with (fail)
    refine (awake_any w hT).mono ?_
    rintro e w1 ⟨rfl, hb⟩
    replace i0 := i0.later hb
    replace i1 := i1.later hb
    replace hT := TabAt.later hT hb
    replace HB := HB.trans (hb.mono HB.size)
    clear hb
    go_wp2_with (fail)
    refine (few_yes _ _ s0 s1).mono ?_
    rintro e w2 ⟨rfl, rfl⟩
    go_wp2_with (fail)
    refine (refList_s i0 x0 (by omega)).mono ?_
    rintro e w3 ⟨gX, tX, cX, rfl, iX, sX, hb⟩
    replace i0 := i0.later hb
    replace i1 := i1.later hb
    replace hT := TabAt.later hT hb
    replace HB := HB.trans (hb.mono HB.size)
    clear hb
    go_wp2_with (fail)
    refine (refList_s i1 x1 (by omega)).mono ?_
    rintro e w4 ⟨gY, tY, cY, rfl, iY, sY, hb⟩
    replace i0 := i0.later hb
    replace i1 := i1.later hb
    replace iX := iX.later hb
    replace hT := TabAt.later hT hb
    replace HB := HB.trans (hb.mono HB.size)
    clear hb
    go_wp2_with (fail)
    refine (union_s i0 i1 x0 x1 (by omega) (by omega)).mono ?_
    rintro e w5 ⟨gU, tU, zU, rfl, iU, cU, sU, hb⟩
    have xU := cU.1
    have bU := Lib.hid cU.2.2
    replace i0 := i0.later hb
    replace i1 := i1.later hb
    replace iX := iX.later hb
    replace iY := iY.later hb
    replace hT := TabAt.later hT hb
    replace HB := HB.trans (hb.mono HB.size)
    clear hb
    go_wp2_with (fail)
    refine (refUnion_s iX iY sX sY).mono ?_
    rintro e w6 ⟨gL, tL, cL, rfl, iL, sL, hb⟩
    replace i0 := i0.later hb
    replace i1 := i1.later hb
    replace iX := iX.later hb
    replace iY := iY.later hb
    replace iU := iU.later hb
    replace hT := TabAt.later hT hb
    replace HB := HB.trans (hb.mono HB.size)
    clear hb
    go_wp2_with (fail)
    refine (same_yes iU iL cU (by omega) sL (fun n hn => rfl)).mono ?_
    rintro e w7 ⟨rfl, hb⟩
    replace i0 := i0.later hb
    replace i1 := i1.later hb
    replace iX := iX.later hb
    replace iY := iY.later hb
    replace iU := iU.later hb
    replace iL := iL.later hb
    replace hT := TabAt.later hT hb
    replace HB := HB.trans (hb.mono HB.size)
    clear hb
    go_wp2_with (fail)
    refine (inter_s i0 i1 x0 x1 (by omega) (by omega)).mono ?_
    rintro e w8 ⟨gU, tU, zU, rfl, iU, cU, sU, hb⟩
    have xU := cU.1
    have bU := Lib.hid cU.2.2
    replace i0 := i0.later hb
    replace i1 := i1.later hb
    replace iX := iX.later hb
    replace iY := iY.later hb
    replace hT := TabAt.later hT hb
    replace HB := HB.trans (hb.mono HB.size)
    clear hb
    go_wp2_with (fail)
    refine (refInter_s iX iY sX sY).mono ?_
    rintro e w9 ⟨gL, tL, cL, rfl, iL, sL, hb⟩
    replace i0 := i0.later hb
    replace i1 := i1.later hb
    replace iX := iX.later hb
    replace iY := iY.later hb
    replace iU := iU.later hb
    replace hT := TabAt.later hT hb
    replace HB := HB.trans (hb.mono HB.size)
    clear hb
    go_wp2_with (fail)
    refine (same_yes iU iL cU (by omega) sL (fun n hn => rfl)).mono ?_
    rintro e w10 ⟨rfl, hb⟩
    replace i0 := i0.later hb
    replace i1 := i1.later hb
    replace iX := iX.later hb
    replace iY := iY.later hb
    replace iU := iU.later hb
    replace iL := iL.later hb
    replace hT := TabAt.later hT hb
    replace HB := HB.trans (hb.mono HB.size)
    clear hb
    go_wp2_with (fail)
    refine (minus_s i0 i1 x0 x1 (by omega) (by omega)).mono ?_
    rintro e w11 ⟨gU, tU, zU, rfl, iU, cU, sU, hb⟩
    have xU := cU.1
    have bU := Lib.hid cU.2.2
    replace i0 := i0.later hb
    replace i1 := i1.later hb
    replace iX := iX.later hb
    replace iY := iY.later hb
    replace hT := TabAt.later hT hb
    replace HB := HB.trans (hb.mono HB.size)
    clear hb
    go_wp2_with (fail)
    refine (refMinus_s iX iY sX sY).mono ?_
    rintro e w12 ⟨gL, tL, cL, rfl, iL, sL, hb⟩
    replace i0 := i0.later hb
    replace i1 := i1.later hb
    replace iX := iX.later hb
    replace iY := iY.later hb
    replace iU := iU.later hb
    replace hT := TabAt.later hT hb
    replace HB := HB.trans (hb.mono HB.size)
    clear hb
    go_wp2_with (fail)
    refine (same_yes iU iL cU (by omega) sL (fun n hn => rfl)).mono ?_
    rintro e w13 ⟨rfl, hb⟩
    replace i0 := i0.later hb
    replace i1 := i1.later hb
    replace iX := iX.later hb
    replace iY := iY.later hb
    replace iU := iU.later hb
    replace iL := iL.later hb
    replace hT := TabAt.later hT hb
    replace HB := HB.trans (hb.mono HB.size)
    clear hb
    go_wp2_with (fail)
    refine (sub_any _ _ _ z0 _ _ _ z1 _ i0 i1).mono ?_
    rintro e w14 ⟨rfl, hb⟩
    replace i0 := i0.later hb
    replace i1 := i1.later hb
    replace iX := iX.later hb
    replace iY := iY.later hb
    replace hT := TabAt.later hT hb
    replace HB := HB.trans (hb.mono HB.size)
    clear hb
    go_wp2_with (fail)
    refine (refSub_subB iX iY x0 x1 sX sY).mono ?_
    rintro e w15 ⟨rfl, hb⟩
    replace i0 := i0.later hb
    replace i1 := i1.later hb
    replace iX := iX.later hb
    replace iY := iY.later hb
    replace hT := TabAt.later hT hb
    replace HB := HB.trans (hb.mono HB.size)
    clear hb
    go_wp2_with (fail)
    refine (equal_s i0 i1).mono ?_
    rintro e w16 ⟨rfl, hb⟩
    replace i0 := i0.later hb
    replace i1 := i1.later hb
    replace iX := iX.later hb
    replace iY := iY.later hb
    replace hT := TabAt.later hT hb
    replace HB := HB.trans (hb.mono HB.size)
    clear hb
    go_wp2_with (fail)
    refine (refSame_eqB iX iY x0 x1 sX).mono ?_
    rintro e w17 ⟨rfl, hb⟩
    replace i0 := i0.later hb
    replace i1 := i1.later hb
    replace iX := iX.later hb
    replace iY := iY.later hb
    replace hT := TabAt.later hT hb
    replace HB := HB.trans (hb.mono HB.size)
    clear hb
    go_wp2_with (fail)
    refine (compare_s i0 i1 x0 x1 hT).mono ?_
    rintro e w18 ⟨rfl, hb⟩
    replace i0 := i0.later hb
    replace i1 := i1.later hb
    replace iX := iX.later hb
    replace iY := iY.later hb
    replace hT := TabAt.later hT hb
    replace HB := HB.trans (hb.mono HB.size)
    clear hb
    go_wp2_with (fail)
    refine (refCompare_s iX iY sX sY).mono ?_
    rintro e w19 ⟨rfl, hb⟩
    replace i0 := i0.later hb
    replace i1 := i1.later hb
    replace iX := iX.later hb
    replace iY := iY.later hb
    replace hT := TabAt.later hT hb
    replace HB := HB.trans (hb.mono HB.size)
    clear hb
    go_wp2_with (fail)
    go_ret
    exact ⟨rfl, HB⟩
  · clear i0 i1
    have HB := Below.refl w.heap.size w
    go_enter Tryd.func10, Tryd.ntmps10
    go_wp2_with (fail)
    refine (awake_any w hT).mono ?_
    rintro e w1 ⟨rfl, hb⟩
    replace hT := TabAt.later hT hb
    replace HB := HB.trans (hb.mono HB.size)
    clear hb
    go_wp2_with (fail)
    refine (few_no _ _ hf).mono ?_
    rintro e w2 ⟨rfl, rfl⟩
    go_wp2_with (fail)
    go_ret
    exact ⟨rfl, HB⟩
end Go.Proofs.YtmeldbddbinnbaaDoor
