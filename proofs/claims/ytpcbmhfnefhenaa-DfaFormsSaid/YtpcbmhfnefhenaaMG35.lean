import Derived.Test.YtpcbmhfnefhenaaMG13
import Derived.Test.YtpcbmhfnefhenaaMG18
import Derived.Test.YtpcbmhfnefhenaaMG33
import Derived.Test.YtpcbmhfnefhenaaMG34
/-
  DfaMo, DfaFormsW
-/
set_option linter.unusedVariables false
namespace Go.Proofs.Ytpcbmhfnefhenaa

theorem settles {f : Nat → Nat} {N : Nat} (hm : ∀ k, f k ≤ f (k + 1)) (hN : ∀ k, f k ≤ N) : ∃ k, f (k + 1) = f k := by
  apply Classical.byContradiction
  intro hno
  have h : ∀ k, k ≤ f k := by
    intro k
    induction k with
    | zero => omega
    | succ k ih =>
      have h1 := hm k
      have h2 : f (k + 1) ≠ f k := fun e => hno ⟨k, e⟩
      omega
  have h1 := h (N + 1)
  have h2 := hN (N + 1)
  omega
section
variable {a b d : Dfa}
theorem minD_facts (hv : ValidD d) : ValidD (minD d) ∧ lgD (minD d) 0 = lgD d d.s ∧ (minD d).n ≤ d.n := by
  have ht := trimD_valid hv
  have h1 := ht.1
  obtain ⟨k, hk⟩ := settles (f := ctK (trimD d).arcs (trimD d).n.toNat (trimD d).fin) (N := (trimD d).n.toNat) (ctK_mono (by omega)) (fun k => (ctK_le (by omega) k).2)
  obtain ⟨hC, hL⟩ := prog_classes hv hk
  obtain ⟨e1, e2, e3⟩ := minL_of ht (trimD_useful hv) hC hL
  have e4 := (ctK_le (es := (trimD d).arcs) (N := (trimD d).n.toNat) (fin := (trimD d).fin) (by omega) (k + 1)).2
  have e5 := trimD_n hv
  have e6 : lgD (trimD d) (trimD d).s = lgD d d.s := by rw [trimD_s, trimD_lang hv]
  rw [e6] at e1 e2 e3
  exact ⟨e1, e2, by show (minL (lgD d d.s)).n ≤ d.n; omega⟩
theorem minD_s (d : Dfa) : (minD d).s = 0 := rfl
theorem minD_idem (hv : ValidD d) : minD (minD d) = minD d := by
  show minL (lgD (minD d) (minD d).s) = minL (lgD d d.s)
  rw [minD_s, (minD_facts hv).2.1]
theorem minD_iff (ha : ValidD a) (hb : ValidD b) : minD a = minD b ↔ lgD a a.s = lgD b b.s := by
  constructor
  · intro e
    rw [← (minD_facts ha).2.1, ← (minD_facts hb).2.1, e]
  · intro e
    show minL (lgD a a.s) = minL (lgD b b.s)
    rw [e]
end
end Go.Proofs.Ytpcbmhfnefhenaa

set_option linter.unusedSimpArgs false
set_option linter.unusedVariables false
namespace Go.Proofs.Ytpcbmhfnefhenaa
open List (foldr_cons foldr_nil setIfInBounds_toArray set_cons_succ set_cons_zero)
open Go.RowKit
attribute [local go_sem] Oper.semAt_some

set_option maxRecDepth 20000 in
set_option maxHeartbeats 4000000 in
theorem dfaForms_walk (d : Dfa) (h : DH) (w : World) (ia : IsDfa w h d) :
    Calls Try.prog 3 #[vDf d h] w fun e w' => e = .returned (.bool true) ∧ Below w.heap.size w w' := by
  obtain ⟨W0, hW0, hs0, hb0, hO0⟩ := boxRW d h w ia
  replace ia := (hO0 W0 (Below.refl _ _)).2.1
  obtain ⟨c01, c02, c03, c04⟩ := (hO0 W0 (Below.refl _ _)).1
  have HB : Below w.heap.size w W0 := hb0
  clear hO0 hb0
  unfold vDf
  by_cases fa : FewD d
  rotate_left
  · have hx := fa
    go_enter Try.func3, Try.ntmps3
    go_wp2_with (fail)
    refine (awake_any _).mono ?_
    rintro e w1 ⟨rfl, hb⟩
    replace c01 := cell_later hb c01
    replace c02 := cell_later hb c02
    replace c03 := cell_later hb c03
    replace c04 := cell_later hb c04
    replace ia := ia.later hb
    replace HB := HB.trans (hb.mono HB.size)
    clear hb
    go_wp2_with (fail)
    refine (few_no ia fa).mono ?_
    rintro e w2 ⟨rfl, hb⟩
    replace c01 := cell_later hb c01
    replace c02 := cell_later hb c02
    replace c03 := cell_later hb c03
    replace c04 := cell_later hb c04
    replace ia := ia.later hb
    replace HB := HB.trans (hb.mono HB.size)
    clear hb
    go_wp2_with (fail)
    go_ret
    exact ⟨rfl, HB⟩
  have fa3 : d.arcs.length ≤ 1000 := by have := fa.2.2; omega
  by_cases hv : ValidD d
  · skip
    have k1 := fun W h' (hd : IsDfa W h' d) => Canonical_any (w := W) (h := h') hd
    have k2 := fun W h' (hd : IsDfa W h' d) => refCanonical_any (w := W) (h := h') hd
    have k3 := fun W h' (hd : IsDfa W h' d) => Trim_any (w := W) (h := h') hd
    have k4 := fun W h' (hd : IsDfa W h' d) => refTrim_any (w := W) (h := h') hd
    have k5 := fun W h' (hd : IsDfa W h' d) => minimize_any (w := W) (h := h') hd
    have k6 := fun W h' (hd : IsDfa W h' d) => refMinimize_any (w := W) (h := h') hd
    unfold orZero orErr at k1 k2 k3 k4 k5 k6
    simp only [if_pos hv] at k1 k2 k3 k4 k5 k6
    have v1 : ValidD (canF d) := canD_valid hv _
    have v2 := trimD_valid hv
    have v3 := (minD_facts hv).1
    obtain ⟨A, hA⟩ : ∃ A, canF d = A := ⟨_, rfl⟩
    obtain ⟨T, hT⟩ : ∃ T, trimD d = T := ⟨_, rfl⟩
    obtain ⟨M, hM⟩ : ∃ M, minD d = M := ⟨_, rfl⟩
    rw [hA] at k1 k2 v1
    rw [hT] at k3 k4 v2
    rw [hM] at k5 k6 v3
    have l1 : A.arcs.length ≤ 1000000 := by have := v1.2.2.2.1; omega
    have l2 : T.arcs.length ≤ 1000000 := by have := v2.2.2.2.1; omega
    have l3 : M.arcs.length ≤ 1000000 := by have := v3.2.2.2.1; omega
    have V1 := Lib.hid v1
    have V2 := Lib.hid v2
    have V3 := Lib.hid v3
    clear hA hT hM v1 v2 v3 hv
    have K1 := Lib.hid k1
    have K2 := Lib.hid k2
    have K3 := Lib.hid k3
    have K4 := Lib.hid k4
    have K5 := Lib.hid k5
    have K6 := Lib.hid k6
    clear k1 k2 k3 k4 k5 k6
    have E1 : Hid (eqD A A = true) := Lib.hid (eqD_iff.2 rfl)
    have E2 : Hid (eqD T T = true) := Lib.hid (eqD_iff.2 rfl)
    have E3 : Hid (eqD M M = true) := Lib.hid (eqD_iff.2 rfl)
    go_enter Try.func3, Try.ntmps3
    go_wp2_with (fail)
    refine (awake_any _).mono ?_
    rintro e w3 ⟨rfl, hb⟩
    replace c01 := cell_later hb c01
    replace c02 := cell_later hb c02
    replace c03 := cell_later hb c03
    replace c04 := cell_later hb c04
    replace ia := ia.later hb
    replace HB := HB.trans (hb.mono HB.size)
    clear hb
    go_wp2_with (fail)
    refine (few_yes ia fa).mono ?_
    rintro e w4 ⟨rfl, hb⟩
    replace c01 := cell_later hb c01
    replace c02 := cell_later hb c02
    replace c03 := cell_later hb c03
    replace c04 := cell_later hb c04
    replace ia := ia.later hb
    replace HB := HB.trans (hb.mono HB.size)
    clear hb
    go_wp2_with (fail)
    refine (own_any ia fa3).mono ?_
    rintro e w5 ⟨⟨yp, rfl, ip⟩, hb⟩
    unfold vDf
    replace c01 := cell_later hb c01
    replace c02 := cell_later hb c02
    replace c03 := cell_later hb c03
    replace c04 := cell_later hb c04
    replace ia := ia.later hb
    replace HB := HB.trans (hb.mono HB.size)
    clear hb
    go_wp2_with (fail)
    refine (K1.out _ _ ip).mono ?_
    rintro e w6 ⟨⟨ya, rfl, iaa⟩, hb⟩
    unfold vDf
    replace c01 := cell_later hb c01
    replace c02 := cell_later hb c02
    replace c03 := cell_later hb c03
    replace c04 := cell_later hb c04
    replace ia := ia.later hb
    replace ip := ip.later hb
    replace HB := HB.trans (hb.mono HB.size)
    clear hb
    go_upto_region 6 with (fail)
    obtain ⟨Va, hVa, -, hb, hOa⟩ := boxDW A ya _ iaa
    rw [hVa]
    obtain ⟨⟨ca1, ca2, ca3, ca4⟩, -, -⟩ := hOa Va (Below.refl _ _)
    clear hOa hVa
    replace c01 := cell_later hb c01
    replace c02 := cell_later hb c02
    replace c03 := cell_later hb c03
    replace c04 := cell_later hb c04
    replace ia := ia.later hb
    replace ip := ip.later hb
    replace iaa := iaa.later hb
    replace HB := HB.trans (hb.mono HB.size)
    clear hb
    go_wp2_with (fail)
    refine (K2.out _ _ ia).mono ?_
    rintro e w7 ⟨⟨yb, rfl, ib⟩, hb⟩
    unfold vDf
    replace c01 := cell_later hb c01
    replace c02 := cell_later hb c02
    replace c03 := cell_later hb c03
    replace c04 := cell_later hb c04
    replace ca1 := cell_later hb ca1
    replace ca2 := cell_later hb ca2
    replace ca3 := cell_later hb ca3
    replace ca4 := cell_later hb ca4
    replace ia := ia.later hb
    replace ip := ip.later hb
    replace iaa := iaa.later hb
    replace HB := HB.trans (hb.mono HB.size)
    clear hb
    go_upto_region 7 with (fail)
    obtain ⟨Vb, hVb, -, hb, hOb⟩ := boxRW A yb _ ib
    rw [hVb]
    obtain ⟨⟨cb1, cb2, cb3, cb4⟩, -, -⟩ := hOb Vb (Below.refl _ _)
    clear hOb hVb
    replace c01 := cell_later hb c01
    replace c02 := cell_later hb c02
    replace c03 := cell_later hb c03
    replace c04 := cell_later hb c04
    replace ca1 := cell_later hb ca1
    replace ca2 := cell_later hb ca2
    replace ca3 := cell_later hb ca3
    replace ca4 := cell_later hb ca4
    replace ia := ia.later hb
    replace ip := ip.later hb
    replace iaa := iaa.later hb
    replace ib := ib.later hb
    replace HB := HB.trans (hb.mono HB.size)
    clear hb
    go_wp2_with (fail)
    refine (own_any ia fa3).mono ?_
    rintro e w8 ⟨⟨yq, rfl, iq⟩, hb⟩
    unfold vDf
    replace c01 := cell_later hb c01
    replace c02 := cell_later hb c02
    replace c03 := cell_later hb c03
    replace c04 := cell_later hb c04
    replace ca1 := cell_later hb ca1
    replace ca2 := cell_later hb ca2
    replace ca3 := cell_later hb ca3
    replace ca4 := cell_later hb ca4
    replace cb1 := cell_later hb cb1
    replace cb2 := cell_later hb cb2
    replace cb3 := cell_later hb cb3
    replace cb4 := cell_later hb cb4
    replace ia := ia.later hb
    replace ip := ip.later hb
    replace iaa := iaa.later hb
    replace ib := ib.later hb
    replace HB := HB.trans (hb.mono HB.size)
    clear hb
    go_wp2_with (fail)
    refine (K3.out _ _ iq).mono ?_
    rintro e w9 ⟨⟨yc, rfl, ic⟩, hb⟩
    unfold vDf
    replace c01 := cell_later hb c01
    replace c02 := cell_later hb c02
    replace c03 := cell_later hb c03
    replace c04 := cell_later hb c04
    replace ca1 := cell_later hb ca1
    replace ca2 := cell_later hb ca2
    replace ca3 := cell_later hb ca3
    replace ca4 := cell_later hb ca4
    replace cb1 := cell_later hb cb1
    replace cb2 := cell_later hb cb2
    replace cb3 := cell_later hb cb3
    replace cb4 := cell_later hb cb4
    replace ia := ia.later hb
    replace ip := ip.later hb
    replace iaa := iaa.later hb
    replace ib := ib.later hb
    replace iq := iq.later hb
    replace HB := HB.trans (hb.mono HB.size)
    clear hb
    go_upto_region 8 with (fail)
    obtain ⟨Vc, hVc, -, hb, hOc⟩ := boxDW T yc _ ic
    rw [hVc]
    obtain ⟨⟨cc1, cc2, cc3, cc4⟩, -, -⟩ := hOc Vc (Below.refl _ _)
    clear hOc hVc
    replace c01 := cell_later hb c01
    replace c02 := cell_later hb c02
    replace c03 := cell_later hb c03
    replace c04 := cell_later hb c04
    replace ca1 := cell_later hb ca1
    replace ca2 := cell_later hb ca2
    replace ca3 := cell_later hb ca3
    replace ca4 := cell_later hb ca4
    replace cb1 := cell_later hb cb1
    replace cb2 := cell_later hb cb2
    replace cb3 := cell_later hb cb3
    replace cb4 := cell_later hb cb4
    replace ia := ia.later hb
    replace ip := ip.later hb
    replace iaa := iaa.later hb
    replace ib := ib.later hb
    replace iq := iq.later hb
    replace ic := ic.later hb
    replace HB := HB.trans (hb.mono HB.size)
    clear hb
    go_wp2_with (fail)
    refine (K4.out _ _ ia).mono ?_
    rintro e w10 ⟨⟨yt, rfl, it⟩, hb⟩
    unfold vDf
    replace c01 := cell_later hb c01
    replace c02 := cell_later hb c02
    replace c03 := cell_later hb c03
    replace c04 := cell_later hb c04
    replace ca1 := cell_later hb ca1
    replace ca2 := cell_later hb ca2
    replace ca3 := cell_later hb ca3
    replace ca4 := cell_later hb ca4
    replace cb1 := cell_later hb cb1
    replace cb2 := cell_later hb cb2
    replace cb3 := cell_later hb cb3
    replace cb4 := cell_later hb cb4
    replace cc1 := cell_later hb cc1
    replace cc2 := cell_later hb cc2
    replace cc3 := cell_later hb cc3
    replace cc4 := cell_later hb cc4
    replace ia := ia.later hb
    replace ip := ip.later hb
    replace iaa := iaa.later hb
    replace ib := ib.later hb
    replace iq := iq.later hb
    replace ic := ic.later hb
    replace HB := HB.trans (hb.mono HB.size)
    clear hb
    go_upto_region 9 with (fail)
    obtain ⟨Vt, hVt, -, hb, hOt⟩ := boxRW T yt _ it
    rw [hVt]
    obtain ⟨⟨ct1, ct2, ct3, ct4⟩, -, -⟩ := hOt Vt (Below.refl _ _)
    clear hOt hVt
    replace c01 := cell_later hb c01
    replace c02 := cell_later hb c02
    replace c03 := cell_later hb c03
    replace c04 := cell_later hb c04
    replace ca1 := cell_later hb ca1
    replace ca2 := cell_later hb ca2
    replace ca3 := cell_later hb ca3
    replace ca4 := cell_later hb ca4
    replace cb1 := cell_later hb cb1
    replace cb2 := cell_later hb cb2
    replace cb3 := cell_later hb cb3
    replace cb4 := cell_later hb cb4
    replace cc1 := cell_later hb cc1
    replace cc2 := cell_later hb cc2
    replace cc3 := cell_later hb cc3
    replace cc4 := cell_later hb cc4
    replace ia := ia.later hb
    replace ip := ip.later hb
    replace iaa := iaa.later hb
    replace ib := ib.later hb
    replace iq := iq.later hb
    replace ic := ic.later hb
    replace it := it.later hb
    replace HB := HB.trans (hb.mono HB.size)
    clear hb
    go_wp2_with (fail)
    refine (own_any ia fa3).mono ?_
    rintro e w11 ⟨⟨yr, rfl, ir⟩, hb⟩
    unfold vDf
    replace c01 := cell_later hb c01
    replace c02 := cell_later hb c02
    replace c03 := cell_later hb c03
    replace c04 := cell_later hb c04
    replace ca1 := cell_later hb ca1
    replace ca2 := cell_later hb ca2
    replace ca3 := cell_later hb ca3
    replace ca4 := cell_later hb ca4
    replace cb1 := cell_later hb cb1
    replace cb2 := cell_later hb cb2
    replace cb3 := cell_later hb cb3
    replace cb4 := cell_later hb cb4
    replace cc1 := cell_later hb cc1
    replace cc2 := cell_later hb cc2
    replace cc3 := cell_later hb cc3
    replace cc4 := cell_later hb cc4
    replace ct1 := cell_later hb ct1
    replace ct2 := cell_later hb ct2
    replace ct3 := cell_later hb ct3
    replace ct4 := cell_later hb ct4
    replace ia := ia.later hb
    replace ip := ip.later hb
    replace iaa := iaa.later hb
    replace ib := ib.later hb
    replace iq := iq.later hb
    replace ic := ic.later hb
    replace it := it.later hb
    replace HB := HB.trans (hb.mono HB.size)
    clear hb
    go_wp2_with (fail)
    refine (K5.out _ _ ir).mono ?_
    rintro e w12 ⟨⟨ym, rfl, im⟩, hb⟩
    unfold vDf
    replace c01 := cell_later hb c01
    replace c02 := cell_later hb c02
    replace c03 := cell_later hb c03
    replace c04 := cell_later hb c04
    replace ca1 := cell_later hb ca1
    replace ca2 := cell_later hb ca2
    replace ca3 := cell_later hb ca3
    replace ca4 := cell_later hb ca4
    replace cb1 := cell_later hb cb1
    replace cb2 := cell_later hb cb2
    replace cb3 := cell_later hb cb3
    replace cb4 := cell_later hb cb4
    replace cc1 := cell_later hb cc1
    replace cc2 := cell_later hb cc2
    replace cc3 := cell_later hb cc3
    replace cc4 := cell_later hb cc4
    replace ct1 := cell_later hb ct1
    replace ct2 := cell_later hb ct2
    replace ct3 := cell_later hb ct3
    replace ct4 := cell_later hb ct4
    replace ia := ia.later hb
    replace ip := ip.later hb
    replace iaa := iaa.later hb
    replace ib := ib.later hb
    replace iq := iq.later hb
    replace ic := ic.later hb
    replace it := it.later hb
    replace ir := ir.later hb
    replace HB := HB.trans (hb.mono HB.size)
    clear hb
    go_upto_region 10 with (fail)
    obtain ⟨Vm, hVm, -, hb, hOm⟩ := boxDW M ym _ im
    rw [hVm]
    obtain ⟨⟨cm1, cm2, cm3, cm4⟩, -, -⟩ := hOm Vm (Below.refl _ _)
    clear hOm hVm
    replace c01 := cell_later hb c01
    replace c02 := cell_later hb c02
    replace c03 := cell_later hb c03
    replace c04 := cell_later hb c04
    replace ca1 := cell_later hb ca1
    replace ca2 := cell_later hb ca2
    replace ca3 := cell_later hb ca3
    replace ca4 := cell_later hb ca4
    replace cb1 := cell_later hb cb1
    replace cb2 := cell_later hb cb2
    replace cb3 := cell_later hb cb3
    replace cb4 := cell_later hb cb4
    replace cc1 := cell_later hb cc1
    replace cc2 := cell_later hb cc2
    replace cc3 := cell_later hb cc3
    replace cc4 := cell_later hb cc4
    replace ct1 := cell_later hb ct1
    replace ct2 := cell_later hb ct2
    replace ct3 := cell_later hb ct3
    replace ct4 := cell_later hb ct4
    replace ia := ia.later hb
    replace ip := ip.later hb
    replace iaa := iaa.later hb
    replace ib := ib.later hb
    replace iq := iq.later hb
    replace ic := ic.later hb
    replace it := it.later hb
    replace ir := ir.later hb
    replace im := im.later hb
    replace HB := HB.trans (hb.mono HB.size)
    clear hb
    go_wp2_with (fail)
    refine (K6.out _ _ ia).mono ?_
    rintro e w13 ⟨⟨yo, rfl, io⟩, hb⟩
    unfold vDf
    replace c01 := cell_later hb c01
    replace c02 := cell_later hb c02
    replace c03 := cell_later hb c03
    replace c04 := cell_later hb c04
    replace ca1 := cell_later hb ca1
    replace ca2 := cell_later hb ca2
    replace ca3 := cell_later hb ca3
    replace ca4 := cell_later hb ca4
    replace cb1 := cell_later hb cb1
    replace cb2 := cell_later hb cb2
    replace cb3 := cell_later hb cb3
    replace cb4 := cell_later hb cb4
    replace cc1 := cell_later hb cc1
    replace cc2 := cell_later hb cc2
    replace cc3 := cell_later hb cc3
    replace cc4 := cell_later hb cc4
    replace ct1 := cell_later hb ct1
    replace ct2 := cell_later hb ct2
    replace ct3 := cell_later hb ct3
    replace ct4 := cell_later hb ct4
    replace cm1 := cell_later hb cm1
    replace cm2 := cell_later hb cm2
    replace cm3 := cell_later hb cm3
    replace cm4 := cell_later hb cm4
    replace ia := ia.later hb
    replace ip := ip.later hb
    replace iaa := iaa.later hb
    replace ib := ib.later hb
    replace iq := iq.later hb
    replace ic := ic.later hb
    replace it := it.later hb
    replace ir := ir.later hb
    replace im := im.later hb
    replace HB := HB.trans (hb.mono HB.size)
    clear hb
    go_upto_region 11 with (fail)
    obtain ⟨Vo, hVo, -, hb, hOo⟩ := boxRW M yo _ io
    rw [hVo]
    obtain ⟨⟨co1, co2, co3, co4⟩, -, -⟩ := hOo Vo (Below.refl _ _)
    clear hOo hVo
    replace c01 := cell_later hb c01
    replace c02 := cell_later hb c02
    replace c03 := cell_later hb c03
    replace c04 := cell_later hb c04
    replace ca1 := cell_later hb ca1
    replace ca2 := cell_later hb ca2
    replace ca3 := cell_later hb ca3
    replace ca4 := cell_later hb ca4
    replace cb1 := cell_later hb cb1
    replace cb2 := cell_later hb cb2
    replace cb3 := cell_later hb cb3
    replace cb4 := cell_later hb cb4
    replace cc1 := cell_later hb cc1
    replace cc2 := cell_later hb cc2
    replace cc3 := cell_later hb cc3
    replace cc4 := cell_later hb cc4
    replace ct1 := cell_later hb ct1
    replace ct2 := cell_later hb ct2
    replace ct3 := cell_later hb ct3
    replace ct4 := cell_later hb ct4
    replace cm1 := cell_later hb cm1
    replace cm2 := cell_later hb cm2
    replace cm3 := cell_later hb cm3
    replace cm4 := cell_later hb cm4
    replace ia := ia.later hb
    replace ip := ip.later hb
    replace iaa := iaa.later hb
    replace ib := ib.later hb
    replace iq := iq.later hb
    replace ic := ic.later hb
    replace it := it.later hb
    replace ir := ir.later hb
    replace im := im.later hb
    replace io := io.later hb
    replace HB := HB.trans (hb.mono HB.size)
    clear hb
    refine wp_region_grow mixed (by kernel_rfl) [[], [], [(0, 53), (1, 54)], [(2, 55)], [(3, 56)], [(3, 56)], [(4, 57), (5, 58), (3, 56)], [(3, 56), (6, 59)], [(7, 60), (3, 56)], [(8, 61)], [(8, 61)], [(9, 62), (10, 63), (8, 61)], [(8, 61), (11, 64)], [(12, 65), (8, 61)], [(13, 66)], [(14, 67), (13, 66), (13, 66)], [(13, 66)], [(15, 68), (16, 69), (15, 68), (13, 66)], [(17, 70), (13, 66)], [(13, 66), (18, 71)], [(19, 72), (17, 70)], [(20, 73)], [(21, 74), (20, 73), (20, 73)], [(20, 73)], [(22, 75), (23, 76), (22, 75), (20, 73)], [(24, 77), (20, 73)], [(20, 73), (25, 78)], [(26, 79), (24, 77)], [(27, 80)], [(28, 81), (27, 80), (27, 80)], [(27, 80)], [(29, 82), (30, 83), (29, 82), (27, 80)], [(31, 84), (27, 80)], [(27, 80), (32, 85)]] [(0, 53), (1, 54), (2, 55), (3, 56), (4, 57), (5, 58), (6, 59), (7, 60), (8, 61), (9, 62), (10, 63), (11, 64), (12, 65), (13, 66), (14, 67), (15, 68), (16, 69), (17, 70), (18, 71), (19, 72), (20, 73), (21, 74), (22, 75), (23, 76), (24, 77), (25, 78), (26, 79), (27, 80), (28, 81), (29, 82), (30, 83), (31, 84), (32, 85), (33, 86)] rfl rfl [Ex ?eu0, Ex ?eu1, Ex ?eu2, Ex ?eu3, Ex ?eu4, Ex ?eu5, Ex ?eu6, Ex ?eu7, Ex ?eu8, Ex ?eu9, Ex ?eu10, Ex ?eu11, Ex ?eu12, Ex ?eu13, Ex ?eu14, DfP A, Ex ?eu16, Ex (.bool true), Ex ?eu18, Ex ?eu19, Ex ?eu20, Ex ?eu21, DfP T, Ex ?eu23, Ex (.bool true), Ex ?eu25, Ex ?eu26, Ex ?eu27, Ex ?eu28, DfP M, Ex ?eu30, Ex (.bool true), Ex ?eu32, Ex ?eu33] ⟨stays_ex _, stays_ex _, stays_ex _, stays_ex _, stays_ex _, stays_ex _, stays_ex _, stays_ex _, stays_ex _, stays_ex _, stays_ex _, stays_ex _, stays_ex _, stays_ex _, stays_ex _, stays_df _, stays_ex _, stays_ex _, stays_ex _, stays_ex _, stays_ex _, stays_ex _, stays_df _, stays_ex _, stays_ex _, stays_ex _, stays_ex _, stays_ex _, stays_ex _, stays_df _, stays_ex _, stays_ex _, stays_ex _, stays_ex _, trivial⟩ ?usteps ?urest
    case usteps =>
      refine ⟨fun f W hC hh => ?_, fun f W hC hh => ?_, fun f W hC hh => ?_, fun f W hC hh => ?_, fun f W hC hh => ?_, fun f W hC hh => ?_, fun f W hC hh => ?_, fun f W hC hh => ?_, fun f W hC hh => ?_, fun f W hC hh => ?_, fun f W hC hh => ?_, fun f W hC hh => ?_, fun f W hC hh => ?_, fun f W hC hh => ?_, fun f W hC hh => ?_, fun f W hC hh => ?_, fun f W hC hh => ?_, fun f W hC hh => ?_, fun f W hC hh => ?_, fun f W hC hh => ?_, fun f W hC hh => ?_, fun f W hC hh => ?_, fun f W hC hh => ?_, fun f W hC hh => ?_, fun f W hC hh => ?_, fun f W hC hh => ?_, fun f W hC hh => ?_, fun f W hC hh => ?_, fun f W hC hh => ?_, fun f W hC hh => ?_, fun f W hC hh => ?_, fun f W hC hh => ?_, fun f W hC hh => ?_, fun f W hC hh => ?_, trivial⟩
      ·
        refine tab_plain fun K Q hK => ?_
        simp only [puts, foldr_nil]
        go_step
        exact fam_e hK rfl rfl (Below.refl _ _) hC
      ·
        refine tab_plain fun K Q hK => ?_
        simp only [puts, foldr_nil]
        go_step
        exact fam_e hK rfl rfl (Below.refl _ _) hC
      ·
        obtain ⟨h0, h1, -⟩ := hh
        have g0 : f 0 = _ := h0
        have g1 : f 1 = _ := h1
        refine tab_plain fun K Q hK => ?_
        simp only [puts, foldr_cons, foldr_nil, setIfInBounds_toArray, set_cons_succ, set_cons_zero, g0, g1]
        go_step
        exact fam_e hK rfl rfl (Below.refl _ _) hC
      ·
        obtain ⟨h2, -⟩ := hh
        have g2 : f 2 = _ := h2
        refine tab_plain fun K Q hK => ?_
        simp only [puts, foldr_cons, foldr_nil, setIfInBounds_toArray, set_cons_succ, set_cons_zero, g2]
        go_step
        exact fam_e hK rfl rfl (Below.refl _ _) hC
      ·
        obtain ⟨h3, -⟩ := hh
        have g3 : f 3 = _ := h3
        refine tab_yes g3 fun K Q hK => ?_
        simp only [puts, foldr_cons, foldr_nil, setIfInBounds_toArray, set_cons_succ, set_cons_zero, g3]
        go_step
        exact fam_e hK rfl rfl (Below.refl _ _) hC
      ·
        obtain ⟨h3, -⟩ := hh
        have g3 : f 3 = _ := h3
        refine tab_yes g3 fun K Q hK => ?_
        simp only [puts, foldr_cons, foldr_nil, setIfInBounds_toArray, set_cons_succ, set_cons_zero, g3]
        go_step
        exact fam_e hK rfl rfl (Below.refl _ _) hC
      ·
        obtain ⟨h4, h5, h3, -⟩ := hh
        have g4 : f 4 = _ := h4
        have g5 : f 5 = _ := h5
        have g3 : f 3 = _ := h3
        refine tab_yes g3 fun K Q hK => ?_
        simp only [puts, foldr_cons, foldr_nil, setIfInBounds_toArray, set_cons_succ, set_cons_zero, g4, g5, g3]
        go_step
        exact fam_e hK rfl rfl (Below.refl _ _) hC
      ·
        obtain ⟨h3, h6, -⟩ := hh
        have g3 : f 3 = _ := h3
        have g6 : f 6 = _ := h6
        refine tab_plain fun K Q hK => ?_
        simp only [puts, foldr_cons, foldr_nil, setIfInBounds_toArray, set_cons_succ, set_cons_zero, g3, g6]
        go_step
        exact fam_e hK rfl rfl (Below.refl _ _) hC
      ·
        obtain ⟨h7, h3, -⟩ := hh
        have g7 : f 7 = _ := h7
        have g3 : f 3 = _ := h3
        refine tab_plain fun K Q hK => ?_
        simp only [puts, foldr_cons, foldr_nil, setIfInBounds_toArray, set_cons_succ, set_cons_zero, g7, g3]
        go_step
        exact fam_e hK rfl rfl (Below.refl _ _) hC
      ·
        obtain ⟨h8, -⟩ := hh
        have g8 : f 8 = _ := h8
        refine tab_yes g8 fun K Q hK => ?_
        simp only [puts, foldr_cons, foldr_nil, setIfInBounds_toArray, set_cons_succ, set_cons_zero, g8]
        go_step
        exact fam_e hK rfl rfl (Below.refl _ _) hC
      ·
        obtain ⟨h8, -⟩ := hh
        have g8 : f 8 = _ := h8
        refine tab_yes g8 fun K Q hK => ?_
        simp only [puts, foldr_cons, foldr_nil, setIfInBounds_toArray, set_cons_succ, set_cons_zero, g8]
        go_step
        exact fam_e hK rfl rfl (Below.refl _ _) hC
      ·
        obtain ⟨h9, h10, h8, -⟩ := hh
        have g9 : f 9 = _ := h9
        have g10 : f 10 = _ := h10
        have g8 : f 8 = _ := h8
        refine tab_yes g8 fun K Q hK => ?_
        simp only [puts, foldr_cons, foldr_nil, setIfInBounds_toArray, set_cons_succ, set_cons_zero, g9, g10, g8]
        go_step
        exact fam_e hK rfl rfl (Below.refl _ _) hC
      ·
        obtain ⟨h8, h11, -⟩ := hh
        have g8 : f 8 = _ := h8
        have g11 : f 11 = _ := h11
        refine tab_plain fun K Q hK => ?_
        simp only [puts, foldr_cons, foldr_nil, setIfInBounds_toArray, set_cons_succ, set_cons_zero, g8, g11]
        go_step
        exact fam_e hK rfl rfl (Below.refl _ _) hC
      ·
        obtain ⟨h12, h8, -⟩ := hh
        have g12 : f 12 = _ := h12
        have g8 : f 8 = _ := h8
        refine tab_plain fun K Q hK => ?_
        simp only [puts, foldr_cons, foldr_nil, setIfInBounds_toArray, set_cons_succ, set_cons_zero, g12, g8]
        go_step
        exact fam_e hK rfl rfl (Below.refl _ _) hC
      ·
        obtain ⟨h13, -⟩ := hh
        have g13 : f 13 = _ := h13
        refine tab_yes g13 fun K Q hK => ?_
        simp only [puts, foldr_cons, foldr_nil, setIfInBounds_toArray, set_cons_succ, set_cons_zero, g13]
        have ma1 := cell_later hC ca1
        have ma2 := cell_later hC ca2
        have ma3 := cell_later hC ca3
        have ma4 := cell_later hC ca4
        go_step
        exact fam_e hK rfl rfl (Below.refl _ _) hC
      ·
        obtain ⟨h14, h13, _, -⟩ := hh
        have g14 : f 14 = _ := h14
        have g13 : f 13 = _ := h13
        refine tab_yes g13 fun K Q hK => ?_
        simp only [puts, foldr_cons, foldr_nil, setIfInBounds_toArray, set_cons_succ, set_cons_zero, g14, g13]
        go_step
        go_at_call 21
        refine (theirs_any (iaa.later hC) l1).mono ?_
        rintro e w' ⟨⟨hy, rfl, iy⟩, hb⟩
        exact fam_fin hK rfl ⟨hy, rfl, iy⟩ hb (hC.trans (hb.mono hC.size))
      ·
        obtain ⟨h13, -⟩ := hh
        have g13 : f 13 = _ := h13
        refine tab_yes g13 fun K Q hK => ?_
        simp only [puts, foldr_cons, foldr_nil, setIfInBounds_toArray, set_cons_succ, set_cons_zero, g13]
        have mb1 := cell_later hC cb1
        have mb2 := cell_later hC cb2
        have mb3 := cell_later hC cb3
        have mb4 := cell_later hC cb4
        go_step
        exact fam_e hK rfl rfl (Below.refl _ _) hC
      ·
        obtain ⟨h15, h16, _, h13, -⟩ := hh
        obtain ⟨y15, g15, s15⟩ := h15
        have g16 : f 16 = _ := h16
        have g13 : f 13 = _ := h13
        refine tab_yes g13 fun K Q hK => ?_
        simp only [puts, foldr_cons, foldr_nil, setIfInBounds_toArray, set_cons_succ, set_cons_zero, g15, g16, g13]
        go_step
        go_at_call 20
        have hs := refSame_any s15 (ib.later hC)
        rw [E1.out] at hs
        refine hs.mono ?_
        rintro e w' ⟨rfl, hb⟩
        exact fam_fin hK rfl rfl hb (hC.trans (hb.mono hC.size))
      ·
        obtain ⟨h17, h13, -⟩ := hh
        have g17 : f 17 = _ := h17
        have g13 : f 13 = _ := h13
        refine tab_yes g13 fun K Q hK => ?_
        simp only [puts, foldr_cons, foldr_nil, setIfInBounds_toArray, set_cons_succ, set_cons_zero, g17, g13]
        go_step
        exact fam_e hK rfl rfl (Below.refl _ _) hC
      ·
        obtain ⟨h13, h18, -⟩ := hh
        have g13 : f 13 = _ := h13
        have g18 : f 18 = _ := h18
        refine tab_plain fun K Q hK => ?_
        simp only [puts, foldr_cons, foldr_nil, setIfInBounds_toArray, set_cons_succ, set_cons_zero, g13, g18]
        go_step
        exact fam_e hK rfl rfl (Below.refl _ _) hC
      ·
        obtain ⟨h19, h17, -⟩ := hh
        have g19 : f 19 = _ := h19
        have g17 : f 17 = _ := h17
        refine tab_plain fun K Q hK => ?_
        simp only [puts, foldr_cons, foldr_nil, setIfInBounds_toArray, set_cons_succ, set_cons_zero, g19, g17]
        go_step
        exact fam_e hK rfl rfl (Below.refl _ _) hC
      ·
        obtain ⟨h20, -⟩ := hh
        have g20 : f 20 = _ := h20
        refine tab_yes g20 fun K Q hK => ?_
        simp only [puts, foldr_cons, foldr_nil, setIfInBounds_toArray, set_cons_succ, set_cons_zero, g20]
        have mc1 := cell_later hC cc1
        have mc2 := cell_later hC cc2
        have mc3 := cell_later hC cc3
        have mc4 := cell_later hC cc4
        go_step
        exact fam_e hK rfl rfl (Below.refl _ _) hC
      ·
        obtain ⟨h21, h20, _, -⟩ := hh
        have g21 : f 21 = _ := h21
        have g20 : f 20 = _ := h20
        refine tab_yes g20 fun K Q hK => ?_
        simp only [puts, foldr_cons, foldr_nil, setIfInBounds_toArray, set_cons_succ, set_cons_zero, g21, g20]
        go_step
        go_at_call 21
        refine (theirs_any (ic.later hC) l2).mono ?_
        rintro e w' ⟨⟨hy, rfl, iy⟩, hb⟩
        exact fam_fin hK rfl ⟨hy, rfl, iy⟩ hb (hC.trans (hb.mono hC.size))
      ·
        obtain ⟨h20, -⟩ := hh
        have g20 : f 20 = _ := h20
        refine tab_yes g20 fun K Q hK => ?_
        simp only [puts, foldr_cons, foldr_nil, setIfInBounds_toArray, set_cons_succ, set_cons_zero, g20]
        have mt1 := cell_later hC ct1
        have mt2 := cell_later hC ct2
        have mt3 := cell_later hC ct3
        have mt4 := cell_later hC ct4
        go_step
        exact fam_e hK rfl rfl (Below.refl _ _) hC
      ·
        obtain ⟨h22, h23, _, h20, -⟩ := hh
        obtain ⟨y22, g22, s22⟩ := h22
        have g23 : f 23 = _ := h23
        have g20 : f 20 = _ := h20
        refine tab_yes g20 fun K Q hK => ?_
        simp only [puts, foldr_cons, foldr_nil, setIfInBounds_toArray, set_cons_succ, set_cons_zero, g22, g23, g20]
        go_step
        go_at_call 20
        have hs := refSame_any s22 (it.later hC)
        rw [E2.out] at hs
        refine hs.mono ?_
        rintro e w' ⟨rfl, hb⟩
        exact fam_fin hK rfl rfl hb (hC.trans (hb.mono hC.size))
      ·
        obtain ⟨h24, h20, -⟩ := hh
        have g24 : f 24 = _ := h24
        have g20 : f 20 = _ := h20
        refine tab_yes g20 fun K Q hK => ?_
        simp only [puts, foldr_cons, foldr_nil, setIfInBounds_toArray, set_cons_succ, set_cons_zero, g24, g20]
        go_step
        exact fam_e hK rfl rfl (Below.refl _ _) hC
      ·
        obtain ⟨h20, h25, -⟩ := hh
        have g20 : f 20 = _ := h20
        have g25 : f 25 = _ := h25
        refine tab_plain fun K Q hK => ?_
        simp only [puts, foldr_cons, foldr_nil, setIfInBounds_toArray, set_cons_succ, set_cons_zero, g20, g25]
        go_step
        exact fam_e hK rfl rfl (Below.refl _ _) hC
      ·
        obtain ⟨h26, h24, -⟩ := hh
        have g26 : f 26 = _ := h26
        have g24 : f 24 = _ := h24
        refine tab_plain fun K Q hK => ?_
        simp only [puts, foldr_cons, foldr_nil, setIfInBounds_toArray, set_cons_succ, set_cons_zero, g26, g24]
        go_step
        exact fam_e hK rfl rfl (Below.refl _ _) hC
      ·
        obtain ⟨h27, -⟩ := hh
        have g27 : f 27 = _ := h27
        refine tab_yes g27 fun K Q hK => ?_
        simp only [puts, foldr_cons, foldr_nil, setIfInBounds_toArray, set_cons_succ, set_cons_zero, g27]
        have mm1 := cell_later hC cm1
        have mm2 := cell_later hC cm2
        have mm3 := cell_later hC cm3
        have mm4 := cell_later hC cm4
        go_step
        exact fam_e hK rfl rfl (Below.refl _ _) hC
      ·
        obtain ⟨h28, h27, _, -⟩ := hh
        have g28 : f 28 = _ := h28
        have g27 : f 27 = _ := h27
        refine tab_yes g27 fun K Q hK => ?_
        simp only [puts, foldr_cons, foldr_nil, setIfInBounds_toArray, set_cons_succ, set_cons_zero, g28, g27]
        go_step
        go_at_call 21
        refine (theirs_any (im.later hC) l3).mono ?_
        rintro e w' ⟨⟨hy, rfl, iy⟩, hb⟩
        exact fam_fin hK rfl ⟨hy, rfl, iy⟩ hb (hC.trans (hb.mono hC.size))
      ·
        obtain ⟨h27, -⟩ := hh
        have g27 : f 27 = _ := h27
        refine tab_yes g27 fun K Q hK => ?_
        simp only [puts, foldr_cons, foldr_nil, setIfInBounds_toArray, set_cons_succ, set_cons_zero, g27]
        have mo1 := cell_later hC co1
        have mo2 := cell_later hC co2
        have mo3 := cell_later hC co3
        have mo4 := cell_later hC co4
        go_step
        exact fam_e hK rfl rfl (Below.refl _ _) hC
      ·
        obtain ⟨h29, h30, _, h27, -⟩ := hh
        obtain ⟨y29, g29, s29⟩ := h29
        have g30 : f 30 = _ := h30
        have g27 : f 27 = _ := h27
        refine tab_yes g27 fun K Q hK => ?_
        simp only [puts, foldr_cons, foldr_nil, setIfInBounds_toArray, set_cons_succ, set_cons_zero, g29, g30, g27]
        go_step
        go_at_call 20
        have hs := refSame_any s29 (io.later hC)
        rw [E3.out] at hs
        refine hs.mono ?_
        rintro e w' ⟨rfl, hb⟩
        exact fam_fin hK rfl rfl hb (hC.trans (hb.mono hC.size))
      ·
        obtain ⟨h31, h27, -⟩ := hh
        have g31 : f 31 = _ := h31
        have g27 : f 27 = _ := h27
        refine tab_yes g27 fun K Q hK => ?_
        simp only [puts, foldr_cons, foldr_nil, setIfInBounds_toArray, set_cons_succ, set_cons_zero, g31, g27]
        go_step
        exact fam_e hK rfl rfl (Below.refl _ _) hC
      ·
        obtain ⟨h27, h32, -⟩ := hh
        have g27 : f 27 = _ := h27
        have g32 : f 32 = _ := h32
        refine tab_plain fun K Q hK => ?_
        simp only [puts, foldr_cons, foldr_nil, setIfInBounds_toArray, set_cons_succ, set_cons_zero, g27, g32]
        go_step
        exact fam_e hK rfl rfl (Below.refl _ _) hC
    case urest =>
      intro f WR hC hh
      obtain ⟨h0, h1, h2, h3, h4, h5, h6, h7, h8, h9, h10, h11, h12, h13, h14, h15, h16, h17, h18, h19, h20, h21, h22, h23, h24, h25, h26, h27, h28, h29, h30, h31, h32, h33, -⟩ := hh
      have g0 : f 0 = _ := h0
      have g1 : f 1 = _ := h1
      have g2 : f 2 = _ := h2
      have g3 : f 3 = _ := h3
      have g4 : f 4 = _ := h4
      have g5 : f 5 = _ := h5
      have g6 : f 6 = _ := h6
      have g7 : f 7 = _ := h7
      have g8 : f 8 = _ := h8
      have g9 : f 9 = _ := h9
      have g10 : f 10 = _ := h10
      have g11 : f 11 = _ := h11
      have g12 : f 12 = _ := h12
      have g13 : f 13 = _ := h13
      have g14 : f 14 = _ := h14
      obtain ⟨y15, g15, s15⟩ := h15
      have g16 : f 16 = _ := h16
      have g17 : f 17 = _ := h17
      have g18 : f 18 = _ := h18
      have g19 : f 19 = _ := h19
      have g20 : f 20 = _ := h20
      have g21 : f 21 = _ := h21
      obtain ⟨y22, g22, s22⟩ := h22
      have g23 : f 23 = _ := h23
      have g24 : f 24 = _ := h24
      have g25 : f 25 = _ := h25
      have g26 : f 26 = _ := h26
      have g27 : f 27 = _ := h27
      have g28 : f 28 = _ := h28
      obtain ⟨y29, g29, s29⟩ := h29
      have g30 : f 30 = _ := h30
      have g31 : f 31 = _ := h31
      have g32 : f 32 = _ := h32
      have g33 : f 33 = _ := h33
      simp only [puts, foldr_cons, foldr_nil, setIfInBounds_toArray, set_cons_succ, set_cons_zero, g0, g1, g2, g3, g4, g5, g6, g7, g8, g9, g10, g11, g12, g13, g14, g15, g16, g17, g18, g19, g20, g21, g22, g23, g24, g25, g26, g27, g28, g29, g30, g31, g32, g33]
      clear h0 h1 h2 h3 h4 h5 h6 h7 h8 h9 h10 h11 h12 h13 h14 h16 h17 h18 h19 h20 h21 h23 h24 h25 h26 h27 h28 h30 h31 h32 h33 g0 g1 g2 g3 g4 g5 g6 g7 g8 g9 g10 g11 g12 g13 g14 g16 g17 g18 g19 g20 g21 g23 g24 g25 g26 g27 g28 g30 g31 g32 g33
      have hb := hC
      clear hC
      replace c01 := cell_later hb c01
      replace c02 := cell_later hb c02
      replace c03 := cell_later hb c03
      replace c04 := cell_later hb c04
      replace ca1 := cell_later hb ca1
      replace ca2 := cell_later hb ca2
      replace ca3 := cell_later hb ca3
      replace ca4 := cell_later hb ca4
      replace cb1 := cell_later hb cb1
      replace cb2 := cell_later hb cb2
      replace cb3 := cell_later hb cb3
      replace cb4 := cell_later hb cb4
      replace cc1 := cell_later hb cc1
      replace cc2 := cell_later hb cc2
      replace cc3 := cell_later hb cc3
      replace cc4 := cell_later hb cc4
      replace ct1 := cell_later hb ct1
      replace ct2 := cell_later hb ct2
      replace ct3 := cell_later hb ct3
      replace ct4 := cell_later hb ct4
      replace cm1 := cell_later hb cm1
      replace cm2 := cell_later hb cm2
      replace cm3 := cell_later hb cm3
      replace cm4 := cell_later hb cm4
      replace co1 := cell_later hb co1
      replace co2 := cell_later hb co2
      replace co3 := cell_later hb co3
      replace co4 := cell_later hb co4
      replace ia := ia.later hb
      replace ip := ip.later hb
      replace iaa := iaa.later hb
      replace ib := ib.later hb
      replace iq := iq.later hb
      replace ic := ic.later hb
      replace it := it.later hb
      replace ir := ir.later hb
      replace im := im.later hb
      replace io := io.later hb
      replace HB := HB.trans (hb.mono HB.size)
      clear hb
      have x1 := fun W (hd : IsDfa W ya A) => valid_yes V1.out hd
      have x2 := fun W (hd : IsDfa W yc T) => valid_yes V2.out hd
      have x3 := fun W (hd : IsDfa W ym M) => valid_yes V3.out hd
      unfold vDf at x1 x2 x3
      have X1 := Lib.hid x1
      have X2 := Lib.hid x2
      have X3 := Lib.hid x3
      clear x1 x2 x3
      go_wp2_with (fail)
      refine (X1.out _ iaa).mono ?_
      rintro e w14 ⟨rfl, hb⟩
      replace c01 := cell_later hb c01
      replace c02 := cell_later hb c02
      replace c03 := cell_later hb c03
      replace c04 := cell_later hb c04
      replace ca1 := cell_later hb ca1
      replace ca2 := cell_later hb ca2
      replace ca3 := cell_later hb ca3
      replace ca4 := cell_later hb ca4
      replace cb1 := cell_later hb cb1
      replace cb2 := cell_later hb cb2
      replace cb3 := cell_later hb cb3
      replace cb4 := cell_later hb cb4
      replace cc1 := cell_later hb cc1
      replace cc2 := cell_later hb cc2
      replace cc3 := cell_later hb cc3
      replace cc4 := cell_later hb cc4
      replace ct1 := cell_later hb ct1
      replace ct2 := cell_later hb ct2
      replace ct3 := cell_later hb ct3
      replace ct4 := cell_later hb ct4
      replace cm1 := cell_later hb cm1
      replace cm2 := cell_later hb cm2
      replace cm3 := cell_later hb cm3
      replace cm4 := cell_later hb cm4
      replace co1 := cell_later hb co1
      replace co2 := cell_later hb co2
      replace co3 := cell_later hb co3
      replace co4 := cell_later hb co4
      replace ia := ia.later hb
      replace ip := ip.later hb
      replace iaa := iaa.later hb
      replace ib := ib.later hb
      replace iq := iq.later hb
      replace ic := ic.later hb
      replace it := it.later hb
      replace ir := ir.later hb
      replace im := im.later hb
      replace io := io.later hb
      replace HB := HB.trans (hb.mono HB.size)
      clear hb
      go_wp2_with (fail)
      refine (X2.out _ ic).mono ?_
      rintro e w15 ⟨rfl, hb⟩
      replace c01 := cell_later hb c01
      replace c02 := cell_later hb c02
      replace c03 := cell_later hb c03
      replace c04 := cell_later hb c04
      replace ca1 := cell_later hb ca1
      replace ca2 := cell_later hb ca2
      replace ca3 := cell_later hb ca3
      replace ca4 := cell_later hb ca4
      replace cb1 := cell_later hb cb1
      replace cb2 := cell_later hb cb2
      replace cb3 := cell_later hb cb3
      replace cb4 := cell_later hb cb4
      replace cc1 := cell_later hb cc1
      replace cc2 := cell_later hb cc2
      replace cc3 := cell_later hb cc3
      replace cc4 := cell_later hb cc4
      replace ct1 := cell_later hb ct1
      replace ct2 := cell_later hb ct2
      replace ct3 := cell_later hb ct3
      replace ct4 := cell_later hb ct4
      replace cm1 := cell_later hb cm1
      replace cm2 := cell_later hb cm2
      replace cm3 := cell_later hb cm3
      replace cm4 := cell_later hb cm4
      replace co1 := cell_later hb co1
      replace co2 := cell_later hb co2
      replace co3 := cell_later hb co3
      replace co4 := cell_later hb co4
      replace ia := ia.later hb
      replace ip := ip.later hb
      replace iaa := iaa.later hb
      replace ib := ib.later hb
      replace iq := iq.later hb
      replace ic := ic.later hb
      replace it := it.later hb
      replace ir := ir.later hb
      replace im := im.later hb
      replace io := io.later hb
      replace HB := HB.trans (hb.mono HB.size)
      clear hb
      go_wp2_with (fail)
      refine (X3.out _ im).mono ?_
      rintro e w16 ⟨rfl, hb⟩
      replace c01 := cell_later hb c01
      replace c02 := cell_later hb c02
      replace c03 := cell_later hb c03
      replace c04 := cell_later hb c04
      replace ca1 := cell_later hb ca1
      replace ca2 := cell_later hb ca2
      replace ca3 := cell_later hb ca3
      replace ca4 := cell_later hb ca4
      replace cb1 := cell_later hb cb1
      replace cb2 := cell_later hb cb2
      replace cb3 := cell_later hb cb3
      replace cb4 := cell_later hb cb4
      replace cc1 := cell_later hb cc1
      replace cc2 := cell_later hb cc2
      replace cc3 := cell_later hb cc3
      replace cc4 := cell_later hb cc4
      replace ct1 := cell_later hb ct1
      replace ct2 := cell_later hb ct2
      replace ct3 := cell_later hb ct3
      replace ct4 := cell_later hb ct4
      replace cm1 := cell_later hb cm1
      replace cm2 := cell_later hb cm2
      replace cm3 := cell_later hb cm3
      replace cm4 := cell_later hb cm4
      replace co1 := cell_later hb co1
      replace co2 := cell_later hb co2
      replace co3 := cell_later hb co3
      replace co4 := cell_later hb co4
      replace ia := ia.later hb
      replace ip := ip.later hb
      replace iaa := iaa.later hb
      replace ib := ib.later hb
      replace iq := iq.later hb
      replace ic := ic.later hb
      replace it := it.later hb
      replace ir := ir.later hb
      replace im := im.later hb
      replace io := io.later hb
      replace HB := HB.trans (hb.mono HB.size)
      clear hb
      go_wp2_with (fail)
      go_ret
      exact ⟨rfl, HB⟩
  · skip
    have k1 := fun W h' (hd : IsDfa W h' d) => Canonical_any (w := W) (h := h') hd
    have k2 := fun W h' (hd : IsDfa W h' d) => refCanonical_any (w := W) (h := h') hd
    have k3 := fun W h' (hd : IsDfa W h' d) => Trim_any (w := W) (h := h') hd
    have k4 := fun W h' (hd : IsDfa W h' d) => refTrim_any (w := W) (h := h') hd
    have k5 := fun W h' (hd : IsDfa W h' d) => minimize_any (w := W) (h := h') hd
    have k6 := fun W h' (hd : IsDfa W h' d) => refMinimize_any (w := W) (h := h') hd
    unfold orZero orErr at k1 k2 k3 k4 k5 k6
    simp only [if_neg hv] at k1 k2 k3 k4 k5 k6
    have l1 : zeroD.arcs.length ≤ 1000000 := Nat.zero_le _
    obtain ⟨A, hA⟩ : ∃ A, zeroD = A := ⟨_, rfl⟩
    rw [hA] at k1 k2 k3 k4 k5 k6 l1
    clear hA hv
    have K1 := Lib.hid k1
    have K2 := Lib.hid k2
    have K3 := Lib.hid k3
    have K4 := Lib.hid k4
    have K5 := Lib.hid k5
    have K6 := Lib.hid k6
    clear k1 k2 k3 k4 k5 k6
    have E1 : Hid (eqD A A = true) := Lib.hid (eqD_iff.2 rfl)
    have E2 : Hid (eqD A A = true) := Lib.hid (eqD_iff.2 rfl)
    have E3 : Hid (eqD A A = true) := Lib.hid (eqD_iff.2 rfl)
    go_enter Try.func3, Try.ntmps3
    go_wp2_with (fail)
    refine (awake_any _).mono ?_
    rintro e w17 ⟨rfl, hb⟩
    replace c01 := cell_later hb c01
    replace c02 := cell_later hb c02
    replace c03 := cell_later hb c03
    replace c04 := cell_later hb c04
    replace ia := ia.later hb
    replace HB := HB.trans (hb.mono HB.size)
    clear hb
    go_wp2_with (fail)
    refine (few_yes ia fa).mono ?_
    rintro e w18 ⟨rfl, hb⟩
    replace c01 := cell_later hb c01
    replace c02 := cell_later hb c02
    replace c03 := cell_later hb c03
    replace c04 := cell_later hb c04
    replace ia := ia.later hb
    replace HB := HB.trans (hb.mono HB.size)
    clear hb
    go_wp2_with (fail)
    refine (own_any ia fa3).mono ?_
    rintro e w19 ⟨⟨yp, rfl, ip⟩, hb⟩
    unfold vDf
    replace c01 := cell_later hb c01
    replace c02 := cell_later hb c02
    replace c03 := cell_later hb c03
    replace c04 := cell_later hb c04
    replace ia := ia.later hb
    replace HB := HB.trans (hb.mono HB.size)
    clear hb
    go_wp2_with (fail)
    refine (K1.out _ _ ip).mono ?_
    rintro e w20 ⟨⟨ya, rfl, iaa⟩, hb⟩
    unfold vDf
    replace c01 := cell_later hb c01
    replace c02 := cell_later hb c02
    replace c03 := cell_later hb c03
    replace c04 := cell_later hb c04
    replace ia := ia.later hb
    replace ip := ip.later hb
    replace HB := HB.trans (hb.mono HB.size)
    clear hb
    go_upto_region 6 with (fail)
    obtain ⟨Va, hVa, -, hb, hOa⟩ := boxDW A ya _ iaa
    rw [hVa]
    obtain ⟨⟨ca1, ca2, ca3, ca4⟩, -, -⟩ := hOa Va (Below.refl _ _)
    clear hOa hVa
    replace c01 := cell_later hb c01
    replace c02 := cell_later hb c02
    replace c03 := cell_later hb c03
    replace c04 := cell_later hb c04
    replace ia := ia.later hb
    replace ip := ip.later hb
    replace iaa := iaa.later hb
    replace HB := HB.trans (hb.mono HB.size)
    clear hb
    go_wp2_with (fail)
    refine (K2.out _ _ ia).mono ?_
    rintro e w21 ⟨⟨yb, rfl, ib⟩, hb⟩
    unfold vDf
    replace c01 := cell_later hb c01
    replace c02 := cell_later hb c02
    replace c03 := cell_later hb c03
    replace c04 := cell_later hb c04
    replace ca1 := cell_later hb ca1
    replace ca2 := cell_later hb ca2
    replace ca3 := cell_later hb ca3
    replace ca4 := cell_later hb ca4
    replace ia := ia.later hb
    replace ip := ip.later hb
    replace iaa := iaa.later hb
    replace HB := HB.trans (hb.mono HB.size)
    clear hb
    go_upto_region 7 with (fail)
    obtain ⟨Vb, hVb, -, hb, hOb⟩ := boxRW A yb _ ib
    rw [hVb]
    obtain ⟨⟨cb1, cb2, cb3, cb4⟩, -, -⟩ := hOb Vb (Below.refl _ _)
    clear hOb hVb
    replace c01 := cell_later hb c01
    replace c02 := cell_later hb c02
    replace c03 := cell_later hb c03
    replace c04 := cell_later hb c04
    replace ca1 := cell_later hb ca1
    replace ca2 := cell_later hb ca2
    replace ca3 := cell_later hb ca3
    replace ca4 := cell_later hb ca4
    replace ia := ia.later hb
    replace ip := ip.later hb
    replace iaa := iaa.later hb
    replace ib := ib.later hb
    replace HB := HB.trans (hb.mono HB.size)
    clear hb
    go_wp2_with (fail)
    refine (own_any ia fa3).mono ?_
    rintro e w22 ⟨⟨yq, rfl, iq⟩, hb⟩
    unfold vDf
    replace c01 := cell_later hb c01
    replace c02 := cell_later hb c02
    replace c03 := cell_later hb c03
    replace c04 := cell_later hb c04
    replace ca1 := cell_later hb ca1
    replace ca2 := cell_later hb ca2
    replace ca3 := cell_later hb ca3
    replace ca4 := cell_later hb ca4
    replace cb1 := cell_later hb cb1
    replace cb2 := cell_later hb cb2
    replace cb3 := cell_later hb cb3
    replace cb4 := cell_later hb cb4
    replace ia := ia.later hb
    replace ip := ip.later hb
    replace iaa := iaa.later hb
    replace ib := ib.later hb
    replace HB := HB.trans (hb.mono HB.size)
    clear hb
    go_wp2_with (fail)
    refine (K3.out _ _ iq).mono ?_
    rintro e w23 ⟨⟨yc, rfl, ic⟩, hb⟩
    unfold vDf
    replace c01 := cell_later hb c01
    replace c02 := cell_later hb c02
    replace c03 := cell_later hb c03
    replace c04 := cell_later hb c04
    replace ca1 := cell_later hb ca1
    replace ca2 := cell_later hb ca2
    replace ca3 := cell_later hb ca3
    replace ca4 := cell_later hb ca4
    replace cb1 := cell_later hb cb1
    replace cb2 := cell_later hb cb2
    replace cb3 := cell_later hb cb3
    replace cb4 := cell_later hb cb4
    replace ia := ia.later hb
    replace ip := ip.later hb
    replace iaa := iaa.later hb
    replace ib := ib.later hb
    replace iq := iq.later hb
    replace HB := HB.trans (hb.mono HB.size)
    clear hb
    go_upto_region 8 with (fail)
    obtain ⟨Vc, hVc, -, hb, hOc⟩ := boxDW A yc _ ic
    rw [hVc]
    obtain ⟨⟨cc1, cc2, cc3, cc4⟩, -, -⟩ := hOc Vc (Below.refl _ _)
    clear hOc hVc
    replace c01 := cell_later hb c01
    replace c02 := cell_later hb c02
    replace c03 := cell_later hb c03
    replace c04 := cell_later hb c04
    replace ca1 := cell_later hb ca1
    replace ca2 := cell_later hb ca2
    replace ca3 := cell_later hb ca3
    replace ca4 := cell_later hb ca4
    replace cb1 := cell_later hb cb1
    replace cb2 := cell_later hb cb2
    replace cb3 := cell_later hb cb3
    replace cb4 := cell_later hb cb4
    replace ia := ia.later hb
    replace ip := ip.later hb
    replace iaa := iaa.later hb
    replace ib := ib.later hb
    replace iq := iq.later hb
    replace ic := ic.later hb
    replace HB := HB.trans (hb.mono HB.size)
    clear hb
    go_wp2_with (fail)
    refine (K4.out _ _ ia).mono ?_
    rintro e w24 ⟨⟨yt, rfl, it⟩, hb⟩
    unfold vDf
    replace c01 := cell_later hb c01
    replace c02 := cell_later hb c02
    replace c03 := cell_later hb c03
    replace c04 := cell_later hb c04
    replace ca1 := cell_later hb ca1
    replace ca2 := cell_later hb ca2
    replace ca3 := cell_later hb ca3
    replace ca4 := cell_later hb ca4
    replace cb1 := cell_later hb cb1
    replace cb2 := cell_later hb cb2
    replace cb3 := cell_later hb cb3
    replace cb4 := cell_later hb cb4
    replace cc1 := cell_later hb cc1
    replace cc2 := cell_later hb cc2
    replace cc3 := cell_later hb cc3
    replace cc4 := cell_later hb cc4
    replace ia := ia.later hb
    replace ip := ip.later hb
    replace iaa := iaa.later hb
    replace ib := ib.later hb
    replace iq := iq.later hb
    replace ic := ic.later hb
    replace HB := HB.trans (hb.mono HB.size)
    clear hb
    go_upto_region 9 with (fail)
    obtain ⟨Vt, hVt, -, hb, hOt⟩ := boxRW A yt _ it
    rw [hVt]
    obtain ⟨⟨ct1, ct2, ct3, ct4⟩, -, -⟩ := hOt Vt (Below.refl _ _)
    clear hOt hVt
    replace c01 := cell_later hb c01
    replace c02 := cell_later hb c02
    replace c03 := cell_later hb c03
    replace c04 := cell_later hb c04
    replace ca1 := cell_later hb ca1
    replace ca2 := cell_later hb ca2
    replace ca3 := cell_later hb ca3
    replace ca4 := cell_later hb ca4
    replace cb1 := cell_later hb cb1
    replace cb2 := cell_later hb cb2
    replace cb3 := cell_later hb cb3
    replace cb4 := cell_later hb cb4
    replace cc1 := cell_later hb cc1
    replace cc2 := cell_later hb cc2
    replace cc3 := cell_later hb cc3
    replace cc4 := cell_later hb cc4
    replace ia := ia.later hb
    replace ip := ip.later hb
    replace iaa := iaa.later hb
    replace ib := ib.later hb
    replace iq := iq.later hb
    replace ic := ic.later hb
    replace it := it.later hb
    replace HB := HB.trans (hb.mono HB.size)
    clear hb
    go_wp2_with (fail)
    refine (own_any ia fa3).mono ?_
    rintro e w25 ⟨⟨yr, rfl, ir⟩, hb⟩
    unfold vDf
    replace c01 := cell_later hb c01
    replace c02 := cell_later hb c02
    replace c03 := cell_later hb c03
    replace c04 := cell_later hb c04
    replace ca1 := cell_later hb ca1
    replace ca2 := cell_later hb ca2
    replace ca3 := cell_later hb ca3
    replace ca4 := cell_later hb ca4
    replace cb1 := cell_later hb cb1
    replace cb2 := cell_later hb cb2
    replace cb3 := cell_later hb cb3
    replace cb4 := cell_later hb cb4
    replace cc1 := cell_later hb cc1
    replace cc2 := cell_later hb cc2
    replace cc3 := cell_later hb cc3
    replace cc4 := cell_later hb cc4
    replace ct1 := cell_later hb ct1
    replace ct2 := cell_later hb ct2
    replace ct3 := cell_later hb ct3
    replace ct4 := cell_later hb ct4
    replace ia := ia.later hb
    replace ip := ip.later hb
    replace iaa := iaa.later hb
    replace ib := ib.later hb
    replace iq := iq.later hb
    replace ic := ic.later hb
    replace it := it.later hb
    replace HB := HB.trans (hb.mono HB.size)
    clear hb
    go_wp2_with (fail)
    refine (K5.out _ _ ir).mono ?_
    rintro e w26 ⟨⟨ym, rfl, im⟩, hb⟩
    unfold vDf
    replace c01 := cell_later hb c01
    replace c02 := cell_later hb c02
    replace c03 := cell_later hb c03
    replace c04 := cell_later hb c04
    replace ca1 := cell_later hb ca1
    replace ca2 := cell_later hb ca2
    replace ca3 := cell_later hb ca3
    replace ca4 := cell_later hb ca4
    replace cb1 := cell_later hb cb1
    replace cb2 := cell_later hb cb2
    replace cb3 := cell_later hb cb3
    replace cb4 := cell_later hb cb4
    replace cc1 := cell_later hb cc1
    replace cc2 := cell_later hb cc2
    replace cc3 := cell_later hb cc3
    replace cc4 := cell_later hb cc4
    replace ct1 := cell_later hb ct1
    replace ct2 := cell_later hb ct2
    replace ct3 := cell_later hb ct3
    replace ct4 := cell_later hb ct4
    replace ia := ia.later hb
    replace ip := ip.later hb
    replace iaa := iaa.later hb
    replace ib := ib.later hb
    replace iq := iq.later hb
    replace ic := ic.later hb
    replace it := it.later hb
    replace ir := ir.later hb
    replace HB := HB.trans (hb.mono HB.size)
    clear hb
    go_upto_region 10 with (fail)
    obtain ⟨Vm, hVm, -, hb, hOm⟩ := boxDW A ym _ im
    rw [hVm]
    obtain ⟨⟨cm1, cm2, cm3, cm4⟩, -, -⟩ := hOm Vm (Below.refl _ _)
    clear hOm hVm
    replace c01 := cell_later hb c01
    replace c02 := cell_later hb c02
    replace c03 := cell_later hb c03
    replace c04 := cell_later hb c04
    replace ca1 := cell_later hb ca1
    replace ca2 := cell_later hb ca2
    replace ca3 := cell_later hb ca3
    replace ca4 := cell_later hb ca4
    replace cb1 := cell_later hb cb1
    replace cb2 := cell_later hb cb2
    replace cb3 := cell_later hb cb3
    replace cb4 := cell_later hb cb4
    replace cc1 := cell_later hb cc1
    replace cc2 := cell_later hb cc2
    replace cc3 := cell_later hb cc3
    replace cc4 := cell_later hb cc4
    replace ct1 := cell_later hb ct1
    replace ct2 := cell_later hb ct2
    replace ct3 := cell_later hb ct3
    replace ct4 := cell_later hb ct4
    replace ia := ia.later hb
    replace ip := ip.later hb
    replace iaa := iaa.later hb
    replace ib := ib.later hb
    replace iq := iq.later hb
    replace ic := ic.later hb
    replace it := it.later hb
    replace ir := ir.later hb
    replace im := im.later hb
    replace HB := HB.trans (hb.mono HB.size)
    clear hb
    go_wp2_with (fail)
    refine (K6.out _ _ ia).mono ?_
    rintro e w27 ⟨⟨yo, rfl, io⟩, hb⟩
    unfold vDf
    replace c01 := cell_later hb c01
    replace c02 := cell_later hb c02
    replace c03 := cell_later hb c03
    replace c04 := cell_later hb c04
    replace ca1 := cell_later hb ca1
    replace ca2 := cell_later hb ca2
    replace ca3 := cell_later hb ca3
    replace ca4 := cell_later hb ca4
    replace cb1 := cell_later hb cb1
    replace cb2 := cell_later hb cb2
    replace cb3 := cell_later hb cb3
    replace cb4 := cell_later hb cb4
    replace cc1 := cell_later hb cc1
    replace cc2 := cell_later hb cc2
    replace cc3 := cell_later hb cc3
    replace cc4 := cell_later hb cc4
    replace ct1 := cell_later hb ct1
    replace ct2 := cell_later hb ct2
    replace ct3 := cell_later hb ct3
    replace ct4 := cell_later hb ct4
    replace cm1 := cell_later hb cm1
    replace cm2 := cell_later hb cm2
    replace cm3 := cell_later hb cm3
    replace cm4 := cell_later hb cm4
    replace ia := ia.later hb
    replace ip := ip.later hb
    replace iaa := iaa.later hb
    replace ib := ib.later hb
    replace iq := iq.later hb
    replace ic := ic.later hb
    replace it := it.later hb
    replace ir := ir.later hb
    replace im := im.later hb
    replace HB := HB.trans (hb.mono HB.size)
    clear hb
    go_upto_region 11 with (fail)
    obtain ⟨Vo, hVo, -, hb, hOo⟩ := boxRW A yo _ io
    rw [hVo]
    obtain ⟨⟨co1, co2, co3, co4⟩, -, -⟩ := hOo Vo (Below.refl _ _)
    clear hOo hVo
    replace c01 := cell_later hb c01
    replace c02 := cell_later hb c02
    replace c03 := cell_later hb c03
    replace c04 := cell_later hb c04
    replace ca1 := cell_later hb ca1
    replace ca2 := cell_later hb ca2
    replace ca3 := cell_later hb ca3
    replace ca4 := cell_later hb ca4
    replace cb1 := cell_later hb cb1
    replace cb2 := cell_later hb cb2
    replace cb3 := cell_later hb cb3
    replace cb4 := cell_later hb cb4
    replace cc1 := cell_later hb cc1
    replace cc2 := cell_later hb cc2
    replace cc3 := cell_later hb cc3
    replace cc4 := cell_later hb cc4
    replace ct1 := cell_later hb ct1
    replace ct2 := cell_later hb ct2
    replace ct3 := cell_later hb ct3
    replace ct4 := cell_later hb ct4
    replace cm1 := cell_later hb cm1
    replace cm2 := cell_later hb cm2
    replace cm3 := cell_later hb cm3
    replace cm4 := cell_later hb cm4
    replace ia := ia.later hb
    replace ip := ip.later hb
    replace iaa := iaa.later hb
    replace ib := ib.later hb
    replace iq := iq.later hb
    replace ic := ic.later hb
    replace it := it.later hb
    replace ir := ir.later hb
    replace im := im.later hb
    replace io := io.later hb
    replace HB := HB.trans (hb.mono HB.size)
    clear hb
    refine wp_region_grow mixed (by kernel_rfl) [[], [], [(0, 53), (1, 54)], [(2, 55)], [(3, 56)], [(3, 56)], [(4, 57), (5, 58), (3, 56)], [(3, 56), (6, 59)], [(7, 60), (3, 56)], [(8, 61)], [(8, 61)], [(9, 62), (10, 63), (8, 61)], [(8, 61), (11, 64)], [(12, 65), (8, 61)], [(13, 66)], [(14, 67), (13, 66), (13, 66)], [(13, 66)], [(15, 68), (16, 69), (15, 68), (13, 66)], [(17, 70), (13, 66)], [(13, 66), (18, 71)], [(19, 72), (17, 70)], [(20, 73)], [(21, 74), (20, 73), (20, 73)], [(20, 73)], [(22, 75), (23, 76), (22, 75), (20, 73)], [(24, 77), (20, 73)], [(20, 73), (25, 78)], [(26, 79), (24, 77)], [(27, 80)], [(28, 81), (27, 80), (27, 80)], [(27, 80)], [(29, 82), (30, 83), (29, 82), (27, 80)], [(31, 84), (27, 80)], [(27, 80), (32, 85)]] [(0, 53), (1, 54), (2, 55), (3, 56), (4, 57), (5, 58), (6, 59), (7, 60), (8, 61), (9, 62), (10, 63), (11, 64), (12, 65), (13, 66), (14, 67), (15, 68), (16, 69), (17, 70), (18, 71), (19, 72), (20, 73), (21, 74), (22, 75), (23, 76), (24, 77), (25, 78), (26, 79), (27, 80), (28, 81), (29, 82), (30, 83), (31, 84), (32, 85), (33, 86)] rfl rfl [Ex ?ev0, Ex ?ev1, Ex ?ev2, Ex ?ev3, Ex ?ev4, Ex ?ev5, Ex ?ev6, Ex ?ev7, Ex ?ev8, Ex ?ev9, Ex ?ev10, Ex ?ev11, Ex ?ev12, Ex ?ev13, Ex ?ev14, DfP A, Ex ?ev16, Ex (.bool true), Ex ?ev18, Ex ?ev19, Ex ?ev20, Ex ?ev21, DfP A, Ex ?ev23, Ex (.bool true), Ex ?ev25, Ex ?ev26, Ex ?ev27, Ex ?ev28, DfP A, Ex ?ev30, Ex (.bool true), Ex ?ev32, Ex ?ev33] ⟨stays_ex _, stays_ex _, stays_ex _, stays_ex _, stays_ex _, stays_ex _, stays_ex _, stays_ex _, stays_ex _, stays_ex _, stays_ex _, stays_ex _, stays_ex _, stays_ex _, stays_ex _, stays_df _, stays_ex _, stays_ex _, stays_ex _, stays_ex _, stays_ex _, stays_ex _, stays_df _, stays_ex _, stays_ex _, stays_ex _, stays_ex _, stays_ex _, stays_ex _, stays_df _, stays_ex _, stays_ex _, stays_ex _, stays_ex _, trivial⟩ ?vsteps ?vrest
    case vsteps =>
      refine ⟨fun f W hC hh => ?_, fun f W hC hh => ?_, fun f W hC hh => ?_, fun f W hC hh => ?_, fun f W hC hh => ?_, fun f W hC hh => ?_, fun f W hC hh => ?_, fun f W hC hh => ?_, fun f W hC hh => ?_, fun f W hC hh => ?_, fun f W hC hh => ?_, fun f W hC hh => ?_, fun f W hC hh => ?_, fun f W hC hh => ?_, fun f W hC hh => ?_, fun f W hC hh => ?_, fun f W hC hh => ?_, fun f W hC hh => ?_, fun f W hC hh => ?_, fun f W hC hh => ?_, fun f W hC hh => ?_, fun f W hC hh => ?_, fun f W hC hh => ?_, fun f W hC hh => ?_, fun f W hC hh => ?_, fun f W hC hh => ?_, fun f W hC hh => ?_, fun f W hC hh => ?_, fun f W hC hh => ?_, fun f W hC hh => ?_, fun f W hC hh => ?_, fun f W hC hh => ?_, fun f W hC hh => ?_, fun f W hC hh => ?_, trivial⟩
      ·
        refine tab_plain fun K Q hK => ?_
        simp only [puts, foldr_nil]
        go_step
        exact fam_e hK rfl rfl (Below.refl _ _) hC
      ·
        refine tab_plain fun K Q hK => ?_
        simp only [puts, foldr_nil]
        go_step
        exact fam_e hK rfl rfl (Below.refl _ _) hC
      ·
        obtain ⟨h0, h1, -⟩ := hh
        have g0 : f 0 = _ := h0
        have g1 : f 1 = _ := h1
        refine tab_plain fun K Q hK => ?_
        simp only [puts, foldr_cons, foldr_nil, setIfInBounds_toArray, set_cons_succ, set_cons_zero, g0, g1]
        go_step
        exact fam_e hK rfl rfl (Below.refl _ _) hC
      ·
        obtain ⟨h2, -⟩ := hh
        have g2 : f 2 = _ := h2
        refine tab_plain fun K Q hK => ?_
        simp only [puts, foldr_cons, foldr_nil, setIfInBounds_toArray, set_cons_succ, set_cons_zero, g2]
        go_step
        exact fam_e hK rfl rfl (Below.refl _ _) hC
      ·
        obtain ⟨h3, -⟩ := hh
        have g3 : f 3 = _ := h3
        refine tab_yes g3 fun K Q hK => ?_
        simp only [puts, foldr_cons, foldr_nil, setIfInBounds_toArray, set_cons_succ, set_cons_zero, g3]
        go_step
        exact fam_e hK rfl rfl (Below.refl _ _) hC
      ·
        obtain ⟨h3, -⟩ := hh
        have g3 : f 3 = _ := h3
        refine tab_yes g3 fun K Q hK => ?_
        simp only [puts, foldr_cons, foldr_nil, setIfInBounds_toArray, set_cons_succ, set_cons_zero, g3]
        go_step
        exact fam_e hK rfl rfl (Below.refl _ _) hC
      ·
        obtain ⟨h4, h5, h3, -⟩ := hh
        have g4 : f 4 = _ := h4
        have g5 : f 5 = _ := h5
        have g3 : f 3 = _ := h3
        refine tab_yes g3 fun K Q hK => ?_
        simp only [puts, foldr_cons, foldr_nil, setIfInBounds_toArray, set_cons_succ, set_cons_zero, g4, g5, g3]
        go_step
        exact fam_e hK rfl rfl (Below.refl _ _) hC
      ·
        obtain ⟨h3, h6, -⟩ := hh
        have g3 : f 3 = _ := h3
        have g6 : f 6 = _ := h6
        refine tab_plain fun K Q hK => ?_
        simp only [puts, foldr_cons, foldr_nil, setIfInBounds_toArray, set_cons_succ, set_cons_zero, g3, g6]
        go_step
        exact fam_e hK rfl rfl (Below.refl _ _) hC
      ·
        obtain ⟨h7, h3, -⟩ := hh
        have g7 : f 7 = _ := h7
        have g3 : f 3 = _ := h3
        refine tab_plain fun K Q hK => ?_
        simp only [puts, foldr_cons, foldr_nil, setIfInBounds_toArray, set_cons_succ, set_cons_zero, g7, g3]
        go_step
        exact fam_e hK rfl rfl (Below.refl _ _) hC
      ·
        obtain ⟨h8, -⟩ := hh
        have g8 : f 8 = _ := h8
        refine tab_yes g8 fun K Q hK => ?_
        simp only [puts, foldr_cons, foldr_nil, setIfInBounds_toArray, set_cons_succ, set_cons_zero, g8]
        go_step
        exact fam_e hK rfl rfl (Below.refl _ _) hC
      ·
        obtain ⟨h8, -⟩ := hh
        have g8 : f 8 = _ := h8
        refine tab_yes g8 fun K Q hK => ?_
        simp only [puts, foldr_cons, foldr_nil, setIfInBounds_toArray, set_cons_succ, set_cons_zero, g8]
        go_step
        exact fam_e hK rfl rfl (Below.refl _ _) hC
      ·
        obtain ⟨h9, h10, h8, -⟩ := hh
        have g9 : f 9 = _ := h9
        have g10 : f 10 = _ := h10
        have g8 : f 8 = _ := h8
        refine tab_yes g8 fun K Q hK => ?_
        simp only [puts, foldr_cons, foldr_nil, setIfInBounds_toArray, set_cons_succ, set_cons_zero, g9, g10, g8]
        go_step
        exact fam_e hK rfl rfl (Below.refl _ _) hC
      ·
        obtain ⟨h8, h11, -⟩ := hh
        have g8 : f 8 = _ := h8
        have g11 : f 11 = _ := h11
        refine tab_plain fun K Q hK => ?_
        simp only [puts, foldr_cons, foldr_nil, setIfInBounds_toArray, set_cons_succ, set_cons_zero, g8, g11]
        go_step
        exact fam_e hK rfl rfl (Below.refl _ _) hC
      ·
        obtain ⟨h12, h8, -⟩ := hh
        have g12 : f 12 = _ := h12
        have g8 : f 8 = _ := h8
        refine tab_plain fun K Q hK => ?_
        simp only [puts, foldr_cons, foldr_nil, setIfInBounds_toArray, set_cons_succ, set_cons_zero, g12, g8]
        go_step
        exact fam_e hK rfl rfl (Below.refl _ _) hC
      ·
        obtain ⟨h13, -⟩ := hh
        have g13 : f 13 = _ := h13
        refine tab_yes g13 fun K Q hK => ?_
        simp only [puts, foldr_cons, foldr_nil, setIfInBounds_toArray, set_cons_succ, set_cons_zero, g13]
        have ma1 := cell_later hC ca1
        have ma2 := cell_later hC ca2
        have ma3 := cell_later hC ca3
        have ma4 := cell_later hC ca4
        go_step
        exact fam_e hK rfl rfl (Below.refl _ _) hC
      ·
        obtain ⟨h14, h13, _, -⟩ := hh
        have g14 : f 14 = _ := h14
        have g13 : f 13 = _ := h13
        refine tab_yes g13 fun K Q hK => ?_
        simp only [puts, foldr_cons, foldr_nil, setIfInBounds_toArray, set_cons_succ, set_cons_zero, g14, g13]
        go_step
        go_at_call 21
        refine (theirs_any (iaa.later hC) l1).mono ?_
        rintro e w' ⟨⟨hy, rfl, iy⟩, hb⟩
        exact fam_fin hK rfl ⟨hy, rfl, iy⟩ hb (hC.trans (hb.mono hC.size))
      ·
        obtain ⟨h13, -⟩ := hh
        have g13 : f 13 = _ := h13
        refine tab_yes g13 fun K Q hK => ?_
        simp only [puts, foldr_cons, foldr_nil, setIfInBounds_toArray, set_cons_succ, set_cons_zero, g13]
        have mb1 := cell_later hC cb1
        have mb2 := cell_later hC cb2
        have mb3 := cell_later hC cb3
        have mb4 := cell_later hC cb4
        go_step
        exact fam_e hK rfl rfl (Below.refl _ _) hC
      ·
        obtain ⟨h15, h16, _, h13, -⟩ := hh
        obtain ⟨y15, g15, s15⟩ := h15
        have g16 : f 16 = _ := h16
        have g13 : f 13 = _ := h13
        refine tab_yes g13 fun K Q hK => ?_
        simp only [puts, foldr_cons, foldr_nil, setIfInBounds_toArray, set_cons_succ, set_cons_zero, g15, g16, g13]
        go_step
        go_at_call 20
        have hs := refSame_any s15 (ib.later hC)
        rw [E1.out] at hs
        refine hs.mono ?_
        rintro e w' ⟨rfl, hb⟩
        exact fam_fin hK rfl rfl hb (hC.trans (hb.mono hC.size))
      ·
        obtain ⟨h17, h13, -⟩ := hh
        have g17 : f 17 = _ := h17
        have g13 : f 13 = _ := h13
        refine tab_yes g13 fun K Q hK => ?_
        simp only [puts, foldr_cons, foldr_nil, setIfInBounds_toArray, set_cons_succ, set_cons_zero, g17, g13]
        go_step
        exact fam_e hK rfl rfl (Below.refl _ _) hC
      ·
        obtain ⟨h13, h18, -⟩ := hh
        have g13 : f 13 = _ := h13
        have g18 : f 18 = _ := h18
        refine tab_plain fun K Q hK => ?_
        simp only [puts, foldr_cons, foldr_nil, setIfInBounds_toArray, set_cons_succ, set_cons_zero, g13, g18]
        go_step
        exact fam_e hK rfl rfl (Below.refl _ _) hC
      ·
        obtain ⟨h19, h17, -⟩ := hh
        have g19 : f 19 = _ := h19
        have g17 : f 17 = _ := h17
        refine tab_plain fun K Q hK => ?_
        simp only [puts, foldr_cons, foldr_nil, setIfInBounds_toArray, set_cons_succ, set_cons_zero, g19, g17]
        go_step
        exact fam_e hK rfl rfl (Below.refl _ _) hC
      ·
        obtain ⟨h20, -⟩ := hh
        have g20 : f 20 = _ := h20
        refine tab_yes g20 fun K Q hK => ?_
        simp only [puts, foldr_cons, foldr_nil, setIfInBounds_toArray, set_cons_succ, set_cons_zero, g20]
        have mc1 := cell_later hC cc1
        have mc2 := cell_later hC cc2
        have mc3 := cell_later hC cc3
        have mc4 := cell_later hC cc4
        go_step
        exact fam_e hK rfl rfl (Below.refl _ _) hC
      ·
        obtain ⟨h21, h20, _, -⟩ := hh
        have g21 : f 21 = _ := h21
        have g20 : f 20 = _ := h20
        refine tab_yes g20 fun K Q hK => ?_
        simp only [puts, foldr_cons, foldr_nil, setIfInBounds_toArray, set_cons_succ, set_cons_zero, g21, g20]
        go_step
        go_at_call 21
        refine (theirs_any (ic.later hC) l1).mono ?_
        rintro e w' ⟨⟨hy, rfl, iy⟩, hb⟩
        exact fam_fin hK rfl ⟨hy, rfl, iy⟩ hb (hC.trans (hb.mono hC.size))
      ·
        obtain ⟨h20, -⟩ := hh
        have g20 : f 20 = _ := h20
        refine tab_yes g20 fun K Q hK => ?_
        simp only [puts, foldr_cons, foldr_nil, setIfInBounds_toArray, set_cons_succ, set_cons_zero, g20]
        have mt1 := cell_later hC ct1
        have mt2 := cell_later hC ct2
        have mt3 := cell_later hC ct3
        have mt4 := cell_later hC ct4
        go_step
        exact fam_e hK rfl rfl (Below.refl _ _) hC
      ·
        obtain ⟨h22, h23, _, h20, -⟩ := hh
        obtain ⟨y22, g22, s22⟩ := h22
        have g23 : f 23 = _ := h23
        have g20 : f 20 = _ := h20
        refine tab_yes g20 fun K Q hK => ?_
        simp only [puts, foldr_cons, foldr_nil, setIfInBounds_toArray, set_cons_succ, set_cons_zero, g22, g23, g20]
        go_step
        go_at_call 20
        have hs := refSame_any s22 (it.later hC)
        rw [E2.out] at hs
        refine hs.mono ?_
        rintro e w' ⟨rfl, hb⟩
        exact fam_fin hK rfl rfl hb (hC.trans (hb.mono hC.size))
      ·
        obtain ⟨h24, h20, -⟩ := hh
        have g24 : f 24 = _ := h24
        have g20 : f 20 = _ := h20
        refine tab_yes g20 fun K Q hK => ?_
        simp only [puts, foldr_cons, foldr_nil, setIfInBounds_toArray, set_cons_succ, set_cons_zero, g24, g20]
        go_step
        exact fam_e hK rfl rfl (Below.refl _ _) hC
      ·
        obtain ⟨h20, h25, -⟩ := hh
        have g20 : f 20 = _ := h20
        have g25 : f 25 = _ := h25
        refine tab_plain fun K Q hK => ?_
        simp only [puts, foldr_cons, foldr_nil, setIfInBounds_toArray, set_cons_succ, set_cons_zero, g20, g25]
        go_step
        exact fam_e hK rfl rfl (Below.refl _ _) hC
      ·
        obtain ⟨h26, h24, -⟩ := hh
        have g26 : f 26 = _ := h26
        have g24 : f 24 = _ := h24
        refine tab_plain fun K Q hK => ?_
        simp only [puts, foldr_cons, foldr_nil, setIfInBounds_toArray, set_cons_succ, set_cons_zero, g26, g24]
        go_step
        exact fam_e hK rfl rfl (Below.refl _ _) hC
      ·
        obtain ⟨h27, -⟩ := hh
        have g27 : f 27 = _ := h27
        refine tab_yes g27 fun K Q hK => ?_
        simp only [puts, foldr_cons, foldr_nil, setIfInBounds_toArray, set_cons_succ, set_cons_zero, g27]
        have mm1 := cell_later hC cm1
        have mm2 := cell_later hC cm2
        have mm3 := cell_later hC cm3
        have mm4 := cell_later hC cm4
        go_step
        exact fam_e hK rfl rfl (Below.refl _ _) hC
      ·
        obtain ⟨h28, h27, _, -⟩ := hh
        have g28 : f 28 = _ := h28
        have g27 : f 27 = _ := h27
        refine tab_yes g27 fun K Q hK => ?_
        simp only [puts, foldr_cons, foldr_nil, setIfInBounds_toArray, set_cons_succ, set_cons_zero, g28, g27]
        go_step
        go_at_call 21
        refine (theirs_any (im.later hC) l1).mono ?_
        rintro e w' ⟨⟨hy, rfl, iy⟩, hb⟩
        exact fam_fin hK rfl ⟨hy, rfl, iy⟩ hb (hC.trans (hb.mono hC.size))
      ·
        obtain ⟨h27, -⟩ := hh
        have g27 : f 27 = _ := h27
        refine tab_yes g27 fun K Q hK => ?_
        simp only [puts, foldr_cons, foldr_nil, setIfInBounds_toArray, set_cons_succ, set_cons_zero, g27]
        have mo1 := cell_later hC co1
        have mo2 := cell_later hC co2
        have mo3 := cell_later hC co3
        have mo4 := cell_later hC co4
        go_step
        exact fam_e hK rfl rfl (Below.refl _ _) hC
      ·
        obtain ⟨h29, h30, _, h27, -⟩ := hh
        obtain ⟨y29, g29, s29⟩ := h29
        have g30 : f 30 = _ := h30
        have g27 : f 27 = _ := h27
        refine tab_yes g27 fun K Q hK => ?_
        simp only [puts, foldr_cons, foldr_nil, setIfInBounds_toArray, set_cons_succ, set_cons_zero, g29, g30, g27]
        go_step
        go_at_call 20
        have hs := refSame_any s29 (io.later hC)
        rw [E3.out] at hs
        refine hs.mono ?_
        rintro e w' ⟨rfl, hb⟩
        exact fam_fin hK rfl rfl hb (hC.trans (hb.mono hC.size))
      ·
        obtain ⟨h31, h27, -⟩ := hh
        have g31 : f 31 = _ := h31
        have g27 : f 27 = _ := h27
        refine tab_yes g27 fun K Q hK => ?_
        simp only [puts, foldr_cons, foldr_nil, setIfInBounds_toArray, set_cons_succ, set_cons_zero, g31, g27]
        go_step
        exact fam_e hK rfl rfl (Below.refl _ _) hC
      ·
        obtain ⟨h27, h32, -⟩ := hh
        have g27 : f 27 = _ := h27
        have g32 : f 32 = _ := h32
        refine tab_plain fun K Q hK => ?_
        simp only [puts, foldr_cons, foldr_nil, setIfInBounds_toArray, set_cons_succ, set_cons_zero, g27, g32]
        go_step
        exact fam_e hK rfl rfl (Below.refl _ _) hC
    case vrest =>
      intro f WR hC hh
      obtain ⟨h0, h1, h2, h3, h4, h5, h6, h7, h8, h9, h10, h11, h12, h13, h14, h15, h16, h17, h18, h19, h20, h21, h22, h23, h24, h25, h26, h27, h28, h29, h30, h31, h32, h33, -⟩ := hh
      have g0 : f 0 = _ := h0
      have g1 : f 1 = _ := h1
      have g2 : f 2 = _ := h2
      have g3 : f 3 = _ := h3
      have g4 : f 4 = _ := h4
      have g5 : f 5 = _ := h5
      have g6 : f 6 = _ := h6
      have g7 : f 7 = _ := h7
      have g8 : f 8 = _ := h8
      have g9 : f 9 = _ := h9
      have g10 : f 10 = _ := h10
      have g11 : f 11 = _ := h11
      have g12 : f 12 = _ := h12
      have g13 : f 13 = _ := h13
      have g14 : f 14 = _ := h14
      obtain ⟨y15, g15, s15⟩ := h15
      have g16 : f 16 = _ := h16
      have g17 : f 17 = _ := h17
      have g18 : f 18 = _ := h18
      have g19 : f 19 = _ := h19
      have g20 : f 20 = _ := h20
      have g21 : f 21 = _ := h21
      obtain ⟨y22, g22, s22⟩ := h22
      have g23 : f 23 = _ := h23
      have g24 : f 24 = _ := h24
      have g25 : f 25 = _ := h25
      have g26 : f 26 = _ := h26
      have g27 : f 27 = _ := h27
      have g28 : f 28 = _ := h28
      obtain ⟨y29, g29, s29⟩ := h29
      have g30 : f 30 = _ := h30
      have g31 : f 31 = _ := h31
      have g32 : f 32 = _ := h32
      have g33 : f 33 = _ := h33
      simp only [puts, foldr_cons, foldr_nil, setIfInBounds_toArray, set_cons_succ, set_cons_zero, g0, g1, g2, g3, g4, g5, g6, g7, g8, g9, g10, g11, g12, g13, g14, g15, g16, g17, g18, g19, g20, g21, g22, g23, g24, g25, g26, g27, g28, g29, g30, g31, g32, g33]
      clear h0 h1 h2 h3 h4 h5 h6 h7 h8 h9 h10 h11 h12 h13 h14 h16 h17 h18 h19 h20 h21 h23 h24 h25 h26 h27 h28 h30 h31 h32 h33 g0 g1 g2 g3 g4 g5 g6 g7 g8 g9 g10 g11 g12 g13 g14 g16 g17 g18 g19 g20 g21 g23 g24 g25 g26 g27 g28 g30 g31 g32 g33
      have hb := hC
      clear hC
      replace c01 := cell_later hb c01
      replace c02 := cell_later hb c02
      replace c03 := cell_later hb c03
      replace c04 := cell_later hb c04
      replace ca1 := cell_later hb ca1
      replace ca2 := cell_later hb ca2
      replace ca3 := cell_later hb ca3
      replace ca4 := cell_later hb ca4
      replace cb1 := cell_later hb cb1
      replace cb2 := cell_later hb cb2
      replace cb3 := cell_later hb cb3
      replace cb4 := cell_later hb cb4
      replace cc1 := cell_later hb cc1
      replace cc2 := cell_later hb cc2
      replace cc3 := cell_later hb cc3
      replace cc4 := cell_later hb cc4
      replace ct1 := cell_later hb ct1
      replace ct2 := cell_later hb ct2
      replace ct3 := cell_later hb ct3
      replace ct4 := cell_later hb ct4
      replace cm1 := cell_later hb cm1
      replace cm2 := cell_later hb cm2
      replace cm3 := cell_later hb cm3
      replace cm4 := cell_later hb cm4
      replace co1 := cell_later hb co1
      replace co2 := cell_later hb co2
      replace co3 := cell_later hb co3
      replace co4 := cell_later hb co4
      replace ia := ia.later hb
      replace ip := ip.later hb
      replace iaa := iaa.later hb
      replace ib := ib.later hb
      replace iq := iq.later hb
      replace ic := ic.later hb
      replace it := it.later hb
      replace ir := ir.later hb
      replace im := im.later hb
      replace io := io.later hb
      replace HB := HB.trans (hb.mono HB.size)
      clear hb
      go_wp2_with (fail)
      go_ret
      exact ⟨rfl, HB⟩
theorem dfaForms_top (d : Dfa) (h : DH) (w : World) (ia : IsDfa w h d) :
    Calls Try.prog 3 #[vDf d h] w fun e w' => e = .returned (.bool true) ∧ Below w.heap.size w w' := dfaForms_walk d h w ia
end Go.Proofs.Ytpcbmhfnefhenaa
