import Derived.Test.YtehdkcjoaogbeaaMG28
import Derived.Test.YtehdkcjoaogbeaaMG32
/-
  DfaMinimalW
-/
/-
  DfaMinimal: the walk.
-/
set_option linter.unusedSimpArgs false
set_option linter.unusedVariables false
namespace Go.Proofs.Ytehdkcjoaogbeaa
open Go.RowKit
attribute [local go_sem] Oper.semAt_some

/-- What Included answers, as a value. -/
def IncP (r : List Int) (ok : Bool) : Value → World → Prop := fun v W => ∃ aw cw, v = .tuple #[.slice aw r.length cw, .bool ok, .int .i64 0] ∧ IsInts .i64 W aw r.length cw r
theorem stays_incp (r : List Int) (ok : Bool) : Stays (IncP r ok) := fun _ _ _ hb ⟨a, c, e, hd⟩ => ⟨a, c, e, hd.later hb⟩
def LsP (r : List Int) : Value → World → Prop := fun v W => ∃ aw cw, v = .slice aw r.length cw ∧ IsInts .i64 W aw r.length cw r
theorem stays_lsp (r : List Int) : Stays (LsP r) := fun _ _ _ hb ⟨a, c, e, hd⟩ => ⟨a, c, e, hd.later hb⟩
set_option maxRecDepth 20000 in
set_option maxHeartbeats 4000000 in
theorem dfaMinimal_walk (a : Dfa) (h : DH) (b : Dfa) (k : DH) (w : World) (ia : IsDfa w h a) (ib : IsDfa w k b) :
    Calls Try.prog 8 #[vDf a h, vDf b k] w fun e w' => e = .returned (.bool true) ∧ Below w.heap.size w w' := by
  obtain ⟨W0, hW0, hs0, hb0, hO0⟩ := boxRW a h w ia
  replace ib := ib.later hb0
  replace ia := (hO0 W0 (Below.refl _ _)).2.1
  obtain ⟨c01, c02, c03, c04⟩ := (hO0 W0 (Below.refl _ _)).1
  obtain ⟨W1, hW1, hs1, hb1, hO1⟩ := boxRW b k W0 ib
  replace ia := ia.later hb1
  replace ib := (hO1 W1 (Below.refl _ _)).2.1
  replace c01 := cell_later hb1 c01
  replace c02 := cell_later hb1 c02
  replace c03 := cell_later hb1 c03
  replace c04 := cell_later hb1 c04
  obtain ⟨c11, c12, c13, c14⟩ := (hO1 W1 (Below.refl _ _)).1
  have HB : Below w.heap.size w W1 := (hb0.trans (hb1.mono (hb0).size))
  rw [hs0] at c11 c12 c13 c14
  clear hO0 hb0 hO1 hb1
  unfold vDf
  by_cases fa : FewD a
  rotate_left
  · have hx := fa
    go_enter Try.func8, Try.ntmps8
    go_wp2_with (fail)
    refine (awake_any _).mono ?_
    rintro e w1 ⟨rfl, hb⟩
    replace c01 := cell_later hb c01
    replace c02 := cell_later hb c02
    replace c03 := cell_later hb c03
    replace c04 := cell_later hb c04
    replace c11 := cell_later hb c11
    replace c12 := cell_later hb c12
    replace c13 := cell_later hb c13
    replace c14 := cell_later hb c14
    replace ia := ia.later hb
    replace ib := ib.later hb
    replace HB := HB.trans (hb.mono HB.size)
    clear hb
    go_wp2_with (fail)
    refine (few_no ia fa).mono ?_
    rintro e w2 ⟨rfl, hb⟩
    replace c01 := cell_later hb c01
    replace c02 := cell_later hb c02
    replace c03 := cell_later hb c03
    replace c04 := cell_later hb c04
    replace c11 := cell_later hb c11
    replace c12 := cell_later hb c12
    replace c13 := cell_later hb c13
    replace c14 := cell_later hb c14
    replace ia := ia.later hb
    replace ib := ib.later hb
    replace HB := HB.trans (hb.mono HB.size)
    clear hb
    go_wp2_with (fail)
    go_ret
    exact ⟨rfl, HB⟩
  by_cases fb : FewD b
  rotate_left
  · have hx := fb
    go_enter Try.func8, Try.ntmps8
    go_wp2_with (fail)
    refine (awake_any _).mono ?_
    rintro e w3 ⟨rfl, hb⟩
    replace c01 := cell_later hb c01
    replace c02 := cell_later hb c02
    replace c03 := cell_later hb c03
    replace c04 := cell_later hb c04
    replace c11 := cell_later hb c11
    replace c12 := cell_later hb c12
    replace c13 := cell_later hb c13
    replace c14 := cell_later hb c14
    replace ia := ia.later hb
    replace ib := ib.later hb
    replace HB := HB.trans (hb.mono HB.size)
    clear hb
    go_wp2_with (fail)
    refine (few_yes ia fa).mono ?_
    rintro e w4 ⟨rfl, hb⟩
    replace c01 := cell_later hb c01
    replace c02 := cell_later hb c02
    replace c03 := cell_later hb c03
    replace c04 := cell_later hb c04
    replace c11 := cell_later hb c11
    replace c12 := cell_later hb c12
    replace c13 := cell_later hb c13
    replace c14 := cell_later hb c14
    replace ia := ia.later hb
    replace ib := ib.later hb
    replace HB := HB.trans (hb.mono HB.size)
    clear hb
    go_wp2_with (fail)
    refine (few_no ib fb).mono ?_
    rintro e w5 ⟨rfl, hb⟩
    replace c01 := cell_later hb c01
    replace c02 := cell_later hb c02
    replace c03 := cell_later hb c03
    replace c04 := cell_later hb c04
    replace c11 := cell_later hb c11
    replace c12 := cell_later hb c12
    replace c13 := cell_later hb c13
    replace c14 := cell_later hb c14
    replace ia := ia.later hb
    replace ib := ib.later hb
    replace HB := HB.trans (hb.mono HB.size)
    clear hb
    go_wp2_with (fail)
    go_ret
    exact ⟨rfl, HB⟩
  by_cases va : ValidD a
  rotate_left
  · have hx := va
    go_enter Try.func8, Try.ntmps8
    go_wp2_with (fail)
    refine (awake_any _).mono ?_
    rintro e w6 ⟨rfl, hb⟩
    replace c01 := cell_later hb c01
    replace c02 := cell_later hb c02
    replace c03 := cell_later hb c03
    replace c04 := cell_later hb c04
    replace c11 := cell_later hb c11
    replace c12 := cell_later hb c12
    replace c13 := cell_later hb c13
    replace c14 := cell_later hb c14
    replace ia := ia.later hb
    replace ib := ib.later hb
    replace HB := HB.trans (hb.mono HB.size)
    clear hb
    go_wp2_with (fail)
    refine (few_yes ia fa).mono ?_
    rintro e w7 ⟨rfl, hb⟩
    replace c01 := cell_later hb c01
    replace c02 := cell_later hb c02
    replace c03 := cell_later hb c03
    replace c04 := cell_later hb c04
    replace c11 := cell_later hb c11
    replace c12 := cell_later hb c12
    replace c13 := cell_later hb c13
    replace c14 := cell_later hb c14
    replace ia := ia.later hb
    replace ib := ib.later hb
    replace HB := HB.trans (hb.mono HB.size)
    clear hb
    go_wp2_with (fail)
    refine (few_yes ib fb).mono ?_
    rintro e w8 ⟨rfl, hb⟩
    replace c01 := cell_later hb c01
    replace c02 := cell_later hb c02
    replace c03 := cell_later hb c03
    replace c04 := cell_later hb c04
    replace c11 := cell_later hb c11
    replace c12 := cell_later hb c12
    replace c13 := cell_later hb c13
    replace c14 := cell_later hb c14
    replace ia := ia.later hb
    replace ib := ib.later hb
    replace HB := HB.trans (hb.mono HB.size)
    clear hb
    go_wp2_with (fail)
    refine (refValid_no va ia).mono ?_
    rintro e w9 ⟨rfl, hb⟩
    replace c01 := cell_later hb c01
    replace c02 := cell_later hb c02
    replace c03 := cell_later hb c03
    replace c04 := cell_later hb c04
    replace c11 := cell_later hb c11
    replace c12 := cell_later hb c12
    replace c13 := cell_later hb c13
    replace c14 := cell_later hb c14
    replace ia := ia.later hb
    replace ib := ib.later hb
    replace HB := HB.trans (hb.mono HB.size)
    clear hb
    go_wp2_with (fail)
    go_ret
    exact ⟨rfl, HB⟩
  by_cases vb : ValidD b
  rotate_left
  · have hx := vb
    go_enter Try.func8, Try.ntmps8
    go_wp2_with (fail)
    refine (awake_any _).mono ?_
    rintro e w10 ⟨rfl, hb⟩
    replace c01 := cell_later hb c01
    replace c02 := cell_later hb c02
    replace c03 := cell_later hb c03
    replace c04 := cell_later hb c04
    replace c11 := cell_later hb c11
    replace c12 := cell_later hb c12
    replace c13 := cell_later hb c13
    replace c14 := cell_later hb c14
    replace ia := ia.later hb
    replace ib := ib.later hb
    replace HB := HB.trans (hb.mono HB.size)
    clear hb
    go_wp2_with (fail)
    refine (few_yes ia fa).mono ?_
    rintro e w11 ⟨rfl, hb⟩
    replace c01 := cell_later hb c01
    replace c02 := cell_later hb c02
    replace c03 := cell_later hb c03
    replace c04 := cell_later hb c04
    replace c11 := cell_later hb c11
    replace c12 := cell_later hb c12
    replace c13 := cell_later hb c13
    replace c14 := cell_later hb c14
    replace ia := ia.later hb
    replace ib := ib.later hb
    replace HB := HB.trans (hb.mono HB.size)
    clear hb
    go_wp2_with (fail)
    refine (few_yes ib fb).mono ?_
    rintro e w12 ⟨rfl, hb⟩
    replace c01 := cell_later hb c01
    replace c02 := cell_later hb c02
    replace c03 := cell_later hb c03
    replace c04 := cell_later hb c04
    replace c11 := cell_later hb c11
    replace c12 := cell_later hb c12
    replace c13 := cell_later hb c13
    replace c14 := cell_later hb c14
    replace ia := ia.later hb
    replace ib := ib.later hb
    replace HB := HB.trans (hb.mono HB.size)
    clear hb
    go_wp2_with (fail)
    refine (refValid_yes va ia).mono ?_
    rintro e w13 ⟨rfl, hb⟩
    replace c01 := cell_later hb c01
    replace c02 := cell_later hb c02
    replace c03 := cell_later hb c03
    replace c04 := cell_later hb c04
    replace c11 := cell_later hb c11
    replace c12 := cell_later hb c12
    replace c13 := cell_later hb c13
    replace c14 := cell_later hb c14
    replace ia := ia.later hb
    replace ib := ib.later hb
    replace HB := HB.trans (hb.mono HB.size)
    clear hb
    go_wp2_with (fail)
    refine (refValid_no vb ib).mono ?_
    rintro e w14 ⟨rfl, hb⟩
    replace c01 := cell_later hb c01
    replace c02 := cell_later hb c02
    replace c03 := cell_later hb c03
    replace c04 := cell_later hb c04
    replace c11 := cell_later hb c11
    replace c12 := cell_later hb c12
    replace c13 := cell_later hb c13
    replace c14 := cell_later hb c14
    replace ia := ia.later hb
    replace ib := ib.later hb
    replace HB := HB.trans (hb.mono HB.size)
    clear hb
    go_wp2_with (fail)
    go_ret
    exact ⟨rfl, HB⟩
  have e1 := minD_idem va
  have e2 := minD_inc va vb
  have n1 := (minD_facts va).2.2
  have n2 := (minD_facts vb).2.2
  have vm := (minD_facts va).1
  have hma := fun W h' (hd : IsDfa W h' a) => minimize_yes (w := W) (h := h') va hd
  have hmb := fun W h' (hd : IsDfa W h' b) => minimize_yes (w := W) (h := h') vb hd
  have hmm := fun W h' (hd : IsDfa W h' (minD a)) => minimize_yes (w := W) (h := h') vm hd
  rw [e1] at hmm
  clear e1
  obtain ⟨MA, hMA⟩ : ∃ M, minD a = M := ⟨_, rfl⟩
  obtain ⟨MB, hMB⟩ : ∃ M, minD b = M := ⟨_, rfl⟩
  rw [hMA] at hma hmm e2 n1
  rw [hMB] at hmb e2 n2
  have hxi := fun W h' k' (hd : IsDfa W h' a) (he : IsDfa W k' b) => included_yes (w := W) (h := h') (kh := k') va vb hd he
  have hyi := fun W h' k' (hd : IsDfa W h' b) (he : IsDfa W k' a) => included_yes (w := W) (h := h') (kh := k') vb va hd he
  obtain ⟨X, hX⟩ : ∃ X, (incW a b).isNone = X := ⟨_, rfl⟩
  obtain ⟨Y, hY⟩ : ∃ Y, (incW b a).isNone = Y := ⟨_, rfl⟩
  rw [hX] at hxi
  rw [hY] at hyi
  rw [← Option.isNone_iff_eq_none, ← Option.isNone_iff_eq_none, hX, hY] at e2
  obtain ⟨R1, hR1⟩ : ∃ R, (incW a b).getD [] = R := ⟨_, rfl⟩
  obtain ⟨R2, hR2⟩ : ∃ R, (incW b a).getD [] = R := ⟨_, rfl⟩
  rw [hR1] at hxi
  rw [hR2] at hyi
  have e3 : eqD MA MA = true := eqD_iff.2 rfl
  have e4 : eqD MA MB = (X && Y) := by rw [Bool.eq_iff_iff, eqD_iff, e2, Bool.and_eq_true]
  have n3 : X = true → Y = true → MA.n ≤ b.n := fun h1 h2 => by rw [e2.2 ⟨h1, h2⟩]; exact n2
  have hx2 := fun W h' k' (hd : IsDfa W h' MA) (he : IsDfa W k' MA) => equal_any (w := W) (h := h') (k := k') hd he
  have hx3 := fun W h' k' (hd : IsDfa W h' MA) (he : IsDfa W k' MB) => equal_any (w := W) (h := h') (k := k') hd he
  rw [e3] at hx2
  rw [e4] at hx3
  obtain ⟨Z, hZ⟩ : ∃ Z, (X && Y) = Z := ⟨_, rfl⟩
  rw [hZ] at hx3
  have HZZ := Lib.hid hZ
  clear e2 e3 e4 hMA hMB hX hY hR1 hR2 n2 vm hZ
  have fa3 : a.arcs.length ≤ 1000 := by have := fa.2.2; omega
  have fb3 : b.arcs.length ≤ 1000 := by have := fb.2.2; omega
  have HMA := Lib.hid hma
  have HMB := Lib.hid hmb
  have HMM := Lib.hid hmm
  have HXI := Lib.hid hxi
  have HYI := Lib.hid hyi
  have HX2 := Lib.hid hx2
  have HX3 := Lib.hid hx3
  have N1 := Lib.hid n1
  have N3 := Lib.hid n3
  clear hma hmb hmm hxi hyi hx2 hx3 n1 n3
  go_enter Try.func8, Try.ntmps8
  go_wp2_with (fail)
  refine (awake_any _).mono ?_
  rintro e w15 ⟨rfl, hb⟩
  replace c01 := cell_later hb c01
  replace c02 := cell_later hb c02
  replace c03 := cell_later hb c03
  replace c04 := cell_later hb c04
  replace c11 := cell_later hb c11
  replace c12 := cell_later hb c12
  replace c13 := cell_later hb c13
  replace c14 := cell_later hb c14
  replace ia := ia.later hb
  replace ib := ib.later hb
  replace HB := HB.trans (hb.mono HB.size)
  clear hb
  go_wp2_with (fail)
  refine (few_yes ia fa).mono ?_
  rintro e w16 ⟨rfl, hb⟩
  replace c01 := cell_later hb c01
  replace c02 := cell_later hb c02
  replace c03 := cell_later hb c03
  replace c04 := cell_later hb c04
  replace c11 := cell_later hb c11
  replace c12 := cell_later hb c12
  replace c13 := cell_later hb c13
  replace c14 := cell_later hb c14
  replace ia := ia.later hb
  replace ib := ib.later hb
  replace HB := HB.trans (hb.mono HB.size)
  clear hb
  go_wp2_with (fail)
  refine (few_yes ib fb).mono ?_
  rintro e w17 ⟨rfl, hb⟩
  replace c01 := cell_later hb c01
  replace c02 := cell_later hb c02
  replace c03 := cell_later hb c03
  replace c04 := cell_later hb c04
  replace c11 := cell_later hb c11
  replace c12 := cell_later hb c12
  replace c13 := cell_later hb c13
  replace c14 := cell_later hb c14
  replace ia := ia.later hb
  replace ib := ib.later hb
  replace HB := HB.trans (hb.mono HB.size)
  clear hb
  go_wp2_with (fail)
  refine (refValid_yes va ia).mono ?_
  rintro e w18 ⟨rfl, hb⟩
  replace c01 := cell_later hb c01
  replace c02 := cell_later hb c02
  replace c03 := cell_later hb c03
  replace c04 := cell_later hb c04
  replace c11 := cell_later hb c11
  replace c12 := cell_later hb c12
  replace c13 := cell_later hb c13
  replace c14 := cell_later hb c14
  replace ia := ia.later hb
  replace ib := ib.later hb
  replace HB := HB.trans (hb.mono HB.size)
  clear hb
  go_wp2_with (fail)
  refine (refValid_yes vb ib).mono ?_
  rintro e w19 ⟨rfl, hb⟩
  replace c01 := cell_later hb c01
  replace c02 := cell_later hb c02
  replace c03 := cell_later hb c03
  replace c04 := cell_later hb c04
  replace c11 := cell_later hb c11
  replace c12 := cell_later hb c12
  replace c13 := cell_later hb c13
  replace c14 := cell_later hb c14
  replace ia := ia.later hb
  replace ib := ib.later hb
  replace HB := HB.trans (hb.mono HB.size)
  clear hb
  go_wp2_with (fail)
  refine (own_any ia fa3).mono ?_
  rintro e w20 ⟨⟨yp, rfl, ip⟩, hb⟩
  unfold vDf
  replace c01 := cell_later hb c01
  replace c02 := cell_later hb c02
  replace c03 := cell_later hb c03
  replace c04 := cell_later hb c04
  replace c11 := cell_later hb c11
  replace c12 := cell_later hb c12
  replace c13 := cell_later hb c13
  replace c14 := cell_later hb c14
  replace ia := ia.later hb
  replace ib := ib.later hb
  replace HB := HB.trans (hb.mono HB.size)
  clear hb
  go_wp2_with (fail)
  refine (HMA.out _ _ ip).mono ?_
  rintro e w21 ⟨⟨yq, rfl, iq⟩, hb⟩
  unfold vDf
  replace c01 := cell_later hb c01
  replace c02 := cell_later hb c02
  replace c03 := cell_later hb c03
  replace c04 := cell_later hb c04
  replace c11 := cell_later hb c11
  replace c12 := cell_later hb c12
  replace c13 := cell_later hb c13
  replace c14 := cell_later hb c14
  replace ia := ia.later hb
  replace ib := ib.later hb
  replace ip := ip.later hb
  replace HB := HB.trans (hb.mono HB.size)
  clear hb
  go_upto_region 6 with (fail)
  obtain ⟨Vq, hVq, -, hb, hOq⟩ := boxDW MA yq _ iq
  rw [hVq]
  obtain ⟨⟨cq1, cq2, cq3, cq4⟩, -, -⟩ := hOq Vq (Below.refl _ _)
  clear hOq hVq
  replace c01 := cell_later hb c01
  replace c02 := cell_later hb c02
  replace c03 := cell_later hb c03
  replace c04 := cell_later hb c04
  replace c11 := cell_later hb c11
  replace c12 := cell_later hb c12
  replace c13 := cell_later hb c13
  replace c14 := cell_later hb c14
  replace ia := ia.later hb
  replace ib := ib.later hb
  replace ip := ip.later hb
  replace iq := iq.later hb
  replace HB := HB.trans (hb.mono HB.size)
  clear hb
  go_wp2_with (fail)
  refine (own_any ib fb3).mono ?_
  rintro e w22 ⟨⟨yr, rfl, ir⟩, hb⟩
  unfold vDf
  replace c01 := cell_later hb c01
  replace c02 := cell_later hb c02
  replace c03 := cell_later hb c03
  replace c04 := cell_later hb c04
  replace c11 := cell_later hb c11
  replace c12 := cell_later hb c12
  replace c13 := cell_later hb c13
  replace c14 := cell_later hb c14
  replace cq1 := cell_later hb cq1
  replace cq2 := cell_later hb cq2
  replace cq3 := cell_later hb cq3
  replace cq4 := cell_later hb cq4
  replace ia := ia.later hb
  replace ib := ib.later hb
  replace ip := ip.later hb
  replace iq := iq.later hb
  replace HB := HB.trans (hb.mono HB.size)
  clear hb
  go_wp2_with (fail)
  refine (HMB.out _ _ ir).mono ?_
  rintro e w23 ⟨⟨ys, rfl, is⟩, hb⟩
  unfold vDf
  replace c01 := cell_later hb c01
  replace c02 := cell_later hb c02
  replace c03 := cell_later hb c03
  replace c04 := cell_later hb c04
  replace c11 := cell_later hb c11
  replace c12 := cell_later hb c12
  replace c13 := cell_later hb c13
  replace c14 := cell_later hb c14
  replace cq1 := cell_later hb cq1
  replace cq2 := cell_later hb cq2
  replace cq3 := cell_later hb cq3
  replace cq4 := cell_later hb cq4
  replace ia := ia.later hb
  replace ib := ib.later hb
  replace ip := ip.later hb
  replace iq := iq.later hb
  replace ir := ir.later hb
  replace HB := HB.trans (hb.mono HB.size)
  clear hb
  go_upto_region 7 with (fail)
  obtain ⟨Vs, hVs, -, hb, hOs⟩ := boxDW MB ys _ is
  rw [hVs]
  obtain ⟨⟨cs1, cs2, cs3, cs4⟩, -, -⟩ := hOs Vs (Below.refl _ _)
  clear hOs hVs
  replace c01 := cell_later hb c01
  replace c02 := cell_later hb c02
  replace c03 := cell_later hb c03
  replace c04 := cell_later hb c04
  replace c11 := cell_later hb c11
  replace c12 := cell_later hb c12
  replace c13 := cell_later hb c13
  replace c14 := cell_later hb c14
  replace cq1 := cell_later hb cq1
  replace cq2 := cell_later hb cq2
  replace cq3 := cell_later hb cq3
  replace cq4 := cell_later hb cq4
  replace ia := ia.later hb
  replace ib := ib.later hb
  replace ip := ip.later hb
  replace iq := iq.later hb
  replace ir := ir.later hb
  replace is := is.later hb
  replace HB := HB.trans (hb.mono HB.size)
  clear hb
  go_wp2_with (fail)
  refine (HMM.out _ _ iq).mono ?_
  rintro e w24 ⟨⟨yt, rfl, it⟩, hb⟩
  unfold vDf
  replace c01 := cell_later hb c01
  replace c02 := cell_later hb c02
  replace c03 := cell_later hb c03
  replace c04 := cell_later hb c04
  replace c11 := cell_later hb c11
  replace c12 := cell_later hb c12
  replace c13 := cell_later hb c13
  replace c14 := cell_later hb c14
  replace cq1 := cell_later hb cq1
  replace cq2 := cell_later hb cq2
  replace cq3 := cell_later hb cq3
  replace cq4 := cell_later hb cq4
  replace cs1 := cell_later hb cs1
  replace cs2 := cell_later hb cs2
  replace cs3 := cell_later hb cs3
  replace cs4 := cell_later hb cs4
  replace ia := ia.later hb
  replace ib := ib.later hb
  replace ip := ip.later hb
  replace iq := iq.later hb
  replace ir := ir.later hb
  replace is := is.later hb
  replace HB := HB.trans (hb.mono HB.size)
  clear hb
  go_upto_region 8 with (fail)
  obtain ⟨Vt, hVt, -, hb, hOt⟩ := boxDW MA yt _ it
  rw [hVt]
  obtain ⟨⟨ct1, ct2, ct3, ct4⟩, -, -⟩ := hOt Vt (Below.refl _ _)
  clear hOt hVt
  replace c01 := cell_later hb c01
  replace c02 := cell_later hb c02
  replace c03 := cell_later hb c03
  replace c04 := cell_later hb c04
  replace c11 := cell_later hb c11
  replace c12 := cell_later hb c12
  replace c13 := cell_later hb c13
  replace c14 := cell_later hb c14
  replace cq1 := cell_later hb cq1
  replace cq2 := cell_later hb cq2
  replace cq3 := cell_later hb cq3
  replace cq4 := cell_later hb cq4
  replace cs1 := cell_later hb cs1
  replace cs2 := cell_later hb cs2
  replace cs3 := cell_later hb cs3
  replace cs4 := cell_later hb cs4
  replace ia := ia.later hb
  replace ib := ib.later hb
  replace ip := ip.later hb
  replace iq := iq.later hb
  replace ir := ir.later hb
  replace is := is.later hb
  replace it := it.later hb
  replace HB := HB.trans (hb.mono HB.size)
  clear hb
  refine wp_region_grow mixed (by kernel_rfl) [[], [(0, 55)], [], [(2, 57), (1, 56)], [(1, 56), (3, 58), (3, 58)], [(4, 59)], [(5, 54)], [(5, 54)], [(5, 54)], [(6, 60), (4, 59), (0, 55), (1, 56), (2, 57), (3, 58), (4, 59), (5, 54), (6, 60)], [(7, 61), (9, 11), (0, 55), (1, 56), (2, 57), (3, 58), (4, 59), (5, 54), (6, 60), (7, 61), (9, 11)], [(8, 62), (10, 12), (0, 55), (1, 56), (2, 57), (3, 58), (4, 59), (5, 54), (6, 60), (7, 61), (8, 62), (9, 11), (10, 12)]] [(0, 55), (1, 56), (2, 57), (3, 58), (4, 59), (5, 54), (6, 60), (7, 61), (8, 62), (9, 11), (10, 12), (11, 13)] rfl rfl [Ex ?ep0, DfP a, Ex ?ep2, DfP b, IncP R1 X, IncP R1 X, LsP R1, Ex ?ep7, Ex ?ep8, LsP R1, Ex ?ep10, Ex ?ep11] ⟨stays_ex _, stays_df _, stays_ex _, stays_df _, stays_incp _ _, stays_incp _ _, stays_lsp _, stays_ex _, stays_ex _, stays_lsp _, stays_ex _, stays_ex _, trivial⟩ ?psteps ?prest
  case psteps =>
    refine ⟨fun f W hC hh => ?_, fun f W hC hh => ?_, fun f W hC hh => ?_, fun f W hC hh => ?_, fun f W hC hh => ?_, fun f W hC hh => ?_, fun f W hC hh => ?_, fun f W hC hh => ?_, fun f W hC hh => ?_, fun f W hC hh => ?_, fun f W hC hh => ?_, fun f W hC hh => ?_, trivial⟩
    · -- 0: Op.load 25 (Operand.tmp 2)
      refine tab_plain fun K Q hK => ?_
      simp only [puts, List.foldr_nil]
      have mc01 := cell_later hC c01
      have mc02 := cell_later hC c02
      have mc03 := cell_later hC c03
      have mc04 := cell_later hC c04
      have mc11 := cell_later hC c11
      have mc12 := cell_later hC c12
      have mc13 := cell_later hC c13
      have mc14 := cell_later hC c14
      have mcq1 := cell_later hC cq1
      have mcq2 := cell_later hC cq2
      have mcq3 := cell_later hC cq3
      have mcq4 := cell_later hC cq4
      have mcs1 := cell_later hC cs1
      have mcs2 := cell_later hC cs2
      have mcs3 := cell_later hC cs3
      have mcs4 := cell_later hC cs4
      have mct1 := cell_later hC ct1
      have mct2 := cell_later hC ct2
      have mct3 := cell_later hC ct3
      have mct4 := cell_later hC ct4
      go_step
      refine fam_ex hK rfl rfl (by simp only [Act.put, List.setIfInBounds_toArray, List.set_cons_succ, List.set_cons_zero, Array.getD_eq_getD_getElem?, List.getElem?_toArray, List.getElem?_cons_succ, List.getElem?_cons_zero, Option.getD_some] <;> rfl) rfl (Below.refl _ _) hC
    · -- 1: Op.call { callee := Callee.value (Operand.func 14), args := #[Operand.tmp 55], argTypes :=
      obtain ⟨h0, -⟩ := hh
      have g0 : f 0 = _ := h0
      refine tab_plain fun K Q hK => ?_
      simp only [puts, List.foldr_cons, List.foldr_nil, List.setIfInBounds_toArray, List.set_cons_succ, List.set_cons_zero, g0]
      go_step
      go_at_call 13
      refine (own_any (ia.later hC) fa3).mono ?_
      rintro e w' ⟨⟨hy, rfl, iy⟩, hb⟩
      exact fam_fin hK rfl ⟨hy, rfl, iy⟩ hb (hC.trans (hb.mono hC.size))
    · -- 2: Op.load 25 (Operand.tmp 3)
      refine tab_plain fun K Q hK => ?_
      simp only [puts, List.foldr_nil]
      have mc01 := cell_later hC c01
      have mc02 := cell_later hC c02
      have mc03 := cell_later hC c03
      have mc04 := cell_later hC c04
      have mc11 := cell_later hC c11
      have mc12 := cell_later hC c12
      have mc13 := cell_later hC c13
      have mc14 := cell_later hC c14
      have mcq1 := cell_later hC cq1
      have mcq2 := cell_later hC cq2
      have mcq3 := cell_later hC cq3
      have mcq4 := cell_later hC cq4
      have mcs1 := cell_later hC cs1
      have mcs2 := cell_later hC cs2
      have mcs3 := cell_later hC cs3
      have mcs4 := cell_later hC cs4
      have mct1 := cell_later hC ct1
      have mct2 := cell_later hC ct2
      have mct3 := cell_later hC ct3
      have mct4 := cell_later hC ct4
      go_step
      refine fam_ex hK rfl rfl (by simp only [Act.put, List.setIfInBounds_toArray, List.set_cons_succ, List.set_cons_zero, Array.getD_eq_getD_getElem?, List.getElem?_toArray, List.getElem?_cons_succ, List.getElem?_cons_zero, Option.getD_some] <;> rfl) rfl (Below.refl _ _) hC
    · -- 3: Op.call { callee := Callee.value (Operand.func 14), args := #[Operand.tmp 57], argTypes :=
      obtain ⟨h2, h1, -⟩ := hh
      have g2 : f 2 = _ := h2
      obtain ⟨y1, g1, s1⟩ := h1
      refine tab_plain fun K Q hK => ?_
      simp only [puts, List.foldr_cons, List.foldr_nil, List.setIfInBounds_toArray, List.set_cons_succ, List.set_cons_zero, g2, g1]
      go_step
      go_at_call 13
      refine (own_any (ib.later hC) fb3).mono ?_
      rintro e w' ⟨⟨hy, rfl, iy⟩, hb⟩
      exact fam_fin hK rfl ⟨hy, rfl, iy⟩ hb (hC.trans (hb.mono hC.size))
    · -- 4: Op.call { callee := Callee.value (Operand.func 30), args := #[Operand.tmp 56, Operand.tmp 
      obtain ⟨h1, h3, _, -⟩ := hh
      obtain ⟨y1, g1, s1⟩ := h1
      obtain ⟨y3, g3, s3⟩ := h3
      refine tab_plain fun K Q hK => ?_
      simp only [puts, List.foldr_cons, List.foldr_nil, List.setIfInBounds_toArray, List.set_cons_succ, List.set_cons_zero, g1, g3]
      go_step
      go_at_call 29
      refine (HXI.out _ _ _ s1 s3).mono ?_
      rintro e w' ⟨⟨aw', cw', rfl, iw'⟩, hb⟩
      exact fam_fin hK rfl ⟨aw', cw', rfl, iw'⟩ hb (hC.trans (hb.mono hC.size))
    · -- 5: Op.move (Operand.tmp 59)
      obtain ⟨h4, -⟩ := hh
      obtain ⟨a4, c4, g4, s4⟩ := h4
      refine tab_plain fun K Q hK => ?_
      simp only [puts, List.foldr_cons, List.foldr_nil, List.setIfInBounds_toArray, List.set_cons_succ, List.set_cons_zero, g4]
      go_step
      exact fam_fin hK rfl ⟨a4, c4, rfl, s4⟩ (Below.refl _ _) hC
    · -- 6: Op.extract (Operand.tmp 54) 0
      obtain ⟨h5, -⟩ := hh
      obtain ⟨a5, c5, g5, s5⟩ := h5
      refine tab_plain fun K Q hK => ?_
      simp only [puts, List.foldr_cons, List.foldr_nil, List.setIfInBounds_toArray, List.set_cons_succ, List.set_cons_zero, g5]
      go_step
      exact fam_fin hK rfl ⟨a5, c5, rfl, s5⟩ (Below.refl _ _) hC
    · -- 7: Op.extract (Operand.tmp 54) 1
      obtain ⟨h5, -⟩ := hh
      obtain ⟨a5, c5, g5, s5⟩ := h5
      refine tab_plain fun K Q hK => ?_
      simp only [puts, List.foldr_cons, List.foldr_nil, List.setIfInBounds_toArray, List.set_cons_succ, List.set_cons_zero, g5]
      go_step
      refine fam_ex hK rfl rfl (by simp only [Act.put, List.setIfInBounds_toArray, List.set_cons_succ, List.set_cons_zero, Array.getD_eq_getD_getElem?, List.getElem?_toArray, List.getElem?_cons_succ, List.getElem?_cons_zero, Option.getD_some] <;> rfl) rfl (Below.refl _ _) hC
    · -- 8: Op.extract (Operand.tmp 54) 2
      obtain ⟨h5, -⟩ := hh
      obtain ⟨a5, c5, g5, s5⟩ := h5
      refine tab_plain fun K Q hK => ?_
      simp only [puts, List.foldr_cons, List.foldr_nil, List.setIfInBounds_toArray, List.set_cons_succ, List.set_cons_zero, g5]
      go_step
      refine fam_ex hK rfl rfl (by simp only [Act.put, List.setIfInBounds_toArray, List.set_cons_succ, List.set_cons_zero, Array.getD_eq_getD_getElem?, List.getElem?_toArray, List.getElem?_cons_succ, List.getElem?_cons_zero, Option.getD_some] <;> rfl) rfl (Below.refl _ _) hC
    · -- 9: Op.assign (Operand.tmp 60)
      obtain ⟨h6, h4, h0, h1, h2, h3, _, h5, _, -⟩ := hh
      obtain ⟨a6, c6, g6, s6⟩ := h6
      obtain ⟨a4, c4, g4, s4⟩ := h4
      have g0 : f 0 = _ := h0
      obtain ⟨y1, g1, s1⟩ := h1
      have g2 : f 2 = _ := h2
      obtain ⟨y3, g3, s3⟩ := h3
      obtain ⟨a5, c5, g5, s5⟩ := h5
      refine tab_plain fun K Q hK => ?_
      simp only [puts, List.foldr_cons, List.foldr_nil, List.setIfInBounds_toArray, List.set_cons_succ, List.set_cons_zero, g6, g4, g0, g1, g2, g3, g5]
      go_step
      exact fam_fin hK rfl ⟨a6, c6, rfl, s6⟩ (Below.refl _ _) hC
    · -- 10: Op.assign (Operand.tmp 61)
      obtain ⟨h7, h9, h0, h1, h2, h3, h4, h5, h6, _, _, -⟩ := hh
      have g7 : f 7 = _ := h7
      obtain ⟨a9, c9, g9, s9⟩ := h9
      have g0 : f 0 = _ := h0
      obtain ⟨y1, g1, s1⟩ := h1
      have g2 : f 2 = _ := h2
      obtain ⟨y3, g3, s3⟩ := h3
      obtain ⟨a4, c4, g4, s4⟩ := h4
      obtain ⟨a5, c5, g5, s5⟩ := h5
      obtain ⟨a6, c6, g6, s6⟩ := h6
      refine tab_plain fun K Q hK => ?_
      simp only [puts, List.foldr_cons, List.foldr_nil, List.setIfInBounds_toArray, List.set_cons_succ, List.set_cons_zero, g7, g9, g0, g1, g2, g3, g4, g5, g6]
      go_step
      refine fam_ex hK rfl rfl (by simp only [Act.put, List.setIfInBounds_toArray, List.set_cons_succ, List.set_cons_zero, Array.getD_eq_getD_getElem?, List.getElem?_toArray, List.getElem?_cons_succ, List.getElem?_cons_zero, Option.getD_some] <;> rfl) rfl (Below.refl _ _) hC
    · -- 11: Op.assign (Operand.tmp 62)
      obtain ⟨h8, h10, h0, h1, h2, h3, h4, h5, h6, h7, _, h9, _, -⟩ := hh
      have g8 : f 8 = _ := h8
      have g10 : f 10 = _ := h10
      have g0 : f 0 = _ := h0
      obtain ⟨y1, g1, s1⟩ := h1
      have g2 : f 2 = _ := h2
      obtain ⟨y3, g3, s3⟩ := h3
      obtain ⟨a4, c4, g4, s4⟩ := h4
      obtain ⟨a5, c5, g5, s5⟩ := h5
      obtain ⟨a6, c6, g6, s6⟩ := h6
      have g7 : f 7 = _ := h7
      obtain ⟨a9, c9, g9, s9⟩ := h9
      refine tab_plain fun K Q hK => ?_
      simp only [puts, List.foldr_cons, List.foldr_nil, List.setIfInBounds_toArray, List.set_cons_succ, List.set_cons_zero, g8, g10, g0, g1, g2, g3, g4, g5, g6, g7, g9]
      go_step
      refine fam_ex hK rfl rfl (by simp only [Act.put, List.setIfInBounds_toArray, List.set_cons_succ, List.set_cons_zero, Array.getD_eq_getD_getElem?, List.getElem?_toArray, List.getElem?_cons_succ, List.getElem?_cons_zero, Option.getD_some] <;> rfl) rfl (Below.refl _ _) hC
  case prest =>
    intro f WR hC hh
    obtain ⟨h0, h1, h2, h3, h4, h5, h6, h7, h8, h9, h10, h11, -⟩ := hh
    have g0 : f 0 = _ := h0
    obtain ⟨y1, g1, s1⟩ := h1
    have g2 : f 2 = _ := h2
    obtain ⟨y3, g3, s3⟩ := h3
    obtain ⟨a4, c4, g4, s4⟩ := h4
    obtain ⟨a5, c5, g5, s5⟩ := h5
    obtain ⟨a6, c6, g6, s6⟩ := h6
    have g7 : f 7 = _ := h7
    have g8 : f 8 = _ := h8
    obtain ⟨a9, c9, g9, s9⟩ := h9
    have g10 : f 10 = _ := h10
    have g11 : f 11 = _ := h11
    simp only [puts, List.foldr_cons, List.foldr_nil, List.setIfInBounds_toArray, List.set_cons_succ, List.set_cons_zero, g0, g1, g2, g3, g4, g5, g6, g7, g8, g9, g10, g11]
    clear h0 h2 h7 h8 h10 h11 g0 g2 g7 g8 g10 g11
    have hb := hC
    clear hC
    replace c01 := cell_later hb c01
    replace c02 := cell_later hb c02
    replace c03 := cell_later hb c03
    replace c04 := cell_later hb c04
    replace c11 := cell_later hb c11
    replace c12 := cell_later hb c12
    replace c13 := cell_later hb c13
    replace c14 := cell_later hb c14
    replace cq1 := cell_later hb cq1
    replace cq2 := cell_later hb cq2
    replace cq3 := cell_later hb cq3
    replace cq4 := cell_later hb cq4
    replace cs1 := cell_later hb cs1
    replace cs2 := cell_later hb cs2
    replace cs3 := cell_later hb cs3
    replace cs4 := cell_later hb cs4
    replace ct1 := cell_later hb ct1
    replace ct2 := cell_later hb ct2
    replace ct3 := cell_later hb ct3
    replace ct4 := cell_later hb ct4
    replace ia := ia.later hb
    replace ib := ib.later hb
    replace ip := ip.later hb
    replace iq := iq.later hb
    replace ir := ir.later hb
    replace is := is.later hb
    replace it := it.later hb
    replace HB := HB.trans (hb.mono HB.size)
    clear hb
    clear g1 s1 g3 s3 g4 s4 g5 s5 g6 s6
    clear g9 s9
    go_wp2_with (fail)
    refine wp_region_grow mixed (by kernel_rfl) [[], [(0, 64)], [], [(2, 66), (1, 65)], [(1, 65), (3, 67), (3, 67)], [(4, 68)], [(5, 63)], [(5, 63)], [(5, 63)], [(6, 69), (4, 68), (0, 64), (1, 65), (2, 66), (3, 67), (4, 68), (5, 63), (6, 69)], [(7, 70), (9, 14), (0, 64), (1, 65), (2, 66), (3, 67), (4, 68), (5, 63), (6, 69), (7, 70), (9, 14)], [(8, 71), (10, 15), (0, 64), (1, 65), (2, 66), (3, 67), (4, 68), (5, 63), (6, 69), (7, 70), (8, 71), (9, 14), (10, 15)]] [(0, 64), (1, 65), (2, 66), (3, 67), (4, 68), (5, 63), (6, 69), (7, 70), (8, 71), (9, 14), (10, 15), (11, 16)] rfl rfl [Ex ?eq0, DfP b, Ex ?eq2, DfP a, IncP R2 Y, IncP R2 Y, LsP R2, Ex ?eq7, Ex ?eq8, LsP R2, Ex ?eq10, Ex ?eq11] ⟨stays_ex _, stays_df _, stays_ex _, stays_df _, stays_incp _ _, stays_incp _ _, stays_lsp _, stays_ex _, stays_ex _, stays_lsp _, stays_ex _, stays_ex _, trivial⟩ ?qsteps ?qrest
    case qsteps =>
      refine ⟨fun f W hC hh => ?_, fun f W hC hh => ?_, fun f W hC hh => ?_, fun f W hC hh => ?_, fun f W hC hh => ?_, fun f W hC hh => ?_, fun f W hC hh => ?_, fun f W hC hh => ?_, fun f W hC hh => ?_, fun f W hC hh => ?_, fun f W hC hh => ?_, fun f W hC hh => ?_, trivial⟩
      · -- 0: Op.load 25 (Operand.tmp 3)
        refine tab_plain fun K Q hK => ?_
        simp only [puts, List.foldr_nil]
        have mc01 := cell_later hC c01
        have mc02 := cell_later hC c02
        have mc03 := cell_later hC c03
        have mc04 := cell_later hC c04
        have mc11 := cell_later hC c11
        have mc12 := cell_later hC c12
        have mc13 := cell_later hC c13
        have mc14 := cell_later hC c14
        have mcq1 := cell_later hC cq1
        have mcq2 := cell_later hC cq2
        have mcq3 := cell_later hC cq3
        have mcq4 := cell_later hC cq4
        have mcs1 := cell_later hC cs1
        have mcs2 := cell_later hC cs2
        have mcs3 := cell_later hC cs3
        have mcs4 := cell_later hC cs4
        have mct1 := cell_later hC ct1
        have mct2 := cell_later hC ct2
        have mct3 := cell_later hC ct3
        have mct4 := cell_later hC ct4
        go_step
        refine fam_ex hK rfl rfl (by simp only [Act.put, List.setIfInBounds_toArray, List.set_cons_succ, List.set_cons_zero, Array.getD_eq_getD_getElem?, List.getElem?_toArray, List.getElem?_cons_succ, List.getElem?_cons_zero, Option.getD_some] <;> rfl) rfl (Below.refl _ _) hC
      · -- 1: Op.call { callee := Callee.value (Operand.func 14), args := #[Operand.tmp 64], argTypes :=
        obtain ⟨h0, -⟩ := hh
        have g0 : f 0 = _ := h0
        refine tab_plain fun K Q hK => ?_
        simp only [puts, List.foldr_cons, List.foldr_nil, List.setIfInBounds_toArray, List.set_cons_succ, List.set_cons_zero, g0]
        go_step
        go_at_call 13
        refine (own_any (ib.later hC) fb3).mono ?_
        rintro e w' ⟨⟨hy, rfl, iy⟩, hb⟩
        exact fam_fin hK rfl ⟨hy, rfl, iy⟩ hb (hC.trans (hb.mono hC.size))
      · -- 2: Op.load 25 (Operand.tmp 2)
        refine tab_plain fun K Q hK => ?_
        simp only [puts, List.foldr_nil]
        have mc01 := cell_later hC c01
        have mc02 := cell_later hC c02
        have mc03 := cell_later hC c03
        have mc04 := cell_later hC c04
        have mc11 := cell_later hC c11
        have mc12 := cell_later hC c12
        have mc13 := cell_later hC c13
        have mc14 := cell_later hC c14
        have mcq1 := cell_later hC cq1
        have mcq2 := cell_later hC cq2
        have mcq3 := cell_later hC cq3
        have mcq4 := cell_later hC cq4
        have mcs1 := cell_later hC cs1
        have mcs2 := cell_later hC cs2
        have mcs3 := cell_later hC cs3
        have mcs4 := cell_later hC cs4
        have mct1 := cell_later hC ct1
        have mct2 := cell_later hC ct2
        have mct3 := cell_later hC ct3
        have mct4 := cell_later hC ct4
        go_step
        refine fam_ex hK rfl rfl (by simp only [Act.put, List.setIfInBounds_toArray, List.set_cons_succ, List.set_cons_zero, Array.getD_eq_getD_getElem?, List.getElem?_toArray, List.getElem?_cons_succ, List.getElem?_cons_zero, Option.getD_some] <;> rfl) rfl (Below.refl _ _) hC
      · -- 3: Op.call { callee := Callee.value (Operand.func 14), args := #[Operand.tmp 66], argTypes :=
        obtain ⟨h2, h1, -⟩ := hh
        have g2 : f 2 = _ := h2
        obtain ⟨y1, g1, s1⟩ := h1
        refine tab_plain fun K Q hK => ?_
        simp only [puts, List.foldr_cons, List.foldr_nil, List.setIfInBounds_toArray, List.set_cons_succ, List.set_cons_zero, g2, g1]
        go_step
        go_at_call 13
        refine (own_any (ia.later hC) fa3).mono ?_
        rintro e w' ⟨⟨hy, rfl, iy⟩, hb⟩
        exact fam_fin hK rfl ⟨hy, rfl, iy⟩ hb (hC.trans (hb.mono hC.size))
      · -- 4: Op.call { callee := Callee.value (Operand.func 30), args := #[Operand.tmp 65, Operand.tmp 
        obtain ⟨h1, h3, _, -⟩ := hh
        obtain ⟨y1, g1, s1⟩ := h1
        obtain ⟨y3, g3, s3⟩ := h3
        refine tab_plain fun K Q hK => ?_
        simp only [puts, List.foldr_cons, List.foldr_nil, List.setIfInBounds_toArray, List.set_cons_succ, List.set_cons_zero, g1, g3]
        go_step
        go_at_call 29
        refine (HYI.out _ _ _ s1 s3).mono ?_
        rintro e w' ⟨⟨aw', cw', rfl, iw'⟩, hb⟩
        exact fam_fin hK rfl ⟨aw', cw', rfl, iw'⟩ hb (hC.trans (hb.mono hC.size))
      · -- 5: Op.move (Operand.tmp 68)
        obtain ⟨h4, -⟩ := hh
        obtain ⟨a4, c4, g4, s4⟩ := h4
        refine tab_plain fun K Q hK => ?_
        simp only [puts, List.foldr_cons, List.foldr_nil, List.setIfInBounds_toArray, List.set_cons_succ, List.set_cons_zero, g4]
        go_step
        exact fam_fin hK rfl ⟨a4, c4, rfl, s4⟩ (Below.refl _ _) hC
      · -- 6: Op.extract (Operand.tmp 63) 0
        obtain ⟨h5, -⟩ := hh
        obtain ⟨a5, c5, g5, s5⟩ := h5
        refine tab_plain fun K Q hK => ?_
        simp only [puts, List.foldr_cons, List.foldr_nil, List.setIfInBounds_toArray, List.set_cons_succ, List.set_cons_zero, g5]
        go_step
        exact fam_fin hK rfl ⟨a5, c5, rfl, s5⟩ (Below.refl _ _) hC
      · -- 7: Op.extract (Operand.tmp 63) 1
        obtain ⟨h5, -⟩ := hh
        obtain ⟨a5, c5, g5, s5⟩ := h5
        refine tab_plain fun K Q hK => ?_
        simp only [puts, List.foldr_cons, List.foldr_nil, List.setIfInBounds_toArray, List.set_cons_succ, List.set_cons_zero, g5]
        go_step
        refine fam_ex hK rfl rfl (by simp only [Act.put, List.setIfInBounds_toArray, List.set_cons_succ, List.set_cons_zero, Array.getD_eq_getD_getElem?, List.getElem?_toArray, List.getElem?_cons_succ, List.getElem?_cons_zero, Option.getD_some] <;> rfl) rfl (Below.refl _ _) hC
      · -- 8: Op.extract (Operand.tmp 63) 2
        obtain ⟨h5, -⟩ := hh
        obtain ⟨a5, c5, g5, s5⟩ := h5
        refine tab_plain fun K Q hK => ?_
        simp only [puts, List.foldr_cons, List.foldr_nil, List.setIfInBounds_toArray, List.set_cons_succ, List.set_cons_zero, g5]
        go_step
        refine fam_ex hK rfl rfl (by simp only [Act.put, List.setIfInBounds_toArray, List.set_cons_succ, List.set_cons_zero, Array.getD_eq_getD_getElem?, List.getElem?_toArray, List.getElem?_cons_succ, List.getElem?_cons_zero, Option.getD_some] <;> rfl) rfl (Below.refl _ _) hC
      · -- 9: Op.assign (Operand.tmp 69)
        obtain ⟨h6, h4, h0, h1, h2, h3, _, h5, _, -⟩ := hh
        obtain ⟨a6, c6, g6, s6⟩ := h6
        obtain ⟨a4, c4, g4, s4⟩ := h4
        have g0 : f 0 = _ := h0
        obtain ⟨y1, g1, s1⟩ := h1
        have g2 : f 2 = _ := h2
        obtain ⟨y3, g3, s3⟩ := h3
        obtain ⟨a5, c5, g5, s5⟩ := h5
        refine tab_plain fun K Q hK => ?_
        simp only [puts, List.foldr_cons, List.foldr_nil, List.setIfInBounds_toArray, List.set_cons_succ, List.set_cons_zero, g6, g4, g0, g1, g2, g3, g5]
        go_step
        exact fam_fin hK rfl ⟨a6, c6, rfl, s6⟩ (Below.refl _ _) hC
      · -- 10: Op.assign (Operand.tmp 70)
        obtain ⟨h7, h9, h0, h1, h2, h3, h4, h5, h6, _, _, -⟩ := hh
        have g7 : f 7 = _ := h7
        obtain ⟨a9, c9, g9, s9⟩ := h9
        have g0 : f 0 = _ := h0
        obtain ⟨y1, g1, s1⟩ := h1
        have g2 : f 2 = _ := h2
        obtain ⟨y3, g3, s3⟩ := h3
        obtain ⟨a4, c4, g4, s4⟩ := h4
        obtain ⟨a5, c5, g5, s5⟩ := h5
        obtain ⟨a6, c6, g6, s6⟩ := h6
        refine tab_plain fun K Q hK => ?_
        simp only [puts, List.foldr_cons, List.foldr_nil, List.setIfInBounds_toArray, List.set_cons_succ, List.set_cons_zero, g7, g9, g0, g1, g2, g3, g4, g5, g6]
        go_step
        refine fam_ex hK rfl rfl (by simp only [Act.put, List.setIfInBounds_toArray, List.set_cons_succ, List.set_cons_zero, Array.getD_eq_getD_getElem?, List.getElem?_toArray, List.getElem?_cons_succ, List.getElem?_cons_zero, Option.getD_some] <;> rfl) rfl (Below.refl _ _) hC
      · -- 11: Op.assign (Operand.tmp 71)
        obtain ⟨h8, h10, h0, h1, h2, h3, h4, h5, h6, h7, _, h9, _, -⟩ := hh
        have g8 : f 8 = _ := h8
        have g10 : f 10 = _ := h10
        have g0 : f 0 = _ := h0
        obtain ⟨y1, g1, s1⟩ := h1
        have g2 : f 2 = _ := h2
        obtain ⟨y3, g3, s3⟩ := h3
        obtain ⟨a4, c4, g4, s4⟩ := h4
        obtain ⟨a5, c5, g5, s5⟩ := h5
        obtain ⟨a6, c6, g6, s6⟩ := h6
        have g7 : f 7 = _ := h7
        obtain ⟨a9, c9, g9, s9⟩ := h9
        refine tab_plain fun K Q hK => ?_
        simp only [puts, List.foldr_cons, List.foldr_nil, List.setIfInBounds_toArray, List.set_cons_succ, List.set_cons_zero, g8, g10, g0, g1, g2, g3, g4, g5, g6, g7, g9]
        go_step
        refine fam_ex hK rfl rfl (by simp only [Act.put, List.setIfInBounds_toArray, List.set_cons_succ, List.set_cons_zero, Array.getD_eq_getD_getElem?, List.getElem?_toArray, List.getElem?_cons_succ, List.getElem?_cons_zero, Option.getD_some] <;> rfl) rfl (Below.refl _ _) hC
    case qrest =>
      intro f WS hC hh
      obtain ⟨h0, h1, h2, h3, h4, h5, h6, h7, h8, h9, h10, h11, -⟩ := hh
      have g0 : f 0 = _ := h0
      obtain ⟨y1, g1, s1⟩ := h1
      have g2 : f 2 = _ := h2
      obtain ⟨y3, g3, s3⟩ := h3
      obtain ⟨a4, c4, g4, s4⟩ := h4
      obtain ⟨a5, c5, g5, s5⟩ := h5
      obtain ⟨a6, c6, g6, s6⟩ := h6
      have g7 : f 7 = _ := h7
      have g8 : f 8 = _ := h8
      obtain ⟨a9, c9, g9, s9⟩ := h9
      have g10 : f 10 = _ := h10
      have g11 : f 11 = _ := h11
      simp only [puts, List.foldr_cons, List.foldr_nil, List.setIfInBounds_toArray, List.set_cons_succ, List.set_cons_zero, g0, g1, g2, g3, g4, g5, g6, g7, g8, g9, g10, g11]
      clear h0 h2 h7 h8 h10 h11 g0 g2 g7 g8 g10 g11
      have hb := hC
      clear hC
      replace c01 := cell_later hb c01
      replace c02 := cell_later hb c02
      replace c03 := cell_later hb c03
      replace c04 := cell_later hb c04
      replace c11 := cell_later hb c11
      replace c12 := cell_later hb c12
      replace c13 := cell_later hb c13
      replace c14 := cell_later hb c14
      replace cq1 := cell_later hb cq1
      replace cq2 := cell_later hb cq2
      replace cq3 := cell_later hb cq3
      replace cq4 := cell_later hb cq4
      replace cs1 := cell_later hb cs1
      replace cs2 := cell_later hb cs2
      replace cs3 := cell_later hb cs3
      replace cs4 := cell_later hb cs4
      replace ct1 := cell_later hb ct1
      replace ct2 := cell_later hb ct2
      replace ct3 := cell_later hb ct3
      replace ct4 := cell_later hb ct4
      replace ia := ia.later hb
      replace ib := ib.later hb
      replace ip := ip.later hb
      replace iq := iq.later hb
      replace ir := ir.later hb
      replace is := is.later hb
      replace it := it.later hb
      replace HB := HB.trans (hb.mono HB.size)
      clear hb
      clear g1 s1 g3 s3 g4 s4 g5 s5 g6 s6
      clear g9 s9
      cases X <;> cases Y
      · obtain rfl : Z = false := HZZ.out.symm
        have n1 := N1.out
        have d1 : decide (MA.n ≤ a.n) = true := decide_eq_true n1
        clear n1
        go_wp2_with (fail)
        refine (HX2.out _ _ _ it iq).mono ?_
        rintro e w25 ⟨rfl, hb⟩
        replace c01 := cell_later hb c01
        replace c02 := cell_later hb c02
        replace c03 := cell_later hb c03
        replace c04 := cell_later hb c04
        replace c11 := cell_later hb c11
        replace c12 := cell_later hb c12
        replace c13 := cell_later hb c13
        replace c14 := cell_later hb c14
        replace cq1 := cell_later hb cq1
        replace cq2 := cell_later hb cq2
        replace cq3 := cell_later hb cq3
        replace cq4 := cell_later hb cq4
        replace cs1 := cell_later hb cs1
        replace cs2 := cell_later hb cs2
        replace cs3 := cell_later hb cs3
        replace cs4 := cell_later hb cs4
        replace ct1 := cell_later hb ct1
        replace ct2 := cell_later hb ct2
        replace ct3 := cell_later hb ct3
        replace ct4 := cell_later hb ct4
        replace ia := ia.later hb
        replace ib := ib.later hb
        replace ip := ip.later hb
        replace iq := iq.later hb
        replace ir := ir.later hb
        replace is := is.later hb
        replace it := it.later hb
        replace HB := HB.trans (hb.mono HB.size)
        clear hb
        go_wp2_with (fail)
        refine (HX3.out _ _ _ iq is).mono ?_
        rintro e w26 ⟨rfl, hb⟩
        replace c01 := cell_later hb c01
        replace c02 := cell_later hb c02
        replace c03 := cell_later hb c03
        replace c04 := cell_later hb c04
        replace c11 := cell_later hb c11
        replace c12 := cell_later hb c12
        replace c13 := cell_later hb c13
        replace c14 := cell_later hb c14
        replace cq1 := cell_later hb cq1
        replace cq2 := cell_later hb cq2
        replace cq3 := cell_later hb cq3
        replace cq4 := cell_later hb cq4
        replace cs1 := cell_later hb cs1
        replace cs2 := cell_later hb cs2
        replace cs3 := cell_later hb cs3
        replace cs4 := cell_later hb cs4
        replace ct1 := cell_later hb ct1
        replace ct2 := cell_later hb ct2
        replace ct3 := cell_later hb ct3
        replace ct4 := cell_later hb ct4
        replace ia := ia.later hb
        replace ib := ib.later hb
        replace ip := ip.later hb
        replace iq := iq.later hb
        replace ir := ir.later hb
        replace is := is.later hb
        replace it := it.later hb
        replace HB := HB.trans (hb.mono HB.size)
        clear hb
        go_wp2_with (fail)
        go_ret
        exact ⟨rfl, HB⟩
      · obtain rfl : Z = false := HZZ.out.symm
        have n1 := N1.out
        have d1 : decide (MA.n ≤ a.n) = true := decide_eq_true n1
        clear n1
        go_wp2_with (fail)
        refine (HX2.out _ _ _ it iq).mono ?_
        rintro e w27 ⟨rfl, hb⟩
        replace c01 := cell_later hb c01
        replace c02 := cell_later hb c02
        replace c03 := cell_later hb c03
        replace c04 := cell_later hb c04
        replace c11 := cell_later hb c11
        replace c12 := cell_later hb c12
        replace c13 := cell_later hb c13
        replace c14 := cell_later hb c14
        replace cq1 := cell_later hb cq1
        replace cq2 := cell_later hb cq2
        replace cq3 := cell_later hb cq3
        replace cq4 := cell_later hb cq4
        replace cs1 := cell_later hb cs1
        replace cs2 := cell_later hb cs2
        replace cs3 := cell_later hb cs3
        replace cs4 := cell_later hb cs4
        replace ct1 := cell_later hb ct1
        replace ct2 := cell_later hb ct2
        replace ct3 := cell_later hb ct3
        replace ct4 := cell_later hb ct4
        replace ia := ia.later hb
        replace ib := ib.later hb
        replace ip := ip.later hb
        replace iq := iq.later hb
        replace ir := ir.later hb
        replace is := is.later hb
        replace it := it.later hb
        replace HB := HB.trans (hb.mono HB.size)
        clear hb
        go_wp2_with (fail)
        refine (HX3.out _ _ _ iq is).mono ?_
        rintro e w28 ⟨rfl, hb⟩
        replace c01 := cell_later hb c01
        replace c02 := cell_later hb c02
        replace c03 := cell_later hb c03
        replace c04 := cell_later hb c04
        replace c11 := cell_later hb c11
        replace c12 := cell_later hb c12
        replace c13 := cell_later hb c13
        replace c14 := cell_later hb c14
        replace cq1 := cell_later hb cq1
        replace cq2 := cell_later hb cq2
        replace cq3 := cell_later hb cq3
        replace cq4 := cell_later hb cq4
        replace cs1 := cell_later hb cs1
        replace cs2 := cell_later hb cs2
        replace cs3 := cell_later hb cs3
        replace cs4 := cell_later hb cs4
        replace ct1 := cell_later hb ct1
        replace ct2 := cell_later hb ct2
        replace ct3 := cell_later hb ct3
        replace ct4 := cell_later hb ct4
        replace ia := ia.later hb
        replace ib := ib.later hb
        replace ip := ip.later hb
        replace iq := iq.later hb
        replace ir := ir.later hb
        replace is := is.later hb
        replace it := it.later hb
        replace HB := HB.trans (hb.mono HB.size)
        clear hb
        go_wp2_with (fail)
        go_ret
        exact ⟨rfl, HB⟩
      · obtain rfl : Z = false := HZZ.out.symm
        have n1 := N1.out
        have d1 : decide (MA.n ≤ a.n) = true := decide_eq_true n1
        clear n1
        go_wp2_with (fail)
        refine (HX2.out _ _ _ it iq).mono ?_
        rintro e w29 ⟨rfl, hb⟩
        replace c01 := cell_later hb c01
        replace c02 := cell_later hb c02
        replace c03 := cell_later hb c03
        replace c04 := cell_later hb c04
        replace c11 := cell_later hb c11
        replace c12 := cell_later hb c12
        replace c13 := cell_later hb c13
        replace c14 := cell_later hb c14
        replace cq1 := cell_later hb cq1
        replace cq2 := cell_later hb cq2
        replace cq3 := cell_later hb cq3
        replace cq4 := cell_later hb cq4
        replace cs1 := cell_later hb cs1
        replace cs2 := cell_later hb cs2
        replace cs3 := cell_later hb cs3
        replace cs4 := cell_later hb cs4
        replace ct1 := cell_later hb ct1
        replace ct2 := cell_later hb ct2
        replace ct3 := cell_later hb ct3
        replace ct4 := cell_later hb ct4
        replace ia := ia.later hb
        replace ib := ib.later hb
        replace ip := ip.later hb
        replace iq := iq.later hb
        replace ir := ir.later hb
        replace is := is.later hb
        replace it := it.later hb
        replace HB := HB.trans (hb.mono HB.size)
        clear hb
        go_wp2_with (fail)
        refine (HX3.out _ _ _ iq is).mono ?_
        rintro e w30 ⟨rfl, hb⟩
        replace c01 := cell_later hb c01
        replace c02 := cell_later hb c02
        replace c03 := cell_later hb c03
        replace c04 := cell_later hb c04
        replace c11 := cell_later hb c11
        replace c12 := cell_later hb c12
        replace c13 := cell_later hb c13
        replace c14 := cell_later hb c14
        replace cq1 := cell_later hb cq1
        replace cq2 := cell_later hb cq2
        replace cq3 := cell_later hb cq3
        replace cq4 := cell_later hb cq4
        replace cs1 := cell_later hb cs1
        replace cs2 := cell_later hb cs2
        replace cs3 := cell_later hb cs3
        replace cs4 := cell_later hb cs4
        replace ct1 := cell_later hb ct1
        replace ct2 := cell_later hb ct2
        replace ct3 := cell_later hb ct3
        replace ct4 := cell_later hb ct4
        replace ia := ia.later hb
        replace ib := ib.later hb
        replace ip := ip.later hb
        replace iq := iq.later hb
        replace ir := ir.later hb
        replace is := is.later hb
        replace it := it.later hb
        replace HB := HB.trans (hb.mono HB.size)
        clear hb
        go_wp2_with (fail)
        go_ret
        exact ⟨rfl, HB⟩
      · obtain rfl : Z = true := HZZ.out.symm
        have n1 := N1.out
        have n3 : MA.n ≤ b.n := N3.out rfl rfl
        have d1 : decide (MA.n ≤ a.n) = true := decide_eq_true n1
        have d2 : decide (MA.n ≤ b.n) = true := decide_eq_true n3
        clear n1 n3
        go_wp2_with (fail)
        refine (HX2.out _ _ _ it iq).mono ?_
        rintro e w31 ⟨rfl, hb⟩
        replace c01 := cell_later hb c01
        replace c02 := cell_later hb c02
        replace c03 := cell_later hb c03
        replace c04 := cell_later hb c04
        replace c11 := cell_later hb c11
        replace c12 := cell_later hb c12
        replace c13 := cell_later hb c13
        replace c14 := cell_later hb c14
        replace cq1 := cell_later hb cq1
        replace cq2 := cell_later hb cq2
        replace cq3 := cell_later hb cq3
        replace cq4 := cell_later hb cq4
        replace cs1 := cell_later hb cs1
        replace cs2 := cell_later hb cs2
        replace cs3 := cell_later hb cs3
        replace cs4 := cell_later hb cs4
        replace ct1 := cell_later hb ct1
        replace ct2 := cell_later hb ct2
        replace ct3 := cell_later hb ct3
        replace ct4 := cell_later hb ct4
        replace ia := ia.later hb
        replace ib := ib.later hb
        replace ip := ip.later hb
        replace iq := iq.later hb
        replace ir := ir.later hb
        replace is := is.later hb
        replace it := it.later hb
        replace HB := HB.trans (hb.mono HB.size)
        clear hb
        go_wp2_with (fail)
        refine (HX3.out _ _ _ iq is).mono ?_
        rintro e w32 ⟨rfl, hb⟩
        replace c01 := cell_later hb c01
        replace c02 := cell_later hb c02
        replace c03 := cell_later hb c03
        replace c04 := cell_later hb c04
        replace c11 := cell_later hb c11
        replace c12 := cell_later hb c12
        replace c13 := cell_later hb c13
        replace c14 := cell_later hb c14
        replace cq1 := cell_later hb cq1
        replace cq2 := cell_later hb cq2
        replace cq3 := cell_later hb cq3
        replace cq4 := cell_later hb cq4
        replace cs1 := cell_later hb cs1
        replace cs2 := cell_later hb cs2
        replace cs3 := cell_later hb cs3
        replace cs4 := cell_later hb cs4
        replace ct1 := cell_later hb ct1
        replace ct2 := cell_later hb ct2
        replace ct3 := cell_later hb ct3
        replace ct4 := cell_later hb ct4
        replace ia := ia.later hb
        replace ib := ib.later hb
        replace ip := ip.later hb
        replace iq := iq.later hb
        replace ir := ir.later hb
        replace is := is.later hb
        replace it := it.later hb
        replace HB := HB.trans (hb.mono HB.size)
        clear hb
        go_wp2_with (fail)
        go_ret
        exact ⟨rfl, HB⟩
theorem dfaMinimal_top (a : Dfa) (h : DH) (b : Dfa) (k : DH) (w : World) (ia : IsDfa w h a) (ib : IsDfa w k b) :
    Calls Try.prog 8 #[vDf a h, vDf b k] w fun e w' => e = .returned (.bool true) ∧ Below w.heap.size w w' := dfaMinimal_walk a h b k w ia ib
end Go.Proofs.Ytehdkcjoaogbeaa
