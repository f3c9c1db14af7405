/-
  BitsAlgebra: the walk.
-/
import Derived.Test.YtmeldbddbinnbaaDoorBitAm
set_option linter.unusedSimpArgs false
set_option linter.unusedVariables false
namespace Go.Proofs.YtmeldbddbinnbaaDoor
open Go.RowKit Go.Shelf
attribute [local go_sem] Oper.semAt_some

set_option maxHeartbeats 4000000 in
theorem bitsAlgebra_walk (a0 : Option Addr) (len0 cap0 : Nat) (z0 : List Int) (a1 : Option Addr) (len1 cap1 : Nat) (z1 : List Int) (a2 : Option Addr) (len2 cap2 : Nat) (z2 : List Int) (w : World) (i0 : IsInts .u64 w a0 len0 cap0 z0) (b0 : ∀ n ∈ z0, (Lit.int .u64 n).wf = true) (m0 : cap0 * 8 ≤ 140737488351232) (i1 : IsInts .u64 w a1 len1 cap1 z1) (b1 : ∀ n ∈ z1, (Lit.int .u64 n).wf = true) (m1 : cap1 * 8 ≤ 140737488351232) (i2 : IsInts .u64 w a2 len2 cap2 z2) (b2 : ∀ n ∈ z2, (Lit.int .u64 n).wf = true) (m2 : cap2 * 8 ≤ 140737488351232) (hT : TabAt 0 Lib.deBruijn64tab w) :
    Calls Tryd.prog 8 #[.slice a0 len0 cap0, .slice a1 len1 cap1, .slice a2 len2 cap2] w fun e w' => e = .returned (.bool true) ∧ Below w.heap.size w w' := by
  by_cases hf : len0 ≤ 70 ∧ len1 ≤ 70
  · obtain ⟨s0, s1⟩ := hf
    by_cases hg : len2 ≤ 70 ∧ 0 ≤ 70
    · have s2 := hg.1
      have x0 := w64_of_wf b0
      have x1 := w64_of_wf b1
      have x2 := w64_of_wf b2
      have HB := Below.refl w.heap.size w
      go_enter Tryd.func8, Tryd.ntmps8
      go_wp2_with (fail)
      refine (awake_any w hT).mono ?_
      rintro e w1 ⟨rfl, hb⟩
      replace i0 := i0.later hb
      replace i1 := i1.later hb
      replace i2 := i2.later hb
      replace hT := TabAt.later hT hb
      replace HB := HB.trans (hb.mono HB.size)
      clear hb
      go_wp2_with (fail)
      refine (few_yes _ _ s0 s1).mono ?_
      rintro e w2 ⟨rfl, rfl⟩
      go_wp2_with (fail)
      refine (few_yes _ _ s2 (Nat.zero_le _)).mono ?_
      rintro e w3 ⟨rfl, rfl⟩
      go_wp2_with (fail)
      refine (union_s i0 i1 x0 x1 (by omega) (by omega)).mono ?_
      rintro e w4 ⟨gU, tU, zU, rfl, iU, cU, sU, hb⟩
      have xU := cU.1
      have bU := Lib.hid cU.2.2
      replace i0 := i0.later hb
      replace i1 := i1.later hb
      replace i2 := i2.later hb
      replace hT := TabAt.later hT hb
      replace HB := HB.trans (hb.mono HB.size)
      clear hb
      go_wp2_with (fail)
      refine (inter_s i0 i1 x0 x1 (by omega) (by omega)).mono ?_
      rintro e w5 ⟨gV, tV, zV, rfl, iV, cV, sV, hb⟩
      have xV := cV.1
      have bV := Lib.hid cV.2.2
      replace i0 := i0.later hb
      replace i1 := i1.later hb
      replace i2 := i2.later hb
      replace iU := iU.later hb
      replace hT := TabAt.later hT hb
      replace HB := HB.trans (hb.mono HB.size)
      clear hb
      go_wp2_with (fail)
      refine (union_s i1 i0 x1 x0 (by omega) (by omega)).mono ?_
      rintro e w6 ⟨gP, tP, zP, rfl, iP, cP, sP, hb⟩
      have xP := cP.1
      have bP := Lib.hid cP.2.2
      replace i0 := i0.later hb
      replace i1 := i1.later hb
      replace i2 := i2.later hb
      replace iU := iU.later hb
      replace iV := iV.later hb
      replace hT := TabAt.later hT hb
      replace HB := HB.trans (hb.mono HB.size)
      clear hb
      go_wp2_with (fail)
      refine (equal_yes iU iP xU xP (by intro n hn; simp only [bU.out n hn, bP.out n hn]; cases bt z0 n <;> cases bt z1 n <;> cases bt z2 n <;> rfl)).mono ?_
      rintro e w7 ⟨rfl, hb⟩
      replace i0 := i0.later hb
      replace i1 := i1.later hb
      replace i2 := i2.later hb
      replace iU := iU.later hb
      replace iV := iV.later hb
      replace iP := iP.later hb
      replace hT := TabAt.later hT hb
      replace HB := HB.trans (hb.mono HB.size)
      clear hb
      go_wp2_with (fail)
      refine (inter_s i1 i0 x1 x0 (by omega) (by omega)).mono ?_
      rintro e w8 ⟨gP, tP, zP, rfl, iP, cP, sP, hb⟩
      have xP := cP.1
      have bP := Lib.hid cP.2.2
      replace i0 := i0.later hb
      replace i1 := i1.later hb
      replace i2 := i2.later hb
      replace iU := iU.later hb
      replace iV := iV.later hb
      replace hT := TabAt.later hT hb
      replace HB := HB.trans (hb.mono HB.size)
      clear hb
      go_wp2_with (fail)
      refine (equal_yes iV iP xV xP (by intro n hn; simp only [bV.out n hn, bP.out n hn]; cases bt z0 n <;> cases bt z1 n <;> cases bt z2 n <;> rfl)).mono ?_
      rintro e w9 ⟨rfl, hb⟩
      replace i0 := i0.later hb
      replace i1 := i1.later hb
      replace i2 := i2.later hb
      replace iU := iU.later hb
      replace iV := iV.later hb
      replace iP := iP.later hb
      replace hT := TabAt.later hT hb
      replace HB := HB.trans (hb.mono HB.size)
      clear hb
      go_wp2_with (fail)
      refine (union_s i0 i0 x0 x0 (by omega) (by omega)).mono ?_
      rintro e w10 ⟨gP, tP, zP, rfl, iP, cP, sP, hb⟩
      have xP := cP.1
      have bP := Lib.hid cP.2.2
      replace i0 := i0.later hb
      replace i1 := i1.later hb
      replace i2 := i2.later hb
      replace iU := iU.later hb
      replace iV := iV.later hb
      replace hT := TabAt.later hT hb
      replace HB := HB.trans (hb.mono HB.size)
      clear hb
      go_wp2_with (fail)
      refine (equal_yes iP i0 xP x0 (by intro n hn; simp only [bP.out n hn]; cases bt z0 n <;> cases bt z1 n <;> cases bt z2 n <;> rfl)).mono ?_
      rintro e w11 ⟨rfl, hb⟩
      replace i0 := i0.later hb
      replace i1 := i1.later hb
      replace i2 := i2.later hb
      replace iU := iU.later hb
      replace iV := iV.later hb
      replace iP := iP.later hb
      replace hT := TabAt.later hT hb
      replace HB := HB.trans (hb.mono HB.size)
      clear hb
      go_wp2_with (fail)
      refine (inter_s i0 i0 x0 x0 (by omega) (by omega)).mono ?_
      rintro e w12 ⟨gP, tP, zP, rfl, iP, cP, sP, hb⟩
      have xP := cP.1
      have bP := Lib.hid cP.2.2
      replace i0 := i0.later hb
      replace i1 := i1.later hb
      replace i2 := i2.later hb
      replace iU := iU.later hb
      replace iV := iV.later hb
      replace hT := TabAt.later hT hb
      replace HB := HB.trans (hb.mono HB.size)
      clear hb
      go_wp2_with (fail)
      refine (equal_yes iP i0 xP x0 (by intro n hn; simp only [bP.out n hn]; cases bt z0 n <;> cases bt z1 n <;> cases bt z2 n <;> rfl)).mono ?_
      rintro e w13 ⟨rfl, hb⟩
      replace i0 := i0.later hb
      replace i1 := i1.later hb
      replace i2 := i2.later hb
      replace iU := iU.later hb
      replace iV := iV.later hb
      replace iP := iP.later hb
      replace hT := TabAt.later hT hb
      replace HB := HB.trans (hb.mono HB.size)
      clear hb
      go_wp2_with (fail)
      refine (union_s iU i2 xU x2 (by omega) (by omega)).mono ?_
      rintro e w14 ⟨gP, tP, zP, rfl, iP, cP, sP, hb⟩
      have xP := cP.1
      have bP := Lib.hid cP.2.2
      replace i0 := i0.later hb
      replace i1 := i1.later hb
      replace i2 := i2.later hb
      replace iU := iU.later hb
      replace iV := iV.later hb
      replace hT := TabAt.later hT hb
      replace HB := HB.trans (hb.mono HB.size)
      clear hb
      go_wp2_with (fail)
      refine (union_s i1 i2 x1 x2 (by omega) (by omega)).mono ?_
      rintro e w15 ⟨gQ, tQ, zQ, rfl, iQ, cQ, sQ, hb⟩
      have xQ := cQ.1
      have bQ := Lib.hid cQ.2.2
      replace i0 := i0.later hb
      replace i1 := i1.later hb
      replace i2 := i2.later hb
      replace iU := iU.later hb
      replace iV := iV.later hb
      replace iP := iP.later hb
      replace hT := TabAt.later hT hb
      replace HB := HB.trans (hb.mono HB.size)
      clear hb
      go_wp2_with (fail)
      refine (union_s i0 iQ x0 xQ (by omega) (by omega)).mono ?_
      rintro e w16 ⟨gR, tR, zR, rfl, iR, cR, sR, hb⟩
      have xR := cR.1
      have bR := Lib.hid cR.2.2
      replace i0 := i0.later hb
      replace i1 := i1.later hb
      replace i2 := i2.later hb
      replace iU := iU.later hb
      replace iV := iV.later hb
      replace iP := iP.later hb
      replace iQ := iQ.later hb
      replace hT := TabAt.later hT hb
      replace HB := HB.trans (hb.mono HB.size)
      clear hb
      go_wp2_with (fail)
      refine (equal_yes iP iR xP xR (by intro n hn; simp only [bP.out n hn, bU.out n hn, bR.out n hn, bQ.out n hn]; cases bt z0 n <;> cases bt z1 n <;> cases bt z2 n <;> rfl)).mono ?_
      rintro e w17 ⟨rfl, hb⟩
      replace i0 := i0.later hb
      replace i1 := i1.later hb
      replace i2 := i2.later hb
      replace iU := iU.later hb
      replace iV := iV.later hb
      replace iP := iP.later hb
      replace iQ := iQ.later hb
      replace iR := iR.later hb
      replace hT := TabAt.later hT hb
      replace HB := HB.trans (hb.mono HB.size)
      clear hb
      go_wp2_with (fail)
      refine (inter_s iV i2 xV x2 (by omega) (by omega)).mono ?_
      rintro e w18 ⟨gP, tP, zP, rfl, iP, cP, sP, hb⟩
      have xP := cP.1
      have bP := Lib.hid cP.2.2
      replace i0 := i0.later hb
      replace i1 := i1.later hb
      replace i2 := i2.later hb
      replace iU := iU.later hb
      replace iV := iV.later hb
      replace hT := TabAt.later hT hb
      replace HB := HB.trans (hb.mono HB.size)
      clear hb
      go_wp2_with (fail)
      refine (inter_s i1 i2 x1 x2 (by omega) (by omega)).mono ?_
      rintro e w19 ⟨gQ, tQ, zQ, rfl, iQ, cQ, sQ, hb⟩
      have xQ := cQ.1
      have bQ := Lib.hid cQ.2.2
      replace i0 := i0.later hb
      replace i1 := i1.later hb
      replace i2 := i2.later hb
      replace iU := iU.later hb
      replace iV := iV.later hb
      replace iP := iP.later hb
      replace hT := TabAt.later hT hb
      replace HB := HB.trans (hb.mono HB.size)
      clear hb
      go_wp2_with (fail)
      refine (inter_s i0 iQ x0 xQ (by omega) (by omega)).mono ?_
      rintro e w20 ⟨gR, tR, zR, rfl, iR, cR, sR, hb⟩
      have xR := cR.1
      have bR := Lib.hid cR.2.2
      replace i0 := i0.later hb
      replace i1 := i1.later hb
      replace i2 := i2.later hb
      replace iU := iU.later hb
      replace iV := iV.later hb
      replace iP := iP.later hb
      replace iQ := iQ.later hb
      replace hT := TabAt.later hT hb
      replace HB := HB.trans (hb.mono HB.size)
      clear hb
      go_wp2_with (fail)
      refine (equal_yes iP iR xP xR (by intro n hn; simp only [bP.out n hn, bV.out n hn, bR.out n hn, bQ.out n hn]; cases bt z0 n <;> cases bt z1 n <;> cases bt z2 n <;> rfl)).mono ?_
      rintro e w21 ⟨rfl, hb⟩
      replace i0 := i0.later hb
      replace i1 := i1.later hb
      replace i2 := i2.later hb
      replace iU := iU.later hb
      replace iV := iV.later hb
      replace iP := iP.later hb
      replace iQ := iQ.later hb
      replace iR := iR.later hb
      replace hT := TabAt.later hT hb
      replace HB := HB.trans (hb.mono HB.size)
      clear hb
      go_wp2_with (fail)
      refine (inter_s iU i2 xU x2 (by omega) (by omega)).mono ?_
      rintro e w22 ⟨gP, tP, zP, rfl, iP, cP, sP, hb⟩
      have xP := cP.1
      have bP := Lib.hid cP.2.2
      replace i0 := i0.later hb
      replace i1 := i1.later hb
      replace i2 := i2.later hb
      replace iU := iU.later hb
      replace iV := iV.later hb
      replace hT := TabAt.later hT hb
      replace HB := HB.trans (hb.mono HB.size)
      clear hb
      go_wp2_with (fail)
      refine (inter_s i0 i2 x0 x2 (by omega) (by omega)).mono ?_
      rintro e w23 ⟨gQ, tQ, zQ, rfl, iQ, cQ, sQ, hb⟩
      have xQ := cQ.1
      have bQ := Lib.hid cQ.2.2
      replace i0 := i0.later hb
      replace i1 := i1.later hb
      replace i2 := i2.later hb
      replace iU := iU.later hb
      replace iV := iV.later hb
      replace iP := iP.later hb
      replace hT := TabAt.later hT hb
      replace HB := HB.trans (hb.mono HB.size)
      clear hb
      go_wp2_with (fail)
      refine (inter_s i1 i2 x1 x2 (by omega) (by omega)).mono ?_
      rintro e w24 ⟨gR, tR, zR, rfl, iR, cR, sR, hb⟩
      have xR := cR.1
      have bR := Lib.hid cR.2.2
      replace i0 := i0.later hb
      replace i1 := i1.later hb
      replace i2 := i2.later hb
      replace iU := iU.later hb
      replace iV := iV.later hb
      replace iP := iP.later hb
      replace iQ := iQ.later hb
      replace hT := TabAt.later hT hb
      replace HB := HB.trans (hb.mono HB.size)
      clear hb
      go_wp2_with (fail)
      refine (union_s iQ iR xQ xR (by omega) (by omega)).mono ?_
      rintro e w25 ⟨gS, tS, zS, rfl, iS, cS, sS, hb⟩
      have xS := cS.1
      have bS := Lib.hid cS.2.2
      replace i0 := i0.later hb
      replace i1 := i1.later hb
      replace i2 := i2.later hb
      replace iU := iU.later hb
      replace iV := iV.later hb
      replace iP := iP.later hb
      replace iQ := iQ.later hb
      replace iR := iR.later hb
      replace hT := TabAt.later hT hb
      replace HB := HB.trans (hb.mono HB.size)
      clear hb
      go_wp2_with (fail)
      refine (equal_yes iP iS xP xS (by intro n hn; simp only [bP.out n hn, bU.out n hn, bS.out n hn, bQ.out n hn, bR.out n hn]; cases bt z0 n <;> cases bt z1 n <;> cases bt z2 n <;> rfl)).mono ?_
      rintro e w26 ⟨rfl, hb⟩
      replace i0 := i0.later hb
      replace i1 := i1.later hb
      replace i2 := i2.later hb
      replace iU := iU.later hb
      replace iV := iV.later hb
      replace iP := iP.later hb
      replace iQ := iQ.later hb
      replace iR := iR.later hb
      replace iS := iS.later hb
      replace hT := TabAt.later hT hb
      replace HB := HB.trans (hb.mono HB.size)
      clear hb
      go_wp2_with (fail)
      refine (union_s iV i2 xV x2 (by omega) (by omega)).mono ?_
      rintro e w27 ⟨gP, tP, zP, rfl, iP, cP, sP, hb⟩
      have xP := cP.1
      have bP := Lib.hid cP.2.2
      replace i0 := i0.later hb
      replace i1 := i1.later hb
      replace i2 := i2.later hb
      replace iU := iU.later hb
      replace iV := iV.later hb
      replace hT := TabAt.later hT hb
      replace HB := HB.trans (hb.mono HB.size)
      clear hb
      go_wp2_with (fail)
      refine (union_s i0 i2 x0 x2 (by omega) (by omega)).mono ?_
      rintro e w28 ⟨gQ, tQ, zQ, rfl, iQ, cQ, sQ, hb⟩
      have xQ := cQ.1
      have bQ := Lib.hid cQ.2.2
      replace i0 := i0.later hb
      replace i1 := i1.later hb
      replace i2 := i2.later hb
      replace iU := iU.later hb
      replace iV := iV.later hb
      replace iP := iP.later hb
      replace hT := TabAt.later hT hb
      replace HB := HB.trans (hb.mono HB.size)
      clear hb
      go_wp2_with (fail)
      refine (union_s i1 i2 x1 x2 (by omega) (by omega)).mono ?_
      rintro e w29 ⟨gR, tR, zR, rfl, iR, cR, sR, hb⟩
      have xR := cR.1
      have bR := Lib.hid cR.2.2
      replace i0 := i0.later hb
      replace i1 := i1.later hb
      replace i2 := i2.later hb
      replace iU := iU.later hb
      replace iV := iV.later hb
      replace iP := iP.later hb
      replace iQ := iQ.later hb
      replace hT := TabAt.later hT hb
      replace HB := HB.trans (hb.mono HB.size)
      clear hb
      go_wp2_with (fail)
      refine (inter_s iQ iR xQ xR (by omega) (by omega)).mono ?_
      rintro e w30 ⟨gS, tS, zS, rfl, iS, cS, sS, hb⟩
      have xS := cS.1
      have bS := Lib.hid cS.2.2
      replace i0 := i0.later hb
      replace i1 := i1.later hb
      replace i2 := i2.later hb
      replace iU := iU.later hb
      replace iV := iV.later hb
      replace iP := iP.later hb
      replace iQ := iQ.later hb
      replace iR := iR.later hb
      replace hT := TabAt.later hT hb
      replace HB := HB.trans (hb.mono HB.size)
      clear hb
      go_wp2_with (fail)
      refine (equal_yes iP iS xP xS (by intro n hn; simp only [bP.out n hn, bV.out n hn, bS.out n hn, bQ.out n hn, bR.out n hn]; cases bt z0 n <;> cases bt z1 n <;> cases bt z2 n <;> rfl)).mono ?_
      rintro e w31 ⟨rfl, hb⟩
      replace i0 := i0.later hb
      replace i1 := i1.later hb
      replace i2 := i2.later hb
      replace iU := iU.later hb
      replace iV := iV.later hb
      replace iP := iP.later hb
      replace iQ := iQ.later hb
      replace iR := iR.later hb
      replace iS := iS.later hb
      replace hT := TabAt.later hT hb
      replace HB := HB.trans (hb.mono HB.size)
      clear hb
      go_wp2_with (fail)
      refine (minus_s i0 i1 x0 x1 (by omega) (by omega)).mono ?_
      rintro e w32 ⟨gD, tD, zD, rfl, iD, cD, sD, hb⟩
      have xD := cD.1
      have bD := Lib.hid cD.2.2
      replace i0 := i0.later hb
      replace i1 := i1.later hb
      replace i2 := i2.later hb
      replace iU := iU.later hb
      replace iV := iV.later hb
      replace hT := TabAt.later hT hb
      replace HB := HB.trans (hb.mono HB.size)
      clear hb
      go_wp2_with (fail)
      refine (union_s iV iD xV xD (by omega) (by omega)).mono ?_
      rintro e w33 ⟨gP, tP, zP, rfl, iP, cP, sP, hb⟩
      have xP := cP.1
      have bP := Lib.hid cP.2.2
      replace i0 := i0.later hb
      replace i1 := i1.later hb
      replace i2 := i2.later hb
      replace iU := iU.later hb
      replace iV := iV.later hb
      replace iD := iD.later hb
      replace hT := TabAt.later hT hb
      replace HB := HB.trans (hb.mono HB.size)
      clear hb
      go_wp2_with (fail)
      refine (equal_yes iP i0 xP x0 (by intro n hn; simp only [bP.out n hn, bV.out n hn, bD.out n hn]; cases bt z0 n <;> cases bt z1 n <;> cases bt z2 n <;> rfl)).mono ?_
      rintro e w34 ⟨rfl, hb⟩
      replace i0 := i0.later hb
      replace i1 := i1.later hb
      replace i2 := i2.later hb
      replace iU := iU.later hb
      replace iV := iV.later hb
      replace iD := iD.later hb
      replace iP := iP.later hb
      replace hT := TabAt.later hT hb
      replace HB := HB.trans (hb.mono HB.size)
      clear hb
      go_wp2_with (fail)
      refine (inter_s iV iD xV xD (by omega) (by omega)).mono ?_
      rintro e w35 ⟨gP, tP, zP, rfl, iP, cP, sP, hb⟩
      have xP := cP.1
      have bP := Lib.hid cP.2.2
      replace i0 := i0.later hb
      replace i1 := i1.later hb
      replace i2 := i2.later hb
      replace iU := iU.later hb
      replace iV := iV.later hb
      replace iD := iD.later hb
      replace hT := TabAt.later hT hb
      replace HB := HB.trans (hb.mono HB.size)
      clear hb
      go_wp2_with (fail)
      refine (len_zero iP xP (by intro n hn; simp only [bP.out n hn, bV.out n hn, bD.out n hn]; cases bt z0 n <;> cases bt z1 n <;> rfl)).mono ?_
      rintro e w36 ⟨rfl, hb⟩
      replace i0 := i0.later hb
      replace i1 := i1.later hb
      replace i2 := i2.later hb
      replace iU := iU.later hb
      replace iV := iV.later hb
      replace iD := iD.later hb
      replace iP := iP.later hb
      replace hT := TabAt.later hT hb
      replace HB := HB.trans (hb.mono HB.size)
      clear hb
      go_wp2_with (fail)
      refine (inter_s iD i1 xD x1 (by omega) (by omega)).mono ?_
      rintro e w37 ⟨gP, tP, zP, rfl, iP, cP, sP, hb⟩
      have xP := cP.1
      have bP := Lib.hid cP.2.2
      replace i0 := i0.later hb
      replace i1 := i1.later hb
      replace i2 := i2.later hb
      replace iU := iU.later hb
      replace iV := iV.later hb
      replace iD := iD.later hb
      replace hT := TabAt.later hT hb
      replace HB := HB.trans (hb.mono HB.size)
      clear hb
      go_wp2_with (fail)
      refine (len_zero iP xP (by intro n hn; simp only [bP.out n hn, bD.out n hn]; cases bt z0 n <;> cases bt z1 n <;> rfl)).mono ?_
      rintro e w38 ⟨rfl, hb⟩
      replace i0 := i0.later hb
      replace i1 := i1.later hb
      replace i2 := i2.later hb
      replace iU := iU.later hb
      replace iV := iV.later hb
      replace iD := iD.later hb
      replace iP := iP.later hb
      replace hT := TabAt.later hT hb
      replace HB := HB.trans (hb.mono HB.size)
      clear hb
      go_wp2_with (fail)
      go_ret
      exact ⟨rfl, HB⟩
    · clear i0 i1 i2
      have HB := Below.refl w.heap.size w
      go_enter Tryd.func8, Tryd.ntmps8
      go_wp2_with (fail)
      refine (awake_any w hT).mono ?_
      rintro e w1 ⟨rfl, hb⟩
      replace hT := TabAt.later hT hb
      replace HB := HB.trans (hb.mono HB.size)
      clear hb
      go_wp2_with (fail)
      refine (few_yes _ _ s0 s1).mono ?_
      rintro e w2 ⟨rfl, rfl⟩
      go_wp2_with (fail)
      refine (few_no _ _ hg).mono ?_
      rintro e w3 ⟨rfl, rfl⟩
      go_wp2_with (fail)
      go_ret
      exact ⟨rfl, HB⟩
  · clear i0 i1 i2
    have HB := Below.refl w.heap.size w
    go_enter Tryd.func8, Tryd.ntmps8
    go_wp2_with (fail)
    refine (awake_any w hT).mono ?_
    rintro e w1 ⟨rfl, hb⟩
    replace hT := TabAt.later hT hb
    replace HB := HB.trans (hb.mono HB.size)
    clear hb
    go_wp2_with (fail)
    refine (few_no _ _ hf).mono ?_
    rintro e w2 ⟨rfl, rfl⟩
    go_wp2_with (fail)
    go_ret
    exact ⟨rfl, HB⟩
end Go.Proofs.YtmeldbddbinnbaaDoor
