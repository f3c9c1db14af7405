/-
  BitsSubsets: the walk.
-/
import Derived.Test.YtmeldbddbinnbaaDoorBitAm
set_option linter.unusedSimpArgs false
set_option linter.unusedVariables false
namespace Go.Proofs.YtmeldbddbinnbaaDoor
open Go.RowKit Go.Shelf
attribute [local go_sem] Oper.semAt_some

set_option maxHeartbeats 4000000 in
theorem bitsSubsets_walk (a0 : Option Addr) (len0 cap0 : Nat) (z0 : List Int) (a1 : Option Addr) (len1 cap1 : Nat) (z1 : List Int) (w : World) (i0 : IsInts .u64 w a0 len0 cap0 z0) (b0 : ∀ n ∈ z0, (Lit.int .u64 n).wf = true) (m0 : cap0 * 8 ≤ 140737488351232) (i1 : IsInts .u64 w a1 len1 cap1 z1) (b1 : ∀ n ∈ z1, (Lit.int .u64 n).wf = true) (m1 : cap1 * 8 ≤ 140737488351232) (hT : TabAt 0 Lib.deBruijn64tab w) :
    Calls Tryd.prog 9 #[.slice a0 len0 cap0, .slice a1 len1 cap1] w fun e w' => e = .returned (.bool true) ∧ Below w.heap.size w w' := by
  by_cases hf : len0 ≤ 70 ∧ len1 ≤ 70
  · obtain ⟨s0, s1⟩ := hf
    have x0 := w64_of_wf b0
    have x1 := w64_of_wf b1
    by_cases hS : ∀ n, n < 4096 → bt z0 n = true → bt z1 n = true
    · have hS := Lib.hid hS
      have HB := Below.refl w.heap.size w
      go_enter Tryd.func9, Tryd.ntmps9
      go_wp2_with (fail)
      refine (awake_any w hT).mono ?_
      rintro e w1 ⟨rfl, hb⟩
      replace i0 := i0.later hb
      replace i1 := i1.later hb
      replace hT := TabAt.later hT hb
      replace HB := HB.trans (hb.mono HB.size)
      clear hb
      go_wp2_with (fail)
      refine (few_yes _ _ s0 s1).mono ?_
      rintro e w2 ⟨rfl, rfl⟩
      go_wp2_with (fail)
      refine (sub_yes i0 i1 x0 x1 hS.out).mono ?_
      rintro e w3 ⟨rfl, hb⟩
      replace i0 := i0.later hb
      replace i1 := i1.later hb
      replace hT := TabAt.later hT hb
      replace HB := HB.trans (hb.mono HB.size)
      clear hb
      go_wp2_with (fail)
      refine (minus_s i0 i1 x0 x1 (by omega) (by omega)).mono ?_
      rintro e w4 ⟨gD, tD, zD, rfl, iD, cD, sD, hb⟩
      have xD := cD.1
      have bD := Lib.hid cD.2.2
      replace i0 := i0.later hb
      replace i1 := i1.later hb
      replace hT := TabAt.later hT hb
      replace HB := HB.trans (hb.mono HB.size)
      clear hb
      go_wp2_with (fail)
      refine (len_zero iD xD (by intro n hn; simp only [bD.out n hn]; have := hS.out n hn; revert this; cases bt z0 n <;> cases bt z1 n <;> simp)).mono ?_
      rintro e w5 ⟨rfl, hb⟩
      replace i0 := i0.later hb
      replace i1 := i1.later hb
      replace iD := iD.later hb
      replace hT := TabAt.later hT hb
      replace HB := HB.trans (hb.mono HB.size)
      clear hb
      go_wp2_with (fail)
      refine (union_s i0 i1 x0 x1 (by omega) (by omega)).mono ?_
      rintro e w6 ⟨gU, tU, zU, rfl, iU, cU, sU, hb⟩
      have xU := cU.1
      have bU := Lib.hid cU.2.2
      replace i0 := i0.later hb
      replace i1 := i1.later hb
      replace hT := TabAt.later hT hb
      replace HB := HB.trans (hb.mono HB.size)
      clear hb
      go_wp2_with (fail)
      refine (equal_yes iU i1 xU x1 (by intro n hn; simp only [bU.out n hn]; have := hS.out n hn; revert this; cases bt z0 n <;> cases bt z1 n <;> simp)).mono ?_
      rintro e w7 ⟨rfl, hb⟩
      replace i0 := i0.later hb
      replace i1 := i1.later hb
      replace iU := iU.later hb
      replace hT := TabAt.later hT hb
      replace HB := HB.trans (hb.mono HB.size)
      clear hb
      go_wp2_with (fail)
      refine (inter_s i0 i1 x0 x1 (by omega) (by omega)).mono ?_
      rintro e w8 ⟨gV, tV, zV, rfl, iV, cV, sV, hb⟩
      have xV := cV.1
      have bV := Lib.hid cV.2.2
      replace i0 := i0.later hb
      replace i1 := i1.later hb
      replace hT := TabAt.later hT hb
      replace HB := HB.trans (hb.mono HB.size)
      clear hb
      go_wp2_with (fail)
      refine (equal_yes iV i0 xV x0 (by intro n hn; simp only [bV.out n hn]; have := hS.out n hn; revert this; cases bt z0 n <;> cases bt z1 n <;> simp)).mono ?_
      rintro e w9 ⟨rfl, hb⟩
      replace i0 := i0.later hb
      replace i1 := i1.later hb
      replace iV := iV.later hb
      replace hT := TabAt.later hT hb
      replace HB := HB.trans (hb.mono HB.size)
      clear hb
      go_wp2_with (fail)
      refine (inter_s i0 i1 x0 x1 (by omega) (by omega)).mono ?_
      rintro e w10 ⟨gP, tP, zP, rfl, iP, cP, sP, hb⟩
      have xP := cP.1
      have bP := Lib.hid cP.2.2
      replace i0 := i0.later hb
      replace i1 := i1.later hb
      replace hT := TabAt.later hT hb
      replace HB := HB.trans (hb.mono HB.size)
      clear hb
      go_wp2_with (fail)
      refine (sub_yes iP i1 xP x1 (by intro n hn; simp only [bP.out n hn]; cases bt z0 n <;> cases bt z1 n <;> simp)).mono ?_
      rintro e w11 ⟨rfl, hb⟩
      replace i0 := i0.later hb
      replace i1 := i1.later hb
      replace iP := iP.later hb
      replace hT := TabAt.later hT hb
      replace HB := HB.trans (hb.mono HB.size)
      clear hb
      go_wp2_with (fail)
      refine (union_s i0 i1 x0 x1 (by omega) (by omega)).mono ?_
      rintro e w12 ⟨gQ, tQ, zQ, rfl, iQ, cQ, sQ, hb⟩
      have xQ := cQ.1
      have bQ := Lib.hid cQ.2.2
      replace i0 := i0.later hb
      replace i1 := i1.later hb
      replace hT := TabAt.later hT hb
      replace HB := HB.trans (hb.mono HB.size)
      clear hb
      go_wp2_with (fail)
      refine (sub_yes i0 iQ x0 xQ (by intro n hn; simp only [bQ.out n hn]; cases bt z0 n <;> cases bt z1 n <;> simp)).mono ?_
      rintro e w13 ⟨rfl, hb⟩
      replace i0 := i0.later hb
      replace i1 := i1.later hb
      replace iQ := iQ.later hb
      replace hT := TabAt.later hT hb
      replace HB := HB.trans (hb.mono HB.size)
      clear hb
      go_wp2_with (fail)
      go_ret
      exact ⟨rfl, HB⟩
    · obtain ⟨n, hn, h1, h2⟩ := not_sub hS
      clear hS
      have h1 := Lib.hid h1
      have h2 := Lib.hid h2
      have HB := Below.refl w.heap.size w
      go_enter Tryd.func9, Tryd.ntmps9
      go_wp2_with (fail)
      refine (awake_any w hT).mono ?_
      rintro e w1 ⟨rfl, hb⟩
      replace i0 := i0.later hb
      replace i1 := i1.later hb
      replace hT := TabAt.later hT hb
      replace HB := HB.trans (hb.mono HB.size)
      clear hb
      go_wp2_with (fail)
      refine (few_yes _ _ s0 s1).mono ?_
      rintro e w2 ⟨rfl, rfl⟩
      go_wp2_with (fail)
      refine (sub_no i0 i1 x0 x1 hn h1.out h2.out).mono ?_
      rintro e w3 ⟨rfl, hb⟩
      replace i0 := i0.later hb
      replace i1 := i1.later hb
      replace hT := TabAt.later hT hb
      replace HB := HB.trans (hb.mono HB.size)
      clear hb
      go_wp2_with (fail)
      refine (minus_s i0 i1 x0 x1 (by omega) (by omega)).mono ?_
      rintro e w4 ⟨gD, tD, zD, rfl, iD, cD, sD, hb⟩
      have xD := cD.1
      have bD := Lib.hid cD.2.2
      replace i0 := i0.later hb
      replace i1 := i1.later hb
      replace hT := TabAt.later hT hb
      replace HB := HB.trans (hb.mono HB.size)
      clear hb
      go_wp2_with (fail)
      have hq := cnt_ne (p := bt zD) hn (by simp only [bD.out n hn, h1.out, h2.out]; rfl)
      refine (len_s iD xD).mono ?_
      rintro e w5 ⟨rfl, hb⟩
      replace i0 := i0.later hb
      replace i1 := i1.later hb
      replace iD := iD.later hb
      replace hT := TabAt.later hT hb
      replace HB := HB.trans (hb.mono HB.size)
      clear hb
      go_wp2_with (fail)
      refine (union_s i0 i1 x0 x1 (by omega) (by omega)).mono ?_
      rintro e w6 ⟨gU, tU, zU, rfl, iU, cU, sU, hb⟩
      have xU := cU.1
      have bU := Lib.hid cU.2.2
      replace i0 := i0.later hb
      replace i1 := i1.later hb
      replace hT := TabAt.later hT hb
      replace HB := HB.trans (hb.mono HB.size)
      clear hb
      go_wp2_with (fail)
      refine (equal_no iU i1 xU x1 hn (by simp only [bU.out n hn, h1.out, h2.out]; decide)).mono ?_
      rintro e w7 ⟨rfl, hb⟩
      replace i0 := i0.later hb
      replace i1 := i1.later hb
      replace iU := iU.later hb
      replace hT := TabAt.later hT hb
      replace HB := HB.trans (hb.mono HB.size)
      clear hb
      go_wp2_with (fail)
      refine (inter_s i0 i1 x0 x1 (by omega) (by omega)).mono ?_
      rintro e w8 ⟨gV, tV, zV, rfl, iV, cV, sV, hb⟩
      have xV := cV.1
      have bV := Lib.hid cV.2.2
      replace i0 := i0.later hb
      replace i1 := i1.later hb
      replace hT := TabAt.later hT hb
      replace HB := HB.trans (hb.mono HB.size)
      clear hb
      go_wp2_with (fail)
      refine (equal_no iV i0 xV x0 hn (by simp only [bV.out n hn, h1.out, h2.out]; decide)).mono ?_
      rintro e w9 ⟨rfl, hb⟩
      replace i0 := i0.later hb
      replace i1 := i1.later hb
      replace iV := iV.later hb
      replace hT := TabAt.later hT hb
      replace HB := HB.trans (hb.mono HB.size)
      clear hb
      go_wp2_with (fail)
      refine (inter_s i0 i1 x0 x1 (by omega) (by omega)).mono ?_
      rintro e w10 ⟨gP, tP, zP, rfl, iP, cP, sP, hb⟩
      have xP := cP.1
      have bP := Lib.hid cP.2.2
      replace i0 := i0.later hb
      replace i1 := i1.later hb
      replace hT := TabAt.later hT hb
      replace HB := HB.trans (hb.mono HB.size)
      clear hb
      go_wp2_with (fail)
      refine (sub_yes iP i1 xP x1 (by intro n hn; simp only [bP.out n hn]; cases bt z0 n <;> cases bt z1 n <;> simp)).mono ?_
      rintro e w11 ⟨rfl, hb⟩
      replace i0 := i0.later hb
      replace i1 := i1.later hb
      replace iP := iP.later hb
      replace hT := TabAt.later hT hb
      replace HB := HB.trans (hb.mono HB.size)
      clear hb
      go_wp2_with (fail)
      refine (union_s i0 i1 x0 x1 (by omega) (by omega)).mono ?_
      rintro e w12 ⟨gQ, tQ, zQ, rfl, iQ, cQ, sQ, hb⟩
      have xQ := cQ.1
      have bQ := Lib.hid cQ.2.2
      replace i0 := i0.later hb
      replace i1 := i1.later hb
      replace hT := TabAt.later hT hb
      replace HB := HB.trans (hb.mono HB.size)
      clear hb
      go_wp2_with (fail)
      refine (sub_yes i0 iQ x0 xQ (by intro n hn; simp only [bQ.out n hn]; cases bt z0 n <;> cases bt z1 n <;> simp)).mono ?_
      rintro e w13 ⟨rfl, hb⟩
      replace i0 := i0.later hb
      replace i1 := i1.later hb
      replace iQ := iQ.later hb
      replace hT := TabAt.later hT hb
      replace HB := HB.trans (hb.mono HB.size)
      clear hb
      go_wp2_with (fail)
      go_ret
      exact ⟨rfl, HB⟩
  · clear i0 i1
    have HB := Below.refl w.heap.size w
    go_enter Tryd.func9, Tryd.ntmps9
    go_wp2_with (fail)
    refine (awake_any w hT).mono ?_
    rintro e w1 ⟨rfl, hb⟩
    replace hT := TabAt.later hT hb
    replace HB := HB.trans (hb.mono HB.size)
    clear hb
    go_wp2_with (fail)
    refine (few_no _ _ hf).mono ?_
    rintro e w2 ⟨rfl, rfl⟩
    go_wp2_with (fail)
    go_ret
    exact ⟨rfl, HB⟩
end Go.Proofs.YtmeldbddbinnbaaDoor
