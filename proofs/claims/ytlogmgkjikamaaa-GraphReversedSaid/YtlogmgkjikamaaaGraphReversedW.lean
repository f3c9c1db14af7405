/-
  GraphReversed: the walk.
-/
import Derived.Test.YtlogmgkjikamaaaGraLx
import Derived.Deep.QuietTactic
import Derived.BigQuiet
import Derived.Deep.DeepCutAuto
set_option linter.unusedSimpArgs false
set_option linter.unusedVariables false
set_option maxHeartbeats 1000000
namespace Go.Proofs.Ytlogmgkjikamaaa
open Go.RowKit
attribute [local go_sem] Oper.semAt_some

set_option maxRecDepth 20000 in
theorem graphReversed_walk (a : Option Addr) (len cap : Nat) (g : List (List Int)) (za zb : Int) (w : World) (hg : IsRows w a len cap g) (hA : (Lit.int .u8 za).wf = true) (hB : (Lit.int .u8 zb).wf = true) :
    Calls Try.prog 9 #[.slice a len cap, .int .u8 za, .int .u8 zb] w fun e w' => e = .returned (.bool true) ∧ Below w.heap.size w w' := by
  have HN := Lib.hid hg.length
  by_cases hf : FewG g
  rotate_left
  · have hg := hg
    go_enter Try.func9, Try.ntmps9
    have HB := Below.refl w.heap.size w
    go_wp2_with (fail)
    refine (awake_any _).mono ?_
    rintro e w1 ⟨rfl, hb⟩
    replace hg := hg.later hb
    replace HB := HB.trans (hb.mono HB.size)
    clear hb
    go_wp2_with (fail)
    refine (few_no hg hf).mono ?_
    rintro e w2 ⟨rfl, rfl⟩
    go_wp2_with (fail)
    go_ret
    exact ⟨rfl, HB⟩
  by_cases hv : ValidG g
  rotate_left
  · have hg := hg
    go_enter Try.func9, Try.ntmps9
    have HB := Below.refl w.heap.size w
    go_wp2_with (fail)
    refine (awake_any _).mono ?_
    rintro e w3 ⟨rfl, hb⟩
    replace hg := hg.later hb
    replace HB := HB.trans (hb.mono HB.size)
    clear hb
    go_wp2_with (fail)
    refine (few_yes hg hf).mono ?_
    rintro e w4 ⟨rfl, rfl⟩
    go_wp2_with (fail)
    refine (refValid_no hg hv).mono ?_
    rintro e w5 ⟨rfl, hb⟩
    replace hg := hg.later hb
    replace HB := HB.trans (hb.mono HB.size)
    clear hb
    go_wp2_with (fail)
    go_ret
    exact ⟨rfl, HB⟩
  by_cases h0 : len = 0
  · have d0 : ((len : Int) == 0) = true := by rw [h0]; rfl
    clear h0
    go_enter Try.func9, Try.ntmps9
    have HB := Below.refl w.heap.size w
    go_wp2_with (fail)
    refine (awake_any _).mono ?_
    rintro e w6 ⟨rfl, hb⟩
    replace hg := hg.later hb
    replace HB := HB.trans (hb.mono HB.size)
    clear hb
    go_wp2_with (fail)
    refine (few_yes hg hf).mono ?_
    rintro e w7 ⟨rfl, rfl⟩
    go_wp2_with (fail)
    refine (refValid_yes hg hv).mono ?_
    rintro e w8 ⟨rfl, hb⟩
    replace hg := hg.later hb
    replace HB := HB.trans (hb.mono HB.size)
    clear hb
    go_wp2_with (fail)
    go_ret
    exact ⟨rfl, HB⟩
  have d0 : ((len : Int) == 0) = false := by simpa using h0
  have h60 : len ≤ 60 := by rw [← HN.out]; exact hf.1
  obtain ⟨x, hx, ex, hA1, hA2⟩ := u8_node hA (N := len) (by omega)
  obtain ⟨y, hy, ey, hB1, hB2⟩ := u8_node hB (N := len) (by omega)
  have HX := Lib.hid (And.intro hx (And.intro hy (And.intro h60 h0)))
  have HT := Lib.hid (And.intro ex (And.intro ey (And.intro hA1 (And.intro hA2 (And.intro hB1 hB2)))))
  clear ex ey hx hy h60 h0 hA hB hA1 hA2 hB1 hB2
  go_enter Try.func9, Try.ntmps9
  have HB := Below.refl w.heap.size w
  go_wp2_with (fail)
  refine (awake_any _).mono ?_
  rintro e w9 ⟨rfl, hb⟩
  replace hg := hg.later hb
  replace HB := HB.trans (hb.mono HB.size)
  clear hb
  go_wp2_with (fail)
  refine (few_yes hg hf).mono ?_
  rintro e w10 ⟨rfl, rfl⟩
  go_wp2_with (fail)
  refine (refValid_yes hg hv).mono ?_
  rintro e w11 ⟨rfl, hb⟩
  replace hg := hg.later hb
  replace HB := HB.trans (hb.mono HB.size)
  clear hb
  go_upto_region 5 with (fail)
  obtain ⟨ex, ey, hA1, hA2, hB1, hB2⟩ := HT.out
  obtain ⟨hx, hy, h60, h0⟩ := HX.out
  go_quiet (fail)
  have hb := below_drewN w11 nq
  replace hg := hg.later hb
  replace HB := HB.trans (hb.mono HB.size)
  clear hb
  go_wp2_with (fail)
  have hxg : x < g.length := by rw [HN.out]; exact hx
  have hyg : y < g.length := by rw [HN.out]; exact hy
  refine (back_yes hv hg).mono ?_
  rintro e w12 ⟨⟨a1, n1, c1, rfl, i1, l1⟩, hb⟩
  replace hg := hg.later hb
  replace HB := HB.trans (hb.mono HB.size)
  clear hb
  go_wp2_with (fail)
  refine (back_back hv i1).mono ?_
  rintro e w13 ⟨⟨a2, n2, c2, rfl, i2, l2⟩, hb⟩
  replace hg := hg.later hb
  replace i1 := i1.later hb
  replace HB := HB.trans (hb.mono HB.size)
  clear hb
  go_wp2_with (fail)
  refine (reach_yes hv hxg hg).mono ?_
  rintro e w14 ⟨⟨⟨a3, n3, c3, rfl, i3, l3⟩, H3⟩, hb⟩
  replace hg := hg.later hb
  replace i1 := i1.later hb
  replace i2 := i2.later hb
  replace HB := HB.trans (hb.mono HB.size)
  clear hb
  go_wp2_with (fail)
  refine (reach_yes (backG_valid hv) (by rw [backG_length]; exact hyg) i1).mono ?_
  rintro e w15 ⟨⟨⟨a4, n4, c4, rfl, i4, l4⟩, H4⟩, hb⟩
  replace hg := hg.later hb
  replace i1 := i1.later hb
  replace i2 := i2.later hb
  replace i3 := i3.later hb
  replace HB := HB.trans (hb.mono HB.size)
  clear hb
  go_wp2_with (fail)
  refine (equal_self i2 hg).mono ?_
  rintro e w16 ⟨rfl, hb⟩
  replace hg := hg.later hb
  replace i1 := i1.later hb
  replace i2 := i2.later hb
  replace i3 := i3.later hb
  replace i4 := i4.later hb
  replace HB := HB.trans (hb.mono HB.size)
  clear hb
  go_wp2_with (fail)
  refine (has_yes (Rch (GE g) x y) i3 (by omega) (H3.out y hyg)).mono ?_
  rintro e w17 ⟨rfl, rfl⟩
  go_wp2_with (fail)
  refine (has_yes (Rch (GE g) x y) i4 (by omega) ((H4.out x (by rw [backG_length]; exact hxg)).trans (rch_back hv))).mono ?_
  rintro e w18 ⟨rfl, rfl⟩
  go_wp2_with (fail)
  go_ret
  exact ⟨rfl, HB⟩
end Go.Proofs.Ytlogmgkjikamaaa
