/-
  GraphMakes: the walk.
-/
import Derived.Test.YtamflkacklnnhaaGraLw
set_option linter.unusedSimpArgs false
set_option linter.unusedVariables false
set_option maxHeartbeats 4000000
namespace Go.Proofs.Ytamflkacklnnhaa
open Go.RowKit
attribute [local go_sem] Oper.semAt_some

set_option maxRecDepth 20000 in
theorem graphMakes_walk (n : Int) (ae : Option Addr) (le ce : Nat) (es : List (Int × Int)) (a : Option Addr) (len cap : Nat) (g : List (List Int)) (w : World) (hn : (Lit.int .i64 n).wf = true) (hp : IsPairs w ae le ce es) (hg : IsRows w a len cap g) :
    Calls Try.prog 10 #[.int .i64 n, .slice ae le ce, .slice a len cap] w fun e w' => e = .returned (.bool true) ∧ Below w.heap.size w w' := by
  clear hn
  by_cases h1 : 100 < le
  · have d1 : decide ((100 : Int) < (le : Int)) = true := decide_eq_true (by omega)
    go_enter Try.func10, Try.ntmps10
    have HB := Below.refl w.heap.size w
    go_wp2_with (fail)
    refine (awake_any _).mono ?_
    rintro e w1 ⟨rfl, hb⟩
    replace hg := hg.later hb
    replace hp := hp.later hb
    replace HB := HB.trans (hb.mono HB.size)
    clear hb
    go_wp2_with (fail)
    go_ret
    exact ⟨rfl, HB⟩
  have d1 : decide ((100 : Int) < (le : Int)) = false := decide_eq_false (by omega)
  by_cases hf : FewG g
  rotate_left
  · have h1 := h1
    go_enter Try.func10, Try.ntmps10
    have HB := Below.refl w.heap.size w
    go_wp2_with (fail)
    refine (awake_any _).mono ?_
    rintro e w2 ⟨rfl, hb⟩
    replace hg := hg.later hb
    replace hp := hp.later hb
    replace HB := HB.trans (hb.mono HB.size)
    clear hb
    go_wp2_with (fail)
    refine (few_no hg hf).mono ?_
    rintro e w3 ⟨rfl, rfl⟩
    go_wp2_with (fail)
    go_ret
    exact ⟨rfl, HB⟩
  go_enter Try.func10, Try.ntmps10
  have HB := Below.refl w.heap.size w
  go_wp2_with (fail)
  refine (awake_any _).mono ?_
  rintro e w4 ⟨rfl, hb⟩
  replace hg := hg.later hb
  replace hp := hp.later hb
  replace HB := HB.trans (hb.mono HB.size)
  clear hb
  go_wp2_with (fail)
  refine (few_yes hg hf).mono ?_
  rintro e w5 ⟨rfl, rfl⟩
  go_wp2_with (fail)
  refine (make_g hp (by omega)).mono ?_
  rintro e w6 ⟨⟨a1, n1, c1, rfl, i1, l1⟩, hb⟩
  replace hg := hg.later hb
  replace hp := hp.later hb
  replace HB := HB.trans (hb.mono HB.size)
  clear hb
  go_wp2_with (fail)
  refine (refMake_g hp (by omega)).mono ?_
  rintro e w7 ⟨⟨a2, n2, c2, rfl, i2, l2⟩, hb⟩
  replace hg := hg.later hb
  replace hp := hp.later hb
  replace i1 := i1.later hb
  replace HB := HB.trans (hb.mono HB.size)
  clear hb
  go_wp2_with (fail)
  refine (back_g hg).mono ?_
  rintro e w8 ⟨⟨a3, n3, c3, rfl, i3, l3⟩, hb⟩
  replace hg := hg.later hb
  replace hp := hp.later hb
  replace i1 := i1.later hb
  replace i2 := i2.later hb
  replace HB := HB.trans (hb.mono HB.size)
  clear hb
  go_wp2_with (fail)
  refine (refBack_g hg).mono ?_
  rintro e w9 ⟨⟨a4, n4, c4, rfl, i4, l4⟩, hb⟩
  replace hg := hg.later hb
  replace hp := hp.later hb
  replace i1 := i1.later hb
  replace i2 := i2.later hb
  replace i3 := i3.later hb
  replace HB := HB.trans (hb.mono HB.size)
  clear hb
  go_wp2_with (fail)
  refine (sameG_self (mkR_valid _ _).short i1 i2).mono ?_
  rintro e w10 ⟨rfl, hb⟩
  replace hg := hg.later hb
  replace hp := hp.later hb
  replace i1 := i1.later hb
  replace i2 := i2.later hb
  replace i3 := i3.later hb
  replace i4 := i4.later hb
  replace HB := HB.trans (hb.mono HB.size)
  clear hb
  go_wp2_with (fail)
  refine (sameG_self (bkR_valid _).short i3 i4).mono ?_
  rintro e w11 ⟨rfl, hb⟩
  replace hg := hg.later hb
  replace hp := hp.later hb
  replace i1 := i1.later hb
  replace i2 := i2.later hb
  replace i3 := i3.later hb
  replace i4 := i4.later hb
  replace HB := HB.trans (hb.mono HB.size)
  clear hb
  go_wp2_with (fail)
  refine (valid_any hg).mono ?_
  rintro e w12 ⟨rfl, rfl⟩
  go_wp2_with (fail)
  refine (refValid_any hg).mono ?_
  rintro e w13 ⟨rfl, hb⟩
  replace hg := hg.later hb
  replace hp := hp.later hb
  replace i1 := i1.later hb
  replace i2 := i2.later hb
  replace i3 := i3.later hb
  replace i4 := i4.later hb
  replace HB := HB.trans (hb.mono HB.size)
  clear hb
  go_wp2_with (fail)
  refine (valid_yes i1 (mkR_valid _ _)).mono ?_
  rintro e w14 ⟨rfl, rfl⟩
  go_wp2_with (fail)
  refine (valid_yes i3 (bkR_valid _)).mono ?_
  rintro e w15 ⟨rfl, rfl⟩
  go_wp2_with (fail)
  refine (equal_any i1 hg).mono ?_
  rintro e w16 ⟨rfl, hb⟩
  replace hg := hg.later hb
  replace hp := hp.later hb
  replace i1 := i1.later hb
  replace i2 := i2.later hb
  replace i3 := i3.later hb
  replace i4 := i4.later hb
  replace HB := HB.trans (hb.mono HB.size)
  clear hb
  go_wp2_with (fail)
  refine (sameG_any (mkR_valid _ _).short i2 hg).mono ?_
  rintro e w17 ⟨rfl, hb⟩
  replace hg := hg.later hb
  replace hp := hp.later hb
  replace i1 := i1.later hb
  replace i2 := i2.later hb
  replace i3 := i3.later hb
  replace i4 := i4.later hb
  replace HB := HB.trans (hb.mono HB.size)
  clear hb
  go_wp2_with (fail)
  refine (equal_self hg hg).mono ?_
  rintro e w18 ⟨rfl, hb⟩
  replace hg := hg.later hb
  replace hp := hp.later hb
  replace i1 := i1.later hb
  replace i2 := i2.later hb
  replace i3 := i3.later hb
  replace i4 := i4.later hb
  replace HB := HB.trans (hb.mono HB.size)
  clear hb
  go_wp2_with (fail)
  go_ret
  exact ⟨rfl, HB⟩
end Go.Proofs.Ytamflkacklnnhaa
