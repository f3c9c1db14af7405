/-
  BitsOrder: the walk.
-/
import Derived.Test.YtmeldbddbinnbaaDoorBitAn
set_option linter.unusedSimpArgs false
set_option linter.unusedVariables false
namespace Go.Proofs.YtmeldbddbinnbaaDoor
open Go.RowKit Go.Shelf
attribute [local go_sem] Oper.semAt_some

set_option maxHeartbeats 40000000 in
theorem bitsOrder_walk (a0 : Option Addr) (len0 cap0 : Nat) (z0 : List Int) (a1 : Option Addr) (len1 cap1 : Nat) (z1 : List Int) (a2 : Option Addr) (len2 cap2 : Nat) (z2 : List Int) (w : World) (i0 : IsInts .u64 w a0 len0 cap0 z0) (b0 : ∀ n ∈ z0, (Lit.int .u64 n).wf = true) (m0 : cap0 * 8 ≤ 140737488351232) (i1 : IsInts .u64 w a1 len1 cap1 z1) (b1 : ∀ n ∈ z1, (Lit.int .u64 n).wf = true) (m1 : cap1 * 8 ≤ 140737488351232) (i2 : IsInts .u64 w a2 len2 cap2 z2) (b2 : ∀ n ∈ z2, (Lit.int .u64 n).wf = true) (m2 : cap2 * 8 ≤ 140737488351232) (hT : TabAt 0 Lib.deBruijn64tab w) :
    Calls Tryd.prog 6 #[.slice a0 len0 cap0, .slice a1 len1 cap1, .slice a2 len2 cap2] w fun e w' => e = .returned (.bool true) ∧ Below w.heap.size w w' := by
  by_cases hf : len0 ≤ 70 ∧ len1 ≤ 70
  · obtain ⟨s0, s1⟩ := hf
    by_cases hg : len2 ≤ 70 ∧ 0 ≤ 70
    · have s2 := hg.1
      have x0 := w64_of_wf b0
      have x1 := w64_of_wf b1
      have x2 := w64_of_wf b2
      have xn : W64 [] := fun z hz => by cases hz
      obtain ⟨u, hu⟩ : ∃ u, Hid (cmpL (setL (bt [])) (setL (bt z0)) = u) := ⟨_, Lib.hid rfl⟩
      have hul : u ≤ 0 := by rw [← hu.out, setL_false fun n _ => bt_nil n]; exact cmpL_nil _
      have hud : decide (u ≤ 0) = true := decide_eq_true hul
      clear hul
      obtain ⟨x, x', y, z, b, hx, hx', hy, hz, hE, hc⟩ := order_cases x0 x1 x2
      rcases hc with ⟨rfl, rfl, rfl, rfl | rfl | rfl, rfl⟩ | ⟨rfl, rfl, rfl, ⟨rfl, rfl⟩ | ⟨rfl, rfl⟩ | ⟨rfl, rfl | rfl | rfl⟩⟩ | ⟨rfl, rfl, rfl, rfl | rfl | rfl, rfl | rfl | rfl⟩
      all_goals
        have HB := Below.refl w.heap.size w
        go_enter Tryd.func6, Tryd.ntmps6
        go_wp2_with (fail)
        refine (awake_any w hT).mono ?_
        rintro e w1 ⟨rfl, hb⟩
        replace i0 := i0.later hb
        replace i1 := i1.later hb
        replace i2 := i2.later hb
        replace hT := TabAt.later hT hb
        replace HB := HB.trans (hb.mono HB.size)
        clear hb
        go_wp2_with (fail)
        refine (few_yes _ _ s0 s1).mono ?_
        rintro e w2 ⟨rfl, rfl⟩
        go_wp2_with (fail)
        refine (few_yes _ _ s2 (Nat.zero_le _)).mono ?_
        rintro e w3 ⟨rfl, rfl⟩
        go_wp2_with (fail)
        refine (compare_v i0 i1 x0 x1 hT hx).mono ?_
        rintro e w4 ⟨rfl, hb⟩
        replace i0 := i0.later hb
        replace i1 := i1.later hb
        replace i2 := i2.later hb
        replace hT := TabAt.later hT hb
        replace HB := HB.trans (hb.mono HB.size)
        clear hb
        go_wp2_with (fail)
        refine (compare_v i1 i2 x1 x2 hT hy).mono ?_
        rintro e w5 ⟨rfl, hb⟩
        replace i0 := i0.later hb
        replace i1 := i1.later hb
        replace i2 := i2.later hb
        replace hT := TabAt.later hT hb
        replace HB := HB.trans (hb.mono HB.size)
        clear hb
        go_wp2_with (fail)
        refine (compare_v i0 i2 x0 x2 hT hz).mono ?_
        rintro e w6 ⟨rfl, hb⟩
        replace i0 := i0.later hb
        replace i1 := i1.later hb
        replace i2 := i2.later hb
        replace hT := TabAt.later hT hb
        replace HB := HB.trans (hb.mono HB.size)
        clear hb
        go_wp2_with (fail)
        refine (compare_v i1 i0 x1 x0 hT hx').mono ?_
        rintro e w7 ⟨rfl, hb⟩
        replace i0 := i0.later hb
        replace i1 := i1.later hb
        replace i2 := i2.later hb
        replace hT := TabAt.later hT hb
        replace HB := HB.trans (hb.mono HB.size)
        clear hb
        go_wp2_with (fail)
        refine (equal_v i0 i1 hE).mono ?_
        rintro e w8 ⟨rfl, hb⟩
        replace i0 := i0.later hb
        replace i1 := i1.later hb
        replace i2 := i2.later hb
        replace hT := TabAt.later hT hb
        replace HB := HB.trans (hb.mono HB.size)
        clear hb
        go_wp2_with (fail)
        refine (compare_v (xs := []) (.inl ⟨rfl, rfl, rfl, rfl⟩) i0 xn x0 hT hu).mono ?_
        rintro e w9 ⟨rfl, hb⟩
        replace i0 := i0.later hb
        replace i1 := i1.later hb
        replace i2 := i2.later hb
        replace hT := TabAt.later hT hb
        replace HB := HB.trans (hb.mono HB.size)
        clear hb
        go_wp2_with (fail)
        go_ret
        exact ⟨rfl, HB⟩
    · clear i0 i1 i2
      have HB := Below.refl w.heap.size w
      go_enter Tryd.func6, Tryd.ntmps6
      go_wp2_with (fail)
      refine (awake_any w hT).mono ?_
      rintro e w1 ⟨rfl, hb⟩
      replace hT := TabAt.later hT hb
      replace HB := HB.trans (hb.mono HB.size)
      clear hb
      go_wp2_with (fail)
      refine (few_yes _ _ s0 s1).mono ?_
      rintro e w2 ⟨rfl, rfl⟩
      go_wp2_with (fail)
      refine (few_no _ _ hg).mono ?_
      rintro e w3 ⟨rfl, rfl⟩
      go_wp2_with (fail)
      go_ret
      exact ⟨rfl, HB⟩
  · clear i0 i1 i2
    have HB := Below.refl w.heap.size w
    go_enter Tryd.func6, Tryd.ntmps6
    go_wp2_with (fail)
    refine (awake_any w hT).mono ?_
    rintro e w1 ⟨rfl, hb⟩
    replace hT := TabAt.later hT hb
    replace HB := HB.trans (hb.mono HB.size)
    clear hb
    go_wp2_with (fail)
    refine (few_no _ _ hf).mono ?_
    rintro e w2 ⟨rfl, rfl⟩
    go_wp2_with (fail)
    go_ret
    exact ⟨rfl, HB⟩
end Go.Proofs.YtmeldbddbinnbaaDoor
