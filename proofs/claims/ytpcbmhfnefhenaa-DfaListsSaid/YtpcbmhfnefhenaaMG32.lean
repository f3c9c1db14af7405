import Derived.Test.YtpcbmhfnefhenaaMG23
import Derived.Test.YtpcbmhfnefhenaaMG31
/-
  DfaSm, DfaOw
-/
set_option linter.unusedSimpArgs false
set_option linter.unusedVariables false
namespace Go.Proofs.Ytpcbmhfnefhenaa
open List (foldr_cons foldr_nil setIfInBounds_toArray set_cons_succ set_cons_zero)
open Go.RowKit
attribute [local go_sem] Oper.semAt_some

set_option maxRecDepth 20000 in
theorem sameBools_any (a : Option Addr) (len cap : Nat) (xs : List Bool) (a' : Option Addr) (len' cap' : Nat) (ys : List Bool) (w : World) (hs : IsBools w a len cap xs) (hs' : IsBools w a' len' cap' ys) :
  Calls Try.prog 49 #[.slice a len cap, .slice a' len' cap'] w fun e w' => e = .returned (.bool (decide (xs = ys))) ∧ Below w.heap.size w w' := by
 have hxl := hs.length
 have hyl := hs'.length
 have hcap := hs.capLe
 have hcap' := hs'.capLe
 unfold maxLen at hcap hcap'
 by_cases he : len = len'
 ·subst he
  have hq : ((len : Int) != (len : Int)) = false := by simp
  go_enter Try.func49, Try.ntmps49
  go_wp2
  go_loopw [5] (fun c W => ∃ k : Nat, k ≤ len ∧ c = .int .i64 (k : Int) ∧ (∀ i, i < k → gb xs i = gb ys i) ∧ Below w.heap.size w W) (fun c _ => len - (intOf c).toNat)
  case atStart => exact ⟨0, Nat.zero_le _, rfl, (fun i hi => by omega), Below.refl _ _⟩
  case round =>
   obtain ⟨k, hk, rfl, hall, hb⟩ := hrel
   have HA := Lib.hid hall
   clear hall
   rcases Nat.lt_or_ge k len with hlt | hge
   ·obtain ⟨b, off, rfl, hc⟩ := hs.fix (by omega)
    obtain ⟨b', off', rfl, hc'⟩ := hs'.fix (by omega)
    obtain ⟨x, hx⟩ : ∃ x, gb xs k = x := ⟨_, rfl⟩
    obtain ⟨y, hy⟩ : ∃ y, gb ys k = y := ⟨_, rfl⟩
    have hcm : ∀ W, Below wr.heap.size wr W → W.cell? ⟨b, off + k, none⟩ = some (.bool x) ∧ W.cell? ⟨b', off' + k, none⟩ = some (.bool y) := fun W h => by
     have hbW := hb.trans (h.mono hb.size)
     rw [← hx, ← hy]
     exact ⟨hc W hbW k hlt, hc' W hbW k hlt⟩
    have HX := Lib.hid hx
    have HY := Lib.hid hy
    have HB := Lib.hid hb
    clear hs hs' hc hc' hx hy hb
    go_wp2
    refine wp_region_grow mixed (by kernel_rfl) [[], [], [(0, 17), (1, 18)], [(2, 19)], [], [], [(4, 21), (5, 22)], [(6, 23)], [(3, 20), (7, 24)]] [(0, 17), (1, 18), (2, 19), (3, 20), (4, 21), (5, 22), (6, 23), (7, 24), (8, 25)] rfl rfl [Ex ?e0, Ex ?e1, Ex ?e2, Ex ?e3, Ex ?e4, Ex ?e5, Ex ?e6, Ex ?e7, Ex ?e8] ⟨stays_ex _, stays_ex _, stays_ex _, stays_ex _, stays_ex _, stays_ex _, stays_ex _, stays_ex _, stays_ex _, trivial⟩ ?steps ?rest
    case steps =>
     refine ⟨fun f W hC hh => ?_, fun f W hC hh => ?_, fun f W hC hh => ?_, fun f W hC hh => ?_, fun f W hC hh => ?_, fun f W hC hh => ?_, fun f W hC hh => ?_, fun f W hC hh => ?_, fun f W hC hh => ?_, trivial⟩
     ·
      refine tab_plain fun K Q hK => ?_
      simp only [puts, foldr_nil]
      go_step
      exact fam_e hK rfl rfl (Below.refl _ _) hC
     ·
      refine tab_plain fun K Q hK => ?_
      simp only [puts, foldr_nil]
      go_step
      exact fam_e hK rfl rfl (Below.refl _ _) hC
     ·
      obtain ⟨h0, h1, -⟩ := hh
      have g0 : f 0 = _ := h0
      have g1 : f 1 = _ := h1
      refine tab_plain fun K Q hK => ?_
      simp only [puts, Za, Zb, Zc, Zd, Ze, g0, g1]
      go_step
      exact fam_e hK rfl rfl (Below.refl _ _) hC
     ·
      obtain ⟨h2, -⟩ := hh
      have g2 : f 2 = _ := h2
      refine tab_plain fun K Q hK => ?_
      simp only [puts, Za, Zb, Zc, Zd, Ze, g2]
      obtain ⟨f1, f2⟩ := hcm W hC
      go_step
      exact fam_e hK rfl rfl (Below.refl _ _) hC
     ·
      refine tab_plain fun K Q hK => ?_
      simp only [puts, foldr_nil]
      go_step
      exact fam_e hK rfl rfl (Below.refl _ _) hC
     ·
      refine tab_plain fun K Q hK => ?_
      simp only [puts, foldr_nil]
      go_step
      exact fam_e hK rfl rfl (Below.refl _ _) hC
     ·
      obtain ⟨h4, h5, -⟩ := hh
      have g4 : f 4 = _ := h4
      have g5 : f 5 = _ := h5
      refine tab_plain fun K Q hK => ?_
      simp only [puts, Za, Zb, Zc, Zd, Ze, g4, g5]
      go_step
      exact fam_e hK rfl rfl (Below.refl _ _) hC
     ·
      obtain ⟨h6, -⟩ := hh
      have g6 : f 6 = _ := h6
      refine tab_plain fun K Q hK => ?_
      simp only [puts, Za, Zb, Zc, Zd, Ze, g6]
      obtain ⟨f1, f2⟩ := hcm W hC
      go_step
      exact fam_e hK rfl rfl (Below.refl _ _) hC
     ·
      obtain ⟨h3, h7, -⟩ := hh
      have g3 : f 3 = _ := h3
      have g7 : f 7 = _ := h7
      refine tab_plain fun K Q hK => ?_
      simp only [puts, Za, Zb, Zc, Zd, Ze, g3, g7]
      go_step
      exact fam_e hK rfl rfl (Below.refl _ _) hC
    case rest =>
     intro f W2 hC hh
     obtain ⟨h0, h1, h2, h3, h4, h5, h6, h7, h8, -⟩ := hh
     have g0 : f 0 = _ := h0
     have g1 : f 1 = _ := h1
     have g2 : f 2 = _ := h2
     have g3 : f 3 = _ := h3
     have g4 : f 4 = _ := h4
     have g5 : f 5 = _ := h5
     have g6 : f 6 = _ := h6
     have g7 : f 7 = _ := h7
     have g8 : f 8 = _ := h8
     simp only [puts, Za, Zb, Zc, Zd, Ze, g0, g1, g2, g3, g4, g5, g6, g7, g8]
     clear h0 h1 h2 h3 h4 h5 h6 h7 h8 g0 g1 g2 g3 g4 g5 g6 g7 g8
     have hb2 := HB.out.trans (hC.mono HB.out.size)
     by_cases h0 : x = y
     ·have hq : (x == y) = true := by simpa using h0
      have HE := Lib.hid h0
      rw [hq]
      clear h0 hcm
      go_wp2
      go_roundw
      case rel => exact ⟨k + 1, by omega, by go_num, (fun i hi => by rcases Nat.lt_or_ge i k with h | h; exact HA.out i h; rw [show i = k by omega, HX.out, HY.out]; exact HE.out), hb2⟩
      case measure => simp [intOf]; omega
     ·have hq : (x == y) = false := by simpa using h0
      rw [hq]
      have HE : Hid (decide (xs = ys) = false) := Lib.hid (decide_eq_false (fun e => h0 (by rw [← HX.out, ← HY.out, e])))
      clear h0 hcm
      go_wp2
      go_ret
      exact ⟨by rw [HE.out]; rfl, hb2⟩
   ·have hkm : k = len := by omega
    subst hkm
    have HE : Hid (decide (xs = ys) = true) := Lib.hid (decide_eq_true (gb_ext (by omega) (fun i hi => HA.out i (by omega))))
    go_wp2
    go_ret
    exact ⟨by rw [HE.out]; rfl, hb⟩
 ·have hq : ((len : Int) != (len' : Int)) = true := by simp; omega
  have HE : Hid (decide (xs = ys) = false) := Lib.hid (decide_eq_false (fun e => he (by rw [← hxl, ← hyl, e])))
  go_enter Try.func49, Try.ntmps49
  go_wp2
  go_ret
  exact ⟨by rw [HE.out]; rfl, Below.refl _ _⟩
set_option maxRecDepth 20000 in
theorem sameArcs_any (a : Option Addr) (len cap : Nat) (xs : List A3) (a' : Option Addr) (len' cap' : Nat) (ys : List A3) (w : World) (hs : IsArcs w a len cap xs) (hs' : IsArcs w a' len' cap' ys) :
  Calls Try.prog 50 #[.slice a len cap, .slice a' len' cap'] w fun e w' => e = .returned (.bool (decide (xs = ys))) ∧ Below w.heap.size w w' := by
 have hxl := hs.length
 have hyl := hs'.length
 have hcap := hs.capLe
 have hcap' := hs'.capLe
 unfold maxLen at hcap hcap'
 by_cases he : len = len'
 ·subst he
  have hq : ((len : Int) != (len : Int)) = false := by simp
  go_enter Try.func50, Try.ntmps50
  go_wp2
  go_loopw [5] (fun c W => ∃ k : Nat, k ≤ len ∧ c = .int .i64 (k : Int) ∧ (∀ i, i < k → g3 xs i = g3 ys i) ∧ Below w.heap.size w W) (fun c _ => len - (intOf c).toNat)
  case atStart => exact ⟨0, Nat.zero_le _, rfl, (fun i hi => by omega), Below.refl _ _⟩
  case round =>
   obtain ⟨k, hk, rfl, hall, hb⟩ := hrel
   have HA := Lib.hid hall
   clear hall
   rcases Nat.lt_or_ge k len with hlt | hge
   ·obtain ⟨b, off, rfl, hc⟩ := hs.fix (by omega)
    obtain ⟨b', off', rfl, hc'⟩ := hs'.fix (by omega)
    obtain ⟨x1, x2, x3, hx⟩ : ∃ x1 x2 x3, g3 xs k = ⟨x1, x2, x3⟩ := ⟨_, _, _, rfl⟩
    obtain ⟨y1, y2, y3, hy⟩ : ∃ y1 y2 y3, g3 ys k = ⟨y1, y2, y3⟩ := ⟨_, _, _, rfl⟩
    have hcm : ∀ W, Below wr.heap.size wr W → (W.cell? ⟨b, off + k * 3, none⟩ = some (.int .i64 x1) ∧ W.cell? ⟨b, off + k * 3 + 1, none⟩ = some (.int .i64 x2) ∧ W.cell? ⟨b, off + k * 3 + 2, none⟩ = some (.int .i64 x3)) ∧ W.cell? ⟨b', off' + k * 3, none⟩ = some (.int .i64 y1) ∧ W.cell? ⟨b', off' + k * 3 + 1, none⟩ = some (.int .i64 y2) ∧ W.cell? ⟨b', off' + k * 3 + 2, none⟩ = some (.int .i64 y3) := fun W h => by
     have hbW := hb.trans (h.mono hb.size)
     have h1 := hc W hbW k hlt
     have h2 := hc' W hbW k hlt
     rw [hx] at h1
     rw [hy] at h2
     exact ⟨h1, h2⟩
    have HX := Lib.hid hx
    have HY := Lib.hid hy
    have HB := Lib.hid hb
    clear hs hs' hc hc' hx hy hb
    by_cases h0 : x1 = y1 ∧ x2 = y2 ∧ x3 = y3
    ·obtain ⟨rfl, rfl, rfl⟩ := h0
     go_wp2
     refine wp_region_grow mixed (by kernel_rfl) [[], [], [(0, 17), (1, 18)], [(2, 19)], [], [], [(4, 21), (5, 22)], [(6, 23)], [(3, 20), (7, 24)]] [(0, 17), (1, 18), (2, 19), (3, 20), (4, 21), (5, 22), (6, 23), (7, 24), (8, 25)] rfl rfl [Ex ?e0, Ex ?e1, Ex ?e2, Ex ?e3, Ex ?e4, Ex ?e5, Ex ?e6, Ex ?e7, Ex ?e8] ⟨stays_ex _, stays_ex _, stays_ex _, stays_ex _, stays_ex _, stays_ex _, stays_ex _, stays_ex _, stays_ex _, trivial⟩ ?steps ?rest
     case steps =>
      refine ⟨fun f W hC hh => ?_, fun f W hC hh => ?_, fun f W hC hh => ?_, fun f W hC hh => ?_, fun f W hC hh => ?_, fun f W hC hh => ?_, fun f W hC hh => ?_, fun f W hC hh => ?_, fun f W hC hh => ?_, trivial⟩
      ·
       refine tab_plain fun K Q hK => ?_
       simp only [puts, foldr_nil]
       go_step
       exact fam_e hK rfl rfl (Below.refl _ _) hC
      ·
       refine tab_plain fun K Q hK => ?_
       simp only [puts, foldr_nil]
       go_step
       exact fam_e hK rfl rfl (Below.refl _ _) hC
      ·
       obtain ⟨h0, h1, -⟩ := hh
       have g0 : f 0 = _ := h0
       have g1 : f 1 = _ := h1
       refine tab_plain fun K Q hK => ?_
       simp only [puts, Za, Zb, Zc, Zd, Ze, g0, g1]
       go_step
       exact fam_e hK rfl rfl (Below.refl _ _) hC
      ·
       obtain ⟨h2, -⟩ := hh
       have g2 : f 2 = _ := h2
       refine tab_plain fun K Q hK => ?_
       simp only [puts, Za, Zb, Zc, Zd, Ze, g2]
       obtain ⟨⟨f1, f2, f3⟩, f4, f5, f6⟩ := hcm W hC
       go_step
       exact fam_e hK rfl rfl (Below.refl _ _) hC
      ·
       refine tab_plain fun K Q hK => ?_
       simp only [puts, foldr_nil]
       go_step
       exact fam_e hK rfl rfl (Below.refl _ _) hC
      ·
       refine tab_plain fun K Q hK => ?_
       simp only [puts, foldr_nil]
       go_step
       exact fam_e hK rfl rfl (Below.refl _ _) hC
      ·
       obtain ⟨h4, h5, -⟩ := hh
       have g4 : f 4 = _ := h4
       have g5 : f 5 = _ := h5
       refine tab_plain fun K Q hK => ?_
       simp only [puts, Za, Zb, Zc, Zd, Ze, g4, g5]
       go_step
       exact fam_e hK rfl rfl (Below.refl _ _) hC
      ·
       obtain ⟨h6, -⟩ := hh
       have g6 : f 6 = _ := h6
       refine tab_plain fun K Q hK => ?_
       simp only [puts, Za, Zb, Zc, Zd, Ze, g6]
       obtain ⟨⟨f1, f2, f3⟩, f4, f5, f6⟩ := hcm W hC
       go_step
       exact fam_e hK rfl rfl (Below.refl _ _) hC
      ·
       obtain ⟨h3, h7, -⟩ := hh
       have g3 : f 3 = _ := h3
       have g7 : f 7 = _ := h7
       refine tab_plain fun K Q hK => ?_
       simp only [puts, Za, Zb, Zc, Zd, Ze, g3, g7]
       go_step
       exact fam_e hK rfl rfl (Below.refl _ _) hC
     case rest =>
      intro f W2 hC hh
      obtain ⟨h0, h1, h2, h3, h4, h5, h6, h7, h8, -⟩ := hh
      have g0 : f 0 = _ := h0
      have g1 : f 1 = _ := h1
      have g2 : f 2 = _ := h2
      have g3 : f 3 = _ := h3
      have g4 : f 4 = _ := h4
      have g5 : f 5 = _ := h5
      have g6 : f 6 = _ := h6
      have g7 : f 7 = _ := h7
      have g8 : f 8 = _ := h8
      simp only [puts, Za, Zb, Zc, Zd, Ze, g0, g1, g2, g3, g4, g5, g6, g7, g8]
      clear h0 h1 h2 h3 h4 h5 h6 h7 h8 g0 g1 g2 g3 g4 g5 g6 g7 g8
      have hb2 := HB.out.trans (hC.mono HB.out.size)
      clear hcm
      go_wp2
      go_roundw
      case rel => exact ⟨k + 1, by omega, by go_num, (fun i hi => by rcases Nat.lt_or_ge i k with h | h; exact HA.out i h; rw [show i = k by omega, HX.out, HY.out]), hb2⟩
      case measure => simp [intOf]; omega
    ·have HNE := Lib.hid h0
     have HE : Hid (decide (xs = ys) = false) := Lib.hid (decide_eq_false (fun e => h0 (by have h := HX.out; rw [e, HY.out] at h; injection h with e1 e2 e3; exact ⟨e1.symm, e2.symm, e3.symm⟩)))
     clear h0
     go_wp2
     refine wp_region_grow mixed (by kernel_rfl) [[], [], [(0, 17), (1, 18)], [(2, 19)], [], [], [(4, 21), (5, 22)], [(6, 23)], [(3, 20), (7, 24)]] [(0, 17), (1, 18), (2, 19), (3, 20), (4, 21), (5, 22), (6, 23), (7, 24), (8, 25)] rfl rfl [Ex ?eb0, Ex ?eb1, Ex ?eb2, Ex ?eb3, Ex ?eb4, Ex ?eb5, Ex ?eb6, Ex ?eb7, Ex (.bool true)] ⟨stays_ex _, stays_ex _, stays_ex _, stays_ex _, stays_ex _, stays_ex _, stays_ex _, stays_ex _, stays_ex _, trivial⟩ ?bsteps ?brest
     case bsteps =>
      refine ⟨fun f W hC hh => ?_, fun f W hC hh => ?_, fun f W hC hh => ?_, fun f W hC hh => ?_, fun f W hC hh => ?_, fun f W hC hh => ?_, fun f W hC hh => ?_, fun f W hC hh => ?_, fun f W hC hh => ?_, trivial⟩
      ·
       refine tab_plain fun K Q hK => ?_
       simp only [puts, foldr_nil]
       go_step
       exact fam_e hK rfl rfl (Below.refl _ _) hC
      ·
       refine tab_plain fun K Q hK => ?_
       simp only [puts, foldr_nil]
       go_step
       exact fam_e hK rfl rfl (Below.refl _ _) hC
      ·
       obtain ⟨h0, h1, -⟩ := hh
       have g0 : f 0 = _ := h0
       have g1 : f 1 = _ := h1
       refine tab_plain fun K Q hK => ?_
       simp only [puts, Za, Zb, Zc, Zd, Ze, g0, g1]
       go_step
       exact fam_e hK rfl rfl (Below.refl _ _) hC
      ·
       obtain ⟨h2, -⟩ := hh
       have g2 : f 2 = _ := h2
       refine tab_plain fun K Q hK => ?_
       simp only [puts, Za, Zb, Zc, Zd, Ze, g2]
       obtain ⟨⟨f1, f2, f3⟩, f4, f5, f6⟩ := hcm W hC
       go_step
       exact fam_e hK rfl rfl (Below.refl _ _) hC
      ·
       refine tab_plain fun K Q hK => ?_
       simp only [puts, foldr_nil]
       go_step
       exact fam_e hK rfl rfl (Below.refl _ _) hC
      ·
       refine tab_plain fun K Q hK => ?_
       simp only [puts, foldr_nil]
       go_step
       exact fam_e hK rfl rfl (Below.refl _ _) hC
      ·
       obtain ⟨h4, h5, -⟩ := hh
       have g4 : f 4 = _ := h4
       have g5 : f 5 = _ := h5
       refine tab_plain fun K Q hK => ?_
       simp only [puts, Za, Zb, Zc, Zd, Ze, g4, g5]
       go_step
       exact fam_e hK rfl rfl (Below.refl _ _) hC
      ·
       obtain ⟨h6, -⟩ := hh
       have g6 : f 6 = _ := h6
       refine tab_plain fun K Q hK => ?_
       simp only [puts, Za, Zb, Zc, Zd, Ze, g6]
       obtain ⟨⟨f1, f2, f3⟩, f4, f5, f6⟩ := hcm W hC
       go_step
       exact fam_e hK rfl rfl (Below.refl _ _) hC
      ·
       obtain ⟨h3, h7, -⟩ := hh
       have g3 : f 3 = _ := h3
       have g7 : f 7 = _ := h7
       refine tab_plain fun K Q hK => ?_
       simp only [puts, Za, Zb, Zc, Zd, Ze, g3, g7]
       go_step
       by_cases e1 : x1 = y1
       ·by_cases e2 : x2 = y2
        ·by_cases e3 : x3 = y3
         ·exact absurd ⟨e1, e2, e3⟩ HNE.out
         ·rw [if_pos e1, if_pos e2, if_neg e3]; exact fam_fin hK rfl rfl (Below.refl _ _) hC
        ·rw [if_pos e1, if_neg e2]; exact fam_fin hK rfl rfl (Below.refl _ _) hC
       ·rw [if_neg e1]; exact fam_fin hK rfl rfl (Below.refl _ _) hC
     case brest =>
      intro f W2 hC hh
      obtain ⟨h0, h1, h2, h3, h4, h5, h6, h7, h8, -⟩ := hh
      have g0 : f 0 = _ := h0
      have g1 : f 1 = _ := h1
      have g2 : f 2 = _ := h2
      have g3 : f 3 = _ := h3
      have g4 : f 4 = _ := h4
      have g5 : f 5 = _ := h5
      have g6 : f 6 = _ := h6
      have g7 : f 7 = _ := h7
      have g8 : f 8 = _ := h8
      simp only [puts, Za, Zb, Zc, Zd, Ze, g0, g1, g2, g3, g4, g5, g6, g7, g8]
      clear h0 h1 h2 h3 h4 h5 h6 h7 h8 g0 g1 g2 g3 g4 g5 g6 g7 g8
      have hb2 := HB.out.trans (hC.mono HB.out.size)
      clear hcm
      go_wp2
      go_ret
      exact ⟨by rw [HE.out]; rfl, hb2⟩
   ·have hkm : k = len := by omega
    subst hkm
    have HE : Hid (decide (xs = ys) = true) := Lib.hid (decide_eq_true (g3_ext (by omega) (fun i hi => HA.out i (by omega))))
    go_wp2
    go_ret
    exact ⟨by rw [HE.out]; rfl, hb⟩
 ·have hq : ((len : Int) != (len' : Int)) = true := by simp; omega
  have HE : Hid (decide (xs = ys) = false) := Lib.hid (decide_eq_false (fun e => he (by rw [← hxl, ← hyl, e])))
  go_enter Try.func50, Try.ntmps50
  go_wp2
  go_ret
  exact ⟨by rw [HE.out]; rfl, Below.refl _ _⟩
set_option maxRecDepth 20000 in
theorem refSame_any {a b : Dfa} {h k : DH} {w : World} (hd : IsDfa w h a) (he : IsDfa w k b) :
  Calls Try.prog 20 #[vDf a h, vDf b k] w fun e w' => e = .returned (.bool (eqD a b)) ∧ Below w.heap.size w w' := by
 obtain ⟨V, hV⟩ : ∃ V, eqD a b = V := ⟨_, rfl⟩
 have HV := Lib.hid hV
 rw [hV]
 have HN : ¬ (a.n = b.n ∧ a.s = b.s ∧ a.fin = b.fin ∧ a.arcs = b.arcs) → V = false := fun h => by rw [← hV]; exact decide_eq_false h
 have HY : (a.n = b.n ∧ a.s = b.s ∧ a.fin = b.fin ∧ a.arcs = b.arcs) → V = true := fun h => by rw [← hV]; exact decide_eq_true h
 clear hV
 obtain ⟨W1, hW1, hs1, hb1, hO⟩ := boxRW a h w hd
 have he1 := he.later hb1
 obtain ⟨W2, hW2, hs2, hb2, hP⟩ := boxRW b k W1 he1
 obtain ⟨⟨p1, p2, p3, p4⟩, hd1, -⟩ := hO W2 (hb2.mono (by omega))
 obtain ⟨⟨q1, q2, q3, q4⟩, he2, -⟩ := hP W2 (Below.refl _ _)
 have hB : Below w.heap.size w W2 := hb1.trans (hb2.mono (by omega))
 have hfb := sameBools_any _ _ _ _ _ _ _ _ W2 hd1.fin he2.fin
 have hall : ∀ W, Below W2.heap.size W2 W → (W.cell? ⟨w.heap.size, 3, none⟩ = some (.slice h.aa h.al h.ac) ∧ W.cell? ⟨w.heap.size + 1, 3, none⟩ = some (.slice k.aa k.al k.ac)) ∧ Calls Try.prog 50 #[.slice h.aa h.al h.ac, .slice k.aa k.al k.ac] W fun e w' => e = .returned (.bool (decide (a.arcs = b.arcs))) ∧ Below W.heap.size W w' := fun W hb => by
  have h1 := hO W ((hb2.mono (by omega)).trans (hb.mono (by omega)))
  have h2 := hP W (hb.mono (by omega))
  refine ⟨⟨h1.1.2.2.2, ?_⟩, sameArcs_any _ _ _ _ _ _ _ _ W h1.2.1.arcs h2.2.1.arcs⟩
  have := h2.1.2.2.2
  rwa [hs1] at this
 rw [hs1] at q1 q2 q3 q4
 obtain ⟨n, s, fin, es⟩ := a
 obtain ⟨fa, fl, fc, aa, al, ac⟩ := h
 obtain ⟨n', s', fin', es'⟩ := b
 obtain ⟨fa', fl', fc', aa', al', ac'⟩ := k
 simp only [vDf] at hW1 hW2 p1 p2 p3 p4 q1 q2 q3 q4 hfb hall HN HY ⊢
 have HN := Lib.hid HN
 have HY := Lib.hid HY
 by_cases h1 : n = n'
 case neg =>
  have t1 : (n == n') = false := by simpa using h1
  have HF := Lib.hid (HN.out fun h => h1 h.1)
  clear h1
  go_enter Try.func20, Try.ntmps20
  go_wp2
  go_ret
  exact ⟨by rw [HF.out]; rfl, hB⟩
 have t1 : (n == n') = true := by simpa using h1
 have H1 := Lib.hid h1
 clear h1
 by_cases h2 : s = s'
 case neg =>
  have t2 : (s == s') = false := by simpa using h2
  have HF := Lib.hid (HN.out fun h => h2 h.2.1)
  clear h2
  go_enter Try.func20, Try.ntmps20
  go_wp2
  go_ret
  exact ⟨by rw [HF.out]; rfl, hB⟩
 have t2 : (s == s') = true := by simpa using h2
 have H2 := Lib.hid h2
 clear h2
 by_cases h3 : fin = fin'
 case neg =>
  rw [decide_eq_false h3] at hfb
  have HF := Lib.hid (HN.out fun h => h3 h.2.2.1)
  clear h3
  go_enter Try.func20, Try.ntmps20
  go_wp2_with (go_at_call 49; refine hfb.mono ?_; rintro e w3 ⟨rfl, hb3⟩)
  go_ret
  exact ⟨by rw [HF.out]; rfl, hB.trans (hb3.mono hB.size)⟩
 rw [decide_eq_true h3] at hfb
 have H3 := Lib.hid h3
 clear h3
 have HF : Hid (V = decide (es = es')) := Lib.hid (by
  by_cases h4 : es = es'
  ·rw [decide_eq_true h4]; exact HY.out ⟨H1.out, H2.out, H3.out, h4⟩
  ·rw [decide_eq_false h4]; exact HN.out fun h => h4 h.2.2.2)
 go_enter Try.func20, Try.ntmps20
 go_wp2_with (first | (go_at_call 49; refine hfb.mono ?_; rintro e w3 ⟨rfl, hb3⟩; obtain ⟨⟨r1, r2⟩, r3⟩ := hall w3 hb3) | (go_at_call 50; refine r3.mono ?_; rintro e w4 ⟨rfl, hb4⟩))
 go_ret
 exact ⟨by rw [HF.out]; rfl, hB.trans ((hb3.trans (hb4.mono hb3.size)).mono hB.size)⟩
end Go.Proofs.Ytpcbmhfnefhenaa

set_option linter.unusedSimpArgs false
set_option linter.unusedVariables false
namespace Go.Proofs.Ytpcbmhfnefhenaa
open List (foldr_cons foldr_nil setIfInBounds_toArray set_cons_succ set_cons_zero)
open Go.RowKit
attribute [local go_sem] Oper.semAt_some

variable {d : Dfa} {h : DH} {w : World}
def FewD (d : Dfa) : Prop := d.n ≤ 12 ∧ d.fin.length ≤ 15 ∧ d.arcs.length ≤ 36
set_option maxRecDepth 20000 in
theorem few_yes (hd : IsDfa w h d) (hf : FewD d) : Calls Try.prog 12 #[vDf d h] w fun e w' => e = .returned (.bool true) ∧ Below w.heap.size w w' := by
 obtain ⟨W1, hW1, hs1, hb1, hO⟩ := boxRW d h w hd
 obtain ⟨⟨c1, c2, c3, c4⟩, -, -⟩ := hO W1 (Below.refl _ _)
 have h1 := hd.1.length
 have h2 := hd.2.length
 obtain ⟨f1, f2, f3⟩ := hf
 rw [h1] at f2
 rw [h2] at f3
 clear h1 h2 hO hd
 obtain ⟨n, s, fin, es⟩ := d
 obtain ⟨fa, fl, fc, aa, al, ac⟩ := h
 simp only [vDf] at hW1 hs1 hb1 c1 c2 c3 c4 f1 f2 f3 ⊢
 have t1 : decide (n ≤ 12) = true := decide_eq_true f1
 have t2 : decide ((fl : Int) ≤ 15) = true := decide_eq_true (by omega)
 have t3 : decide ((al : Int) ≤ 36) = true := decide_eq_true (by omega)
 go_enter Try.func12, Try.ntmps12
 go_wp2_with (fail)
 go_ret
 exact ⟨rfl, hb1⟩
set_option maxRecDepth 20000 in
theorem few_no (hd : IsDfa w h d) (hf : ¬ FewD d) : Calls Try.prog 12 #[vDf d h] w fun e w' => e = .returned (.bool false) ∧ Below w.heap.size w w' := by
 obtain ⟨W1, hW1, hs1, hb1, hO⟩ := boxRW d h w hd
 obtain ⟨⟨c1, c2, c3, c4⟩, -, -⟩ := hO W1 (Below.refl _ _)
 have h1 := hd.1.length
 have h2 := hd.2.length
 unfold FewD at hf
 rw [h1, h2] at hf
 clear h1 h2 hO hd
 obtain ⟨n, s, fin, es⟩ := d
 obtain ⟨fa, fl, fc, aa, al, ac⟩ := h
 simp only [vDf] at hW1 hs1 hb1 c1 c2 c3 c4 hf ⊢
 by_cases f1 : n ≤ 12
 case neg =>
  have t1 : decide (n ≤ 12) = false := decide_eq_false f1
  go_enter Try.func12, Try.ntmps12
  go_wp2_with (fail)
  go_ret
  exact ⟨rfl, hb1⟩
 have t1 : decide (n ≤ 12) = true := decide_eq_true f1
 by_cases f2 : fl ≤ 15
 case neg =>
  have t2 : decide ((fl : Int) ≤ 15) = false := decide_eq_false (by omega)
  go_enter Try.func12, Try.ntmps12
  go_wp2_with (fail)
  go_ret
  exact ⟨rfl, hb1⟩
 have t2 : decide ((fl : Int) ≤ 15) = true := decide_eq_true (by omega)
 have f3 : ¬ al ≤ 36 := fun f3 => hf ⟨f1, f2, f3⟩
 have t3 : decide ((al : Int) ≤ 36) = false := decide_eq_false (by omega)
 go_enter Try.func12, Try.ntmps12
 go_wp2_with (fail)
 go_ret
 exact ⟨rfl, hb1⟩
instance (d : Dfa) : Decidable (FewD d) := by unfold FewD; infer_instance
def fewB (d : Dfa) : Bool := decide (FewD d)
theorem few_any (hd : IsDfa w h d) : Calls Try.prog 12 #[vDf d h] w fun e w' => e = .returned (.bool (fewB d)) ∧ Below w.heap.size w w' := by
 unfold fewB
 by_cases hf : FewD d
 ·rw [decide_eq_true hf]; exact few_yes hd hf
 ·rw [decide_eq_false hf]; exact few_no hd hf
set_option maxRecDepth 20000 in
theorem lawArcs_any {aa : Option Addr} {al ac : Nat} {es : List A3} (he : IsArcs w aa al ac es) (hl : al ≤ 1000000) :
  Calls Try.prog 51 #[.slice aa al ac] w fun e w' => (∃ a' c', e = .returned (.slice a' al c') ∧ IsArcs w' a' al c' es) ∧ Below w.heap.size w w' := by
 have hlen := he.length
 have HX := Lib.hid hlen
 clear hlen
 go_enter Try.func51, Try.ntmps51
 go_wp2_with (fail)
 go_loopw [3, 7] (fun v x W => ∃ (k : Nat) (ao : Option Addr) (co : Nat), k ≤ al ∧ x = .int .i64 (k : Int) ∧ v = .slice ao k co ∧ W.ownsRow w.heap.size 66 3 (.slice ao k co) k (tvs (es.take k)) ∧ Below w.heap.size w W) (fun _ x _ => al - (intOf x).toNat)
 case atStart => exact ⟨0, none, 0, Nat.zero_le _, rfl, rfl, World.ownsRow_nil _ _ _ _, Below.refl _ _⟩
 case round =>
  obtain ⟨k, ao, co, hk, rfl, rfl, ho, hb⟩ := hrel
  rcases Nat.lt_or_ge k al with hlt | hge
  ·have t1 : decide ((k : Int) < al) = true := decide_eq_true (by omega)
   obtain ⟨b, off, rfl, hcell⟩ := he.fix (by omega)
   obtain ⟨cx1, cx2, cx3⟩ := hcell wr hb k hlt
   obtain ⟨x1, x2, x3, hx⟩ : ∃ x1 x2 x3, g3 es k = ⟨x1, x2, x3⟩ := ⟨_, _, _, rfl⟩
   rw [hx] at cx1 cx2 cx3
   have HN : Hid (es.take (k + 1) = es.take k ++ [⟨x1, x2, x3⟩]) := Lib.hid (by rw [← hx]; exact take_succ_g3 _ _ (by rw [HX.out]; exact hlt))
   clear hx
   have HE := Lib.hid he
   clear hcell he
   go_wp2_with (at_builtin; refine app_arc elRA rfl _ _ rfl rfl ho rfl (by omega) hb.size ?_; intro a1 c1 w1 ho1 hb1 hs1)
   go_roundw
   case rel => exact ⟨k + 1, a1, c1, hlt, by go_num, rfl, by rw [HN.out]; exact ho1, hb.trans hb1⟩
   case measure => simp [intOf]; omega
  ·have t1 : decide ((k : Int) < al) = false := decide_eq_false (by omega)
   obtain rfl : k = al := by omega
   rw [List.take_of_length_le (by rw [HX.out]; exact Nat.le_refl _)] at ho
   have hI := (IsArcs.of_owns ho).1
   go_wp2_with (fail)
   go_ret
   exact ⟨⟨ao, co, rfl, hI⟩, hb⟩
def RBox (b : Nat) (D : Dfa) (W : World) : Prop := ∃ h', W.heap[b]? = some (.cells #[.int .i64 D.n, .int .i64 D.s, .slice h'.fa h'.fl h'.fc, .slice h'.aa h'.al h'.ac] 25 (0, 0)) ∧ IsDfa W h' D
theorem ref_i : (Try.prog.info? 25).map (·.size) = some 4 := by kernel_rfl
theorem RBox.put {b : Nat} {W : World} {h' : DH} {D : Dfa} {cs0 : Array Value} (hZ : W.heap[b]? = some (.cells cs0 25 (0, 0))) (hc : cs0 = #[.int .i64 0, .int .i64 0, .slice none 0 0, .slice none 0 0]) (hd : IsDfa W h' D) : RBox b D (W.setRow b #[.int .i64 D.n, .int .i64 D.s, .slice h'.fa h'.fl h'.fc, .slice h'.aa h'.al h'.ac]) := by
 subst hc
 exact ⟨h', setRow_heap _ _ _ _ _ _ hZ, IsDfa.boxed _ hZ hd⟩
theorem rbox_ready {W1 : World} {B : Nat} (hs : W1.heap.size = B + 1) : ∃ W2, W1.alloc (.cells #[.int .i64 0, .int .i64 0, .slice none 0 0, .slice none 0 0] 25) = W2 ∧ Below W1.heap.size W1 W2 ∧ W2.heap.size = B + 2 ∧ W2.heap[B + 1]? = some (.cells #[.int .i64 0, .int .i64 0, .slice none 0 0, .slice none 0 0] 25 (0, 0)) :=
 ⟨_, rfl, (Below.refl _ _).alloc (Nat.le_refl _) _, by simp; omega, by rw [← hs]; exact heap_alloc_new W1 _⟩
set_option maxRecDepth 20000 in
set_option maxHeartbeats 4000000 in
theorem theirs_any (hd : IsDfa w h d) (hl : d.arcs.length ≤ 1000000) : Calls Try.prog 21 #[vDf d h] w (GivesD d w) := by
 obtain ⟨W1, hW1, hs1, hb1, hO⟩ := boxDW d h w hd
 obtain ⟨W2, hW2, hb2, hs2, hZ2⟩ := rbox_ready hs1
 have HO : Hid (∀ W, Below (w.heap.size + 1) W2 W → (W.cell? ⟨w.heap.size, 0, none⟩ = some (.int .i64 d.n) ∧ W.cell? ⟨w.heap.size, 1, none⟩ = some (.int .i64 d.s) ∧ W.cell? ⟨w.heap.size, 2, none⟩ = some (.slice h.fa h.fl h.fc) ∧ W.cell? ⟨w.heap.size, 3, none⟩ = some (.slice h.aa h.al h.ac)) ∧ IsDfa W h d ∧ Below w.heap.size w W) := Lib.hid (fun W hb => hO W ((hb2.mono (by omega)).trans hb))
 have hal : h.al ≤ 1000000 := by rw [← hd.2.length]; exact hl
 have HOB : Hid (∀ W, Below W2.heap.size W2 W → (W.cell? ⟨w.heap.size, 0, none⟩ = some (.int .i64 d.n) ∧ W.cell? ⟨w.heap.size, 1, none⟩ = some (.int .i64 d.s) ∧ W.cell? ⟨w.heap.size, 2, none⟩ = some (.slice h.fa h.fl h.fc) ∧ W.cell? ⟨w.heap.size, 3, none⟩ = some (.slice h.aa h.al h.ac)) ∧ IsDfa W h d ∧ W.heap[w.heap.size + 1]? = some (.cells #[.int .i64 0, .int .i64 0, .slice none 0 0, .slice none 0 0] 25 (0, 0)) ∧ Below w.heap.size w W) := Lib.hid (fun W hb => by
  obtain ⟨h1, h2, h3⟩ := HO.out W (hb.mono (by omega))
  exact ⟨h1, h2, by rw [hb.block _ (by omega)]; exact hZ2, h3⟩)
 have hb0 : Below W2.heap.size W2 W2 := Below.refl _ _
 clear hO HO hb2 hb1 hd hl hZ2 hs2
 unfold vDf
 obtain ⟨N, s0, fin, es⟩ := d
 obtain ⟨fa, fl, fc, aa, al, ac⟩ := h
 simp only [vDf] at hW1 hW2 HOB hal ⊢
 go_enter Try.func21, Try.ntmps21
 go_wp2_with (fail)
 obtain ⟨S, hSd⟩ : ∃ S : (Nat → Bool) → (Nat → Value) → World → Prop, S = fun L f W => if L 10 = true then Below w.heap.size w W ∧ RBox (w.heap.size + 1) ⟨N, s0, fin, es⟩ W else Below W2.heap.size W2 W ∧ (L 8 = true → ∃ a c, f 8 = .slice a al c ∧ IsArcs W a al c es) ∧ (L 9 = true → f 9 = .agg #[.int .i64 N, .int .i64 s0, .slice fa fl fc, f 8]) := ⟨_, rfl⟩
 refine wp_region_st mixed (by kernel_rfl) [[], [(0, 3)], [], [(2, 5)], [], [(4, 7)], [], [(6, 9)], [(7, 10)], [(1, 4), (3, 6), (5, 8), (8, 11)], [(9, 12), (8, 11), (0, 3), (1, 4), (2, 5), (3, 6), (4, 7), (5, 8), (6, 9), (7, 10), (8, 11), (9, 12)]] [(0, 3), (1, 4), (2, 5), (3, 6), (4, 7), (5, 8), (6, 9), (7, 10), (8, 11), (9, 12)] rfl rfl [EV ?et0, EV ?et1, EV ?et2, EV ?et3, EV ?et4, EV ?et5, EV ?et6, EV ?et7, fun v => ∃ a c, v = .slice a al c, fun v => ∃ z, v = .agg #[.int .i64 N, .int .i64 s0, .slice fa fl fc, z], fun _ => True] S ?tstart ?tsteps ?trest
 case tstart =>
  intro f
  rw [hSd]
  exact ⟨hb0.drew, fun h => (by cases h), fun h => (by cases h)⟩
 case tsteps =>
  refine ⟨fun L f W hi hd hdn hh hS => ?_, fun L f W hi hd hdn hh hS => ?_, fun L f W hi hd hdn hh hS => ?_, fun L f W hi hd hdn hh hS => ?_, fun L f W hi hd hdn hh hS => ?_, fun L f W hi hd hdn hh hS => ?_, fun L f W hi hd hdn hh hS => ?_, fun L f W hi hd hdn hh hS => ?_, fun L f W hi hd hdn hh hS => ?_, fun L f W hi hd hdn hh hS => ?_, fun L f W hi hd hdn hh hS => ?_, trivial⟩
  ·
   unfold stStep
   rw [if_pos (by simp [Region.wanted])]
   intro K Q hK
   simp only [puts, foldr_nil]
   go_step
   refine st_ex hK rfl rfl (by simp only [Act.put, setIfInBounds_toArray, set_cons_succ, set_cons_zero, Array.getD_eq_getD_getElem?, List.getElem?_toArray, List.getElem?_cons_succ, List.getElem?_cons_zero, Option.getD_some] <;> rfl) rfl (by rw [hSd] at hS ⊢; exact hS)
  ·
   obtain ⟨h0, -⟩ := hh
   have g0 : f 0 = _ := h0
   have l10 : L 10 = false := Bool.eq_false_iff.2 fun h => by have q := hdn 10 _ h rfl 1 (by decide); rw [show L 1 = false from hi] at q; cases q
   unfold stStep
   rw [if_pos (by simp [Region.wanted])]
   intro K Q hK
   simp only [puts, Za, Zb, Zc, Zd, Ze, g0]
   have hS' := hS
   rw [hSd] at hS'
   simp only [l10, if_false, Bool.false_eq_true] at hS'
   obtain ⟨⟨q1, q2, q3, q4⟩, -, -, -⟩ := HOB.out W hS'.1
   go_step
   refine st_ex hK rfl rfl (by simp only [Act.put, setIfInBounds_toArray, set_cons_succ, set_cons_zero, Array.getD_eq_getD_getElem?, List.getElem?_toArray, List.getElem?_cons_succ, List.getElem?_cons_zero, Option.getD_some] <;> rfl) rfl (by rw [hSd] at hS ⊢; exact hS)
  ·
   unfold stStep
   rw [if_pos (by simp [Region.wanted])]
   intro K Q hK
   simp only [puts, foldr_nil]
   go_step
   refine st_ex hK rfl rfl (by simp only [Act.put, setIfInBounds_toArray, set_cons_succ, set_cons_zero, Array.getD_eq_getD_getElem?, List.getElem?_toArray, List.getElem?_cons_succ, List.getElem?_cons_zero, Option.getD_some] <;> rfl) rfl (by rw [hSd] at hS ⊢; exact hS)
  ·
   obtain ⟨h2, -⟩ := hh
   have g2 : f 2 = _ := h2
   have l10 : L 10 = false := Bool.eq_false_iff.2 fun h => by have q := hdn 10 _ h rfl 3 (by decide); rw [show L 3 = false from hi] at q; cases q
   unfold stStep
   rw [if_pos (by simp [Region.wanted])]
   intro K Q hK
   simp only [puts, Za, Zb, Zc, Zd, Ze, g2]
   have hS' := hS
   rw [hSd] at hS'
   simp only [l10, if_false, Bool.false_eq_true] at hS'
   obtain ⟨⟨q1, q2, q3, q4⟩, -, -, -⟩ := HOB.out W hS'.1
   go_step
   refine st_ex hK rfl rfl (by simp only [Act.put, setIfInBounds_toArray, set_cons_succ, set_cons_zero, Array.getD_eq_getD_getElem?, List.getElem?_toArray, List.getElem?_cons_succ, List.getElem?_cons_zero, Option.getD_some] <;> rfl) rfl (by rw [hSd] at hS ⊢; exact hS)
  ·
   unfold stStep
   rw [if_pos (by simp [Region.wanted])]
   intro K Q hK
   simp only [puts, foldr_nil]
   go_step
   refine st_ex hK rfl rfl (by simp only [Act.put, setIfInBounds_toArray, set_cons_succ, set_cons_zero, Array.getD_eq_getD_getElem?, List.getElem?_toArray, List.getElem?_cons_succ, List.getElem?_cons_zero, Option.getD_some] <;> rfl) rfl (by rw [hSd] at hS ⊢; exact hS)
  ·
   obtain ⟨h4, -⟩ := hh
   have g4 : f 4 = _ := h4
   have l10 : L 10 = false := Bool.eq_false_iff.2 fun h => by have q := hdn 10 _ h rfl 5 (by decide); rw [show L 5 = false from hi] at q; cases q
   unfold stStep
   rw [if_pos (by simp [Region.wanted])]
   intro K Q hK
   simp only [puts, Za, Zb, Zc, Zd, Ze, g4]
   have hS' := hS
   rw [hSd] at hS'
   simp only [l10, if_false, Bool.false_eq_true] at hS'
   obtain ⟨⟨q1, q2, q3, q4⟩, -, -, -⟩ := HOB.out W hS'.1
   go_step
   refine st_ex hK rfl rfl (by simp only [Act.put, setIfInBounds_toArray, set_cons_succ, set_cons_zero, Array.getD_eq_getD_getElem?, List.getElem?_toArray, List.getElem?_cons_succ, List.getElem?_cons_zero, Option.getD_some] <;> rfl) rfl (by rw [hSd] at hS ⊢; exact hS)
  ·
   unfold stStep
   rw [if_pos (by simp [Region.wanted])]
   intro K Q hK
   simp only [puts, foldr_nil]
   go_step
   refine st_ex hK rfl rfl (by simp only [Act.put, setIfInBounds_toArray, set_cons_succ, set_cons_zero, Array.getD_eq_getD_getElem?, List.getElem?_toArray, List.getElem?_cons_succ, List.getElem?_cons_zero, Option.getD_some] <;> rfl) rfl (by rw [hSd] at hS ⊢; exact hS)
  ·
   obtain ⟨h6, -⟩ := hh
   have g6 : f 6 = _ := h6
   have l10 : L 10 = false := Bool.eq_false_iff.2 fun h => by have q := hdn 10 _ h rfl 7 (by decide); rw [show L 7 = false from hi] at q; cases q
   unfold stStep
   rw [if_pos (by simp [Region.wanted])]
   intro K Q hK
   simp only [puts, Za, Zb, Zc, Zd, Ze, g6]
   have hS' := hS
   rw [hSd] at hS'
   simp only [l10, if_false, Bool.false_eq_true] at hS'
   obtain ⟨⟨q1, q2, q3, q4⟩, -, -, -⟩ := HOB.out W hS'.1
   go_step
   refine st_ex hK rfl rfl (by simp only [Act.put, setIfInBounds_toArray, set_cons_succ, set_cons_zero, Array.getD_eq_getD_getElem?, List.getElem?_toArray, List.getElem?_cons_succ, List.getElem?_cons_zero, Option.getD_some] <;> rfl) rfl (by rw [hSd] at hS ⊢; exact hS)
  ·
   obtain ⟨h7, -⟩ := hh
   have g7 : f 7 = _ := h7
   have l9 : L 9 = false := Bool.eq_false_iff.2 fun h => by have q := hdn 9 _ h rfl 8 (by decide); rw [show L 8 = false from hi] at q; cases q
   have l10 : L 10 = false := Bool.eq_false_iff.2 fun h => by have q := hdn 10 _ h rfl 9 (by decide); rw [show L 9 = false from l9] at q; cases q
   unfold stStep
   rw [if_pos (by simp [Region.wanted])]
   intro K Q hK
   simp only [puts, Za, Zb, Zc, Zd, Ze, g7]
   rw [hSd] at hS hK
   have l8 : L 8 = false := hi
   try simp only [stage, l9, l10, l8, if_true, if_false, Bool.false_eq_true] at hS
   obtain ⟨hbW, -, -⟩ := hS
   obtain ⟨-, hdW, -, -⟩ := HOB.out W hbW
   have hcn := lawArcs_any hdW.2 hal
   go_step
   go_at_call 51
   refine hcn.mono ?_
   rintro e w' ⟨⟨a', c', rfl, hI⟩, hb⟩
   refine hK.out _ _ rfl ⟨a', c', rfl⟩ ?_
   simp only [l10, Bool.false_eq_true, ↓reduceIte, Nat.reduceEqDiff]
   exact ⟨hbW.trans (hb.mono hbW.size), fun _ => ⟨a', c', rfl, hI⟩, fun h => (by simp [l9] at h)⟩
  ·
   obtain ⟨h1, h3, h5, h8, -⟩ := hh
   have g1 : f 1 = _ := h1
   have g3 : f 3 = _ := h3
   have g5 : f 5 = _ := h5
   obtain ⟨a8, c8, (g8 : f 8 = _)⟩ := h8
   have l8 : L 8 = true := hd 8 (by decide)
   have l10 : L 10 = false := Bool.eq_false_iff.2 fun h => by have q := hdn 10 _ h rfl 9 (by decide); rw [show L 9 = false from hi] at q; cases q
   unfold stStep
   rw [if_pos (by simp [Region.wanted])]
   intro K Q hK
   simp only [puts, Za, Zb, Zc, Zd, Ze, g1, g3, g5, g8]
   rw [hSd] at hS hK
   have l9 : L 9 = false := hi
   try simp only [stage, l10, l9, l8, if_true, if_false, Bool.false_eq_true] at hS
   obtain ⟨hbW, h8W, -⟩ := hS
   go_step
   refine hK.out _ _ rfl ⟨_, rfl⟩ ?_
   simp only [l10, Bool.false_eq_true, ↓reduceIte, Nat.reduceEqDiff]
   exact ⟨hbW, fun _ => h8W trivial, fun _ => (by rw [g8]; rfl)⟩
  ·
   obtain ⟨h9, h8, h0, h1, h2, h3, h4, h5, h6, h7, _, _, -⟩ := hh
   obtain ⟨z9, (g9 : f 9 = _)⟩ := h9
   obtain ⟨a8, c8, (g8 : f 8 = _)⟩ := h8
   have g0 : f 0 = _ := h0
   have g1 : f 1 = _ := h1
   have g2 : f 2 = _ := h2
   have g3 : f 3 = _ := h3
   have g4 : f 4 = _ := h4
   have g5 : f 5 = _ := h5
   have g6 : f 6 = _ := h6
   have g7 : f 7 = _ := h7
   have l9 : L 9 = true := hd 9 (by decide)
   unfold stStep
   rw [if_pos (by simp [Region.wanted])]
   intro K Q hK
   simp only [puts, Za, Zb, Zc, Zd, Ze, g9, g8, g0, g1, g2, g3, g4, g5, g6, g7]
   rw [hSd] at hS hK
   have l10 : L 10 = false := hi
   try simp only [stage, l10, l9, if_true, if_false, Bool.false_eq_true] at hS
   obtain ⟨hbW, h8W, h9W⟩ := hS
   obtain ⟨a', c', e8, hI⟩ := h8W (hd 8 (by decide))
   have e9 := h9W trivial
   rw [g9, e8] at e9
   obtain rfl : z9 = .slice a' al c' := by simpa using e9
   obtain ⟨-, hdW, hZW, hbw⟩ := HOB.out W hbW
   refine wp_store_row 25 _ _ rfl (w.heap.size + 1) #[.int .i64 N, .int .i64 s0, .slice fa fl fc, .slice a' al c'] rfl rfl _ _ hZW ref_i rfl (dfa_one _ _ _ _ _ _ _ _) ?_
   refine hK.out _ _ rfl trivial ?_
   simp only [↓reduceIte, Nat.reduceEqDiff]
   exact ⟨below_setRow hbw (by omega) _, RBox.put (h' := ⟨fa, fl, fc, a', al, c'⟩) hZW rfl ⟨hdW.1, hI⟩⟩
 case trest =>
  intro L f WE hL hh hS
  rw [hSd] at hS
  clear hSd
  have l8 : L 8 = true := hL 8 (by decide)
  have l9 : L 9 = true := hL 9 (by decide)
  have l10 : L 10 = true := hL 10 (by decide)
  simp only [stage, l8, l9, l10, if_true] at hS
  clear hL l8 l9 l10
  obtain ⟨h0, h1, h2, h3, h4, h5, h6, h7, h8, h9, -⟩ := hh
  have g0 : f 0 = _ := h0
  have g1 : f 1 = _ := h1
  have g2 : f 2 = _ := h2
  have g3 : f 3 = _ := h3
  have g4 : f 4 = _ := h4
  have g5 : f 5 = _ := h5
  have g6 : f 6 = _ := h6
  have g7 : f 7 = _ := h7
  obtain ⟨a8, c8, (g8 : f 8 = _)⟩ := h8
  obtain ⟨z9, (g9 : f 9 = _)⟩ := h9
  simp only [puts, Za, Zb, Zc, Zd, Ze, g0, g1, g2, g3, g4, g5, g6, g7, g8, g9]
  clear h0 h1 h2 h3 h4 h5 h6 h7 g0 g1 g2 g3 g4 g5 g6 g7
  obtain ⟨hbE, h', hZE, hDE⟩ := hS
  go_wp2_with (fail)
  refine bodyPost_ret (results_cell_row rfl _ _ (w.heap.size + 1) _ _ _ _ rfl hZE Try.underlying25 rfl ref_i) rfl ?_
  exact ⟨⟨h', rfl, hDE⟩, hbE⟩
end Go.Proofs.Ytpcbmhfnefhenaa
