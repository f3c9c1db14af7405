import Derived.Test.YtpcbmhfnefhenaaMG1
import Derived.Test.YtpcbmhfnefhenaaMG10
import Derived.Test.YtpcbmhfnefhenaaMG17
/-
  DfaSm, GraB
-/
set_option linter.unusedSimpArgs false
set_option linter.unusedVariables false
namespace Go.Proofs.Ytpcbmhfnefhenaa
open List (foldr_cons foldr_nil setIfInBounds_toArray set_cons_succ set_cons_zero)
open Go.RowKit
attribute [local go_sem] Oper.semAt_some

set_option maxRecDepth 20000 in
theorem sameBools_any (a : Option Addr) (len cap : Nat) (xs : List Bool) (a' : Option Addr) (len' cap' : Nat) (ys : List Bool) (w : World) (hs : IsBools w a len cap xs) (hs' : IsBools w a' len' cap' ys) :
    Calls Try.prog 49 #[.slice a len cap, .slice a' len' cap'] w fun e w' => e = .returned (.bool (decide (xs = ys))) ∧ Below w.heap.size w w' := by
  have hxl := hs.length
  have hyl := hs'.length
  have hcap := hs.capLe
  have hcap' := hs'.capLe
  unfold maxLen at hcap hcap'
  by_cases he : len = len'
  · subst he
    have hq : ((len : Int) != (len : Int)) = false := by simp
    go_enter Try.func49, Try.ntmps49
    go_wp2
    go_loopw [5] (fun c W => ∃ k : Nat, k ≤ len ∧ c = .int .i64 (k : Int) ∧ (∀ i, i < k → gb xs i = gb ys i) ∧ Below w.heap.size w W) (fun c _ => len - (intOf c).toNat)
    case atStart => exact ⟨0, Nat.zero_le _, rfl, (fun i hi => by omega), Below.refl _ _⟩
    case round =>
      obtain ⟨k, hk, rfl, hall, hb⟩ := hrel
      have HA := Lib.hid hall
      clear hall
      rcases Nat.lt_or_ge k len with hlt | hge
      · obtain ⟨b, off, rfl, hc⟩ := hs.fix (by omega)
        obtain ⟨b', off', rfl, hc'⟩ := hs'.fix (by omega)
        obtain ⟨x, hx⟩ : ∃ x, gb xs k = x := ⟨_, rfl⟩
        obtain ⟨y, hy⟩ : ∃ y, gb ys k = y := ⟨_, rfl⟩
        have hcm : ∀ W, Below wr.heap.size wr W → W.cell? ⟨b, off + k, none⟩ = some (.bool x) ∧ W.cell? ⟨b', off' + k, none⟩ = some (.bool y) := fun W h => by
          have hbW := hb.trans (h.mono hb.size)
          rw [← hx, ← hy]
          exact ⟨hc W hbW k hlt, hc' W hbW k hlt⟩
        have HX := Lib.hid hx
        have HY := Lib.hid hy
        have HB := Lib.hid hb
        clear hs hs' hc hc' hx hy hb
        go_wp2
        refine wp_region_grow mixed (by kernel_rfl) [[], [], [(0, 17), (1, 18)], [(2, 19)], [], [], [(4, 21), (5, 22)], [(6, 23)], [(3, 20), (7, 24)]] [(0, 17), (1, 18), (2, 19), (3, 20), (4, 21), (5, 22), (6, 23), (7, 24), (8, 25)] rfl rfl [Ex ?e0, Ex ?e1, Ex ?e2, Ex ?e3, Ex ?e4, Ex ?e5, Ex ?e6, Ex ?e7, Ex ?e8] ⟨stays_ex _, stays_ex _, stays_ex _, stays_ex _, stays_ex _, stays_ex _, stays_ex _, stays_ex _, stays_ex _, trivial⟩ ?steps ?rest
        case steps =>
          refine ⟨fun f W hC hh => ?_, fun f W hC hh => ?_, fun f W hC hh => ?_, fun f W hC hh => ?_, fun f W hC hh => ?_, fun f W hC hh => ?_, fun f W hC hh => ?_, fun f W hC hh => ?_, fun f W hC hh => ?_, trivial⟩
          ·
            refine tab_plain fun K Q hK => ?_
            simp only [puts, foldr_nil]
            go_step
            exact fam_e hK rfl rfl (Below.refl _ _) hC
          ·
            refine tab_plain fun K Q hK => ?_
            simp only [puts, foldr_nil]
            go_step
            exact fam_e hK rfl rfl (Below.refl _ _) hC
          ·
            obtain ⟨h0, h1, -⟩ := hh
            have g0 : f 0 = _ := h0
            have g1 : f 1 = _ := h1
            refine tab_plain fun K Q hK => ?_
            simp only [puts, foldr_cons, foldr_nil, setIfInBounds_toArray, set_cons_succ, set_cons_zero, g0, g1]
            go_step
            exact fam_e hK rfl rfl (Below.refl _ _) hC
          ·
            obtain ⟨h2, -⟩ := hh
            have g2 : f 2 = _ := h2
            refine tab_plain fun K Q hK => ?_
            simp only [puts, foldr_cons, foldr_nil, setIfInBounds_toArray, set_cons_succ, set_cons_zero, g2]
            obtain ⟨f1, f2⟩ := hcm W hC
            go_step
            exact fam_e hK rfl rfl (Below.refl _ _) hC
          ·
            refine tab_plain fun K Q hK => ?_
            simp only [puts, foldr_nil]
            go_step
            exact fam_e hK rfl rfl (Below.refl _ _) hC
          ·
            refine tab_plain fun K Q hK => ?_
            simp only [puts, foldr_nil]
            go_step
            exact fam_e hK rfl rfl (Below.refl _ _) hC
          ·
            obtain ⟨h4, h5, -⟩ := hh
            have g4 : f 4 = _ := h4
            have g5 : f 5 = _ := h5
            refine tab_plain fun K Q hK => ?_
            simp only [puts, foldr_cons, foldr_nil, setIfInBounds_toArray, set_cons_succ, set_cons_zero, g4, g5]
            go_step
            exact fam_e hK rfl rfl (Below.refl _ _) hC
          ·
            obtain ⟨h6, -⟩ := hh
            have g6 : f 6 = _ := h6
            refine tab_plain fun K Q hK => ?_
            simp only [puts, foldr_cons, foldr_nil, setIfInBounds_toArray, set_cons_succ, set_cons_zero, g6]
            obtain ⟨f1, f2⟩ := hcm W hC
            go_step
            exact fam_e hK rfl rfl (Below.refl _ _) hC
          ·
            obtain ⟨h3, h7, -⟩ := hh
            have g3 : f 3 = _ := h3
            have g7 : f 7 = _ := h7
            refine tab_plain fun K Q hK => ?_
            simp only [puts, foldr_cons, foldr_nil, setIfInBounds_toArray, set_cons_succ, set_cons_zero, g3, g7]
            go_step
            exact fam_e hK rfl rfl (Below.refl _ _) hC
        case rest =>
          intro f W2 hC hh
          obtain ⟨h0, h1, h2, h3, h4, h5, h6, h7, h8, -⟩ := hh
          have g0 : f 0 = _ := h0
          have g1 : f 1 = _ := h1
          have g2 : f 2 = _ := h2
          have g3 : f 3 = _ := h3
          have g4 : f 4 = _ := h4
          have g5 : f 5 = _ := h5
          have g6 : f 6 = _ := h6
          have g7 : f 7 = _ := h7
          have g8 : f 8 = _ := h8
          simp only [puts, foldr_cons, foldr_nil, setIfInBounds_toArray, set_cons_succ, set_cons_zero, g0, g1, g2, g3, g4, g5, g6, g7, g8]
          clear h0 h1 h2 h3 h4 h5 h6 h7 h8 g0 g1 g2 g3 g4 g5 g6 g7 g8
          have hb2 := HB.out.trans (hC.mono HB.out.size)
          by_cases h0 : x = y
          · have hq : (x == y) = true := by simpa using h0
            have HE := Lib.hid h0
            rw [hq]
            clear h0 hcm
            go_wp2
            go_roundw
            case rel => exact ⟨k + 1, by omega, by go_num, (fun i hi => by rcases Nat.lt_or_ge i k with h | h; exact HA.out i h; rw [show i = k by omega, HX.out, HY.out]; exact HE.out), hb2⟩
            case measure => simp [intOf]; omega
          · have hq : (x == y) = false := by simpa using h0
            rw [hq]
            have HE : Hid (decide (xs = ys) = false) := Lib.hid (decide_eq_false (fun e => h0 (by rw [← HX.out, ← HY.out, e])))
            clear h0 hcm
            go_wp2
            go_ret
            exact ⟨by rw [HE.out]; rfl, hb2⟩
      · have hkm : k = len := by omega
        subst hkm
        have HE : Hid (decide (xs = ys) = true) := Lib.hid (decide_eq_true (gb_ext (by omega) (fun i hi => HA.out i (by omega))))
        go_wp2
        go_ret
        exact ⟨by rw [HE.out]; rfl, hb⟩
  · have hq : ((len : Int) != (len' : Int)) = true := by simp; omega
    have HE : Hid (decide (xs = ys) = false) := Lib.hid (decide_eq_false (fun e => he (by rw [← hxl, ← hyl, e])))
    go_enter Try.func49, Try.ntmps49
    go_wp2
    go_ret
    exact ⟨by rw [HE.out]; rfl, Below.refl _ _⟩
set_option maxRecDepth 20000 in
theorem sameArcs_any (a : Option Addr) (len cap : Nat) (xs : List A3) (a' : Option Addr) (len' cap' : Nat) (ys : List A3) (w : World) (hs : IsArcs w a len cap xs) (hs' : IsArcs w a' len' cap' ys) :
    Calls Try.prog 50 #[.slice a len cap, .slice a' len' cap'] w fun e w' => e = .returned (.bool (decide (xs = ys))) ∧ Below w.heap.size w w' := by
  have hxl := hs.length
  have hyl := hs'.length
  have hcap := hs.capLe
  have hcap' := hs'.capLe
  unfold maxLen at hcap hcap'
  by_cases he : len = len'
  · subst he
    have hq : ((len : Int) != (len : Int)) = false := by simp
    go_enter Try.func50, Try.ntmps50
    go_wp2
    go_loopw [5] (fun c W => ∃ k : Nat, k ≤ len ∧ c = .int .i64 (k : Int) ∧ (∀ i, i < k → g3 xs i = g3 ys i) ∧ Below w.heap.size w W) (fun c _ => len - (intOf c).toNat)
    case atStart => exact ⟨0, Nat.zero_le _, rfl, (fun i hi => by omega), Below.refl _ _⟩
    case round =>
      obtain ⟨k, hk, rfl, hall, hb⟩ := hrel
      have HA := Lib.hid hall
      clear hall
      rcases Nat.lt_or_ge k len with hlt | hge
      · obtain ⟨b, off, rfl, hc⟩ := hs.fix (by omega)
        obtain ⟨b', off', rfl, hc'⟩ := hs'.fix (by omega)
        obtain ⟨x1, x2, x3, hx⟩ : ∃ x1 x2 x3, g3 xs k = ⟨x1, x2, x3⟩ := ⟨_, _, _, rfl⟩
        obtain ⟨y1, y2, y3, hy⟩ : ∃ y1 y2 y3, g3 ys k = ⟨y1, y2, y3⟩ := ⟨_, _, _, rfl⟩
        have hcm : ∀ W, Below wr.heap.size wr W → (W.cell? ⟨b, off + k * 3, none⟩ = some (.int .i64 x1) ∧ W.cell? ⟨b, off + k * 3 + 1, none⟩ = some (.int .i64 x2) ∧ W.cell? ⟨b, off + k * 3 + 2, none⟩ = some (.int .i64 x3)) ∧ W.cell? ⟨b', off' + k * 3, none⟩ = some (.int .i64 y1) ∧ W.cell? ⟨b', off' + k * 3 + 1, none⟩ = some (.int .i64 y2) ∧ W.cell? ⟨b', off' + k * 3 + 2, none⟩ = some (.int .i64 y3) := fun W h => by
          have hbW := hb.trans (h.mono hb.size)
          have h1 := hc W hbW k hlt
          have h2 := hc' W hbW k hlt
          rw [hx] at h1
          rw [hy] at h2
          exact ⟨h1, h2⟩
        have HX := Lib.hid hx
        have HY := Lib.hid hy
        have HB := Lib.hid hb
        clear hs hs' hc hc' hx hy hb
        by_cases h0 : x1 = y1 ∧ x2 = y2 ∧ x3 = y3
        · obtain ⟨rfl, rfl, rfl⟩ := h0
          go_wp2
          refine wp_region_grow mixed (by kernel_rfl) [[], [], [(0, 17), (1, 18)], [(2, 19)], [], [], [(4, 21), (5, 22)], [(6, 23)], [(3, 20), (7, 24)]] [(0, 17), (1, 18), (2, 19), (3, 20), (4, 21), (5, 22), (6, 23), (7, 24), (8, 25)] rfl rfl [Ex ?e0, Ex ?e1, Ex ?e2, Ex ?e3, Ex ?e4, Ex ?e5, Ex ?e6, Ex ?e7, Ex ?e8] ⟨stays_ex _, stays_ex _, stays_ex _, stays_ex _, stays_ex _, stays_ex _, stays_ex _, stays_ex _, stays_ex _, trivial⟩ ?steps ?rest
          case steps =>
            refine ⟨fun f W hC hh => ?_, fun f W hC hh => ?_, fun f W hC hh => ?_, fun f W hC hh => ?_, fun f W hC hh => ?_, fun f W hC hh => ?_, fun f W hC hh => ?_, fun f W hC hh => ?_, fun f W hC hh => ?_, trivial⟩
            ·
              refine tab_plain fun K Q hK => ?_
              simp only [puts, foldr_nil]
              go_step
              exact fam_e hK rfl rfl (Below.refl _ _) hC
            ·
              refine tab_plain fun K Q hK => ?_
              simp only [puts, foldr_nil]
              go_step
              exact fam_e hK rfl rfl (Below.refl _ _) hC
            ·
              obtain ⟨h0, h1, -⟩ := hh
              have g0 : f 0 = _ := h0
              have g1 : f 1 = _ := h1
              refine tab_plain fun K Q hK => ?_
              simp only [puts, foldr_cons, foldr_nil, setIfInBounds_toArray, set_cons_succ, set_cons_zero, g0, g1]
              go_step
              exact fam_e hK rfl rfl (Below.refl _ _) hC
            ·
              obtain ⟨h2, -⟩ := hh
              have g2 : f 2 = _ := h2
              refine tab_plain fun K Q hK => ?_
              simp only [puts, foldr_cons, foldr_nil, setIfInBounds_toArray, set_cons_succ, set_cons_zero, g2]
              obtain ⟨⟨f1, f2, f3⟩, f4, f5, f6⟩ := hcm W hC
              go_step
              exact fam_e hK rfl rfl (Below.refl _ _) hC
            ·
              refine tab_plain fun K Q hK => ?_
              simp only [puts, foldr_nil]
              go_step
              exact fam_e hK rfl rfl (Below.refl _ _) hC
            ·
              refine tab_plain fun K Q hK => ?_
              simp only [puts, foldr_nil]
              go_step
              exact fam_e hK rfl rfl (Below.refl _ _) hC
            ·
              obtain ⟨h4, h5, -⟩ := hh
              have g4 : f 4 = _ := h4
              have g5 : f 5 = _ := h5
              refine tab_plain fun K Q hK => ?_
              simp only [puts, foldr_cons, foldr_nil, setIfInBounds_toArray, set_cons_succ, set_cons_zero, g4, g5]
              go_step
              exact fam_e hK rfl rfl (Below.refl _ _) hC
            ·
              obtain ⟨h6, -⟩ := hh
              have g6 : f 6 = _ := h6
              refine tab_plain fun K Q hK => ?_
              simp only [puts, foldr_cons, foldr_nil, setIfInBounds_toArray, set_cons_succ, set_cons_zero, g6]
              obtain ⟨⟨f1, f2, f3⟩, f4, f5, f6⟩ := hcm W hC
              go_step
              exact fam_e hK rfl rfl (Below.refl _ _) hC
            ·
              obtain ⟨h3, h7, -⟩ := hh
              have g3 : f 3 = _ := h3
              have g7 : f 7 = _ := h7
              refine tab_plain fun K Q hK => ?_
              simp only [puts, foldr_cons, foldr_nil, setIfInBounds_toArray, set_cons_succ, set_cons_zero, g3, g7]
              go_step
              exact fam_e hK rfl rfl (Below.refl _ _) hC
          case rest =>
            intro f W2 hC hh
            obtain ⟨h0, h1, h2, h3, h4, h5, h6, h7, h8, -⟩ := hh
            have g0 : f 0 = _ := h0
            have g1 : f 1 = _ := h1
            have g2 : f 2 = _ := h2
            have g3 : f 3 = _ := h3
            have g4 : f 4 = _ := h4
            have g5 : f 5 = _ := h5
            have g6 : f 6 = _ := h6
            have g7 : f 7 = _ := h7
            have g8 : f 8 = _ := h8
            simp only [puts, foldr_cons, foldr_nil, setIfInBounds_toArray, set_cons_succ, set_cons_zero, g0, g1, g2, g3, g4, g5, g6, g7, g8]
            clear h0 h1 h2 h3 h4 h5 h6 h7 h8 g0 g1 g2 g3 g4 g5 g6 g7 g8
            have hb2 := HB.out.trans (hC.mono HB.out.size)
            clear hcm
            go_wp2
            go_roundw
            case rel => exact ⟨k + 1, by omega, by go_num, (fun i hi => by rcases Nat.lt_or_ge i k with h | h; exact HA.out i h; rw [show i = k by omega, HX.out, HY.out]), hb2⟩
            case measure => simp [intOf]; omega
        · have HNE := Lib.hid h0
          have HE : Hid (decide (xs = ys) = false) := Lib.hid (decide_eq_false (fun e => h0 (by have h := HX.out; rw [e, HY.out] at h; injection h with e1 e2 e3; exact ⟨e1.symm, e2.symm, e3.symm⟩)))
          clear h0
          go_wp2
          refine wp_region_grow mixed (by kernel_rfl) [[], [], [(0, 17), (1, 18)], [(2, 19)], [], [], [(4, 21), (5, 22)], [(6, 23)], [(3, 20), (7, 24)]] [(0, 17), (1, 18), (2, 19), (3, 20), (4, 21), (5, 22), (6, 23), (7, 24), (8, 25)] rfl rfl [Ex ?eb0, Ex ?eb1, Ex ?eb2, Ex ?eb3, Ex ?eb4, Ex ?eb5, Ex ?eb6, Ex ?eb7, Ex (.bool true)] ⟨stays_ex _, stays_ex _, stays_ex _, stays_ex _, stays_ex _, stays_ex _, stays_ex _, stays_ex _, stays_ex _, trivial⟩ ?bsteps ?brest
          case bsteps =>
            refine ⟨fun f W hC hh => ?_, fun f W hC hh => ?_, fun f W hC hh => ?_, fun f W hC hh => ?_, fun f W hC hh => ?_, fun f W hC hh => ?_, fun f W hC hh => ?_, fun f W hC hh => ?_, fun f W hC hh => ?_, trivial⟩
            ·
              refine tab_plain fun K Q hK => ?_
              simp only [puts, foldr_nil]
              go_step
              exact fam_e hK rfl rfl (Below.refl _ _) hC
            ·
              refine tab_plain fun K Q hK => ?_
              simp only [puts, foldr_nil]
              go_step
              exact fam_e hK rfl rfl (Below.refl _ _) hC
            ·
              obtain ⟨h0, h1, -⟩ := hh
              have g0 : f 0 = _ := h0
              have g1 : f 1 = _ := h1
              refine tab_plain fun K Q hK => ?_
              simp only [puts, foldr_cons, foldr_nil, setIfInBounds_toArray, set_cons_succ, set_cons_zero, g0, g1]
              go_step
              exact fam_e hK rfl rfl (Below.refl _ _) hC
            ·
              obtain ⟨h2, -⟩ := hh
              have g2 : f 2 = _ := h2
              refine tab_plain fun K Q hK => ?_
              simp only [puts, foldr_cons, foldr_nil, setIfInBounds_toArray, set_cons_succ, set_cons_zero, g2]
              obtain ⟨⟨f1, f2, f3⟩, f4, f5, f6⟩ := hcm W hC
              go_step
              exact fam_e hK rfl rfl (Below.refl _ _) hC
            ·
              refine tab_plain fun K Q hK => ?_
              simp only [puts, foldr_nil]
              go_step
              exact fam_e hK rfl rfl (Below.refl _ _) hC
            ·
              refine tab_plain fun K Q hK => ?_
              simp only [puts, foldr_nil]
              go_step
              exact fam_e hK rfl rfl (Below.refl _ _) hC
            ·
              obtain ⟨h4, h5, -⟩ := hh
              have g4 : f 4 = _ := h4
              have g5 : f 5 = _ := h5
              refine tab_plain fun K Q hK => ?_
              simp only [puts, foldr_cons, foldr_nil, setIfInBounds_toArray, set_cons_succ, set_cons_zero, g4, g5]
              go_step
              exact fam_e hK rfl rfl (Below.refl _ _) hC
            ·
              obtain ⟨h6, -⟩ := hh
              have g6 : f 6 = _ := h6
              refine tab_plain fun K Q hK => ?_
              simp only [puts, foldr_cons, foldr_nil, setIfInBounds_toArray, set_cons_succ, set_cons_zero, g6]
              obtain ⟨⟨f1, f2, f3⟩, f4, f5, f6⟩ := hcm W hC
              go_step
              exact fam_e hK rfl rfl (Below.refl _ _) hC
            ·
              obtain ⟨h3, h7, -⟩ := hh
              have g3 : f 3 = _ := h3
              have g7 : f 7 = _ := h7
              refine tab_plain fun K Q hK => ?_
              simp only [puts, foldr_cons, foldr_nil, setIfInBounds_toArray, set_cons_succ, set_cons_zero, g3, g7]
              go_step
              by_cases e1 : x1 = y1
              · by_cases e2 : x2 = y2
                · by_cases e3 : x3 = y3
                  · exact absurd ⟨e1, e2, e3⟩ HNE.out
                  · rw [if_pos e1, if_pos e2, if_neg e3]; exact fam_fin hK rfl rfl (Below.refl _ _) hC
                · rw [if_pos e1, if_neg e2]; exact fam_fin hK rfl rfl (Below.refl _ _) hC
              · rw [if_neg e1]; exact fam_fin hK rfl rfl (Below.refl _ _) hC
          case brest =>
            intro f W2 hC hh
            obtain ⟨h0, h1, h2, h3, h4, h5, h6, h7, h8, -⟩ := hh
            have g0 : f 0 = _ := h0
            have g1 : f 1 = _ := h1
            have g2 : f 2 = _ := h2
            have g3 : f 3 = _ := h3
            have g4 : f 4 = _ := h4
            have g5 : f 5 = _ := h5
            have g6 : f 6 = _ := h6
            have g7 : f 7 = _ := h7
            have g8 : f 8 = _ := h8
            simp only [puts, foldr_cons, foldr_nil, setIfInBounds_toArray, set_cons_succ, set_cons_zero, g0, g1, g2, g3, g4, g5, g6, g7, g8]
            clear h0 h1 h2 h3 h4 h5 h6 h7 h8 g0 g1 g2 g3 g4 g5 g6 g7 g8
            have hb2 := HB.out.trans (hC.mono HB.out.size)
            clear hcm
            go_wp2
            go_ret
            exact ⟨by rw [HE.out]; rfl, hb2⟩
      · have hkm : k = len := by omega
        subst hkm
        have HE : Hid (decide (xs = ys) = true) := Lib.hid (decide_eq_true (g3_ext (by omega) (fun i hi => HA.out i (by omega))))
        go_wp2
        go_ret
        exact ⟨by rw [HE.out]; rfl, hb⟩
  · have hq : ((len : Int) != (len' : Int)) = true := by simp; omega
    have HE : Hid (decide (xs = ys) = false) := Lib.hid (decide_eq_false (fun e => he (by rw [← hxl, ← hyl, e])))
    go_enter Try.func50, Try.ntmps50
    go_wp2
    go_ret
    exact ⟨by rw [HE.out]; rfl, Below.refl _ _⟩
set_option maxRecDepth 20000 in
theorem refSame_any {a b : Dfa} {h k : DH} {w : World} (hd : IsDfa w h a) (he : IsDfa w k b) :
    Calls Try.prog 20 #[vDf a h, vDf b k] w fun e w' => e = .returned (.bool (eqD a b)) ∧ Below w.heap.size w w' := by
  obtain ⟨V, hV⟩ : ∃ V, eqD a b = V := ⟨_, rfl⟩
  have HV := Lib.hid hV
  rw [hV]
  have HN : ¬ (a.n = b.n ∧ a.s = b.s ∧ a.fin = b.fin ∧ a.arcs = b.arcs) → V = false := fun h => by rw [← hV]; exact decide_eq_false h
  have HY : (a.n = b.n ∧ a.s = b.s ∧ a.fin = b.fin ∧ a.arcs = b.arcs) → V = true := fun h => by rw [← hV]; exact decide_eq_true h
  clear hV
  obtain ⟨W1, hW1, hs1, hb1, hO⟩ := boxRW a h w hd
  have he1 := he.later hb1
  obtain ⟨W2, hW2, hs2, hb2, hP⟩ := boxRW b k W1 he1
  obtain ⟨⟨p1, p2, p3, p4⟩, hd1, -⟩ := hO W2 (hb2.mono (by omega))
  obtain ⟨⟨q1, q2, q3, q4⟩, he2, -⟩ := hP W2 (Below.refl _ _)
  have hB : Below w.heap.size w W2 := hb1.trans (hb2.mono (by omega))
  have hfb := sameBools_any _ _ _ _ _ _ _ _ W2 hd1.fin he2.fin
  have hall : ∀ W, Below W2.heap.size W2 W → (W.cell? ⟨w.heap.size, 3, none⟩ = some (.slice h.aa h.al h.ac) ∧ W.cell? ⟨w.heap.size + 1, 3, none⟩ = some (.slice k.aa k.al k.ac)) ∧ Calls Try.prog 50 #[.slice h.aa h.al h.ac, .slice k.aa k.al k.ac] W fun e w' => e = .returned (.bool (decide (a.arcs = b.arcs))) ∧ Below W.heap.size W w' := fun W hb => by
    have h1 := hO W ((hb2.mono (by omega)).trans (hb.mono (by omega)))
    have h2 := hP W (hb.mono (by omega))
    refine ⟨⟨h1.1.2.2.2, ?_⟩, sameArcs_any _ _ _ _ _ _ _ _ W h1.2.1.arcs h2.2.1.arcs⟩
    have := h2.1.2.2.2
    rwa [hs1] at this
  rw [hs1] at q1 q2 q3 q4
  obtain ⟨n, s, fin, es⟩ := a
  obtain ⟨fa, fl, fc, aa, al, ac⟩ := h
  obtain ⟨n', s', fin', es'⟩ := b
  obtain ⟨fa', fl', fc', aa', al', ac'⟩ := k
  simp only [vDf] at hW1 hW2 p1 p2 p3 p4 q1 q2 q3 q4 hfb hall HN HY ⊢
  have HN := Lib.hid HN
  have HY := Lib.hid HY
  by_cases h1 : n = n'
  case neg =>
    have t1 : (n == n') = false := by simpa using h1
    have HF := Lib.hid (HN.out fun h => h1 h.1)
    clear h1
    go_enter Try.func20, Try.ntmps20
    go_wp2
    go_ret
    exact ⟨by rw [HF.out]; rfl, hB⟩
  have t1 : (n == n') = true := by simpa using h1
  have H1 := Lib.hid h1
  clear h1
  by_cases h2 : s = s'
  case neg =>
    have t2 : (s == s') = false := by simpa using h2
    have HF := Lib.hid (HN.out fun h => h2 h.2.1)
    clear h2
    go_enter Try.func20, Try.ntmps20
    go_wp2
    go_ret
    exact ⟨by rw [HF.out]; rfl, hB⟩
  have t2 : (s == s') = true := by simpa using h2
  have H2 := Lib.hid h2
  clear h2
  by_cases h3 : fin = fin'
  case neg =>
    rw [decide_eq_false h3] at hfb
    have HF := Lib.hid (HN.out fun h => h3 h.2.2.1)
    clear h3
    go_enter Try.func20, Try.ntmps20
    go_wp2_with (go_at_call 49; refine hfb.mono ?_; rintro e w3 ⟨rfl, hb3⟩)
    go_ret
    exact ⟨by rw [HF.out]; rfl, hB.trans (hb3.mono hB.size)⟩
  rw [decide_eq_true h3] at hfb
  have H3 := Lib.hid h3
  clear h3
  have HF : Hid (V = decide (es = es')) := Lib.hid (by
    by_cases h4 : es = es'
    · rw [decide_eq_true h4]; exact HY.out ⟨H1.out, H2.out, H3.out, h4⟩
    · rw [decide_eq_false h4]; exact HN.out fun h => h4 h.2.2.2)
  go_enter Try.func20, Try.ntmps20
  go_wp2_with (first | (go_at_call 49; refine hfb.mono ?_; rintro e w3 ⟨rfl, hb3⟩; obtain ⟨⟨r1, r2⟩, r3⟩ := hall w3 hb3) | (go_at_call 50; refine r3.mono ?_; rintro e w4 ⟨rfl, hb4⟩))
  go_ret
  exact ⟨by rw [HF.out]; rfl, hB.trans ((hb3.trans (hb4.mono hb3.size)).mono hB.size)⟩
end Go.Proofs.Ytpcbmhfnefhenaa

set_option linter.unusedVariables false
namespace Go.Proofs.Ytpcbmhfnefhenaa
open Go.RowKit

def IsRow (k : IntKind) (w : World) (a : Option Addr) (len cap : Nat) (zs : List Int) : Prop := IsInts k w a len cap zs ∨ (len = 0 ∧ cap = 0 ∧ zs = [])
theorem IsInts.row {k : IntKind} {w : World} {a : Option Addr} {len cap : Nat} {zs : List Int} (h : IsInts k w a len cap zs) : IsRow k w a len cap zs := .inl h
theorem IsRow.length {k : IntKind} {w : World} {a : Option Addr} {len cap : Nat} {zs : List Int} (h : IsRow k w a len cap zs) : zs.length = len := by
  rcases h with h | ⟨rfl, _, rfl⟩
  · exact h.length
  · rfl
theorem IsRow.cap {k : IntKind} {w : World} {a : Option Addr} {len cap : Nat} {zs : List Int} (h : IsRow k w a len cap zs) : len ≤ cap ∧ cap ≤ maxLen := by
  rcases h with h | ⟨rfl, rfl, _⟩
  · exact h.cap
  · exact ⟨Nat.le_refl _, Nat.zero_le _⟩
theorem IsRow.later {k : IntKind} {w w' : World} {a : Option Addr} {len cap : Nat} {zs : List Int} (h : IsRow k w a len cap zs) (hb : Below w.heap.size w w') : IsRow k w' a len cap zs := h.imp (fun h => h.later hb) id
theorem IsRow.at {k : IntKind} {w : World} {a : Option Addr} {len cap : Nat} {zs : List Int} (h : IsRow k w a len cap zs) (W : World) (hb : Below w.heap.size w W) (i : Nat) (hi : i < len) :
    ∃ b off, a = some ⟨b, off, none⟩ ∧ b < w.heap.size ∧ W.cell? ⟨b, off + i, none⟩ = some (.int k (gi zs i)) := by
  rcases h with h | ⟨rfl, _, _⟩
  · exact h.at W hb i hi
  · omega
theorem IsRow.get {k : IntKind} {W : World} {b off len cap : Nat} {zs : List Int} (h : IsRow k W (some ⟨b, off, none⟩) len cap zs) (i : Nat) (hi : i < len) : W.cell? ⟨b, off + i, none⟩ = some (.int k (gi zs i)) := by
  obtain ⟨b', off', e, -, hc⟩ := h.at W (Below.refl _ _) i hi
  injection e with e; injection e with e1 e2; subst e1; subst e2
  exact hc

def IsRows (w : World) (a : Option Addr) (len cap : Nat) (g : List (List Int)) : Prop :=
  len ≤ cap ∧ cap ≤ maxLen ∧ g.length = len ∧ (0 < len → ∃ b off, a = some ⟨b, off, none⟩ ∧ ∀ i, i < len → ∃ ai li ci, w.cell? ⟨b, off + i, none⟩ = some (.slice ai li ci) ∧ IsRow .i64 w ai li ci (gr g i))
theorem IsRows.length {w : World} {a : Option Addr} {len cap : Nat} {g : List (List Int)} (h : IsRows w a len cap g) : g.length = len := h.2.2.1
theorem IsRows.cap {w : World} {a : Option Addr} {len cap : Nat} {g : List (List Int)} (h : IsRows w a len cap g) : len ≤ cap ∧ cap ≤ maxLen := ⟨h.1, h.2.1⟩
theorem IsRows.later {w w' : World} {a : Option Addr} {len cap : Nat} {g : List (List Int)} (h : IsRows w a len cap g) (hb : Below w.heap.size w w') : IsRows w' a len cap g := by
  refine ⟨h.1, h.2.1, h.2.2.1, fun h0 => ?_⟩
  obtain ⟨b, off, e, hr⟩ := h.2.2.2 h0
  refine ⟨b, off, e, fun i hi => ?_⟩
  obtain ⟨ai, li, ci, h1, h2⟩ := hr i hi
  exact ⟨ai, li, ci, (hb.cell (p := ⟨b, off + i, none⟩) (lt_of_cell h1)).trans h1, h2.later hb⟩
theorem IsRows.at {w : World} {a : Option Addr} {len cap : Nat} {g : List (List Int)} (h : IsRows w a len cap g) (W : World) (hb : Below w.heap.size w W) (i : Nat) (hi : i < len) :
    ∃ b off ai li ci, a = some ⟨b, off, none⟩ ∧ W.cell? ⟨b, off + i, none⟩ = some (.slice ai li ci) ∧ IsRow .i64 W ai li ci (gr g i) := by
  obtain ⟨b, off, e, hr⟩ := (h.later hb).2.2.2 (by omega)
  obtain ⟨ai, li, ci, h1, h2⟩ := hr i hi
  exact ⟨b, off, ai, li, ci, e, h1, h2⟩
theorem IsRows.fix {w : World} {a : Option Addr} {len cap : Nat} {g : List (List Int)} (h : IsRows w a len cap g) (i : Nat) (hi : i < len) :
    ∃ b off ai li ci, a = some ⟨b, off, none⟩ ∧ (∀ W, Below w.heap.size w W → W.cell? ⟨b, off + i, none⟩ = some (.slice ai li ci)) ∧ IsRow .i64 w ai li ci (gr g i) := by
  obtain ⟨b, off, e, hr⟩ := h.2.2.2 (by omega)
  obtain ⟨ai, li, ci, h1, h2⟩ := hr i hi
  exact ⟨b, off, ai, li, ci, e, fun W hb => (hb.cell (p := ⟨b, off + i, none⟩) (lt_of_cell h1)).trans h1, h2⟩
theorem IsRow.fix {k : IntKind} {w : World} {a : Option Addr} {len cap : Nat} {zs : List Int} (h : IsRow k w a len cap zs) (i : Nat) (hi : i < len) :
    ∃ b off, a = some ⟨b, off, none⟩ ∧ ∀ W, Below w.heap.size w W → W.cell? ⟨b, off + i, none⟩ = some (.int k (gi zs i)) := by
  obtain ⟨b, off, e, hl, -⟩ := h.at w (Below.refl _ _) i hi
  refine ⟨b, off, e, fun W hb => ?_⟩
  obtain ⟨b', off', e', -, hc⟩ := h.at W hb i hi
  rw [e] at e'
  injection e' with e'; injection e' with e1 e2; subst e1; subst e2
  exact hc

/-! Rows of the call's own. -/
theorem owns_same {W W' : World} {B e s n : Nat} {v : Value} {xs : List Value} (h : W.ownsRow B e s v n xs) (hs : ∀ k, v.ownBlock = some k → W'.heap[k]? = W.heap[k]?) : W'.ownsRow B e s v n xs := by
  refine ⟨h.1, ?_⟩
  rcases h.2 with h' | ⟨g, cap, cur, rfl, h1, h2, h3⟩
  · exact .inl h'
  · exact .inr ⟨g, cap, cur, rfl, h1, by rw [hs g rfl]; exact h2, h3⟩

structure OwnG (W : World) (B To Ti : Nat) (ao : Option Addr) (n co : Nat) (ms vs : List Value) (rows : List (List Int)) : Prop where
  out : W.ownsRow B To 1 (.slice ao n co) n ms
  len : rows.length = n
  vlen : vs.length = n
  row : ∀ i, i < n → ∃ v, vs[i]? = some v ∧ W.ownsRow B Ti 1 v (gr rows i).length (ivs .i64 (gr rows i))
  ne : ∀ (i : Nat) v, vs[i]? = some v → ∀ k, v.ownBlock = some k → (Value.slice ao n co).ownBlock ≠ some k
  dis : ∀ (i j : Nat) v u, i ≠ j → vs[i]? = some v → vs[j]? = some u → ∀ k, v.ownBlock = some k → u.ownBlock ≠ some k
section
variable {W W' : World} {B To Ti : Nat} {ao : Option Addr} {n co : Nat} {ms vs : List Value} {rows : List (List Int)}
theorem OwnG.same (h : OwnG W B To Ti ao n co ms vs rows) (ho : ∀ k, (Value.slice ao n co).ownBlock = some k → W'.heap[k]? = W.heap[k]?) (hr : ∀ (i : Nat) v k, i < n → vs[i]? = some v → v.ownBlock = some k → W'.heap[k]? = W.heap[k]?) : OwnG W' B To Ti ao n co ms vs rows := by
  refine ⟨owns_same h.out ho, h.len, h.vlen, fun i hi => ?_, h.ne, h.dis⟩
  obtain ⟨v, h1, h2⟩ := h.row i hi
  exact ⟨v, h1, owns_same h2 fun k hk => hr i v k hi h1 hk⟩
theorem OwnG.lt (h : OwnG W B To Ti ao n co ms vs rows) : (∀ k, (Value.slice ao n co).ownBlock = some k → B ≤ k ∧ k < W.heap.size) ∧ ∀ (i : Nat) v k, i < n → vs[i]? = some v → v.ownBlock = some k → B ≤ k ∧ k < W.heap.size := by
  refine ⟨fun k hk => h.out.lt k hk, fun i v k hi hv hk => ?_⟩
  obtain ⟨u, h1, h2⟩ := h.row i hi
  rw [hv] at h1
  injection h1 with h1
  subst h1
  exact h2.lt k hk
theorem OwnG.kept (h : OwnG W B To Ti ao n co ms vs rows) (hb : Below W.heap.size W W') : OwnG W' B To Ti ao n co ms vs rows :=
  h.same (fun k hk => hb.block k (h.lt.1 k hk).2) fun i v k hi hv hk => hb.block k (h.lt.2 i v k hi hv hk).2
theorem OwnG.setBelow (h : OwnG W B To Ti ao n co ms vs rows) {a : Addr} (ha : a.block < B) (u : Value) : OwnG (W.setCell a u) B To Ti ao n co ms vs rows :=
  h.same (fun k hk => heap_setCell_other _ _ _ _ (by have := (h.lt.1 k hk).1; omega)) fun i v k hi hv hk => heap_setCell_other _ _ _ _ (by have := (h.lt.2 i v k hi hv hk).1; omega)
theorem OwnG.base (h : OwnG W B To Ti ao n co ms vs rows) {B' : Nat} (hB : B' ≤ B) : OwnG W B' To Ti ao n co ms vs rows :=
  ⟨h.out.from_mono hB, h.len, h.vlen, fun i hi => by
    obtain ⟨v, h1, h2⟩ := h.row i hi
    exact ⟨v, h1, h2.from_mono hB⟩, h.ne, h.dis⟩
theorem OwnG.mem (h : OwnG W B To Ti ao n co ms ms rows) {i : Nat} (hi : i < n) : ∃ v, ms[i]? = some v ∧ W.ownsRow B Ti 1 v (gr rows i).length (ivs .i64 (gr rows i)) := h.row i hi
theorem OwnG.addr (h : OwnG W B To Ti ao n co ms vs rows) (h0 : 0 < n) : ∃ g, ao = some ⟨g, 0, none⟩ ∧ B ≤ g ∧ g < W.heap.size := owns_at h.out h0
theorem OwnG.cell {g : Nat} (h : OwnG W B To Ti (some ⟨g, 0, none⟩) n co ms vs rows) {i : Nat} {v : Value} (hv : ms[i]? = some v) : W.cell? ⟨g, i, none⟩ = some v ∧ W.frozen? ⟨g, i, none⟩ = false := by
  have hi : i < ms.length := (List.getElem?_eq_some_iff.1 hv).1
  have hl := h.out.1
  exact ⟨by rw [h.out.cellAt i (by omega)]; exact hv, h.out.frozenAt i⟩
theorem OwnG.mlen (h : OwnG W B To Ti ao n co ms vs rows) : ms.length = n := by have := h.out.1; omega
theorem OwnG.read (h : OwnG W B To Ti ao n co ms ms rows) : IsRows W ao n co rows := by
  have hco : n ≤ co ∧ co ≤ maxLen := by
    rcases h.out.2 with ⟨e, h0⟩ | ⟨g, cap, cur, e, _, _, h1, h2, _⟩
    · injection e with _ e1 e2; subst h0; subst e2; exact ⟨Nat.le_refl _, Nat.zero_le _⟩
    · injection e with _ _ e2; subst e2; exact ⟨h1, h2⟩
  refine ⟨hco.1, hco.2, h.len, fun h0 => ?_⟩
  obtain ⟨g, rfl, -, -⟩ := h.addr h0
  refine ⟨g, 0, rfl, fun i hi => ?_⟩
  obtain ⟨v, h1, h2⟩ := h.row i hi
  obtain ⟨a, c, rfl, hc⟩ := owns_slice h2
  refine ⟨a, _, c, by rw [Nat.zero_add]; exact (h.cell h1).1, .inl (IsInts.of_owns h2).1⟩
theorem OwnG.grow' (h : OwnG W B To Ti ao n co ms vs rows) {i : Nat} {v v' : Value} {zs : List Int} (hi : i < n) (hv : vs[i]? = some v) (hg : W.grownBy W' v.ownBlock) (ho : W'.ownsRow B Ti 1 v' zs.length (ivs .i64 zs)) (blk : ∀ k, v'.ownBlock = some k → v.ownBlock = some k ∨ W.heap.size ≤ k) :
    OwnG W' B To Ti ao n co ms (vs.set i v') (rows.set i zs) := by
  have hvl : i < vs.length := (List.getElem?_eq_some_iff.1 hv).1
  have hrl : i < rows.length := by rw [h.len]; exact hi
  have keep : ∀ k, k < W.heap.size → v.ownBlock ≠ some k → W'.heap[k]? = W.heap[k]? := fun k hk hne => hg.block k hk (fun e => hne e.symm)
  have get : ∀ (j : Nat) u, (vs.set i v')[j]? = some u → (j = i ∧ u = v') ∨ (j ≠ i ∧ vs[j]? = some u) := fun j u hu => by
    by_cases e : j = i
    · subst e; rw [List.getElem?_set_self hvl] at hu; injection hu with hu; exact .inl ⟨rfl, hu.symm⟩
    · rw [List.getElem?_set_ne (Ne.symm e)] at hu; exact .inr ⟨e, hu⟩
  refine ⟨owns_same h.out fun k hk => keep k (h.lt.1 k hk).2 (fun e => h.ne i v hv k e hk), by rw [List.length_set]; exact h.len, by rw [List.length_set]; exact h.vlen, fun j hj => ?_, fun j u hu k hk => ?_, fun j l u t hjl hu ht k hk => ?_⟩
  · by_cases e : j = i
    · subst e
      refine ⟨v', List.getElem?_set_self hvl, ?_⟩
      have : gr (rows.set j zs) j = zs := by simp [gr, List.getD, hrl]
      rw [this]; exact ho
    · obtain ⟨u, h1, h2⟩ := h.row j hj
      refine ⟨u, by rw [List.getElem?_set_ne (Ne.symm e)]; exact h1, ?_⟩
      have : gr (rows.set i zs) j = gr rows j := by simp [gr, List.getD, List.getElem?_set_ne (Ne.symm e)]
      rw [this]
      exact owns_same h2 fun k hk => keep k (h2.lt k hk).2 (h.dis j i u v e h1 hv k hk)
  · rcases get j u hu with ⟨rfl, rfl⟩ | ⟨e, hu⟩
    · rcases blk k hk with e | e
      · exact h.ne j v hv k e
      · intro e2; have := (h.lt.1 k e2).2; omega
    · exact h.ne j u hu k hk
  · rcases get j u hu with ⟨e5, e6⟩ | ⟨e, hu'⟩
    · subst e5 e6
      rcases get l t ht with ⟨e7, e8⟩ | ⟨e2, ht'⟩
      · exact absurd e7.symm hjl
      · rcases blk k hk with e | e
        · exact h.dis j l v t hjl hv ht' k e
        · intro e3
          have := (h.lt.2 l t k (by rw [← h.vlen]; exact (List.getElem?_eq_some_iff.1 ht').1) ht' e3).2; omega
    · rcases get l t ht with ⟨e7, e8⟩ | ⟨e2, ht'⟩
      · subst e7 e8
        intro e3
        rcases blk k e3 with e4 | e4
        · exact h.dis j l u v hjl hu' hv k hk e4
        · have := (h.lt.2 j u k (by rw [← h.vlen]; exact (List.getElem?_eq_some_iff.1 hu').1) hu' hk).2; omega
      · exact h.dis j l u t hjl hu' ht' k hk
theorem OwnG.grow (h : OwnG W B To Ti ao n co ms vs rows) {i : Nat} {v v' : Value} {zs : List Int} (hi : i < n) (hv : vs[i]? = some v) (hg : W.grownBy W' v.ownBlock) (ho : W'.ownsRow B Ti 1 v' zs.length (ivs .i64 zs)) (hbk : v'.ownBlock = v.ownBlock ∨ v'.ownBlock = some W.heap.size ∨ v'.ownBlock = none) :
    OwnG W' B To Ti ao n co ms (vs.set i v') (rows.set i zs) :=
  h.grow' hi hv hg ho fun k hk => by
    rcases hbk with e | e | e
    · exact .inl (by rw [← e]; exact hk)
    · rw [e] at hk; injection hk with hk; exact .inr (by omega)
    · rw [e] at hk; cases hk
theorem below_grownBy {w w' : World} (h : Below w.heap.size w w') (r : Option Nat) : w.grownBy w' r := ⟨h.os, h.tape, h.output, h.size, fun k hk _ => h.block k hk⟩
theorem OwnG.put {g : Nat} (h : OwnG W B To Ti (some ⟨g, 0, none⟩) n co ms vs rows) {i : Nat} (hi : i < n) (v : Value) : OwnG (W.setCell ⟨g, i, none⟩ v) B To Ti (some ⟨g, 0, none⟩) n co (ms.set i v) vs rows := by
  refine ⟨(h.out.stored i v).1, h.len, h.vlen, fun j hj => ?_, h.ne, h.dis⟩
  obtain ⟨u, h1, h2⟩ := h.row j hj
  exact ⟨u, h1, owns_same h2 fun k hk => heap_setCell_other _ _ _ _ (fun e => h.ne j u h1 k hk (by rw [e]; rfl))⟩
theorem OwnG.more {W' : World} {ao' : Option Addr} {co' : Nat} (h : OwnG W B To Ti ao n co ms ms rows) {v : Value} {zs : List Int} (hv : W.ownsRow B Ti 1 v zs.length (ivs .i64 zs)) (hvo : ∀ k, v.ownBlock = some k → (Value.slice ao n co).ownBlock ≠ some k) (hvr : ∀ (i : Nat) u, ms[i]? = some u → ∀ k, v.ownBlock = some k → u.ownBlock ≠ some k)
    (ho : W'.ownsRow B To 1 (.slice ao' (n + 1) co') (n + 1) (ms ++ [v])) (hg : W.grownBy W' (Value.slice ao n co).ownBlock) (hbk : (Value.slice ao' (n + 1) co').ownBlock = (Value.slice ao n co).ownBlock ∨ (Value.slice ao' (n + 1) co').ownBlock = some W.heap.size) :
    OwnG W' B To Ti ao' (n + 1) co' (ms ++ [v]) (ms ++ [v]) (rows ++ [zs]) := by
  have hml := h.mlen
  have hrl := h.len
  have get : ∀ (j : Nat) u, (ms ++ [v])[j]? = some u → (j = n ∧ u = v) ∨ (j < n ∧ ms[j]? = some u) := fun j u hu => by
    rcases Nat.lt_or_ge j n with hj | hj
    · rw [List.getElem?_append_left (by omega)] at hu; exact .inr ⟨hj, hu⟩
    · rw [List.getElem?_append_right (by omega)] at hu
      have : j - ms.length = 0 := by
        have := (List.getElem?_eq_some_iff.1 hu).1
        simp at this; omega
      rw [this] at hu
      simp at hu
      exact .inl ⟨by omega, hu.symm⟩
  have keep : ∀ k, k < W.heap.size → (Value.slice ao n co).ownBlock ≠ some k → W'.heap[k]? = W.heap[k]? := fun k hk hne => hg.block k hk (fun e => hne e.symm)
  have blk : ∀ k, (Value.slice ao' (n + 1) co').ownBlock = some k → (Value.slice ao n co).ownBlock = some k ∨ k = W.heap.size := fun k hk => by
    rcases hbk with e | e
    · exact .inl (by rw [← e]; exact hk)
    · rw [e] at hk; injection hk with hk; exact .inr hk.symm
  refine ⟨ho, by simp [hrl], by simp [hml], fun j hj => ?_, fun j u hu k hk e => ?_, fun j l u t hjl hu ht k hk e => ?_⟩
  · rcases Nat.lt_or_ge j n with hj' | hj'
    · obtain ⟨u, h1, h2⟩ := h.row j hj'
      refine ⟨u, by rw [List.getElem?_append_left (by omega)]; exact h1, ?_⟩
      have : gr (rows ++ [zs]) j = gr rows j := by simp [gr, List.getD, List.getElem?_append_left (show j < rows.length by omega)]
      rw [this]
      exact owns_same h2 fun k hk => keep k (h2.lt k hk).2 (h.ne j u h1 k hk)
    · obtain rfl : j = n := by omega
      refine ⟨v, by rw [← hml]; simp, ?_⟩
      have : gr (rows ++ [zs]) j = zs := by rw [← hrl]; simp [gr, List.getD]
      rw [this]
      exact owns_same hv fun k hk => keep k (hv.lt k hk).2 (hvo k hk)
  · rcases get j u hu with ⟨rfl, rfl⟩ | ⟨hj, hu'⟩
    · rcases blk k e with e2 | e2
      · exact hvo k hk e2
      · have := (hv.lt k hk).2; omega
    · rcases blk k e with e2 | e2
      · exact h.ne j u hu' k hk e2
      · have := (h.lt.2 j u k hj hu' hk).2; omega
  · rcases get j u hu with ⟨e1, e2⟩ | ⟨hj, hu'⟩
    · rcases get l t ht with ⟨e3, e4⟩ | ⟨hl, ht'⟩
      · omega
      · subst e2; exact hvr l t ht' k hk e
    · rcases get l t ht with ⟨e3, e4⟩ | ⟨hl, ht'⟩
      · subst e4; exact hvr j u hu' k e hk
      · exact h.dis j l u t hjl hu' ht' k hk e
theorem OwnG.nil (W : World) (B To Ti : Nat) : OwnG W B To Ti none 0 0 [] [] [] :=
  ⟨World.ownsRow_nil _ _ _ _, rfl, rfl, fun i hi => absurd hi (Nat.not_lt_zero _), fun i v h => by simp at h, fun i j v u _ h => by simp at h⟩
theorem OwnG.made {g N : Nat} (h : W.ownsRow B To 1 (.slice (some ⟨g, 0, none⟩) N N) N (List.replicate N (.slice none 0 0))) : OwnG W B To Ti (some ⟨g, 0, none⟩) N N (List.replicate N (.slice none 0 0)) (List.replicate N (.slice none 0 0)) (List.replicate N []) := by
  refine ⟨h, by simp, by simp, fun i hi => ⟨.slice none 0 0, by simp [hi], ?_⟩, fun i v hv k hk => ?_, fun i j v u _ hv _ k hk => ?_⟩
  · have : gr (List.replicate N ([] : List Int)) i = [] := by simp [gr, List.getD, hi]
    rw [this]
    exact World.ownsRow_nil _ _ _ _
  · have := List.eq_of_mem_replicate (List.mem_of_getElem? hv)
    rw [this] at hk; cases hk
  · have := List.eq_of_mem_replicate (List.mem_of_getElem? hv)
    rw [this] at hk; cases hk
end
end Go.Proofs.Ytpcbmhfnefhenaa
