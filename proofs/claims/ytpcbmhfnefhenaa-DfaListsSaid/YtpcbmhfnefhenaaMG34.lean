import Derived.Deep.DeepCutAuto
import Derived.Deep.QuietTactic
import Derived.BigQuiet
import Derived.Test.YtpcbmhfnefhenaaMG1
import Derived.Test.YtpcbmhfnefhenaaMG4
import Derived.Test.YtpcbmhfnefhenaaMG10
/-
  CmpQ, CmpW
-/
set_option linter.unusedSimpArgs false
set_option linter.unusedVariables false
namespace Go.Proofs.Ytpcbmhfnefhenaa
open Go.RowKit

theorem ints_drewN {k : IntKind} {w : World} {a : Option Addr} {len cap : Nat} {zs : List Int} (h : IsInts k w a len cap zs) (m : Nat) : IsInts k (w.drewN m) a len cap zs := h
set_option maxRecDepth 20000 in
set_option maxHeartbeats 2000000 in
theorem compareQ (a : Option Addr) (len cap : Nat) (xs : List Int) (a' : Option Addr) (len' cap' : Nat) (ys : List Int) (w : World) (hs : IsInts .i64 w a len cap xs) (hs' : IsInts .i64 w a' len' cap' ys) (hl : len ≤ 100000) (hl' : len' ≤ 100000) :
  Calls Try.prog 31 #[.slice a len cap, .slice a' len' cap'] w fun e w' => e = .returned (.int .i64 (cmpL xs ys)) ∧ ∃ m, w' = w.drewN m := by
 have HX : Hid (xs.length = len) := Lib.hid hs.length
 have HY : Hid (ys.length = len') := Lib.hid hs'.length
 go_enter Try.func31, Try.ntmps31
 go_wp2_with (fail)
 go_loopw [5] (fun c W => ∃ k : Nat, k ≤ len ∧ k ≤ len' ∧ c = .int .i64 (k : Int) ∧ cmpL xs ys = cmpL (xs.drop k) (ys.drop k) ∧ ∃ m, W = w.drewN m) (fun c _ => len - (intOf c).toNat)
 case atStart => exact ⟨0, Nat.zero_le _, Nat.zero_le _, rfl, rfl, 0, rfl⟩
 case round =>
  obtain ⟨k, hk, hk', rfl, hcmp, m, rfl⟩ := hrel
  by_cases hlt : k < len ∧ k < len'
  ·obtain ⟨b, off, rfl, hbl, hc⟩ := hs.at w (Below.refl _ _) k hlt.1
   obtain ⟨b', off', rfl, hbl', hc'⟩ := hs'.at w (Below.refl _ _) k hlt.2
   rw [drop_gi xs k (by rw [HX.out]; exact hlt.1), drop_gi ys k (by rw [HY.out]; exact hlt.2), cmpL] at hcmp
   have hd1 : decide ((k : Int) < (len : Int)) = true := decide_eq_true (by omega)
   have hd2 : decide ((k : Int) < (len' : Int)) = true := decide_eq_true (by omega)
   have HC := Lib.hid hcmp
   clear hs hs' hcmp
   go_upto_region 4 with (fail)
   by_cases h1 : gi xs k < gi ys k
   ·have hq : decide (gi xs k < gi ys k) = true := decide_eq_true h1
    have HE : Hid (cmpL xs ys = -1) := Lib.hid (by rw [HC.out, if_pos h1])
    clear h1
    go_quiet (fail)
    go_wp2_with (fail)
    go_ret
    exact ⟨by rw [HE.out]; rfl, m + nq, by first | rfl | rw [World.drewN_drewN]⟩
   ·have hq : decide (gi xs k < gi ys k) = false := decide_eq_false h1
    have H1 := Lib.hid h1
    clear h1
    go_quiet (fail)
    go_upto_region 6 with (fail)
    obtain ⟨m2, hm2⟩ : ∃ m2, (w.drewN m).drewN nq = w.drewN m2 := ⟨m + nq, by first | rfl | rw [World.drewN_drewN]⟩
    rw [hm2]
    clear hm2
    by_cases h2 : gi ys k < gi xs k
    ·have hq2 : decide (gi ys k < gi xs k) = true := decide_eq_true h2
     have HE : Hid (cmpL xs ys = 1) := Lib.hid (by rw [HC.out, if_neg (Int.not_lt.2 (by have := H1.out; omega)), if_pos h2])
     clear h2
     go_quiet (fail)
     go_wp2_with (fail)
     go_ret
     exact ⟨by rw [HE.out]; rfl, m2 + nq, by first | rfl | rw [World.drewN_drewN]⟩
    ·have hq2 : decide (gi ys k < gi xs k) = false := decide_eq_false h2
     have HE : Hid (cmpL xs ys = cmpL (xs.drop (k + 1)) (ys.drop (k + 1))) := Lib.hid (by rw [HC.out, if_neg (by have := H1.out; omega), if_neg h2])
     clear h2
     go_quiet (fail)
     go_wp2_with (fail)
     go_roundw
     case rel => exact ⟨k + 1, by omega, by omega, by go_num, HE.out, m2 + nq, by first | rfl | rw [World.drewN_drewN]⟩
     case measure => simp [intOf]; omega
  ·have hend : cmpL xs ys = if len < len' then -1 else if len' < len then 1 else 0 := by
    rw [hcmp]
    have h1 : (xs.drop k).length = len - k := by rw [List.length_drop, HX.out]
    have h2 : (ys.drop k).length = len' - k := by rw [List.length_drop, HY.out]
    generalize xs.drop k = X at *
    generalize ys.drop k = Y at *
    match X, Y with
    | [], [] => simp at h1 h2; rw [if_neg (by omega), if_neg (by omega)]; rfl
    | [], _ :: _ => simp at h1 h2; rw [if_pos (by omega)]; rfl
    | _ :: _, [] => simp at h1 h2; rw [if_neg (by omega), if_pos (by omega)]; rfl
    | _ :: _, _ :: _ => simp at h1 h2; omega
   have HE := Lib.hid hend
   clear hend hcmp
   by_cases h1 : len < len'
   ·have hd1 : decide ((k : Int) < (len : Int)) = false := decide_eq_false (by omega)
    have hd2 : decide ((len : Int) < (len' : Int)) = true := decide_eq_true (by omega)
    go_wp2
    go_ret
    exact ⟨by rw [HE.out, if_pos h1]; rfl, m, rfl⟩
   ·have hd2 : decide ((len : Int) < (len' : Int)) = false := decide_eq_false (by omega)
    by_cases h2 : len' < len
    ·have hd1 : decide ((k : Int) < (len : Int)) = true := decide_eq_true (by omega)
     have hd4 : decide ((k : Int) < (len' : Int)) = false := decide_eq_false (by omega)
     have hd3 : decide ((len' : Int) < (len : Int)) = true := decide_eq_true (by omega)
     go_wp2
     go_ret
     exact ⟨by rw [HE.out, if_neg h1, if_pos h2]; rfl, m, rfl⟩
    ·have hd1 : decide ((k : Int) < (len : Int)) = false := decide_eq_false (by omega)
     have hd3 : decide ((len' : Int) < (len : Int)) = false := decide_eq_false (by omega)
     go_wp2
     go_ret
     exact ⟨by rw [HE.out, if_neg h1, if_neg h2]; rfl, m, rfl⟩
end Go.Proofs.Ytpcbmhfnefhenaa

set_option linter.unusedSimpArgs false
set_option linter.unusedVariables false
namespace Go.Proofs.Ytpcbmhfnefhenaa
open List (foldr_cons foldr_nil setIfInBounds_toArray set_cons_succ set_cons_zero)
open Go.RowKit

set_option maxHeartbeats 2000000 in
theorem refCompare_any (a : Option Addr) (len cap : Nat) (xs : List Int) (a' : Option Addr) (len' cap' : Nat) (ys : List Int) (w : World) (hs : IsInts .i64 w a len cap xs) (hs' : IsInts .i64 w a' len' cap' ys) (hl : len ≤ 100000) (hl' : len' ≤ 100000) :
  Calls Try.prog 31 #[.slice a len cap, .slice a' len' cap'] w fun e w' => e = .returned (.int .i64 (cmpL xs ys)) ∧ Below w.heap.size w w' := by
 have HX : Hid (xs.length = len) := Lib.hid hs.length
 have HY : Hid (ys.length = len') := Lib.hid hs'.length
 go_enter Try.func31, Try.ntmps31
 go_wp2
 go_loopw [5] (fun c W => ∃ k : Nat, k ≤ len ∧ k ≤ len' ∧ c = .int .i64 (k : Int) ∧ cmpL xs ys = cmpL (xs.drop k) (ys.drop k) ∧ Below w.heap.size w W) (fun c _ => len - (intOf c).toNat)
 case atStart => exact ⟨0, Nat.zero_le _, Nat.zero_le _, rfl, rfl, Below.refl _ _⟩
 case round =>
  obtain ⟨k, hk, hk', rfl, hcmp, hb⟩ := hrel
  by_cases hlt : k < len ∧ k < len'
  ·obtain ⟨b, off, rfl, hbl, hc⟩ := hs.at wr hb k hlt.1
   obtain ⟨b', off', rfl, hbl', hc'⟩ := hs'.at wr hb k hlt.2
   rw [drop_gi xs k (by rw [HX.out]; exact hlt.1), drop_gi ys k (by rw [HY.out]; exact hlt.2), cmpL] at hcmp
   have hz := hb.size
   have hd1 : decide ((k : Int) < (len : Int)) = true := decide_eq_true (by omega)
   have hd2 : decide ((k : Int) < (len' : Int)) = true := decide_eq_true (by omega)
   have HC := Lib.hid hcmp
   clear hs hs' hcmp
   go_wp2
   refine wp_region_grow mixed (by kernel_rfl) [[], [], [(0, 18), (1, 19)], [(2, 20)], [], [], [(4, 22), (5, 23)], [(6, 24)], [(3, 21), (7, 25)]] [(0, 18), (1, 19), (2, 20), (3, 21), (4, 22), (5, 23), (6, 24), (7, 25), (8, 26)] rfl rfl [Ex ?e0, Ex ?e1, Ex ?e2, Ex ?e3, Ex ?e4, Ex ?e5, Ex ?e6, Ex ?e7, Ex ?e8] ⟨stays_ex _, stays_ex _, stays_ex _, stays_ex _, stays_ex _, stays_ex _, stays_ex _, stays_ex _, stays_ex _, trivial⟩ ?steps ?rest
   case steps =>
    refine ⟨fun f W hC hh => ?_, fun f W hC hh => ?_, fun f W hC hh => ?_, fun f W hC hh => ?_, fun f W hC hh => ?_, fun f W hC hh => ?_, fun f W hC hh => ?_, fun f W hC hh => ?_, fun f W hC hh => ?_, trivial⟩
    ·
     refine tab_plain fun K Q hK => ?_
     simp only [puts, foldr_nil]
     go_step
     exact fam_e hK rfl rfl (Below.refl _ _) hC
    ·
     refine tab_plain fun K Q hK => ?_
     simp only [puts, foldr_nil]
     go_step
     exact fam_e hK rfl rfl (Below.refl _ _) hC
    ·
     obtain ⟨h0, h1, -⟩ := hh
     have g0 : f 0 = _ := h0
     have g1 : f 1 = _ := h1
     refine tab_plain fun K Q hK => ?_
     simp only [puts, Za, Zb, Zc, Zd, Ze, g0, g1]
     go_step
     exact fam_e hK rfl rfl (Below.refl _ _) hC
    ·
     obtain ⟨h2, -⟩ := hh
     have g2 : f 2 = _ := h2
     refine tab_plain fun K Q hK => ?_
     simp only [puts, Za, Zb, Zc, Zd, Ze, g2]
     have hc3 := (hC.cell (p := ⟨b, off + k, none⟩) (show b < _ by omega)).trans hc
     go_step
     exact fam_e hK rfl rfl (Below.refl _ _) hC
    ·
     refine tab_plain fun K Q hK => ?_
     simp only [puts, foldr_nil]
     go_step
     exact fam_e hK rfl rfl (Below.refl _ _) hC
    ·
     refine tab_plain fun K Q hK => ?_
     simp only [puts, foldr_nil]
     go_step
     exact fam_e hK rfl rfl (Below.refl _ _) hC
    ·
     obtain ⟨h4, h5, -⟩ := hh
     have g4 : f 4 = _ := h4
     have g5 : f 5 = _ := h5
     refine tab_plain fun K Q hK => ?_
     simp only [puts, Za, Zb, Zc, Zd, Ze, g4, g5]
     go_step
     exact fam_e hK rfl rfl (Below.refl _ _) hC
    ·
     obtain ⟨h6, -⟩ := hh
     have g6 : f 6 = _ := h6
     refine tab_plain fun K Q hK => ?_
     simp only [puts, Za, Zb, Zc, Zd, Ze, g6]
     have hc3 := (hC.cell (p := ⟨b', off' + k, none⟩) (show b' < _ by omega)).trans hc'
     go_step
     exact fam_e hK rfl rfl (Below.refl _ _) hC
    ·
     obtain ⟨h3, h7, -⟩ := hh
     have g3 : f 3 = _ := h3
     have g7 : f 7 = _ := h7
     refine tab_plain fun K Q hK => ?_
     simp only [puts, Za, Zb, Zc, Zd, Ze, g3, g7]
     go_step
     exact fam_e hK rfl rfl (Below.refl _ _) hC
   case rest =>
    intro f W2 hC hh
    obtain ⟨h0, h1, h2, h3, h4, h5, h6, h7, h8, -⟩ := hh
    have g0 : f 0 = _ := h0
    have g1 : f 1 = _ := h1
    have g2 : f 2 = _ := h2
    have g3 : f 3 = _ := h3
    have g4 : f 4 = _ := h4
    have g5 : f 5 = _ := h5
    have g6 : f 6 = _ := h6
    have g7 : f 7 = _ := h7
    have g8 : f 8 = _ := h8
    simp only [puts, Za, Zb, Zc, Zd, Ze, g0, g1, g2, g3, g4, g5, g6, g7, g8]
    clear h0 h1 h2 h3 h4 h5 h6 h7 h8 g0 g1 g2 g3 g4 g5 g6 g7 g8
    have hb2 := hb.trans (hC.mono hb.size)
    by_cases h1 : gi xs k < gi ys k
    ·have hq : decide (gi xs k < gi ys k) = true := decide_eq_true h1
     try rw [hq]
     have HE : Hid (cmpL xs ys = -1) := Lib.hid (by rw [HC.out, if_pos h1])
     clear h1
     go_wp2
     go_ret
     exact ⟨by rw [HE.out]; rfl, hb2⟩
    ·have hq : decide (gi xs k < gi ys k) = false := decide_eq_false h1
     try rw [hq]
     have H1 := Lib.hid h1
     have hz2 := hC.size
     have hc2 := (hC.cell (p := ⟨b, off + k, none⟩) (show b < _ by omega)).trans hc
     have hc2' := (hC.cell (p := ⟨b', off' + k, none⟩) (show b' < _ by omega)).trans hc'
     clear hC
     go_wp2
     refine wp_region_grow mixed (by kernel_rfl) [[], [], [(0, 27), (1, 28)], [(2, 29)], [], [], [(4, 31), (5, 32)], [(6, 33)], [(3, 30), (7, 34)]] [(0, 27), (1, 28), (2, 29), (3, 30), (4, 31), (5, 32), (6, 33), (7, 34), (8, 35)] rfl rfl [Ex ?eb0, Ex ?eb1, Ex ?eb2, Ex ?eb3, Ex ?eb4, Ex ?eb5, Ex ?eb6, Ex ?eb7, Ex ?eb8] ⟨stays_ex _, stays_ex _, stays_ex _, stays_ex _, stays_ex _, stays_ex _, stays_ex _, stays_ex _, stays_ex _, trivial⟩ ?bsteps ?brest
     case bsteps =>
      refine ⟨fun f W hC hh => ?_, fun f W hC hh => ?_, fun f W hC hh => ?_, fun f W hC hh => ?_, fun f W hC hh => ?_, fun f W hC hh => ?_, fun f W hC hh => ?_, fun f W hC hh => ?_, fun f W hC hh => ?_, trivial⟩
      ·
       refine tab_plain fun K Q hK => ?_
       simp only [puts, foldr_nil]
       go_step
       exact fam_e hK rfl rfl (Below.refl _ _) hC
      ·
       refine tab_plain fun K Q hK => ?_
       simp only [puts, foldr_nil]
       go_step
       exact fam_e hK rfl rfl (Below.refl _ _) hC
      ·
       obtain ⟨h0, h1, -⟩ := hh
       have g0 : f 0 = _ := h0
       have g1 : f 1 = _ := h1
       refine tab_plain fun K Q hK => ?_
       simp only [puts, Za, Zb, Zc, Zd, Ze, g0, g1]
       go_step
       exact fam_e hK rfl rfl (Below.refl _ _) hC
      ·
       obtain ⟨h2, -⟩ := hh
       have g2 : f 2 = _ := h2
       refine tab_plain fun K Q hK => ?_
       simp only [puts, Za, Zb, Zc, Zd, Ze, g2]
       have hc3 := (hC.cell (p := ⟨b, off + k, none⟩) (show b < _ by omega)).trans hc2
       go_step
       exact fam_e hK rfl rfl (Below.refl _ _) hC
      ·
       refine tab_plain fun K Q hK => ?_
       simp only [puts, foldr_nil]
       go_step
       exact fam_e hK rfl rfl (Below.refl _ _) hC
      ·
       refine tab_plain fun K Q hK => ?_
       simp only [puts, foldr_nil]
       go_step
       exact fam_e hK rfl rfl (Below.refl _ _) hC
      ·
       obtain ⟨h4, h5, -⟩ := hh
       have g4 : f 4 = _ := h4
       have g5 : f 5 = _ := h5
       refine tab_plain fun K Q hK => ?_
       simp only [puts, Za, Zb, Zc, Zd, Ze, g4, g5]
       go_step
       exact fam_e hK rfl rfl (Below.refl _ _) hC
      ·
       obtain ⟨h6, -⟩ := hh
       have g6 : f 6 = _ := h6
       refine tab_plain fun K Q hK => ?_
       simp only [puts, Za, Zb, Zc, Zd, Ze, g6]
       have hc3 := (hC.cell (p := ⟨b', off' + k, none⟩) (show b' < _ by omega)).trans hc2'
       go_step
       exact fam_e hK rfl rfl (Below.refl _ _) hC
      ·
       obtain ⟨h3, h7, -⟩ := hh
       have g3 : f 3 = _ := h3
       have g7 : f 7 = _ := h7
       refine tab_plain fun K Q hK => ?_
       simp only [puts, Za, Zb, Zc, Zd, Ze, g3, g7]
       go_step
       exact fam_e hK rfl rfl (Below.refl _ _) hC
     case brest =>
      intro f W3 hC hh
      obtain ⟨h0, h1, h2, h3, h4, h5, h6, h7, h8, -⟩ := hh
      have g0 : f 0 = _ := h0
      have g1 : f 1 = _ := h1
      have g2 : f 2 = _ := h2
      have g3 : f 3 = _ := h3
      have g4 : f 4 = _ := h4
      have g5 : f 5 = _ := h5
      have g6 : f 6 = _ := h6
      have g7 : f 7 = _ := h7
      have g8 : f 8 = _ := h8
      simp only [puts, Za, Zb, Zc, Zd, Ze, g0, g1, g2, g3, g4, g5, g6, g7, g8]
      clear h0 h1 h2 h3 h4 h5 h6 h7 h8 g0 g1 g2 g3 g4 g5 g6 g7 g8
      have hb3 := hb2.trans (hC.mono hb2.size)
      by_cases h2 : gi ys k < gi xs k
      ·have hq2 : decide (gi ys k < gi xs k) = true := decide_eq_true h2
       try rw [hq2]
       have HE : Hid (cmpL xs ys = 1) := Lib.hid (by rw [HC.out, if_neg (Int.not_lt.2 H1.out), if_pos h2])
       clear h2
       go_wp2
       go_ret
       exact ⟨by rw [HE.out]; rfl, hb3⟩
      ·have hq2 : decide (gi ys k < gi xs k) = false := decide_eq_false h2
       try rw [hq2]
       have HE : Hid (cmpL xs ys = cmpL (xs.drop (k + 1)) (ys.drop (k + 1))) := Lib.hid (by rw [HC.out, if_neg (Int.not_lt.2 H1.out), if_neg h2])
       clear h2
       go_wp2
       go_roundw
       case rel => exact ⟨k + 1, by omega, by omega, by go_num, HE.out, hb3⟩
       case measure => simp [intOf]; omega
  ·have hend : cmpL xs ys = if len < len' then -1 else if len' < len then 1 else 0 := by
    rw [hcmp]
    have h1 : (xs.drop k).length = len - k := by rw [List.length_drop, HX.out]
    have h2 : (ys.drop k).length = len' - k := by rw [List.length_drop, HY.out]
    generalize xs.drop k = X at *
    generalize ys.drop k = Y at *
    match X, Y with
    | [], [] => simp at h1 h2; rw [if_neg (by omega), if_neg (by omega)]; rfl
    | [], _ :: _ => simp at h1 h2; rw [if_pos (by omega)]; rfl
    | _ :: _, [] => simp at h1 h2; rw [if_neg (by omega), if_pos (by omega)]; rfl
    | _ :: _, _ :: _ => simp at h1 h2; omega
   have HE := Lib.hid hend
   clear hend hcmp
   by_cases h1 : len < len'
   ·have hd1 : decide ((k : Int) < (len : Int)) = false := decide_eq_false (by omega)
    have hd2 : decide ((len : Int) < (len' : Int)) = true := decide_eq_true (by omega)
    go_wp2
    go_ret
    exact ⟨by rw [HE.out, if_pos h1]; rfl, hb⟩
   ·have hd2 : decide ((len : Int) < (len' : Int)) = false := decide_eq_false (by omega)
    by_cases h2 : len' < len
    ·have hd1 : decide ((k : Int) < (len : Int)) = true := decide_eq_true (by omega)
     have hd4 : decide ((k : Int) < (len' : Int)) = false := decide_eq_false (by omega)
     have hd3 : decide ((len' : Int) < (len : Int)) = true := decide_eq_true (by omega)
     go_wp2
     go_ret
     exact ⟨by rw [HE.out, if_neg h1, if_pos h2]; rfl, hb⟩
    ·have hd1 : decide ((k : Int) < (len : Int)) = false := decide_eq_false (by omega)
     have hd3 : decide ((len' : Int) < (len : Int)) = false := decide_eq_false (by omega)
     go_wp2
     go_ret
     exact ⟨by rw [HE.out, if_neg h1, if_neg h2]; rfl, hb⟩
end Go.Proofs.Ytpcbmhfnefhenaa
