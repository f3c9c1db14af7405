import Derived.Test.YtofaifeadhimjaaGreatDoorMG15
/-
  BtF, BtG
-/
set_option linter.unusedSimpArgs false
set_option linter.unusedVariables false
namespace Go.Proofs.YtofaifeadhimjaaGreatDoor.Bt
open Go.RowKit Go.Shelf

theorem bw_length (F : Nat → Int) (m : Nat) : (bw F m).length = trimN F m := by simp [bw]
theorem bw_length_le (F : Nat → Int) (m : Nat) : (bw F m).length ≤ m := by rw [bw_length]; exact trimN_le F m

def bitI (z : Int) (r : Nat) : Bool := bits .and .u64 (z / 2 ^ r) 1 == 1
end Go.Proofs.YtofaifeadhimjaaGreatDoor.Bt

set_option linter.unusedSimpArgs false
set_option linter.unusedVariables false
namespace Go.Proofs.YtofaifeadhimjaaGreatDoor.Bt
open List (foldr_cons foldr_nil setIfInBounds_toArray set_cons_succ set_cons_zero)
open Go.RowKit Go.Shelf

theorem elI64 : Elem Tryz.prog 22 3 (.int .i64 0) 1 8 := ⟨Tryz.underlying22, by kernel_rfl, rfl, by decide⟩
theorem gi_ne {xs ys : List Int} {k : Nat} (h : gi xs k ≠ gi ys k) : decide (xs = ys) = false := decide_eq_false (fun e => h (by rw [e]))

set_option maxRecDepth 20000 in
set_option maxHeartbeats 1000000 in
theorem same_any (a : Option Addr) (len cap : Nat) (xs : List Int) (a' : Option Addr) (len' cap' : Nat) (ys : List Int) (w : World) (hs : IsInts .i64 w a len cap xs) (hs' : IsInts .i64 w a' len' cap' ys) (hl : len ≤ 9223372036854775800) :
  Calls Tryz.prog 13 #[.slice a len cap, .slice a' len' cap'] w fun e w' => e = .returned (.bool (decide (xs = ys))) ∧ Below w.heap.size w w' := by
 have hxl := hs.length
 have hyl := hs'.length
 by_cases he : len = len'
 ·subst he
  have hq : ((len : Int) != (len : Int)) = false := by simp
  go_enter Tryz.func13, Tryz.ntmps13
  go_wp2
  go_loopw [5] (fun c W => ∃ k : Nat, k ≤ len ∧ c = .int .i64 (k : Int) ∧ (∀ i, i < k → gi xs i = gi ys i) ∧ Below w.heap.size w W) (fun c _ => len - (intOf c).toNat)
  case atStart => exact ⟨0, Nat.zero_le _, rfl, (fun i hi => by omega), Below.refl _ _⟩
  case round =>
   obtain ⟨k, hk, rfl, hall, hb⟩ := hrel
   have HA := Lib.hid hall
   clear hall
   rcases Nat.lt_or_ge k len with hlt | hge
   ·obtain ⟨b, off, rfl, hbl, hc⟩ := hs.at wr hb k hlt
    obtain ⟨b', off', rfl, hbl', hc'⟩ := hs'.at wr hb k hlt
    have hz := hb.size
    clear hs hs'
    go_wp2
    refine wp_region_grow mixed (by kernel_rfl) [[], [], [(0, 17), (1, 18)], [(2, 19)], [], [], [(4, 21), (5, 22)], [(6, 23)], [(3, 20), (7, 24)]] [(0, 17), (1, 18), (2, 19), (3, 20), (4, 21), (5, 22), (6, 23), (7, 24), (8, 25)] rfl rfl [Ex ?e0, Ex ?e1, Ex ?e2, Ex ?e3, Ex ?e4, Ex ?e5, Ex ?e6, Ex ?e7, Ex ?e8] ⟨stays_ex _, stays_ex _, stays_ex _, stays_ex _, stays_ex _, stays_ex _, stays_ex _, stays_ex _, stays_ex _, trivial⟩ ?steps ?rest
    case steps =>
     refine ⟨fun f W hC hh => ?_, fun f W hC hh => ?_, fun f W hC hh => ?_, fun f W hC hh => ?_, fun f W hC hh => ?_, fun f W hC hh => ?_, fun f W hC hh => ?_, fun f W hC hh => ?_, fun f W hC hh => ?_, trivial⟩
     ·
      refine tab_plain fun K Q hK => ?_
      simp only [puts, foldr_nil]
      go_step
      exact fam_e hK rfl rfl (Below.refl _ _) hC
     ·
      refine tab_plain fun K Q hK => ?_
      simp only [puts, foldr_nil]
      go_step
      exact fam_e hK rfl rfl (Below.refl _ _) hC
     ·
      obtain ⟨h0, h1, -⟩ := hh
      have g0 : f 0 = _ := h0
      have g1 : f 1 = _ := h1
      refine tab_plain fun K Q hK => ?_
      simp only [puts, Za, Zb, Zc, Zd, Ze, g0, g1]
      go_step
      exact fam_e hK rfl rfl (Below.refl _ _) hC
     ·
      obtain ⟨h2, -⟩ := hh
      have g2 : f 2 = _ := h2
      refine tab_plain fun K Q hK => ?_
      simp only [puts, Za, Zb, Zc, Zd, Ze, g2]
      have hc3 := (hC.cell (p := ⟨b, off + k, none⟩) (show b < _ by omega)).trans hc
      go_step
      exact fam_e hK rfl rfl (Below.refl _ _) hC
     ·
      refine tab_plain fun K Q hK => ?_
      simp only [puts, foldr_nil]
      go_step
      exact fam_e hK rfl rfl (Below.refl _ _) hC
     ·
      refine tab_plain fun K Q hK => ?_
      simp only [puts, foldr_nil]
      go_step
      exact fam_e hK rfl rfl (Below.refl _ _) hC
     ·
      obtain ⟨h4, h5, -⟩ := hh
      have g4 : f 4 = _ := h4
      have g5 : f 5 = _ := h5
      refine tab_plain fun K Q hK => ?_
      simp only [puts, Za, Zb, Zc, Zd, Ze, g4, g5]
      go_step
      exact fam_e hK rfl rfl (Below.refl _ _) hC
     ·
      obtain ⟨h6, -⟩ := hh
      have g6 : f 6 = _ := h6
      refine tab_plain fun K Q hK => ?_
      simp only [puts, Za, Zb, Zc, Zd, Ze, g6]
      have hc3 := (hC.cell (p := ⟨b', off' + k, none⟩) (show b' < _ by omega)).trans hc'
      go_step
      exact fam_e hK rfl rfl (Below.refl _ _) hC
     ·
      obtain ⟨h3, h7, -⟩ := hh
      have g3 : f 3 = _ := h3
      have g7 : f 7 = _ := h7
      refine tab_plain fun K Q hK => ?_
      simp only [puts, Za, Zb, Zc, Zd, Ze, g3, g7]
      go_step
      exact fam_e hK rfl rfl (Below.refl _ _) hC
    case rest =>
     intro f W2 hC hh
     obtain ⟨h0, h1, h2, h3, h4, h5, h6, h7, h8, -⟩ := hh
     have g0 : f 0 = _ := h0
     have g1 : f 1 = _ := h1
     have g2 : f 2 = _ := h2
     have g3 : f 3 = _ := h3
     have g4 : f 4 = _ := h4
     have g5 : f 5 = _ := h5
     have g6 : f 6 = _ := h6
     have g7 : f 7 = _ := h7
     have g8 : f 8 = _ := h8
     simp only [puts, Za, Zb, Zc, Zd, Ze, g0, g1, g2, g3, g4, g5, g6, g7, g8]
     clear h0 h1 h2 h3 h4 h5 h6 h7 h8 g0 g1 g2 g3 g4 g5 g6 g7 g8
     have hb2 := hb.trans (hC.mono hb.size)
     by_cases h0 : gi xs k = gi ys k
     ·have hq : (gi xs k != gi ys k) = false := by simpa using h0
      rw [hq]
      go_wp2
      go_roundw
      case rel => exact ⟨k + 1, by omega, by go_num, (fun i hi => by rcases Nat.lt_or_ge i k with h | h; exact HA.out i h; rw [show i = k by omega]; exact h0), hb2⟩
      case measure => simp [intOf]; omega
     ·have hq : (gi xs k != gi ys k) = true := by simpa using h0
      rw [hq]
      have HE := Lib.hid (gi_ne h0)
      clear h0
      go_wp2
      go_ret
      exact ⟨by rw [HE.out]; rfl, hb2⟩
   ·have hkm : k = len := by omega
    subst hkm
    have HE : Hid (decide (xs = ys) = true) := Lib.hid (decide_eq_true (gi_ext (by omega) (fun i hi => HA.out i (by omega))))
    go_wp2
    go_ret
    exact ⟨by rw [HE.out]; rfl, hb⟩
 ·have hq : ((len : Int) != (len' : Int)) = true := by simp; omega
  have HE : Hid (decide (xs = ys) = false) := Lib.hid (decide_eq_false (fun e => he (by rw [← hxl, ← hyl, e])))
  go_enter Tryz.func13, Tryz.ntmps13
  go_wp2
  go_ret
  exact ⟨by rw [HE.out]; rfl, Below.refl _ _⟩

set_option maxRecDepth 20000 in
theorem refHas_any (a : Option Addr) (len cap : Nat) (xs : List Int) (n : Int) (w : World) (hs : IsInts .i64 w a len cap xs) (hl : len ≤ 9223372036854775800) :
  Calls Tryz.prog 51 #[.slice a len cap, .int .i64 n] w fun e w' => e = .returned (.bool (decide (n ∈ xs))) ∧ w = w' := by
 have HX : Hid (xs.length = len) := Lib.hid hs.length
 go_enter Tryz.func51, Tryz.ntmps51
 go_wp2
 go_loop [5] (fun c => ∃ k : Nat, k ≤ len ∧ c = .int .i64 (k : Int) ∧ (∀ i, i < k → gi xs i ≠ n)) (fun c => len - (intOf c).toNat)
 case atStart => exact ⟨0, Nat.zero_le _, rfl, (fun i hi => by omega)⟩
 case round =>
  obtain ⟨k, hk, rfl, hall⟩ := hrel
  have HA := Lib.hid hall
  clear hall
  rcases Nat.lt_or_ge k len with hlt | hge
  ·obtain ⟨b, off, rfl, hbl, hc⟩ := hs.at w (Below.refl _ _) k hlt
   clear hs
   by_cases h0 : gi xs k = n
   ·have hq : (gi xs k == n) = true := by simpa using h0
    have HE : Hid (decide (n ∈ xs) = true) := Lib.hid (decide_eq_true (by rw [← h0]; exact gi_mem xs k (by rw [HX.out]; exact hlt)))
    clear h0
    go_wp2
    go_ret
    exact ⟨by rw [HE.out]; rfl, rfl⟩
   ·have hq : (gi xs k == n) = false := by simpa using h0
    have H0 := Lib.hid h0
    clear h0
    go_wp2
    go_round
    case rel => exact ⟨k + 1, by omega, by go_num, (fun i hi => by rcases Nat.lt_or_ge i k with h | h; exact HA.out i h; rw [show i = k by omega]; exact H0.out)⟩
    case measure => simp [intOf]; omega
  ·have hkm : k = len := by omega
   subst hkm
   have HE : Hid (decide (n ∈ xs) = false) := Lib.hid (decide_eq_false (fun e => by
    obtain ⟨i, hi, e⟩ := List.getElem_of_mem e
    exact HA.out i (by rw [← HX.out]; exact hi) (by rw [gi_eq xs i hi]; exact e)))
   go_wp2
   go_ret
   exact ⟨by rw [HE.out]; rfl, rfl⟩

end Go.Proofs.YtofaifeadhimjaaGreatDoor.Bt
