import Derived.Test.YtpcbmhfnefhenaaMG15
import Derived.Test.YtpcbmhfnefhenaaMG17
import Derived.Test.YtpcbmhfnefhenaaMG20
import Derived.Test.YtpcbmhfnefhenaaMG33
import Derived.Test.YtpcbmhfnefhenaaMG34
/-
  Rf3, DfaEnumeratesW
-/
set_option linter.unusedSimpArgs false
set_option linter.unusedVariables false
namespace Go.Proofs.Ytpcbmhfnefhenaa
open List (foldr_cons foldr_nil setIfInBounds_toArray set_cons_succ set_cons_zero)
open Go.RowKit
theorem gi_ne {xs ys : List Int} {k : Nat} (h : gi xs k ≠ gi ys k) : decide (xs = ys) = false := decide_eq_false (fun e => h (by rw [e]))
set_option maxHeartbeats 1000000 in
theorem same_any (a : Option Addr) (len cap : Nat) (xs : List Int) (a' : Option Addr) (len' cap' : Nat) (ys : List Int) (w : World) (hs : IsInts .i64 w a len cap xs) (hs' : IsInts .i64 w a' len' cap' ys) (hl : len ≤ 9223372036854775800) :
  Calls Try.prog 34 #[.slice a len cap, .slice a' len' cap'] w fun e w' => e = .returned (.bool (decide (xs = ys))) ∧ Below w.heap.size w w' := by
 have hxl := hs.length
 have hyl := hs'.length
 by_cases he : len = len'
 ·subst he
  have hq : ((len : Int) != (len : Int)) = false := by simp
  go_enter Try.func34, Try.ntmps34
  go_wp2
  go_loopw [5] (fun c W => ∃ k : Nat, k ≤ len ∧ c = .int .i64 (k : Int) ∧ (∀ i, i < k → gi xs i = gi ys i) ∧ Below w.heap.size w W) (fun c _ => len - (intOf c).toNat)
  case atStart => exact ⟨0, Nat.zero_le _, rfl, (fun i hi => by omega), Below.refl _ _⟩
  case round =>
   obtain ⟨k, hk, rfl, hall, hb⟩ := hrel
   have HA := Lib.hid hall
   clear hall
   rcases Nat.lt_or_ge k len with hlt | hge
   ·obtain ⟨b, off, rfl, hbl, hc⟩ := hs.at wr hb k hlt
    obtain ⟨b', off', rfl, hbl', hc'⟩ := hs'.at wr hb k hlt
    have hz := hb.size
    clear hs hs'
    go_wp2
    refine wp_region_grow mixed (by kernel_rfl) [[], [], [(0, 17), (1, 18)], [(2, 19)], [], [], [(4, 21), (5, 22)], [(6, 23)], [(3, 20), (7, 24)]] [(0, 17), (1, 18), (2, 19), (3, 20), (4, 21), (5, 22), (6, 23), (7, 24), (8, 25)] rfl rfl [Ex ?e0, Ex ?e1, Ex ?e2, Ex ?e3, Ex ?e4, Ex ?e5, Ex ?e6, Ex ?e7, Ex ?e8] ⟨stays_ex _, stays_ex _, stays_ex _, stays_ex _, stays_ex _, stays_ex _, stays_ex _, stays_ex _, stays_ex _, trivial⟩ ?steps ?rest
    case steps =>
     refine ⟨fun f W hC hh => ?_, fun f W hC hh => ?_, fun f W hC hh => ?_, fun f W hC hh => ?_, fun f W hC hh => ?_, fun f W hC hh => ?_, fun f W hC hh => ?_, fun f W hC hh => ?_, fun f W hC hh => ?_, trivial⟩
     ·
      refine tab_plain fun K Q hK => ?_
      simp only [puts, foldr_nil]
      go_step
      exact fam_e hK rfl rfl (Below.refl _ _) hC
     ·
      refine tab_plain fun K Q hK => ?_
      simp only [puts, foldr_nil]
      go_step
      exact fam_e hK rfl rfl (Below.refl _ _) hC
     ·
      obtain ⟨h0, h1, -⟩ := hh
      have g0 : f 0 = _ := h0
      have g1 : f 1 = _ := h1
      refine tab_plain fun K Q hK => ?_
      simp only [puts, Za, Zb, Zc, Zd, Ze, g0, g1]
      go_step
      exact fam_e hK rfl rfl (Below.refl _ _) hC
     ·
      obtain ⟨h2, -⟩ := hh
      have g2 : f 2 = _ := h2
      refine tab_plain fun K Q hK => ?_
      simp only [puts, Za, Zb, Zc, Zd, Ze, g2]
      have hc3 := (hC.cell (p := ⟨b, off + k, none⟩) (show b < _ by omega)).trans hc
      go_step
      exact fam_e hK rfl rfl (Below.refl _ _) hC
     ·
      refine tab_plain fun K Q hK => ?_
      simp only [puts, foldr_nil]
      go_step
      exact fam_e hK rfl rfl (Below.refl _ _) hC
     ·
      refine tab_plain fun K Q hK => ?_
      simp only [puts, foldr_nil]
      go_step
      exact fam_e hK rfl rfl (Below.refl _ _) hC
     ·
      obtain ⟨h4, h5, -⟩ := hh
      have g4 : f 4 = _ := h4
      have g5 : f 5 = _ := h5
      refine tab_plain fun K Q hK => ?_
      simp only [puts, Za, Zb, Zc, Zd, Ze, g4, g5]
      go_step
      exact fam_e hK rfl rfl (Below.refl _ _) hC
     ·
      obtain ⟨h6, -⟩ := hh
      have g6 : f 6 = _ := h6
      refine tab_plain fun K Q hK => ?_
      simp only [puts, Za, Zb, Zc, Zd, Ze, g6]
      have hc3 := (hC.cell (p := ⟨b', off' + k, none⟩) (show b' < _ by omega)).trans hc'
      go_step
      exact fam_e hK rfl rfl (Below.refl _ _) hC
     ·
      obtain ⟨h3, h7, -⟩ := hh
      have g3 : f 3 = _ := h3
      have g7 : f 7 = _ := h7
      refine tab_plain fun K Q hK => ?_
      simp only [puts, Za, Zb, Zc, Zd, Ze, g3, g7]
      go_step
      exact fam_e hK rfl rfl (Below.refl _ _) hC
    case rest =>
     intro f W2 hC hh
     obtain ⟨h0, h1, h2, h3, h4, h5, h6, h7, h8, -⟩ := hh
     have g0 : f 0 = _ := h0
     have g1 : f 1 = _ := h1
     have g2 : f 2 = _ := h2
     have g3 : f 3 = _ := h3
     have g4 : f 4 = _ := h4
     have g5 : f 5 = _ := h5
     have g6 : f 6 = _ := h6
     have g7 : f 7 = _ := h7
     have g8 : f 8 = _ := h8
     simp only [puts, Za, Zb, Zc, Zd, Ze, g0, g1, g2, g3, g4, g5, g6, g7, g8]
     clear h0 h1 h2 h3 h4 h5 h6 h7 h8 g0 g1 g2 g3 g4 g5 g6 g7 g8
     have hb2 := hb.trans (hC.mono hb.size)
     by_cases h0 : gi xs k = gi ys k
     ·have hq : (gi xs k != gi ys k) = false := by simpa using h0
      rw [hq]
      go_wp2
      go_roundw
      case rel => exact ⟨k + 1, by omega, by go_num, (fun i hi => by rcases Nat.lt_or_ge i k with h | h; exact HA.out i h; rw [show i = k by omega]; exact h0), hb2⟩
      case measure => simp [intOf]; omega
     ·have hq : (gi xs k != gi ys k) = true := by simpa using h0
      rw [hq]
      have HE := Lib.hid (gi_ne h0)
      clear h0
      go_wp2
      go_ret
      exact ⟨by rw [HE.out]; rfl, hb2⟩
   ·have hkm : k = len := by omega
    subst hkm
    have HE : Hid (decide (xs = ys) = true) := Lib.hid (decide_eq_true (gi_ext (by omega) (fun i hi => HA.out i (by omega))))
    go_wp2
    go_ret
    exact ⟨by rw [HE.out]; rfl, hb⟩
 ·have hq : ((len : Int) != (len' : Int)) = true := by simp; omega
  have HE : Hid (decide (xs = ys) = false) := Lib.hid (decide_eq_false (fun e => he (by rw [← hxl, ← hyl, e])))
  go_enter Try.func34, Try.ntmps34
  go_wp2
  go_ret
  exact ⟨by rw [HE.out]; rfl, Below.refl _ _⟩
theorem refHas_any (a : Option Addr) (len cap : Nat) (xs : List Int) (n : Int) (w : World) (hs : IsInts .i64 w a len cap xs) (hl : len ≤ 9223372036854775800) :
  Calls Try.prog 43 #[.slice a len cap, .int .i64 n] w fun e w' => e = .returned (.bool (decide (n ∈ xs))) ∧ w = w' := by
 have HX : Hid (xs.length = len) := Lib.hid hs.length
 go_enter Try.func43, Try.ntmps43
 go_wp2
 go_loop [5] (fun c => ∃ k : Nat, k ≤ len ∧ c = .int .i64 (k : Int) ∧ (∀ i, i < k → gi xs i ≠ n)) (fun c => len - (intOf c).toNat)
 case atStart => exact ⟨0, Nat.zero_le _, rfl, (fun i hi => by omega)⟩
 case round =>
  obtain ⟨k, hk, rfl, hall⟩ := hrel
  have HA := Lib.hid hall
  clear hall
  rcases Nat.lt_or_ge k len with hlt | hge
  ·obtain ⟨b, off, rfl, hbl, hc⟩ := hs.at w (Below.refl _ _) k hlt
   clear hs
   by_cases h0 : gi xs k = n
   ·have hq : (gi xs k == n) = true := by simpa using h0
    have HE : Hid (decide (n ∈ xs) = true) := Lib.hid (decide_eq_true (by rw [← h0]; exact gi_mem xs k (by rw [HX.out]; exact hlt)))
    clear h0
    go_wp2
    go_ret
    exact ⟨by rw [HE.out]; rfl, rfl⟩
   ·have hq : (gi xs k == n) = false := by simpa using h0
    have H0 := Lib.hid h0
    clear h0
    go_wp2
    go_round
    case rel => exact ⟨k + 1, by omega, by go_num, (fun i hi => by rcases Nat.lt_or_ge i k with h | h; exact HA.out i h; rw [show i = k by omega]; exact H0.out)⟩
    case measure => simp [intOf]; omega
  ·have hkm : k = len := by omega
   subst hkm
   have HE : Hid (decide (n ∈ xs) = false) := Lib.hid (decide_eq_false (fun e => by
    obtain ⟨i, hi, e⟩ := List.getElem_of_mem e
    exact HA.out i (by rw [← HX.out]; exact hi) (by rw [gi_eq xs i hi]; exact e)))
   go_wp2
   go_ret
   exact ⟨by rw [HE.out]; rfl, rfl⟩
def withStep (n : Int) (s : List Int × Bool) (x : Int) : List Int × Bool :=
 if s.2 = false ∧ n ≤ x then ((if n < x then s.1 ++ [n] else s.1) ++ [x], true) else (s.1 ++ [x], s.2)
def withF (l : List Int) (n : Int) : List Int × Bool := l.foldl (withStep n) ([], false)
def withL (l : List Int) (n : Int) : List Int := if (withF l n).2 = true then (withF l n).1 else (withF l n).1 ++ [n]
theorem withF_snoc (l : List Int) (n : Int) (k : Nat) (h : k < l.length) : withF (l.take (k + 1)) n = withStep n (withF (l.take k) n) (gi l k) := by
 rw [take_succ_gi l k h, withF, List.foldl_append]; rfl
set_option maxHeartbeats 2000000 in
theorem refWith_any (a : Option Addr) (len cap : Nat) (xs : List Int) (n : Int) (w : World) (hs : IsInts .i64 w a len cap xs) (hl : len ≤ 1000000) :
  Calls Try.prog 68 #[.slice a len cap, .int .i64 n] w fun e w' => ∃ a3 n3 c3, e = .returned (.slice a3 n3 c3) ∧ w'.ownsRow w.heap.size 3 1 (.slice a3 n3 c3) n3 (ivs .i64 (withL xs n)) ∧ Below w.heap.size w w' := by
 have HX : Hid (xs.length = len) := Lib.hid hs.length
 go_enter Try.func68, Try.ntmps68
 go_wp2
 go_loopw [5, 6, 7] (fun v d c W => ∃ k ao no co D L, k ≤ len ∧ c = .int .i64 (k : Int) ∧ v = .slice ao no co ∧ d = .bool D ∧ no ≤ 2 * k ∧ withF (xs.take k) n = (L, D) ∧ W.ownsRow w.heap.size 3 1 (.slice ao no co) no (ivs .i64 L) ∧ Below w.heap.size w W) (fun _ _ c _ => len - (intOf c).toNat)
 case atStart => exact ⟨0, none, 0, 0, false, [], Nat.zero_le _, rfl, rfl, rfl, Nat.le_refl _, rfl, World.ownsRow_nil _ _ _ _, Below.refl _ _⟩
 case round =>
  obtain ⟨k, ao, no, co, D, L, hk, rfl, rfl, rfl, hno, hF, ho, hb⟩ := hrel
  rcases Nat.lt_or_ge k len with hlt | hge
  ·obtain ⟨b, off, rfl, hbl, hc⟩ := hs.at wr hb k hlt
   have hkx : k < xs.length := by rw [HX.out]; exact hlt
   have hS := withF_snoc xs n k hkx
   rw [hF] at hS
   unfold withStep at hS
   simp only at hS
   have hlw := hb.size
   have hcc := fun W (hC : Below wr.heap.size wr W) => (hC.cell (p := ⟨b, off + k, none⟩) (show b < _ by omega)).trans hc
   cases D with
   | true =>
    rw [if_neg (by simp)] at hS
    have HS := Lib.hid hS
    clear hS hF hs
    go_wp2_with (at_builtin; refine app_one (k := .i64) elI64 rfl _ _ rfl rfl ho rfl (by omega) hb.size ?_; clear ho; intro a3 c3 w3 ho hb3; replace hb := hb.trans hb3; clear hb3)
    go_roundw
    case rel => exact ⟨k + 1, a3, no + 1, c3, true, _, hlt, by go_num, rfl, rfl, by omega, HS.out, ho, hb⟩
    case measure => simp [intOf]; omega
   | false =>
    rcases Int.lt_trichotomy n (gi xs k) with hn | hn | hn
    ·have hd1 : decide (n ≤ gi xs k) = true := decide_eq_true (by omega)
     have hd2 : decide (n < gi xs k) = true := decide_eq_true hn
     rw [if_pos ⟨rfl, by omega⟩, if_pos hn] at hS
     have HS := Lib.hid hS
     clear hS hF hs hn
     go_wp2_with (at_builtin; refine app_one (k := .i64) elI64 rfl _ _ rfl rfl ho rfl (by omega) hb.size ?_; clear ho; intro a3 c3 w3 ho hb3; have hc2 := (hb3.cell (p := ⟨b, off + k, none⟩) (show b < _ by omega)); replace hb := hb.trans hb3; clear hb3; try (rw [hc] at hc2))
     go_roundw
     case rel => exact ⟨k + 1, a3, no + 1 + 1, c3, true, _, hlt, by go_num, rfl, rfl, by omega, HS.out, ho, hb⟩
     case measure => simp [intOf]; omega
    ·have hd1 : decide (n ≤ gi xs k) = true := decide_eq_true (by omega)
     have hd2 : decide (n < gi xs k) = false := decide_eq_false (by omega)
     rw [if_pos ⟨rfl, by omega⟩, if_neg (by omega)] at hS
     have HS := Lib.hid hS
     clear hS hF hs hn
     go_wp2_with (at_builtin; refine app_one (k := .i64) elI64 rfl _ _ rfl rfl ho rfl (by omega) hb.size ?_; clear ho; intro a3 c3 w3 ho hb3; replace hb := hb.trans hb3; clear hb3)
     go_roundw
     case rel => exact ⟨k + 1, a3, no + 1, c3, true, _, hlt, by go_num, rfl, rfl, by omega, HS.out, ho, hb⟩
     case measure => simp [intOf]; omega
    ·have hd1 : decide (n ≤ gi xs k) = false := decide_eq_false (by omega)
     rw [if_neg (by omega)] at hS
     have HS := Lib.hid hS
     clear hS hF hs hn
     go_wp2_with (at_builtin; refine app_one (k := .i64) elI64 rfl _ _ rfl rfl ho rfl (by omega) hb.size ?_; clear ho; intro a3 c3 w3 ho hb3; replace hb := hb.trans hb3; clear hb3)
     go_roundw
     case rel => exact ⟨k + 1, a3, no + 1, c3, false, _, hlt, by go_num, rfl, rfl, by omega, HS.out, ho, hb⟩
     case measure => simp [intOf]; omega
  ·have hkm : k = len := by omega
   subst hkm
   rw [List.take_of_length_le (by rw [HX.out]; exact Nat.le_refl _)] at hF
   cases D with
   | true =>
    have HW : Hid (withL xs n = L) := Lib.hid (by unfold withL; rw [hF]; rfl)
    clear hF
    go_wp2
    go_ret
    exact ⟨ao, no, co, rfl, by rw [HW.out]; exact ho, hb⟩
   | false =>
    have HW : Hid (withL xs n = L ++ [n]) := Lib.hid (by unfold withL; rw [hF]; rfl)
    clear hF
    go_wp2_with (at_builtin; refine app_one (k := .i64) elI64 rfl _ _ rfl rfl ho rfl (by omega) hb.size ?_; clear ho; intro a3 c3 w3 ho hb3; replace hb := hb.trans hb3; clear hb3)
    go_ret
    exact ⟨a3, no + 1, c3, rfl, by rw [HW.out]; exact ho, hb⟩
theorem withStep_gt {n x : Int} (acc : List Int) (h : n < x) : withStep n (acc, false) x = (acc ++ [n] ++ [x], true) := by
 unfold withStep; rw [if_pos ⟨rfl, by omega⟩, if_pos h]
theorem withStep_eq {n x : Int} (acc : List Int) (h1 : n ≤ x) (h : ¬ n < x) : withStep n (acc, false) x = (acc ++ [x], true) := by
 unfold withStep; rw [if_pos ⟨rfl, h1⟩, if_neg h]
theorem withStep_lt {n x : Int} (acc : List Int) (h : ¬ n ≤ x) : withStep n (acc, false) x = (acc ++ [x], false) := by
 unfold withStep; rw [if_neg (fun e => h e.2)]
theorem withStep_done (n x : Int) (acc : List Int) : withStep n (acc, true) x = (acc ++ [x], true) := by
 unfold withStep; rw [if_neg (by simp)]
theorem withF_done (n : Int) : ∀ (l acc : List Int), l.foldl (withStep n) (acc, true) = (acc ++ l, true)
 | [], acc => by simp
 | x :: l, acc => by
  rw [List.foldl_cons, withStep_done, withF_done n l]
  simp
theorem withF_asc (n : Int) : ∀ (l acc : List Int), Asc l → (if (l.foldl (withStep n) (acc, false)).2 = true then (l.foldl (withStep n) (acc, false)).1 else (l.foldl (withStep n) (acc, false)).1 ++ [n]) = acc ++ (l.filter (fun x => decide (x < n)) ++ n :: l.filter (fun x => decide (n < x)))
 | [], acc, _ => by simp
 | x :: l, acc, h => by
  have h' := List.pairwise_cons.1 h
  rw [List.foldl_cons]
  by_cases h1 : n ≤ x
  ·have hz : ∀ y ∈ l, n < y := fun y hy => by have := h'.1 y hy; omega
   have e1 : l.filter (fun x => decide (x < n)) = [] := List.filter_eq_nil_iff.2 fun y hy => by have := hz y hy; simp; omega
   have e2 : l.filter (fun x => decide (n < x)) = l := List.filter_eq_self.2 fun y hy => by simpa using hz y hy
   by_cases h2 : n < x
   ·rw [withStep_gt _ h2, withF_done]
    simp [List.filter_cons, e1, e2, h2, show ¬ x < n by omega]
   ·have : x = n := by omega
    subst this
    rw [withStep_eq _ h1 h2, withF_done]
    simp [List.filter_cons, e1, e2]
  ·rw [withStep_lt _ h1, withF_asc n l _ h'.2, List.filter_cons, List.filter_cons, if_pos (by simp; omega), if_neg (by simp; omega)]
   simp
theorem withL_asc (n : Int) (l : List Int) (h : Asc l) : withL l n = l.filter (fun x => decide (x < n)) ++ n :: l.filter (fun x => decide (n < x)) := by
 have := withF_asc n l [] h
 rw [List.nil_append] at this
 exact this
end Go.Proofs.Ytpcbmhfnefhenaa

set_option linter.unusedSimpArgs false
set_option linter.unusedVariables false
namespace Go.Proofs.Ytpcbmhfnefhenaa
open List (foldr_cons foldr_nil setIfInBounds_toArray set_cons_succ set_cons_zero)
open Go.RowKit
attribute [local go_sem] Oper.semAt_some

set_option maxRecDepth 20000 in
set_option maxHeartbeats 4000000 in
theorem dfaEnumerates_walk (a : Dfa) (h : DH) (aw : Option Addr) (lw cw : Nat) (zs : List Int) (w : World) (ia : IsDfa w h a) (iw : IsInts .i64 w aw lw cw zs) :
  Calls Try.prog 8 #[vDf a h, .slice aw lw cw] w fun e w' => e = .returned (.bool true) ∧ Below w.heap.size w w' := by
 obtain ⟨W0, hW0, hs0, hb0, hO0⟩ := boxRW a h w ia
 replace ia := (hO0 W0 (Below.refl _ _)).2.1
 replace iw := iw.later hb0
 obtain ⟨c01, c02, c03, c04⟩ := (hO0 W0 (Below.refl _ _)).1
 have HB : Below w.heap.size w W0 := hb0
 clear hO0 hb0
 unfold vDf
 by_cases fa : FewD a
 rotate_left
 ·have hx := fa
  go_enter Try.func8, Try.ntmps8
  go_wp2_with (fail)
  refine (awake_any _).mono ?_
  rintro e w1 ⟨rfl, hb⟩
  replace c01 := cell_later hb c01
  replace c02 := cell_later hb c02
  replace c03 := cell_later hb c03
  replace c04 := cell_later hb c04
  replace ia := ia.later hb
  replace iw := iw.later hb
  replace HB := HB.trans (hb.mono HB.size)
  clear hb
  go_wp2_with (fail)
  refine (few_no ia fa).mono ?_
  rintro e w2 ⟨rfl, hb⟩
  replace c01 := cell_later hb c01
  replace c02 := cell_later hb c02
  replace c03 := cell_later hb c03
  replace c04 := cell_later hb c04
  replace ia := ia.later hb
  replace iw := iw.later hb
  replace HB := HB.trans (hb.mono HB.size)
  clear hb
  go_wp2_with (fail)
  go_ret
  exact ⟨rfl, HB⟩
 by_cases va : ValidD a
 rotate_left
 ·have hx := va
  go_enter Try.func8, Try.ntmps8
  go_wp2_with (fail)
  refine (awake_any _).mono ?_
  rintro e w3 ⟨rfl, hb⟩
  replace c01 := cell_later hb c01
  replace c02 := cell_later hb c02
  replace c03 := cell_later hb c03
  replace c04 := cell_later hb c04
  replace ia := ia.later hb
  replace iw := iw.later hb
  replace HB := HB.trans (hb.mono HB.size)
  clear hb
  go_wp2_with (fail)
  refine (few_yes ia fa).mono ?_
  rintro e w4 ⟨rfl, hb⟩
  replace c01 := cell_later hb c01
  replace c02 := cell_later hb c02
  replace c03 := cell_later hb c03
  replace c04 := cell_later hb c04
  replace ia := ia.later hb
  replace iw := iw.later hb
  replace HB := HB.trans (hb.mono HB.size)
  clear hb
  go_wp2_with (fail)
  refine (refValid_no va ia).mono ?_
  rintro e w5 ⟨rfl, hb⟩
  replace c01 := cell_later hb c01
  replace c02 := cell_later hb c02
  replace c03 := cell_later hb c03
  replace c04 := cell_later hb c04
  replace ia := ia.later hb
  replace iw := iw.later hb
  replace HB := HB.trans (hb.mono HB.size)
  clear hb
  go_wp2_with (fail)
  go_ret
  exact ⟨rfl, HB⟩
 by_cases hlw : 4 < lw
 ·have d1 : decide ((4 : Int) < (lw : Int)) = true := decide_eq_true (by omega)
  go_enter Try.func8, Try.ntmps8
  go_wp2_with (fail)
  refine (awake_any _).mono ?_
  rintro e w6 ⟨rfl, hb⟩
  replace c01 := cell_later hb c01
  replace c02 := cell_later hb c02
  replace c03 := cell_later hb c03
  replace c04 := cell_later hb c04
  replace ia := ia.later hb
  replace iw := iw.later hb
  replace HB := HB.trans (hb.mono HB.size)
  clear hb
  go_wp2_with (fail)
  refine (few_yes ia fa).mono ?_
  rintro e w7 ⟨rfl, hb⟩
  replace c01 := cell_later hb c01
  replace c02 := cell_later hb c02
  replace c03 := cell_later hb c03
  replace c04 := cell_later hb c04
  replace ia := ia.later hb
  replace iw := iw.later hb
  replace HB := HB.trans (hb.mono HB.size)
  clear hb
  go_wp2_with (fail)
  refine (refValid_yes va ia).mono ?_
  rintro e w8 ⟨rfl, hb⟩
  replace c01 := cell_later hb c01
  replace c02 := cell_later hb c02
  replace c03 := cell_later hb c03
  replace c04 := cell_later hb c04
  replace ia := ia.later hb
  replace iw := iw.later hb
  replace HB := HB.trans (hb.mono HB.size)
  clear hb
  go_wp2_with (fail)
  go_ret
  exact ⟨rfl, HB⟩
 have d1 : decide ((4 : Int) < (lw : Int)) = false := decide_eq_false (by omega)
 have hlw2 : lw ≤ 4 := by omega
 have hzl : zs.length = lw := iw.length
 have fa3 : a.arcs.length ≤ 1000 := by have := fa.2.2; omega
 obtain ⟨x, hx⟩ : ∃ x, accQ a a.s zs = x := ⟨_, rfl⟩
 obtain ⟨Q, hQ⟩ : ∃ Q, wordsD a 4 60 = Q := ⟨_, rfl⟩
 obtain ⟨ql, hql⟩ : ∃ n, Q.length = n := ⟨_, rfl⟩
 have hq60 : ql ≤ 60 := by
  have h1 := wordsD_len (d := a) 4 60
  rw [hQ, hql] at h1
  exact h1
 have kw := fun W h' (hd : IsDfa W h' a) => (show Calls Try.prog 32 #[vDf a h', .int .i64 4, .int .i64 60] W (GivesWs Q 0 W) from by
  have h1 := words_yes (n := 4) (most := 60) va (by omega) hd
  rw [hQ] at h1
  exact h1)
 have ka := fun W h' (u : List Int) (b : Bool) (aw : Option Addr) (lw cw : Nat) (hd : IsDfa W h' a) (hi : IsInts .i64 W aw lw cw u) (hl : lw ≤ 1000000) (hb : accQ a a.s u = b) => (show Calls Try.prog 23 #[vDf a h', .slice aw lw cw] W (fun e w' => e = .returned (.tuple #[.bool b, .int .i64 0]) ∧ Below W.heap.size W w') from by
  have h1 := accepts_any hd hi hl
  rw [accV_yes va, hb] at h1
  exact h1)
 have m1 : ∀ i, i < ql → accQ a a.s (gwl Q i) = true ∧ (gwl Q i).length ≤ 4 := fun i hi => by
  have h1 := wordsD_mem (d := a) va (n := 4) (most := 60) (w := gwl Q i) (by rw [hQ]; exact gwl_mem (by omega))
  exact ⟨h1.2, by omega⟩
 have m2 : ∀ i, 0 < i → i < ql → SL (gwl Q (i - 1)) (gwl Q i) := fun i h0 hi => by
  have h1 := wordsD_asc va 4 60
  rw [hQ, List.pairwise_iff_getElem] at h1
  rw [gwl_eq _ _ (by omega), gwl_eq _ _ (by omega)]
  exact h1 (i - 1) i (by omega) (by omega) (by omega)
 have m3 : ∀ i, i < ql → decide (zs ∈ Q.take (i + 1)) = (decide (zs ∈ Q.take i) || decide (gwl Q i = zs)) := fun i hi => by
  rw [List.take_add_one, List.getElem?_eq_getElem (by omega), Option.toList_some, ← gwl_eq _ _ (by omega), Bool.eq_iff_iff, decide_eq_true_eq, Bool.or_eq_true, decide_eq_true_eq, decide_eq_true_eq, List.mem_append, List.mem_singleton]
  constructor
  ·rintro (h | h)
   ·exact .inl h
   ·exact .inr h.symm
  ·rintro (h | h)
   ·exact .inl h
   ·exact .inr h.symm
 have m4 : zs ∈ Q → x = true := fun h => by
  have h1 := wordsD_mem (d := a) va (n := 4) (most := 60) (w := zs) (by rw [hQ]; exact h)
  rw [← hx]; exact h1.2
 have m5 : zs ∉ Q → x = true → ql = 60 ∧ SL (gwl Q 59) zs := fun h1 h2 => by
  obtain ⟨h3, h4⟩ := wordsD_behind (d := a) va (n := 4) (most := 60) (w := zs) (by omega) (by rw [hx]; exact h2) (by rw [hQ]; exact h1)
  rw [hQ, hql] at h3
  have h5 : ql = 60 := by rw [h3]; rfl
  exact ⟨h5, h4 _ (by rw [hQ]; exact gwl_mem (by omega))⟩
 have m6 : decide (zs ∈ Q.take ql) = decide (zs ∈ Q) := by rw [List.take_of_length_le (by omega)]
 have KW := Lib.hid kw
 have KA := Lib.hid ka
 have M1 := Lib.hid m1
 have M2 := Lib.hid m2
 have M3 := Lib.hid m3
 have M4 := Lib.hid m4
 have M5 := Lib.hid m5
 have M6 := Lib.hid m6
 have HX := Lib.hid hx
 have HQL := Lib.hid hql
 have HZL := Lib.hid hzl
 have HVA := Lib.hid va
 have d2 : decide ((60 : Int) < (ql : Int)) = false := decide_eq_false (by omega)
 clear kw ka m1 m2 m3 m4 m5 m6 hx hQ hlw hzl
 go_enter Try.func8, Try.ntmps8
 go_wp2_with (fail)
 refine (awake_any _).mono ?_
 rintro e w9 ⟨rfl, hb⟩
 replace c01 := cell_later hb c01
 replace c02 := cell_later hb c02
 replace c03 := cell_later hb c03
 replace c04 := cell_later hb c04
 replace ia := ia.later hb
 replace iw := iw.later hb
 replace HB := HB.trans (hb.mono HB.size)
 clear hb
 go_wp2_with (fail)
 refine (few_yes ia fa).mono ?_
 rintro e w10 ⟨rfl, hb⟩
 replace c01 := cell_later hb c01
 replace c02 := cell_later hb c02
 replace c03 := cell_later hb c03
 replace c04 := cell_later hb c04
 replace ia := ia.later hb
 replace iw := iw.later hb
 replace HB := HB.trans (hb.mono HB.size)
 clear hb
 go_wp2_with (fail)
 refine (refValid_yes va ia).mono ?_
 rintro e w11 ⟨rfl, hb⟩
 replace c01 := cell_later hb c01
 replace c02 := cell_later hb c02
 replace c03 := cell_later hb c03
 replace c04 := cell_later hb c04
 replace ia := ia.later hb
 replace iw := iw.later hb
 replace HB := HB.trans (hb.mono HB.size)
 clear hb
 go_wp2_with (fail)
 refine (own_any ia fa3).mono ?_
 rintro e w12 ⟨⟨yp, rfl, ip⟩, hb⟩
 unfold vDf
 replace c01 := cell_later hb c01
 replace c02 := cell_later hb c02
 replace c03 := cell_later hb c03
 replace c04 := cell_later hb c04
 replace ia := ia.later hb
 replace iw := iw.later hb
 replace HB := HB.trans (hb.mono HB.size)
 clear hb
 go_wp2_with (fail)
 refine (KW.out _ _ ip).mono ?_
 rintro e w13 ⟨⟨aq, cq, rfl, iq⟩, hb⟩
 rw [hql] at iq ⊢
 replace c01 := cell_later hb c01
 replace c02 := cell_later hb c02
 replace c03 := cell_later hb c03
 replace c04 := cell_later hb c04
 replace ia := ia.later hb
 replace iw := iw.later hb
 replace ip := ip.later hb
 replace HB := HB.trans (hb.mono HB.size)
 clear hb
 clear hql
 go_wp2_with (fail)
 refine (own_any ia fa3).mono ?_
 rintro e w14 ⟨⟨yr, rfl, ir⟩, hb⟩
 unfold vDf
 replace c01 := cell_later hb c01
 replace c02 := cell_later hb c02
 replace c03 := cell_later hb c03
 replace c04 := cell_later hb c04
 replace ia := ia.later hb
 replace iw := iw.later hb
 replace ip := ip.later hb
 replace iq := iq.later hb
 replace HB := HB.trans (hb.mono HB.size)
 clear hb
 go_wp2_with (fail)
 refine (KA.out _ _ zs x _ _ _ ir iw (by omega) HX.out).mono ?_
 rintro e w15 ⟨rfl, hb⟩
 replace c01 := cell_later hb c01
 replace c02 := cell_later hb c02
 replace c03 := cell_later hb c03
 replace c04 := cell_later hb c04
 replace ia := ia.later hb
 replace iw := iw.later hb
 replace ip := ip.later hb
 replace iq := iq.later hb
 replace ir := ir.later hb
 replace HB := HB.trans (hb.mono HB.size)
 clear hb
 go_wp2_with (fail)
 have hb := Below.refl w15.heap.size w15
 go_loopw [9, 55] (fun fd c W => ∃ i : Nat, i ≤ ql ∧ c = .int .i64 (i : Int) ∧ fd = .bool (decide (zs ∈ Q.take i)) ∧ Below w15.heap.size w15 W) (fun _ c _ => ql - (intOf c).toNat)
 case atStart => exact ⟨0, Nat.zero_le _, rfl, by rw [List.take_zero]; rfl, Below.refl _ _⟩
 case round =>
  clear hb
  obtain ⟨i, hi, rfl, rfl, hb⟩ := hrel
  have HL := Lib.hid hb
  replace c01 := cell_later hb c01
  replace c02 := cell_later hb c02
  replace c03 := cell_later hb c03
  replace c04 := cell_later hb c04
  replace ia := ia.later hb
  replace iw := iw.later hb
  replace ip := ip.later hb
  replace iq := iq.later hb
  replace ir := ir.later hb
  replace HB := HB.trans (hb.mono HB.size)
  clear hb
  rcases Nat.lt_or_ge i ql with hlt | hge
  ·have t1 : decide (i < ql) = true := decide_eq_true hlt
   obtain ⟨bq, oq, xc, cc, haq, kc, ic⟩ := iq.at hlt
   obtain ⟨u, hu⟩ : ∃ u, gwl Q i = u := ⟨_, rfl⟩
   obtain ⟨ul, hul⟩ : ∃ n, u.length = n := ⟨_, rfl⟩
   have hac := M1.out i hlt
   have h3 := M3.out i hlt
   have h2 := fun h0 => M2.out i h0 hlt
   rw [hu] at kc ic hac h3 h2
   rw [hul] at kc ic hac
   have HAC := Lib.hid hac.1
   have hul4 := hac.2
   have HM3 := Lib.hid h3
   have HM2 := Lib.hid h2
   have HU := Lib.hid hul
   subst haq
   clear hac h3 h2 hu hul
   go_upto_region 13 with (fail)
   refine wp_region_grow mixed (by kernel_rfl) [[], [(0, 59)], [], [], [(2, 61), (3, 62)], [(4, 63)], [(1, 60), (5, 64), (1, 60)], [(6, 65)], [(7, 58)], [(7, 58)], [(8, 66), (6, 65), (0, 59), (1, 60), (2, 61), (3, 62), (4, 63), (5, 64), (6, 65), (7, 58), (8, 66)], [(9, 67), (10, 11), (0, 59), (1, 60), (2, 61), (3, 62), (4, 63), (5, 64), (6, 65), (7, 58), (8, 66), (9, 67), (10, 11)]] [(0, 59), (1, 60), (2, 61), (3, 62), (4, 63), (5, 64), (6, 65), (7, 58), (8, 66), (9, 67), (10, 11), (11, 12)] rfl rfl [Ex ?ea0, DfP a, Ex ?ea2, Ex ?ea3, Ex ?ea4, Ex ?ea5, Ex (.tuple #[.bool true, .int .i64 0]), Ex ?ea7, Ex ?ea8, Ex ?ea9, Ex ?ea10, Ex ?ea11] ⟨stays_ex _, stays_df a, stays_ex _, stays_ex _, stays_ex _, stays_ex _, stays_ex _, stays_ex _, stays_ex _, stays_ex _, stays_ex _, stays_ex _, trivial⟩ ?asteps ?arest
   case asteps =>
    refine ⟨fun f W hC hh => ?_, fun f W hC hh => ?_, fun f W hC hh => ?_, fun f W hC hh => ?_, fun f W hC hh => ?_, fun f W hC hh => ?_, fun f W hC hh => ?_, fun f W hC hh => ?_, fun f W hC hh => ?_, fun f W hC hh => ?_, fun f W hC hh => ?_, fun f W hC hh => ?_, trivial⟩
    ·
     refine tab_plain fun K Q hK => ?_
     simp only [puts, foldr_nil]
     have mz1 := cell_later hC c01
     have mz2 := cell_later hC c02
     have mz3 := cell_later hC c03
     have mz4 := cell_later hC c04
     go_step
     exact fam_e hK rfl rfl (Below.refl _ _) hC
    ·
     obtain ⟨h0, -⟩ := hh
     have g0 : f 0 = _ := h0
     refine tab_plain fun K Q hK => ?_
     simp only [puts, Za, Zb, Zc, Zd, Ze, g0]
     go_step
     go_at_call 14
     refine (own_any (ia.later hC) fa3).mono ?_
     rintro e w' ⟨⟨yp, rfl, ip⟩, hb⟩
     exact fam_fin hK rfl ⟨yp, rfl, ip⟩ hb (hC.trans (hb.mono hC.size))
    ·
     refine tab_plain fun K Q hK => ?_
     simp only [puts, foldr_nil]
     go_step
     exact fam_e hK rfl rfl (Below.refl _ _) hC
    ·
     refine tab_plain fun K Q hK => ?_
     simp only [puts, foldr_nil]
     go_step
     exact fam_e hK rfl rfl (Below.refl _ _) hC
    ·
     obtain ⟨h2, h3, -⟩ := hh
     have g2 : f 2 = _ := h2
     have g3 : f 3 = _ := h3
     refine tab_plain fun K Q hK => ?_
     simp only [puts, Za, Zb, Zc, Zd, Ze, g2, g3]
     go_step
     exact fam_e hK rfl rfl (Below.refl _ _) hC
    ·
     obtain ⟨h4, -⟩ := hh
     have g4 : f 4 = _ := h4
     refine tab_plain fun K Q hK => ?_
     simp only [puts, Za, Zb, Zc, Zd, Ze, g4]
     have mk := cell_later hC kc
     go_step
     exact fam_e hK rfl rfl (Below.refl _ _) hC
    ·
     obtain ⟨h1, h5, _, -⟩ := hh
     obtain ⟨y1, g1, d1⟩ := h1
     have g5 : f 5 = _ := h5
     refine tab_plain fun K Q hK => ?_
     simp only [puts, Za, Zb, Zc, Zd, Ze, g1, g5]
     go_step
     go_at_call 23
     refine (KA.out _ _ u true _ _ _ d1 (ic.later hC) (by omega) HAC.out).mono ?_
     rintro e w' ⟨rfl, hb⟩
     exact fam_fin hK rfl rfl hb (hC.trans (hb.mono hC.size))
    ·
     obtain ⟨h6, -⟩ := hh
     have g6 : f 6 = _ := h6
     refine tab_plain fun K Q hK => ?_
     simp only [puts, Za, Zb, Zc, Zd, Ze, g6]
     go_step
     exact fam_e hK rfl rfl (Below.refl _ _) hC
    ·
     obtain ⟨h7, -⟩ := hh
     have g7 : f 7 = _ := h7
     refine tab_plain fun K Q hK => ?_
     simp only [puts, Za, Zb, Zc, Zd, Ze, g7]
     go_step
     exact fam_e hK rfl rfl (Below.refl _ _) hC
    ·
     obtain ⟨h7, -⟩ := hh
     have g7 : f 7 = _ := h7
     refine tab_plain fun K Q hK => ?_
     simp only [puts, Za, Zb, Zc, Zd, Ze, g7]
     go_step
     exact fam_e hK rfl rfl (Below.refl _ _) hC
    ·
     obtain ⟨h8, h6, h0, h1, h2, h3, h4, h5, _, h7, _, -⟩ := hh
     have g8 : f 8 = _ := h8
     have g6 : f 6 = _ := h6
     have g0 : f 0 = _ := h0
     obtain ⟨y1, g1, d1⟩ := h1
     have g2 : f 2 = _ := h2
     have g3 : f 3 = _ := h3
     have g4 : f 4 = _ := h4
     have g5 : f 5 = _ := h5
     have g7 : f 7 = _ := h7
     refine tab_plain fun K Q hK => ?_
     simp only [puts, Za, Zb, Zc, Zd, Ze, g8, g6, g0, g1, g2, g3, g4, g5, g7]
     go_step
     exact fam_e hK rfl rfl (Below.refl _ _) hC
    ·
     obtain ⟨h9, h10, h0, h1, h2, h3, h4, h5, h6, h7, h8, _, _, -⟩ := hh
     have g9 : f 9 = _ := h9
     have g10 : f 10 = _ := h10
     have g0 : f 0 = _ := h0
     obtain ⟨y1, g1, d1⟩ := h1
     have g2 : f 2 = _ := h2
     have g3 : f 3 = _ := h3
     have g4 : f 4 = _ := h4
     have g5 : f 5 = _ := h5
     have g6 : f 6 = _ := h6
     have g7 : f 7 = _ := h7
     have g8 : f 8 = _ := h8
     refine tab_plain fun K Q hK => ?_
     simp only [puts, Za, Zb, Zc, Zd, Ze, g9, g10, g0, g1, g2, g3, g4, g5, g6, g7, g8]
     go_step
     exact fam_e hK rfl rfl (Below.refl _ _) hC
   case arest =>
    intro f WA hC hh
    obtain ⟨h0, h1, h2, h3, h4, h5, h6, h7, h8, h9, h10, h11, -⟩ := hh
    have g0 : f 0 = _ := h0
    obtain ⟨y1, g1, d1⟩ := h1
    have g2 : f 2 = _ := h2
    have g3 : f 3 = _ := h3
    have g4 : f 4 = _ := h4
    have g5 : f 5 = _ := h5
    have g6 : f 6 = _ := h6
    have g7 : f 7 = _ := h7
    have g8 : f 8 = _ := h8
    have g9 : f 9 = _ := h9
    have g10 : f 10 = _ := h10
    have g11 : f 11 = _ := h11
    simp only [puts, Za, Zb, Zc, Zd, Ze, g0, g1, g2, g3, g4, g5, g6, g7, g8, g9, g10, g11]
    clear h0 h2 h3 h4 h5 h6 h7 h8 h9 h10 h11 g0 g2 g3 g4 g5 g6 g7 g8 g9 g10 g11
    have HL2 := Lib.hid (HL.out.trans (hC.mono HL.out.size))
    have hb := hC
    clear hC d1
    replace c01 := cell_later hb c01
    replace c02 := cell_later hb c02
    replace c03 := cell_later hb c03
    replace c04 := cell_later hb c04
    replace kc := cell_later hb kc
    replace ia := ia.later hb
    replace iw := iw.later hb
    replace ip := ip.later hb
    replace iq := iq.later hb
    replace ir := ir.later hb
    replace ic := ic.later hb
    replace HB := HB.trans (hb.mono HB.size)
    clear hb
    go_upto_region 14 with (fail)
    have q0 : decide ((4 : Int) < (ul : Int)) = false := decide_eq_false (by omega)
    have q0n : decide (4 < ul) = false := decide_eq_false (by omega)
    rcases Nat.eq_zero_or_pos i with hi0 | hi0
    ·have q1 : decide ((0 : Int) < (i : Int)) = false := decide_eq_false (by omega)
     have q1n : decide (0 < i) = false := decide_eq_false (by omega)
     clear hi0
     go_quiet (fail)
     have HLN := Lib.hid (HL2.out.trans ((below_nq WA nq).mono HL2.out.size))
     have iu := ints_drewN ic nq
     have iz := ints_drewN iw nq
     cases hf : decide (zs ∈ Q.take i) with
     | true =>
      have HF : Hid (decide (zs ∈ Q.take (i + 1)) = true) := Lib.hid (by rw [HM3.out, hf, Bool.true_or])
      clear hf
      go_wp2_with (fail)
      go_roundw
      case rel => exact ⟨i + 1, hlt, by go_num, by rw [HF.out], HLN.out⟩
      case measure => simp [intOf]; omega
     | false =>
      have HF : Hid (decide (zs ∈ Q.take (i + 1)) = decide (u = zs)) := Lib.hid (by rw [HM3.out, hf, Bool.false_or])
      have hsm := same_any _ _ _ _ _ _ _ _ (WA.drewN nq) iu iz (by omega)
      clear hf
      go_wp2_with (go_at_call 34; refine hsm.mono ?_; rintro e w9 ⟨rfl, hb9⟩)
      go_roundw
      case rel => exact ⟨i + 1, hlt, by go_num, by rw [HF.out], HLN.out.trans (hb9.mono HLN.out.size)⟩
      case measure => simp [intOf]; omega
    have q1 : decide ((0 : Int) < (i : Int)) = true := decide_eq_true (by omega)
    have q1n : decide (0 < i) = true := decide_eq_true (by omega)
    obtain ⟨j, hj⟩ : ∃ j, i = j + 1 := ⟨i - 1, by omega⟩
    have hsl := HM2.out hi0
    rw [show i - 1 = j by omega] at hsl
    have hij : (i : Int) - 1 = (j : Int) := by omega
    obtain ⟨bq2, oq2, xp, cp, haq2, kp, ip2⟩ := iq.at (i := j) (by omega)
    obtain ⟨rfl, rfl⟩ : bq = bq2 ∧ oq = oq2 := by simpa using haq2
    obtain ⟨p, hp⟩ : ∃ p, gwl Q j = p := ⟨_, rfl⟩
    rw [hp] at kp ip2 hsl
    obtain ⟨pl, hpl⟩ : ∃ n, p.length = n := ⟨_, rfl⟩
    rw [hpl] at kp ip2
    have hjq : j < ql := by omega
    have hpl4 : pl ≤ 4 := by have h9 := (M1.out j hjq).2; rw [hp, hpl] at h9; exact h9
    have HCV : Hid (pl < ul ∨ (pl = ul ∧ cmpL p u < 0)) := Lib.hid (by
     rcases hsl with h | ⟨h, h'⟩
     ·exact .inl (by rw [hpl, HU.out] at h; exact h)
     ·exact .inr ⟨by rw [hpl, HU.out] at h; exact h, h'⟩)
    have q2 : decide (ul < pl) = false := decide_eq_false (by rcases HCV.out with h | h <;> omega)
    have q2z : decide ((ul : Int) < (pl : Int)) = false := decide_eq_false (by rcases HCV.out with h | h <;> omega)
    clear hj hp hpl hsl hi0 haq2
    by_cases hle : pl < ul
    ·have q3 : ((ul : Int) == (pl : Int)) = false := by simp; omega
     clear hle
     go_quiet (fail)
     have HLN := Lib.hid (HL2.out.trans ((below_nq WA nq).mono HL2.out.size))
     have iu := ints_drewN ic nq
     have iz := ints_drewN iw nq
     cases hf : decide (zs ∈ Q.take i) with
     | true =>
      have HF : Hid (decide (zs ∈ Q.take (i + 1)) = true) := Lib.hid (by rw [HM3.out, hf, Bool.true_or])
      clear hf
      go_wp2_with (fail)
      go_roundw
      case rel => exact ⟨i + 1, hlt, by go_num, by rw [HF.out], HLN.out⟩
      case measure => simp [intOf]; omega
     | false =>
      have HF : Hid (decide (zs ∈ Q.take (i + 1)) = decide (u = zs)) := Lib.hid (by rw [HM3.out, hf, Bool.false_or])
      have hsm := same_any _ _ _ _ _ _ _ _ (WA.drewN nq) iu iz (by omega)
      clear hf
      go_wp2_with (go_at_call 34; refine hsm.mono ?_; rintro e w9 ⟨rfl, hb9⟩)
      go_roundw
      case rel => exact ⟨i + 1, hlt, by go_num, by rw [HF.out], HLN.out.trans (hb9.mono HLN.out.size)⟩
      case measure => simp [intOf]; omega
    obtain ⟨he1, he2⟩ : pl = ul ∧ cmpL p u < 0 := HCV.out.resolve_left hle
    subst he1
    obtain ⟨cv, hcv⟩ : ∃ c, cmpL p u = c := ⟨_, rfl⟩
    rw [hcv] at he2
    have q3 : ((pl : Int) == (pl : Int)) = true := by simp
    have q4 : decide ((0 : Int) ≤ cv) = false := decide_eq_false (by omega)
    have hcq : ∀ n, Calls Try.prog 31 #[.slice xp pl cp, .slice xc pl cc] (WA.drewN n) fun e w' => e = .returned (.int .i64 cv) ∧ ∃ m, w' = (WA.drewN n).drewN m := fun n => by
     have h9 := compareQ _ _ _ _ _ _ _ _ _ (ints_drewN ip2 n) (ints_drewN ic n) (by omega) (by omega)
     rw [hcv] at h9
     exact h9
    clear hle he2 hcv q2 q2z
    have q2 : decide (pl < pl) = false := decide_eq_false (by omega)
    go_quiet ((go_at_call 31; exact Calls.quiet_of (hcq _)))
    have HLN := Lib.hid (HL2.out.trans ((below_nq WA nq).mono HL2.out.size))
    have iu := ints_drewN ic nq
    have iz := ints_drewN iw nq
    cases hf : decide (zs ∈ Q.take i) with
    | true =>
     have HF : Hid (decide (zs ∈ Q.take (i + 1)) = true) := Lib.hid (by rw [HM3.out, hf, Bool.true_or])
     clear hf
     go_wp2_with (fail)
     go_roundw
     case rel => exact ⟨i + 1, hlt, by go_num, by rw [HF.out], HLN.out⟩
     case measure => simp [intOf]; omega
    | false =>
     have HF : Hid (decide (zs ∈ Q.take (i + 1)) = decide (u = zs)) := Lib.hid (by rw [HM3.out, hf, Bool.false_or])
     have hsm := same_any _ _ _ _ _ _ _ _ (WA.drewN nq) iu iz (by omega)
     clear hf
     go_wp2_with (go_at_call 34; refine hsm.mono ?_; rintro e w9 ⟨rfl, hb9⟩)
     go_roundw
     case rel => exact ⟨i + 1, hlt, by go_num, by rw [HF.out], HLN.out.trans (hb9.mono HLN.out.size)⟩
     case measure => simp [intOf]; omega
  ·have t1 : decide (i < ql) = false := decide_eq_false (by omega)
   obtain rfl : i = ql := by omega
   rw [M6.out]
   by_cases hm : zs ∈ Q
   ·have hx2 := M4.out hm
    rw [decide_eq_true hm]
    subst hx2
    clear hm
    go_wp2_with (fail)
    go_ret
    exact ⟨rfl, HB⟩
   rw [decide_eq_false hm]
   have HMM := M5.out hm
   clear hm
   cases x with
   | false =>
    go_wp2_with (fail)
    go_ret
    exact ⟨rfl, HB⟩
   | true =>
    obtain ⟨h60, hsl⟩ := HMM rfl
    subst h60
    obtain ⟨bq, oq, xp, cp, rfl, kp, ip2⟩ := iq.at (i := 59) (by omega)
    obtain ⟨p, hp⟩ : ∃ p, gwl Q 59 = p := ⟨_, rfl⟩
    rw [hp] at kp ip2 hsl
    obtain ⟨pl, hpl⟩ : ∃ n, p.length = n := ⟨_, rfl⟩
    rw [hpl] at kp ip2
    have hpl4 : pl ≤ 4 := by have h9 := (M1.out 59 (by omega)).2; rw [hp, hpl] at h9; exact h9
    have HCV : Hid (pl < lw ∨ (pl = lw ∧ 0 < cmpL zs p)) := Lib.hid (by
     rcases hsl with h | ⟨h, h'⟩
     ·exact .inl (by rw [hpl, HZL.out] at h; exact h)
     ·exact .inr ⟨by rw [hpl, HZL.out] at h; exact h, by rw [cmpL_anti p zs]; omega⟩)
    clear hp hpl hsl
    by_cases hle : pl < lw
    ·have q2 : decide (pl < lw) = true := decide_eq_true hle
     have q2z : decide ((pl : Int) < (lw : Int)) = true := decide_eq_true (by omega)
     clear hle
     go_wp2_with (fail)
     go_ret
     exact ⟨rfl, HB⟩
    obtain ⟨he1, he2⟩ : pl = lw ∧ 0 < cmpL zs p := HCV.out.resolve_left hle
    subst he1
    obtain ⟨cv, hcv⟩ : ∃ c, cmpL zs p = c := ⟨_, rfl⟩
    rw [hcv] at he2
    have q2 : decide (pl < pl) = false := decide_eq_false (by omega)
    have q3 : ((pl : Int) == (pl : Int)) = true := by simp
    have q4 : decide ((0 : Int) < cv) = true := decide_eq_true he2
    have hcq := refCompare_any _ _ _ _ _ _ _ _ _ iw ip2 (by omega) (by omega)
    rw [hcv] at hcq
    clear hle he2 hcv
    go_wp2_with (go_at_call 31; refine hcq.mono ?_; rintro e w9 ⟨rfl, hb⟩)
    replace c01 := cell_later hb c01
    replace c02 := cell_later hb c02
    replace c03 := cell_later hb c03
    replace c04 := cell_later hb c04
    replace ia := ia.later hb
    replace iw := iw.later hb
    replace ip := ip.later hb
    replace iq := iq.later hb
    replace ir := ir.later hb
    replace HB := HB.trans (hb.mono HB.size)
    clear hb
    go_ret
    exact ⟨rfl, HB⟩
theorem dfaEnumerates_top (a : Dfa) (h : DH) (aw : Option Addr) (lw cw : Nat) (zs : List Int) (w : World) (ia : IsDfa w h a) (iw : IsInts .i64 w aw lw cw zs) {P Q : Prop} (_ : P) (_ : Q) :
  Calls Try.prog 8 #[vDf a h, .slice aw lw cw] w fun e w' => e = .returned (.bool true) ∧ Below w.heap.size w w' := dfaEnumerates_walk a h aw lw cw zs w ia iw
end Go.Proofs.Ytpcbmhfnefhenaa
