import Derived.Test.YtofaifeadhimjaaDoorShelf
import Derived.Test.YtofaifeadhimjaaDoorMG16
/-
  BtH, BtI
-/
set_option linter.unusedSimpArgs false
set_option linter.unusedVariables false
namespace Go.Proofs.YtofaifeadhimjaaDoor.Bt
open Go.RowKit Go.Shelf

def withStep (n : Int) (s : List Int × Bool) (x : Int) : List Int × Bool :=
 if s.2 = false ∧ n ≤ x then ((if n < x then s.1 ++ [n] else s.1) ++ [x], true) else (s.1 ++ [x], s.2)
def withF (l : List Int) (n : Int) : List Int × Bool := l.foldl (withStep n) ([], false)
def withL (l : List Int) (n : Int) : List Int := if (withF l n).2 = true then (withF l n).1 else (withF l n).1 ++ [n]
theorem withF_snoc (l : List Int) (n : Int) (k : Nat) (h : k < l.length) : withF (l.take (k + 1)) n = withStep n (withF (l.take k) n) (gi l k) := by
 rw [take_succ_gi l k h, withF, List.foldl_append]; rfl

set_option maxRecDepth 20000 in
set_option maxHeartbeats 2000000 in
theorem refWith_any (a : Option Addr) (len cap : Nat) (xs : List Int) (n : Int) (w : World) (hs : IsInts .i64 w a len cap xs) (hl : len ≤ 1000000) :
  Calls Tryd.prog 49 #[.slice a len cap, .int .i64 n] w fun e w' => ∃ a3 n3 c3, e = .returned (.slice a3 n3 c3) ∧ w'.ownsRow w.heap.size 3 1 (.slice a3 n3 c3) n3 (ivs .i64 (withL xs n)) ∧ Below w.heap.size w w' := by
 have HX : Hid (xs.length = len) := Lib.hid hs.length
 go_enter Tryd.func49, Tryd.ntmps49
 go_wp2
 go_loopw [5, 6, 7] (fun v d c W => ∃ k ao no co D L, k ≤ len ∧ c = .int .i64 (k : Int) ∧ v = .slice ao no co ∧ d = .bool D ∧ no ≤ 2 * k ∧ withF (xs.take k) n = (L, D) ∧ W.ownsRow w.heap.size 3 1 (.slice ao no co) no (ivs .i64 L) ∧ Below w.heap.size w W) (fun _ _ c _ => len - (intOf c).toNat)
 case atStart => exact ⟨0, none, 0, 0, false, [], Nat.zero_le _, rfl, rfl, rfl, Nat.le_refl _, rfl, World.ownsRow_nil _ _ _ _, Below.refl _ _⟩
 case round =>
  obtain ⟨k, ao, no, co, D, L, hk, rfl, rfl, rfl, hno, hF, ho, hb⟩ := hrel
  rcases Nat.lt_or_ge k len with hlt | hge
  ·obtain ⟨b, off, rfl, hbl, hc⟩ := hs.at wr hb k hlt
   have hkx : k < xs.length := by rw [HX.out]; exact hlt
   have hS := withF_snoc xs n k hkx
   rw [hF] at hS
   unfold withStep at hS
   simp only at hS
   have hlw := hb.size
   have hcc := fun W (hC : Below wr.heap.size wr W) => (hC.cell (p := ⟨b, off + k, none⟩) (show b < _ by omega)).trans hc
   cases D with
   | true =>
    rw [if_neg (by simp)] at hS
    have HS := Lib.hid hS
    clear hS hF hs
    go_wp2_with (at_builtin; refine app_one (k := .i64) elI64 rfl _ _ rfl rfl ho rfl (by omega) hb.size ?_; clear ho; intro a3 c3 w3 ho hb3; replace hb := hb.trans hb3; clear hb3)
    go_roundw
    case rel => exact ⟨k + 1, a3, no + 1, c3, true, _, hlt, by go_num, rfl, rfl, by omega, HS.out, ho, hb⟩
    case measure => simp [intOf]; omega
   | false =>
    rcases Int.lt_trichotomy n (gi xs k) with hn | hn | hn
    ·have hd1 : decide (n ≤ gi xs k) = true := decide_eq_true (by omega)
     have hd2 : decide (n < gi xs k) = true := decide_eq_true hn
     rw [if_pos ⟨rfl, by omega⟩, if_pos hn] at hS
     have HS := Lib.hid hS
     clear hS hF hs hn
     go_wp2_with (at_builtin; refine app_one (k := .i64) elI64 rfl _ _ rfl rfl ho rfl (by omega) hb.size ?_; clear ho; intro a3 c3 w3 ho hb3; have hc2 := (hb3.cell (p := ⟨b, off + k, none⟩) (show b < _ by omega)); replace hb := hb.trans hb3; clear hb3; try (rw [hc] at hc2))
     go_roundw
     case rel => exact ⟨k + 1, a3, no + 1 + 1, c3, true, _, hlt, by go_num, rfl, rfl, by omega, HS.out, ho, hb⟩
     case measure => simp [intOf]; omega
    ·have hd1 : decide (n ≤ gi xs k) = true := decide_eq_true (by omega)
     have hd2 : decide (n < gi xs k) = false := decide_eq_false (by omega)
     rw [if_pos ⟨rfl, by omega⟩, if_neg (by omega)] at hS
     have HS := Lib.hid hS
     clear hS hF hs hn
     go_wp2_with (at_builtin; refine app_one (k := .i64) elI64 rfl _ _ rfl rfl ho rfl (by omega) hb.size ?_; clear ho; intro a3 c3 w3 ho hb3; replace hb := hb.trans hb3; clear hb3)
     go_roundw
     case rel => exact ⟨k + 1, a3, no + 1, c3, true, _, hlt, by go_num, rfl, rfl, by omega, HS.out, ho, hb⟩
     case measure => simp [intOf]; omega
    ·have hd1 : decide (n ≤ gi xs k) = false := decide_eq_false (by omega)
     rw [if_neg (by omega)] at hS
     have HS := Lib.hid hS
     clear hS hF hs hn
     go_wp2_with (at_builtin; refine app_one (k := .i64) elI64 rfl _ _ rfl rfl ho rfl (by omega) hb.size ?_; clear ho; intro a3 c3 w3 ho hb3; replace hb := hb.trans hb3; clear hb3)
     go_roundw
     case rel => exact ⟨k + 1, a3, no + 1, c3, false, _, hlt, by go_num, rfl, rfl, by omega, HS.out, ho, hb⟩
     case measure => simp [intOf]; omega
  ·have hkm : k = len := by omega
   subst hkm
   rw [List.take_of_length_le (by rw [HX.out]; exact Nat.le_refl _)] at hF
   cases D with
   | true =>
    have HW : Hid (withL xs n = L) := Lib.hid (by unfold withL; rw [hF]; rfl)
    clear hF
    go_wp2
    go_ret
    exact ⟨ao, no, co, rfl, by rw [HW.out]; exact ho, hb⟩
   | false =>
    have HW : Hid (withL xs n = L ++ [n]) := Lib.hid (by unfold withL; rw [hF]; rfl)
    clear hF
    go_wp2_with (at_builtin; refine app_one (k := .i64) elI64 rfl _ _ rfl rfl ho rfl (by omega) hb.size ?_; clear ho; intro a3 c3 w3 ho hb3; replace hb := hb.trans hb3; clear hb3)
    go_ret
    exact ⟨a3, no + 1, c3, rfl, by rw [HW.out]; exact ho, hb⟩
end Go.Proofs.YtofaifeadhimjaaDoor.Bt

set_option linter.unusedSimpArgs false
set_option linter.unusedVariables false
namespace Go.Proofs.YtofaifeadhimjaaDoor.Bt
open List (foldr_cons foldr_nil setIfInBounds_toArray set_cons_succ set_cons_zero)
open Go.RowKit Go.Shelf

theorem withStep_len (n : Int) (s : List Int × Bool) (x : Int) : (withStep n s x).1.length + (if s.2 then 1 else 0) ≤ s.1.length + 1 + (if (withStep n s x).2 then 1 else 0) := by
 unfold withStep
 split
 ·rename_i h
  rw [h.1]
  split <;> simp
 ·simp
theorem withF_len (n : Int) (l : List Int) : ∀ s : List Int × Bool, (l.foldl (withStep n) s).1.length + (if s.2 then 1 else 0) ≤ s.1.length + l.length + (if (l.foldl (withStep n) s).2 then 1 else 0) := by
 induction l with
 | nil => rintro ⟨a, b⟩; cases b <;> simp
 | cons x l ih =>
  intro s
  have h1 := ih (withStep n s x)
  have h2 := withStep_len n s x
  rw [List.foldl_cons, List.length_cons]
  omega
theorem withL_len (l : List Int) (n : Int) : (withL l n).length ≤ l.length + 1 := by
 have := withF_len n l ([], false)
 change (withF l n).1.length + (if false = true then 1 else 0) ≤ 0 + l.length + (if (withF l n).2 = true then 1 else 0) at this
 unfold withL
 split
 ·rename_i h; rw [h] at this; simp at this; omega
 ·rename_i h; rw [if_neg h] at this; simp at this ⊢; omega

theorem owns_len {w : World} {B e n cap : Nat} {a : Option Addr} {k : IntKind} {xs : List Int} (h : w.ownsRow B e 1 (.slice a n cap) n (ivs k xs)) : n = xs.length := by
 have := h.1
 simp [ivs] at this
 omega

def unionL (xs ys : List Int) : List Int := ys.foldl withL xs
theorem unionL_snoc (xs ys : List Int) (k : Nat) (h : k < ys.length) : unionL xs (ys.take (k + 1)) = withL (unionL xs (ys.take k)) (gi ys k) := by
 rw [take_succ_gi ys k h, unionL, List.foldl_append]; rfl

def cmpL : List Int → List Int → Int
 | [], [] => 0
 | [], _ :: _ => -1
 | _ :: _, [] => 1
 | x :: xs, y :: ys => if x < y then -1 else if y < x then 1 else cmpL xs ys

set_option maxRecDepth 20000 in
set_option maxHeartbeats 2000000 in
theorem refCompare_any (a : Option Addr) (len cap : Nat) (xs : List Int) (a' : Option Addr) (len' cap' : Nat) (ys : List Int) (w : World) (hs : IsInts .i64 w a len cap xs) (hs' : IsInts .i64 w a' len' cap' ys) (hl : len ≤ 100000) (hl' : len' ≤ 100000) :
  Calls Tryd.prog 34 #[.slice a len cap, .slice a' len' cap'] w fun e w' => e = .returned (.int .i64 (cmpL xs ys)) ∧ Below w.heap.size w w' := by
 have HX : Hid (xs.length = len) := Lib.hid hs.length
 have HY : Hid (ys.length = len') := Lib.hid hs'.length
 go_enter Tryd.func34, Tryd.ntmps34
 go_wp2
 go_loopw [5] (fun c W => ∃ k : Nat, k ≤ len ∧ k ≤ len' ∧ c = .int .i64 (k : Int) ∧ cmpL xs ys = cmpL (xs.drop k) (ys.drop k) ∧ Below w.heap.size w W) (fun c _ => len - (intOf c).toNat)
 case atStart => exact ⟨0, Nat.zero_le _, Nat.zero_le _, rfl, rfl, Below.refl _ _⟩
 case round =>
  obtain ⟨k, hk, hk', rfl, hcmp, hb⟩ := hrel
  by_cases hlt : k < len ∧ k < len'
  ·obtain ⟨b, off, rfl, hbl, hc⟩ := hs.at wr hb k hlt.1
   obtain ⟨b', off', rfl, hbl', hc'⟩ := hs'.at wr hb k hlt.2
   rw [drop_gi xs k (by rw [HX.out]; exact hlt.1), drop_gi ys k (by rw [HY.out]; exact hlt.2), cmpL] at hcmp
   have hz := hb.size
   have hd1 : decide ((k : Int) < (len : Int)) = true := decide_eq_true (by omega)
   have hd2 : decide ((k : Int) < (len' : Int)) = true := decide_eq_true (by omega)
   have HC := Lib.hid hcmp
   clear hs hs' hcmp
   go_wp2
   refine wp_region_grow mixed (by kernel_rfl) [[], [], [(0, 18), (1, 19)], [(2, 20)], [], [], [(4, 22), (5, 23)], [(6, 24)], [(3, 21), (7, 25)]] [(0, 18), (1, 19), (2, 20), (3, 21), (4, 22), (5, 23), (6, 24), (7, 25), (8, 26)] rfl rfl [Ex ?e0, Ex ?e1, Ex ?e2, Ex ?e3, Ex ?e4, Ex ?e5, Ex ?e6, Ex ?e7, Ex ?e8] ⟨stays_ex _, stays_ex _, stays_ex _, stays_ex _, stays_ex _, stays_ex _, stays_ex _, stays_ex _, stays_ex _, trivial⟩ ?steps ?rest
   case steps =>
    refine ⟨fun f W hC hh => ?_, fun f W hC hh => ?_, fun f W hC hh => ?_, fun f W hC hh => ?_, fun f W hC hh => ?_, fun f W hC hh => ?_, fun f W hC hh => ?_, fun f W hC hh => ?_, fun f W hC hh => ?_, trivial⟩
    ·
     refine tab_plain fun K Q hK => ?_
     simp only [puts, foldr_nil]
     go_step
     exact fam_e hK rfl rfl (Below.refl _ _) hC
    ·
     refine tab_plain fun K Q hK => ?_
     simp only [puts, foldr_nil]
     go_step
     exact fam_e hK rfl rfl (Below.refl _ _) hC
    ·
     obtain ⟨h0, h1, -⟩ := hh
     have g0 : f 0 = _ := h0
     have g1 : f 1 = _ := h1
     refine tab_plain fun K Q hK => ?_
     simp only [puts, Za, Zb, Zc, Zd, Ze, g0, g1]
     go_step
     exact fam_e hK rfl rfl (Below.refl _ _) hC
    ·
     obtain ⟨h2, -⟩ := hh
     have g2 : f 2 = _ := h2
     refine tab_plain fun K Q hK => ?_
     simp only [puts, Za, Zb, Zc, Zd, Ze, g2]
     have hc3 := (hC.cell (p := ⟨b, off + k, none⟩) (show b < _ by omega)).trans hc
     go_step
     exact fam_e hK rfl rfl (Below.refl _ _) hC
    ·
     refine tab_plain fun K Q hK => ?_
     simp only [puts, foldr_nil]
     go_step
     exact fam_e hK rfl rfl (Below.refl _ _) hC
    ·
     refine tab_plain fun K Q hK => ?_
     simp only [puts, foldr_nil]
     go_step
     exact fam_e hK rfl rfl (Below.refl _ _) hC
    ·
     obtain ⟨h4, h5, -⟩ := hh
     have g4 : f 4 = _ := h4
     have g5 : f 5 = _ := h5
     refine tab_plain fun K Q hK => ?_
     simp only [puts, Za, Zb, Zc, Zd, Ze, g4, g5]
     go_step
     exact fam_e hK rfl rfl (Below.refl _ _) hC
    ·
     obtain ⟨h6, -⟩ := hh
     have g6 : f 6 = _ := h6
     refine tab_plain fun K Q hK => ?_
     simp only [puts, Za, Zb, Zc, Zd, Ze, g6]
     have hc3 := (hC.cell (p := ⟨b', off' + k, none⟩) (show b' < _ by omega)).trans hc'
     go_step
     exact fam_e hK rfl rfl (Below.refl _ _) hC
    ·
     obtain ⟨h3, h7, -⟩ := hh
     have g3 : f 3 = _ := h3
     have g7 : f 7 = _ := h7
     refine tab_plain fun K Q hK => ?_
     simp only [puts, Za, Zb, Zc, Zd, Ze, g3, g7]
     go_step
     exact fam_e hK rfl rfl (Below.refl _ _) hC
   case rest =>
    intro f W2 hC hh
    obtain ⟨h0, h1, h2, h3, h4, h5, h6, h7, h8, -⟩ := hh
    have g0 : f 0 = _ := h0
    have g1 : f 1 = _ := h1
    have g2 : f 2 = _ := h2
    have g3 : f 3 = _ := h3
    have g4 : f 4 = _ := h4
    have g5 : f 5 = _ := h5
    have g6 : f 6 = _ := h6
    have g7 : f 7 = _ := h7
    have g8 : f 8 = _ := h8
    simp only [puts, Za, Zb, Zc, Zd, Ze, g0, g1, g2, g3, g4, g5, g6, g7, g8]
    clear h0 h1 h2 h3 h4 h5 h6 h7 h8 g0 g1 g2 g3 g4 g5 g6 g7 g8
    have hb2 := hb.trans (hC.mono hb.size)
    by_cases h1 : gi xs k < gi ys k
    ·have hq : decide (gi xs k < gi ys k) = true := decide_eq_true h1
     try rw [hq]
     have HE : Hid (cmpL xs ys = -1) := Lib.hid (by rw [HC.out, if_pos h1])
     clear h1
     go_wp2
     go_ret
     exact ⟨by rw [HE.out]; rfl, hb2⟩
    ·have hq : decide (gi xs k < gi ys k) = false := decide_eq_false h1
     try rw [hq]
     have H1 := Lib.hid h1
     have hz2 := hC.size
     have hc2 := (hC.cell (p := ⟨b, off + k, none⟩) (show b < _ by omega)).trans hc
     have hc2' := (hC.cell (p := ⟨b', off' + k, none⟩) (show b' < _ by omega)).trans hc'
     clear hC
     go_wp2
     refine wp_region_grow mixed (by kernel_rfl) [[], [], [(0, 27), (1, 28)], [(2, 29)], [], [], [(4, 31), (5, 32)], [(6, 33)], [(3, 30), (7, 34)]] [(0, 27), (1, 28), (2, 29), (3, 30), (4, 31), (5, 32), (6, 33), (7, 34), (8, 35)] rfl rfl [Ex ?eb0, Ex ?eb1, Ex ?eb2, Ex ?eb3, Ex ?eb4, Ex ?eb5, Ex ?eb6, Ex ?eb7, Ex ?eb8] ⟨stays_ex _, stays_ex _, stays_ex _, stays_ex _, stays_ex _, stays_ex _, stays_ex _, stays_ex _, stays_ex _, trivial⟩ ?bsteps ?brest
     case bsteps =>
      refine ⟨fun f W hC hh => ?_, fun f W hC hh => ?_, fun f W hC hh => ?_, fun f W hC hh => ?_, fun f W hC hh => ?_, fun f W hC hh => ?_, fun f W hC hh => ?_, fun f W hC hh => ?_, fun f W hC hh => ?_, trivial⟩
      ·
       refine tab_plain fun K Q hK => ?_
       simp only [puts, foldr_nil]
       go_step
       exact fam_e hK rfl rfl (Below.refl _ _) hC
      ·
       refine tab_plain fun K Q hK => ?_
       simp only [puts, foldr_nil]
       go_step
       exact fam_e hK rfl rfl (Below.refl _ _) hC
      ·
       obtain ⟨h0, h1, -⟩ := hh
       have g0 : f 0 = _ := h0
       have g1 : f 1 = _ := h1
       refine tab_plain fun K Q hK => ?_
       simp only [puts, Za, Zb, Zc, Zd, Ze, g0, g1]
       go_step
       exact fam_e hK rfl rfl (Below.refl _ _) hC
      ·
       obtain ⟨h2, -⟩ := hh
       have g2 : f 2 = _ := h2
       refine tab_plain fun K Q hK => ?_
       simp only [puts, Za, Zb, Zc, Zd, Ze, g2]
       have hc3 := (hC.cell (p := ⟨b, off + k, none⟩) (show b < _ by omega)).trans hc2
       go_step
       exact fam_e hK rfl rfl (Below.refl _ _) hC
      ·
       refine tab_plain fun K Q hK => ?_
       simp only [puts, foldr_nil]
       go_step
       exact fam_e hK rfl rfl (Below.refl _ _) hC
      ·
       refine tab_plain fun K Q hK => ?_
       simp only [puts, foldr_nil]
       go_step
       exact fam_e hK rfl rfl (Below.refl _ _) hC
      ·
       obtain ⟨h4, h5, -⟩ := hh
       have g4 : f 4 = _ := h4
       have g5 : f 5 = _ := h5
       refine tab_plain fun K Q hK => ?_
       simp only [puts, Za, Zb, Zc, Zd, Ze, g4, g5]
       go_step
       exact fam_e hK rfl rfl (Below.refl _ _) hC
      ·
       obtain ⟨h6, -⟩ := hh
       have g6 : f 6 = _ := h6
       refine tab_plain fun K Q hK => ?_
       simp only [puts, Za, Zb, Zc, Zd, Ze, g6]
       have hc3 := (hC.cell (p := ⟨b', off' + k, none⟩) (show b' < _ by omega)).trans hc2'
       go_step
       exact fam_e hK rfl rfl (Below.refl _ _) hC
      ·
       obtain ⟨h3, h7, -⟩ := hh
       have g3 : f 3 = _ := h3
       have g7 : f 7 = _ := h7
       refine tab_plain fun K Q hK => ?_
       simp only [puts, Za, Zb, Zc, Zd, Ze, g3, g7]
       go_step
       exact fam_e hK rfl rfl (Below.refl _ _) hC
     case brest =>
      intro f W3 hC hh
      obtain ⟨h0, h1, h2, h3, h4, h5, h6, h7, h8, -⟩ := hh
      have g0 : f 0 = _ := h0
      have g1 : f 1 = _ := h1
      have g2 : f 2 = _ := h2
      have g3 : f 3 = _ := h3
      have g4 : f 4 = _ := h4
      have g5 : f 5 = _ := h5
      have g6 : f 6 = _ := h6
      have g7 : f 7 = _ := h7
      have g8 : f 8 = _ := h8
      simp only [puts, Za, Zb, Zc, Zd, Ze, g0, g1, g2, g3, g4, g5, g6, g7, g8]
      clear h0 h1 h2 h3 h4 h5 h6 h7 h8 g0 g1 g2 g3 g4 g5 g6 g7 g8
      have hb3 := hb2.trans (hC.mono hb2.size)
      by_cases h2 : gi ys k < gi xs k
      ·have hq2 : decide (gi ys k < gi xs k) = true := decide_eq_true h2
       try rw [hq2]
       have HE : Hid (cmpL xs ys = 1) := Lib.hid (by rw [HC.out, if_neg (Int.not_lt.2 H1.out), if_pos h2])
       clear h2
       go_wp2
       go_ret
       exact ⟨by rw [HE.out]; rfl, hb3⟩
      ·have hq2 : decide (gi ys k < gi xs k) = false := decide_eq_false h2
       try rw [hq2]
       have HE : Hid (cmpL xs ys = cmpL (xs.drop (k + 1)) (ys.drop (k + 1))) := Lib.hid (by rw [HC.out, if_neg (Int.not_lt.2 H1.out), if_neg h2])
       clear h2
       go_wp2
       go_roundw
       case rel => exact ⟨k + 1, by omega, by omega, by go_num, HE.out, hb3⟩
       case measure => simp [intOf]; omega
  ·have hend : cmpL xs ys = if len < len' then -1 else if len' < len then 1 else 0 := by
    rw [hcmp]
    have h1 : (xs.drop k).length = len - k := by rw [List.length_drop, HX.out]
    have h2 : (ys.drop k).length = len' - k := by rw [List.length_drop, HY.out]
    generalize xs.drop k = X at *
    generalize ys.drop k = Y at *
    match X, Y with
    | [], [] => simp at h1 h2; rw [if_neg (by omega), if_neg (by omega)]; rfl
    | [], _ :: _ => simp at h1 h2; rw [if_pos (by omega)]; rfl
    | _ :: _, [] => simp at h1 h2; rw [if_neg (by omega), if_pos (by omega)]; rfl
    | _ :: _, _ :: _ => simp at h1 h2; omega
   have HE := Lib.hid hend
   clear hend hcmp
   by_cases h1 : len < len'
   ·have hd1 : decide ((k : Int) < (len : Int)) = false := decide_eq_false (by omega)
    have hd2 : decide ((len : Int) < (len' : Int)) = true := decide_eq_true (by omega)
    go_wp2
    go_ret
    exact ⟨by rw [HE.out, if_pos h1]; rfl, hb⟩
   ·have hd2 : decide ((len : Int) < (len' : Int)) = false := decide_eq_false (by omega)
    by_cases h2 : len' < len
    ·have hd1 : decide ((k : Int) < (len : Int)) = true := decide_eq_true (by omega)
     have hd4 : decide ((k : Int) < (len' : Int)) = false := decide_eq_false (by omega)
     have hd3 : decide ((len' : Int) < (len : Int)) = true := decide_eq_true (by omega)
     go_wp2
     go_ret
     exact ⟨by rw [HE.out, if_neg h1, if_pos h2]; rfl, hb⟩
    ·have hd1 : decide ((k : Int) < (len : Int)) = false := decide_eq_false (by omega)
     have hd3 : decide ((len' : Int) < (len : Int)) = false := decide_eq_false (by omega)
     go_wp2
     go_ret
     exact ⟨by rw [HE.out, if_neg h1, if_neg h2]; rfl, hb⟩
end Go.Proofs.YtofaifeadhimjaaDoor.Bt
