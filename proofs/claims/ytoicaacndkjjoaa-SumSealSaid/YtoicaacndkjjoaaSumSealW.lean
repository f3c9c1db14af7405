/-
  SumSeal: the walk.
-/
import Derived.Test.YtoicaacndkjjoaaSumL
import Derived.Test.YtoicaacndkjjoaaOwn
import Derived.OpenShut
set_option linter.unusedSimpArgs false
set_option linter.unusedVariables false
namespace Go.Proofs.Ytoicaacndkjjoaa
open Go.RowKit

theorem openR_len (zs : List Int) : (openR zs).1.length ≤ zs.length := by
  unfold openR
  split
  · simp
  · split <;> simp

theorem owns_len {w : World} {B e n cap : Nat} {a : Option Addr} {k : IntKind} {xs : List Int} (h : w.ownsRow B e 1 (.slice a n cap) n (ivs k xs)) : n = xs.length := by
  have := h.1
  simp [ivs] at this
  omega

set_option maxHeartbeats 1000000 in
theorem sumSeal_walk (a : Option Addr) (len cap : Nat) (zs : List Int) (w : World) (hs : IsInts .u8 w a len cap zs) (hwz : ∀ n ∈ zs, (Lit.int .u8 n).wf = true) (_ : cap * 1 ≤ 140737488351232) :
    Calls Try.prog 7 #[.slice a len cap] w fun e w' => e = .returned (.bool true) ∧ Below w.heap.size w w' := by
  have hb : Bytes zs := fun n hn => by
    have := bounds_u8 (hwz n hn)
    omega
  by_cases hlen : len ≤ 600
  · have hd : decide (600 < (len : Int)) = false := decide_eq_false (by omega)
    have hl : zs.length = len := hs.length
    have hol := openR_len zs
    have kc := fun (W : World) (a : Option Addr) (len cap : Nat) (zs : List Int) (h : IsInts .u8 W a len cap zs) => run_toString (P := Try.prog) W 23 9 5 Try.underlying23 Try.underlying5 Try.underlying9 a len cap zs h
    have KC := Lib.hid kc
    clear kc
    go_enter Try.func7, Try.ntmps7
    go_wp2_with (go_at_call 10; refine (awake_any w).mono ?_; rintro e w1 ⟨rfl, hb1⟩)
    go_wp2_with (first | (go_at_call 19; refine (open_any a len cap zs _ (hs.later hb1) hb (by omega)).mono ?_; rintro e w2 ⟨a2, n2, c2, rfl, ho2, hb2⟩; replace hb2 := hb1.trans (hb2.mono hb1.size)) | (go_at_call 20; refine (refOpen_any a len cap zs _ (hs.later hb2) hb (by omega)).mono ?_; rintro e w3 ⟨a3, n3, c3, rfl, hi3, hb3⟩; replace ho2 := ho2.kept_below hb3; replace hb3 := hb2.trans (hb3.mono hb2.size)))
    have hi2 := (IsInts.of_owns ho2).1
    have hn2 : n2 ≤ len := by rw [owns_len ho2]; omega
    have hs3 := hs.later hb3
    clear ho2 hb2 hb1 hol
    have q6 : ((bsOf (sealL zs)).toList != (bsOf (sealL zs)).toList) = false := by simp
    have q12 : ((bsOf (openR zs).1).toList != (bsOf (openR zs).1).toList) = false := by simp
    have q17 : ((openR zs).2 != (openR zs).2) = false := by simp
    refine wp_region_grow mixed (by kernel_rfl) [[], [(0, 24)], [(1, 25)], [], [(3, 27), (1, 25)], [(4, 28)], [(2, 26), (5, 29)], [(6, 30), (4, 28)], [(7, 31)], [(8, 32), (7, 31)], [(7, 31)], [(10, 34), (7, 31)], [(9, 33), (11, 35), (7, 31)], [(7, 31), (12, 36)], [(13, 37), (7, 31)], [(14, 38)], [(14, 38)], [(15, 39), (16, 40), (14, 38)], [(14, 38), (17, 41)]] [(0, 24), (1, 25), (2, 26), (3, 27), (4, 28), (5, 29), (6, 30), (7, 31), (8, 32), (9, 33), (10, 34), (11, 35), (12, 36), (13, 37), (14, 38), (15, 39), (16, 40), (17, 41), (18, 42)] rfl rfl [Ex ?e0, SlP .u8 (len + 8) (sealL zs), Ex ?e2, Ex ?e3, SlP .u8 (len + 8) (sealL zs), Ex ?e5, Ex (.bool false), Ex ?e7, Ex ?e8, Ex ?e9, Ex ?e10, Ex ?e11, Ex (.bool false), Ex ?e13, Ex ?e14, Ex ?e15, Ex ?e16, Ex (.bool false), Ex ?e18] ⟨stays_ex _, stays_sl _ _ _, stays_ex _, stays_ex _, stays_sl _ _ _, stays_ex _, stays_ex _, stays_ex _, stays_ex _, stays_ex _, stays_ex _, stays_ex _, stays_ex _, stays_ex _, stays_ex _, stays_ex _, stays_ex _, stays_ex _, stays_ex _, trivial⟩ ?steps ?rest
    case steps =>
      refine ⟨fun f W hC hh => ?_, fun f W hC hh => ?_, fun f W hC hh => ?_, fun f W hC hh => ?_, fun f W hC hh => ?_, fun f W hC hh => ?_, fun f W hC hh => ?_, fun f W hC hh => ?_, fun f W hC hh => ?_, fun f W hC hh => ?_, fun f W hC hh => ?_, fun f W hC hh => ?_, fun f W hC hh => ?_, fun f W hC hh => ?_, fun f W hC hh => ?_, fun f W hC hh => ?_, fun f W hC hh => ?_, fun f W hC hh => ?_, fun f W hC hh => ?_, trivial⟩
      · -- 0: Op.move (Operand.tmp 0)
        refine tab_plain fun K Q hK => ?_
        simp only [puts, List.foldr_nil]
        go_step
        refine fam_ex hK rfl rfl (by simp only [Act.put, List.setIfInBounds_toArray, List.set_cons_succ, List.set_cons_zero, Array.getD_eq_getD_getElem?, List.getElem?_toArray, List.getElem?_cons_succ, List.getElem?_cons_zero, Option.getD_some] <;> rfl) rfl (Below.refl _ _) hC
      · -- 1: Op.call { callee := Callee.value (Operand.func 21), args := #[Operand.tmp 24], argTypes :=
        obtain ⟨h0, -⟩ := hh
        have g0 : f 0 = _ := h0
        refine tab_plain fun K Q hK => ?_
        simp only [puts, List.foldr_cons, List.foldr_nil, List.setIfInBounds_toArray, List.set_cons_succ, List.set_cons_zero, g0]
        go_step
        go_at_call 21
        refine (seal_any a len cap zs _ (hs3.later hC) (by omega)).mono ?_
        rintro e w' ⟨av, cv, rfl, hv, hbv⟩
        exact fam_fin hK rfl ⟨_, _, rfl, (IsInts.of_owns hv).1⟩ hbv (hC.trans (hbv.mono hC.size))
      · -- 2: Op.convert 23 9 (Operand.tmp 25)
        obtain ⟨h1, -⟩ := hh
        obtain ⟨a1, c1, g1, s1⟩ := h1
        refine tab_plain fun K Q hK => ?_
        simp only [puts, List.foldr_cons, List.foldr_nil, List.setIfInBounds_toArray, List.set_cons_succ, List.set_cons_zero, g1]
        have hcv := KC.out W _ _ _ _ s1
        go_step
        refine fam_ex hK rfl rfl (by simp only [Act.put, List.setIfInBounds_toArray, List.set_cons_succ, List.set_cons_zero, Array.getD_eq_getD_getElem?, List.getElem?_toArray, List.getElem?_cons_succ, List.getElem?_cons_zero, Option.getD_some] <;> rfl) rfl (Below.refl _ _) hC
      · -- 3: Op.move (Operand.tmp 0)
        refine tab_plain fun K Q hK => ?_
        simp only [puts, List.foldr_nil]
        go_step
        refine fam_ex hK rfl rfl (by simp only [Act.put, List.setIfInBounds_toArray, List.set_cons_succ, List.set_cons_zero, Array.getD_eq_getD_getElem?, List.getElem?_toArray, List.getElem?_cons_succ, List.getElem?_cons_zero, Option.getD_some] <;> rfl) rfl (Below.refl _ _) hC
      · -- 4: Op.call { callee := Callee.value (Operand.func 22), args := #[Operand.tmp 27], argTypes :=
        obtain ⟨h3, h1, -⟩ := hh
        have g3 : f 3 = _ := h3
        obtain ⟨a1, c1, g1, s1⟩ := h1
        refine tab_plain fun K Q hK => ?_
        simp only [puts, List.foldr_cons, List.foldr_nil, List.setIfInBounds_toArray, List.set_cons_succ, List.set_cons_zero, g3, g1]
        go_step
        go_at_call 22
        refine (refSeal_any a len cap zs _ (hs3.later hC) (by omega)).mono ?_
        rintro e w' ⟨av, cv, rfl, hv, hbv⟩
        exact fam_fin hK rfl ⟨_, _, rfl, (IsInts.of_owns hv).1⟩ hbv (hC.trans (hbv.mono hC.size))
      · -- 5: Op.convert 23 9 (Operand.tmp 28)
        obtain ⟨h4, -⟩ := hh
        obtain ⟨a4, c4, g4, s4⟩ := h4
        refine tab_plain fun K Q hK => ?_
        simp only [puts, List.foldr_cons, List.foldr_nil, List.setIfInBounds_toArray, List.set_cons_succ, List.set_cons_zero, g4]
        have hcv := KC.out W _ _ _ _ s4
        go_step
        refine fam_ex hK rfl rfl (by simp only [Act.put, List.setIfInBounds_toArray, List.set_cons_succ, List.set_cons_zero, Array.getD_eq_getD_getElem?, List.getElem?_toArray, List.getElem?_cons_succ, List.getElem?_cons_zero, Option.getD_some] <;> rfl) rfl (Below.refl _ _) hC
      · -- 6: Op.binOp BinOp.neq 9 (Operand.tmp 26) (Operand.tmp 29) 9
        obtain ⟨h2, h5, -⟩ := hh
        have g2 : f 2 = _ := h2
        have g5 : f 5 = _ := h5
        refine tab_plain fun K Q hK => ?_
        simp only [puts, List.foldr_cons, List.foldr_nil, List.setIfInBounds_toArray, List.set_cons_succ, List.set_cons_zero, g2, g5]
        go_step
        refine fam_ex hK rfl rfl (by simp only [Act.put, List.setIfInBounds_toArray, List.set_cons_succ, List.set_cons_zero, Array.getD_eq_getD_getElem?, List.getElem?_toArray, List.getElem?_cons_succ, List.getElem?_cons_zero, Option.getD_some] <;> rfl) rfl (Below.refl _ _) hC
      · -- 7: Op.move (Operand.tmp 30)
        obtain ⟨h6, h4, -⟩ := hh
        have g6 : f 6 = _ := h6
        obtain ⟨a4, c4, g4, s4⟩ := h4
        refine tab_plain fun K Q hK => ?_
        simp only [puts, List.foldr_cons, List.foldr_nil, List.setIfInBounds_toArray, List.set_cons_succ, List.set_cons_zero, g6, g4]
        go_step
        refine fam_ex hK rfl rfl (by simp only [Act.put, List.setIfInBounds_toArray, List.set_cons_succ, List.set_cons_zero, Array.getD_eq_getD_getElem?, List.getElem?_toArray, List.getElem?_cons_succ, List.getElem?_cons_zero, Option.getD_some] <;> rfl) rfl (Below.refl _ _) hC
      · -- 8: Op.move (Operand.tmp 3)
        obtain ⟨h7, -⟩ := hh
        have g7 : f 7 = _ := h7
        refine tab_yes g7 fun K Q hK => ?_
        simp only [puts, List.foldr_cons, List.foldr_nil, List.setIfInBounds_toArray, List.set_cons_succ, List.set_cons_zero, g7]
        go_step
        refine fam_ex hK rfl rfl (by simp only [Act.put, List.setIfInBounds_toArray, List.set_cons_succ, List.set_cons_zero, Array.getD_eq_getD_getElem?, List.getElem?_toArray, List.getElem?_cons_succ, List.getElem?_cons_zero, Option.getD_some] <;> rfl) rfl (Below.refl _ _) hC
      · -- 9: Op.convert 23 9 (Operand.tmp 32)
        obtain ⟨h8, h7, -⟩ := hh
        have g8 : f 8 = _ := h8
        have g7 : f 7 = _ := h7
        refine tab_yes g7 fun K Q hK => ?_
        simp only [puts, List.foldr_cons, List.foldr_nil, List.setIfInBounds_toArray, List.set_cons_succ, List.set_cons_zero, g8, g7]
        have hcv := KC.out W _ _ _ _ (hi2.later hC)
        go_step
        refine fam_ex hK rfl rfl (by simp only [Act.put, List.setIfInBounds_toArray, List.set_cons_succ, List.set_cons_zero, Array.getD_eq_getD_getElem?, List.getElem?_toArray, List.getElem?_cons_succ, List.getElem?_cons_zero, Option.getD_some] <;> rfl) rfl (Below.refl _ _) hC
      · -- 10: Op.move (Operand.tmp 5)
        obtain ⟨h7, -⟩ := hh
        have g7 : f 7 = _ := h7
        refine tab_yes g7 fun K Q hK => ?_
        simp only [puts, List.foldr_cons, List.foldr_nil, List.setIfInBounds_toArray, List.set_cons_succ, List.set_cons_zero, g7]
        go_step
        refine fam_ex hK rfl rfl (by simp only [Act.put, List.setIfInBounds_toArray, List.set_cons_succ, List.set_cons_zero, Array.getD_eq_getD_getElem?, List.getElem?_toArray, List.getElem?_cons_succ, List.getElem?_cons_zero, Option.getD_some] <;> rfl) rfl (Below.refl _ _) hC
      · -- 11: Op.convert 23 9 (Operand.tmp 34)
        obtain ⟨h10, h7, -⟩ := hh
        have g10 : f 10 = _ := h10
        have g7 : f 7 = _ := h7
        refine tab_yes g7 fun K Q hK => ?_
        simp only [puts, List.foldr_cons, List.foldr_nil, List.setIfInBounds_toArray, List.set_cons_succ, List.set_cons_zero, g10, g7]
        have hcv := KC.out W _ _ _ _ (hi3.later hC)
        go_step
        refine fam_ex hK rfl rfl (by simp only [Act.put, List.setIfInBounds_toArray, List.set_cons_succ, List.set_cons_zero, Array.getD_eq_getD_getElem?, List.getElem?_toArray, List.getElem?_cons_succ, List.getElem?_cons_zero, Option.getD_some] <;> rfl) rfl (Below.refl _ _) hC
      · -- 12: Op.binOp BinOp.neq 9 (Operand.tmp 33) (Operand.tmp 35) 9
        obtain ⟨h9, h11, h7, -⟩ := hh
        have g9 : f 9 = _ := h9
        have g11 : f 11 = _ := h11
        have g7 : f 7 = _ := h7
        refine tab_yes g7 fun K Q hK => ?_
        simp only [puts, List.foldr_cons, List.foldr_nil, List.setIfInBounds_toArray, List.set_cons_succ, List.set_cons_zero, g9, g11, g7]
        go_step
        refine fam_ex hK rfl rfl (by simp only [Act.put, List.setIfInBounds_toArray, List.set_cons_succ, List.set_cons_zero, Array.getD_eq_getD_getElem?, List.getElem?_toArray, List.getElem?_cons_succ, List.getElem?_cons_zero, Option.getD_some] <;> rfl) rfl (Below.refl _ _) hC
      · -- 13: Op.pick (Operand.tmp 31) (Operand.const (Value.bool true)) (Operand.tmp 36)
        obtain ⟨h7, h12, -⟩ := hh
        have g7 : f 7 = _ := h7
        have g12 : f 12 = _ := h12
        refine tab_plain fun K Q hK => ?_
        simp only [puts, List.foldr_cons, List.foldr_nil, List.setIfInBounds_toArray, List.set_cons_succ, List.set_cons_zero, g7, g12]
        go_step
        refine fam_ex hK rfl rfl (by simp only [Act.put, List.setIfInBounds_toArray, List.set_cons_succ, List.set_cons_zero, Array.getD_eq_getD_getElem?, List.getElem?_toArray, List.getElem?_cons_succ, List.getElem?_cons_zero, Option.getD_some] <;> rfl) rfl (Below.refl _ _) hC
      · -- 14: Op.move (Operand.tmp 37)
        obtain ⟨h13, h7, -⟩ := hh
        have g13 : f 13 = _ := h13
        have g7 : f 7 = _ := h7
        refine tab_plain fun K Q hK => ?_
        simp only [puts, List.foldr_cons, List.foldr_nil, List.setIfInBounds_toArray, List.set_cons_succ, List.set_cons_zero, g13, g7]
        go_step
        refine fam_ex hK rfl rfl (by simp only [Act.put, List.setIfInBounds_toArray, List.set_cons_succ, List.set_cons_zero, Array.getD_eq_getD_getElem?, List.getElem?_toArray, List.getElem?_cons_succ, List.getElem?_cons_zero, Option.getD_some] <;> rfl) rfl (Below.refl _ _) hC
      · -- 15: Op.move (Operand.tmp 4)
        obtain ⟨h14, -⟩ := hh
        have g14 : f 14 = _ := h14
        refine tab_yes g14 fun K Q hK => ?_
        simp only [puts, List.foldr_cons, List.foldr_nil, List.setIfInBounds_toArray, List.set_cons_succ, List.set_cons_zero, g14]
        go_step
        refine fam_ex hK rfl rfl (by simp only [Act.put, List.setIfInBounds_toArray, List.set_cons_succ, List.set_cons_zero, Array.getD_eq_getD_getElem?, List.getElem?_toArray, List.getElem?_cons_succ, List.getElem?_cons_zero, Option.getD_some] <;> rfl) rfl (Below.refl _ _) hC
      · -- 16: Op.move (Operand.tmp 6)
        obtain ⟨h14, -⟩ := hh
        have g14 : f 14 = _ := h14
        refine tab_yes g14 fun K Q hK => ?_
        simp only [puts, List.foldr_cons, List.foldr_nil, List.setIfInBounds_toArray, List.set_cons_succ, List.set_cons_zero, g14]
        go_step
        refine fam_ex hK rfl rfl (by simp only [Act.put, List.setIfInBounds_toArray, List.set_cons_succ, List.set_cons_zero, Array.getD_eq_getD_getElem?, List.getElem?_toArray, List.getElem?_cons_succ, List.getElem?_cons_zero, Option.getD_some] <;> rfl) rfl (Below.refl _ _) hC
      · -- 17: Op.binOp BinOp.neq 35 (Operand.tmp 39) (Operand.tmp 40) 35
        obtain ⟨h15, h16, h14, -⟩ := hh
        have g15 : f 15 = _ := h15
        have g16 : f 16 = _ := h16
        have g14 : f 14 = _ := h14
        refine tab_yes g14 fun K Q hK => ?_
        simp only [puts, List.foldr_cons, List.foldr_nil, List.setIfInBounds_toArray, List.set_cons_succ, List.set_cons_zero, g15, g16, g14]
        go_step
        refine fam_ex hK rfl rfl (by simp only [Act.put, List.setIfInBounds_toArray, List.set_cons_succ, List.set_cons_zero, Array.getD_eq_getD_getElem?, List.getElem?_toArray, List.getElem?_cons_succ, List.getElem?_cons_zero, Option.getD_some] <;> rfl) rfl (Below.refl _ _) hC
      · -- 18: Op.pick (Operand.tmp 38) (Operand.const (Value.bool true)) (Operand.tmp 41)
        obtain ⟨h14, h17, -⟩ := hh
        have g14 : f 14 = _ := h14
        have g17 : f 17 = _ := h17
        refine tab_plain fun K Q hK => ?_
        simp only [puts, List.foldr_cons, List.foldr_nil, List.setIfInBounds_toArray, List.set_cons_succ, List.set_cons_zero, g14, g17]
        go_step
        refine fam_ex hK rfl rfl (by simp only [Act.put, List.setIfInBounds_toArray, List.set_cons_succ, List.set_cons_zero, Array.getD_eq_getD_getElem?, List.getElem?_toArray, List.getElem?_cons_succ, List.getElem?_cons_zero, Option.getD_some] <;> rfl) rfl (Below.refl _ _) hC
    case rest =>
      intro f W2 hC hh
      obtain ⟨h0, h1, h2, h3, h4, h5, h6, h7, h8, h9, h10, h11, h12, h13, h14, h15, h16, h17, h18, -⟩ := hh
      have g0 : f 0 = _ := h0
      obtain ⟨a1, c1, g1, s1⟩ := h1
      have g2 : f 2 = _ := h2
      have g3 : f 3 = _ := h3
      obtain ⟨a4, c4, g4, s4⟩ := h4
      have g5 : f 5 = _ := h5
      have g6 : f 6 = _ := h6
      have g7 : f 7 = _ := h7
      have g8 : f 8 = _ := h8
      have g9 : f 9 = _ := h9
      have g10 : f 10 = _ := h10
      have g11 : f 11 = _ := h11
      have g12 : f 12 = _ := h12
      have g13 : f 13 = _ := h13
      have g14 : f 14 = _ := h14
      have g15 : f 15 = _ := h15
      have g16 : f 16 = _ := h16
      have g17 : f 17 = _ := h17
      have g18 : f 18 = _ := h18
      simp only [puts, List.foldr_cons, List.foldr_nil, List.setIfInBounds_toArray, List.set_cons_succ, List.set_cons_zero, g0, g1, g2, g3, g4, g5, g6, g7, g8, g9, g10, g11, g12, g13, g14, g15, g16, g17, g18]
      clear h0 h2 h3 h5 h6 h7 h8 h9 h10 h11 h12 h13 h14 h15 h16 h17 h18 g0 g2 g3 g5 g6 g7 g8 g9 g10 g11 g12 g13 g14 g15 g16 g17 g18
      have hsW := hs3.later hC
      have hbW : Below w.heap.size w W2 := hb3.trans (hC.mono hb3.size)
      have hi2W := hi2.later hC
      clear g1 g4 s1 s4 hC hi3 hi2 hs3 hb3 q6 q12 q17
      have hz : openR (sealL zs) = (zs, 0) := open_seal zs
      go_wp2_with (first | (go_at_call 21; refine (seal_any a len cap zs _ hsW (by omega)).mono ?_; rintro e w4 ⟨a5, c5, rfl, ho5, hb5⟩; have hi5 := (IsInts.of_owns ho5).1) | (go_at_call 19; refine (open_any _ _ _ _ _ hi5 (sealL_bytes hb) (by omega)).mono ?_; rw [hz]; rintro e w6 ⟨a6, n6, c6, rfl, ho6, hb6⟩; have hi6 := (IsInts.of_owns ho6).1))
      have hb6' : Below W2.heap.size W2 w6 := hb5.trans (hb6.mono hb5.size)
      have hsX := hsW.later hb6'
      have hi2X := hi2W.later hb6'
      have hbX : Below w.heap.size w w6 := hbW.trans (hb6'.mono hbW.size)
      clear hsW hi2W hb6' hb5 hb6 ho5 ho6 hi5 hbW
      have r7 : ((bsOf zs).toList == (bsOf zs).toList) = true := by simp
      by_cases he : (openR zs).2 = 0
      · have hes : sealL (openR zs).1 = zs := seal_open he
        have r10 : ((openR zs).2 != 0) = false := by simpa using he
        refine wp_region_grow mixed (by kernel_rfl) [[], [(0, 49)], [(1, 50)], [(2, 51)], [(3, 52), (2, 51)], [(2, 51)], [(5, 54), (2, 51)], [(4, 53), (6, 55), (2, 51)], [(2, 51), (7, 56)], [(8, 57), (2, 51)], [(9, 58)], [(10, 59), (9, 58)], [(11, 60), (9, 58), (9, 58)], [(12, 61)], [(13, 62), (12, 61), (12, 61)], [(14, 63), (12, 61)], [(12, 61)], [(16, 65), (12, 61)], [(15, 64), (17, 66), (12, 61)], [(12, 61), (18, 67), (9, 58)], [(9, 58), (19, 68)], [(20, 69), (14, 63), (0, 49), (1, 50), (2, 51), (3, 52), (4, 53), (5, 54), (6, 55), (7, 56), (8, 57), (9, 58), (10, 59), (11, 60), (12, 61), (13, 62), (14, 63), (15, 64), (16, 65), (17, 66), (18, 67), (19, 68), (20, 69)]] [(0, 49), (1, 50), (2, 51), (3, 52), (4, 53), (5, 54), (6, 55), (7, 56), (8, 57), (9, 58), (10, 59), (11, 60), (12, 61), (13, 62), (14, 63), (15, 64), (16, 65), (17, 66), (18, 67), (19, 68), (20, 69), (21, 2)] rfl rfl [Ex ?eb0, Ex ?eb1, Ex ?eb2, Ex ?eb3, Ex ?eb4, Ex ?eb5, Ex ?eb6, Ex (.bool true), Ex ?eb8, Ex ?eb9, Ex ?eb10, Ex (.bool false), Ex ?eb12, Ex ?eb13, SlP .u8 (n2 + 8) (sealL (openR zs).1), Ex ?eb15, Ex ?eb16, Ex ?eb17, Ex (.bool true), Ex ?eb19, Ex ?eb20, Ex ?eb21] ⟨stays_ex _, stays_ex _, stays_ex _, stays_ex _, stays_ex _, stays_ex _, stays_ex _, stays_ex _, stays_ex _, stays_ex _, stays_ex _, stays_ex _, stays_ex _, stays_ex _, stays_sl _ _ _, stays_ex _, stays_ex _, stays_ex _, stays_ex _, stays_ex _, stays_ex _, stays_ex _, trivial⟩ ?bsteps ?brest
        case bsteps =>
          refine ⟨fun f W hC hh => ?_, fun f W hC hh => ?_, fun f W hC hh => ?_, fun f W hC hh => ?_, fun f W hC hh => ?_, fun f W hC hh => ?_, fun f W hC hh => ?_, fun f W hC hh => ?_, fun f W hC hh => ?_, fun f W hC hh => ?_, fun f W hC hh => ?_, fun f W hC hh => ?_, fun f W hC hh => ?_, fun f W hC hh => ?_, fun f W hC hh => ?_, fun f W hC hh => ?_, fun f W hC hh => ?_, fun f W hC hh => ?_, fun f W hC hh => ?_, fun f W hC hh => ?_, fun f W hC hh => ?_, fun f W hC hh => ?_, trivial⟩
          · -- 0: Op.move (Operand.tmp 8)
            refine tab_plain fun K Q hK => ?_
            simp only [puts, List.foldr_nil]
            go_step
            refine fam_ex hK rfl rfl (by simp only [Act.put, List.setIfInBounds_toArray, List.set_cons_succ, List.set_cons_zero, Array.getD_eq_getD_getElem?, List.getElem?_toArray, List.getElem?_cons_succ, List.getElem?_cons_zero, Option.getD_some] <;> rfl) rfl (Below.refl _ _) hC
          · -- 1: Op.binOp BinOp.eql 35 (Operand.tmp 49) (Operand.const (Value.int IntKind.i64 0)) 35
            obtain ⟨h0, -⟩ := hh
            have g0 : f 0 = _ := h0
            refine tab_plain fun K Q hK => ?_
            simp only [puts, List.foldr_cons, List.foldr_nil, List.setIfInBounds_toArray, List.set_cons_succ, List.set_cons_zero, g0]
            go_step
            refine fam_ex hK rfl rfl (by simp only [Act.put, List.setIfInBounds_toArray, List.set_cons_succ, List.set_cons_zero, Array.getD_eq_getD_getElem?, List.getElem?_toArray, List.getElem?_cons_succ, List.getElem?_cons_zero, Option.getD_some] <;> rfl) rfl (Below.refl _ _) hC
          · -- 2: Op.move (Operand.tmp 50)
            obtain ⟨h1, -⟩ := hh
            have g1 : f 1 = _ := h1
            refine tab_plain fun K Q hK => ?_
            simp only [puts, List.foldr_cons, List.foldr_nil, List.setIfInBounds_toArray, List.set_cons_succ, List.set_cons_zero, g1]
            go_step
            refine fam_ex hK rfl rfl (by simp only [Act.put, List.setIfInBounds_toArray, List.set_cons_succ, List.set_cons_zero, Array.getD_eq_getD_getElem?, List.getElem?_toArray, List.getElem?_cons_succ, List.getElem?_cons_zero, Option.getD_some] <;> rfl) rfl (Below.refl _ _) hC
          · -- 3: Op.move (Operand.tmp 7)
            obtain ⟨h2, -⟩ := hh
            have g2 : f 2 = _ := h2
            refine tab_yes g2 fun K Q hK => ?_
            simp only [puts, List.foldr_cons, List.foldr_nil, List.setIfInBounds_toArray, List.set_cons_succ, List.set_cons_zero, g2]
            go_step
            refine fam_ex hK rfl rfl (by simp only [Act.put, List.setIfInBounds_toArray, List.set_cons_succ, List.set_cons_zero, Array.getD_eq_getD_getElem?, List.getElem?_toArray, List.getElem?_cons_succ, List.getElem?_cons_zero, Option.getD_some] <;> rfl) rfl (Below.refl _ _) hC
          · -- 4: Op.convert 23 9 (Operand.tmp 52)
            obtain ⟨h3, h2, -⟩ := hh
            have g3 : f 3 = _ := h3
            have g2 : f 2 = _ := h2
            refine tab_yes g2 fun K Q hK => ?_
            simp only [puts, List.foldr_cons, List.foldr_nil, List.setIfInBounds_toArray, List.set_cons_succ, List.set_cons_zero, g3, g2]
            have hcv := KC.out W _ _ _ _ (hi6.later hC)
            go_step
            refine fam_ex hK rfl rfl (by simp only [Act.put, List.setIfInBounds_toArray, List.set_cons_succ, List.set_cons_zero, Array.getD_eq_getD_getElem?, List.getElem?_toArray, List.getElem?_cons_succ, List.getElem?_cons_zero, Option.getD_some] <;> rfl) rfl (Below.refl _ _) hC
          · -- 5: Op.move (Operand.tmp 0)
            obtain ⟨h2, -⟩ := hh
            have g2 : f 2 = _ := h2
            refine tab_yes g2 fun K Q hK => ?_
            simp only [puts, List.foldr_cons, List.foldr_nil, List.setIfInBounds_toArray, List.set_cons_succ, List.set_cons_zero, g2]
            go_step
            refine fam_ex hK rfl rfl (by simp only [Act.put, List.setIfInBounds_toArray, List.set_cons_succ, List.set_cons_zero, Array.getD_eq_getD_getElem?, List.getElem?_toArray, List.getElem?_cons_succ, List.getElem?_cons_zero, Option.getD_some] <;> rfl) rfl (Below.refl _ _) hC
          · -- 6: Op.convert 23 9 (Operand.tmp 54)
            obtain ⟨h5, h2, -⟩ := hh
            have g5 : f 5 = _ := h5
            have g2 : f 2 = _ := h2
            refine tab_yes g2 fun K Q hK => ?_
            simp only [puts, List.foldr_cons, List.foldr_nil, List.setIfInBounds_toArray, List.set_cons_succ, List.set_cons_zero, g5, g2]
            have hcv := KC.out W _ _ _ _ (hsX.later hC)
            go_step
            refine fam_ex hK rfl rfl (by simp only [Act.put, List.setIfInBounds_toArray, List.set_cons_succ, List.set_cons_zero, Array.getD_eq_getD_getElem?, List.getElem?_toArray, List.getElem?_cons_succ, List.getElem?_cons_zero, Option.getD_some] <;> rfl) rfl (Below.refl _ _) hC
          · -- 7: Op.binOp BinOp.eql 9 (Operand.tmp 53) (Operand.tmp 55) 9
            obtain ⟨h4, h6, h2, -⟩ := hh
            have g4 : f 4 = _ := h4
            have g6 : f 6 = _ := h6
            have g2 : f 2 = _ := h2
            refine tab_yes g2 fun K Q hK => ?_
            simp only [puts, List.foldr_cons, List.foldr_nil, List.setIfInBounds_toArray, List.set_cons_succ, List.set_cons_zero, g4, g6, g2]
            go_step
            refine fam_ex hK rfl rfl (by simp only [Act.put, List.setIfInBounds_toArray, List.set_cons_succ, List.set_cons_zero, Array.getD_eq_getD_getElem?, List.getElem?_toArray, List.getElem?_cons_succ, List.getElem?_cons_zero, Option.getD_some] <;> rfl) rfl (Below.refl _ _) hC
          · -- 8: Op.pick (Operand.tmp 51) (Operand.tmp 56) (Operand.const (Value.bool false))
            obtain ⟨h2, h7, -⟩ := hh
            have g2 : f 2 = _ := h2
            have g7 : f 7 = _ := h7
            refine tab_plain fun K Q hK => ?_
            simp only [puts, List.foldr_cons, List.foldr_nil, List.setIfInBounds_toArray, List.set_cons_succ, List.set_cons_zero, g2, g7]
            go_step
            refine fam_ex hK rfl rfl (by simp only [Act.put, List.setIfInBounds_toArray, List.set_cons_succ, List.set_cons_zero, Array.getD_eq_getD_getElem?, List.getElem?_toArray, List.getElem?_cons_succ, List.getElem?_cons_zero, Option.getD_some] <;> rfl) rfl (Below.refl _ _) hC
          · -- 9: Op.move (Operand.tmp 57)
            obtain ⟨h8, h2, -⟩ := hh
            have g8 : f 8 = _ := h8
            have g2 : f 2 = _ := h2
            refine tab_plain fun K Q hK => ?_
            simp only [puts, List.foldr_cons, List.foldr_nil, List.setIfInBounds_toArray, List.set_cons_succ, List.set_cons_zero, g8, g2]
            go_step
            refine fam_ex hK rfl rfl (by simp only [Act.put, List.setIfInBounds_toArray, List.set_cons_succ, List.set_cons_zero, Array.getD_eq_getD_getElem?, List.getElem?_toArray, List.getElem?_cons_succ, List.getElem?_cons_zero, Option.getD_some] <;> rfl) rfl (Below.refl _ _) hC
          · -- 10: Op.move (Operand.tmp 4)
            obtain ⟨h9, -⟩ := hh
            have g9 : f 9 = _ := h9
            refine tab_yes g9 fun K Q hK => ?_
            simp only [puts, List.foldr_cons, List.foldr_nil, List.setIfInBounds_toArray, List.set_cons_succ, List.set_cons_zero, g9]
            go_step
            refine fam_ex hK rfl rfl (by simp only [Act.put, List.setIfInBounds_toArray, List.set_cons_succ, List.set_cons_zero, Array.getD_eq_getD_getElem?, List.getElem?_toArray, List.getElem?_cons_succ, List.getElem?_cons_zero, Option.getD_some] <;> rfl) rfl (Below.refl _ _) hC
          · -- 11: Op.binOp BinOp.neq 35 (Operand.tmp 59) (Operand.const (Value.int IntKind.i64 0)) 35
            obtain ⟨h10, h9, -⟩ := hh
            have g10 : f 10 = _ := h10
            have g9 : f 9 = _ := h9
            refine tab_yes g9 fun K Q hK => ?_
            simp only [puts, List.foldr_cons, List.foldr_nil, List.setIfInBounds_toArray, List.set_cons_succ, List.set_cons_zero, g10, g9]
            go_step
            refine fam_ex hK rfl rfl (by simp only [Act.put, List.setIfInBounds_toArray, List.set_cons_succ, List.set_cons_zero, Array.getD_eq_getD_getElem?, List.getElem?_toArray, List.getElem?_cons_succ, List.getElem?_cons_zero, Option.getD_some] <;> rfl) rfl (Below.refl _ _) hC
          · -- 12: Op.move (Operand.tmp 60)
            obtain ⟨h11, h9, _, -⟩ := hh
            have g11 : f 11 = _ := h11
            have g9 : f 9 = _ := h9
            refine tab_yes g9 fun K Q hK => ?_
            simp only [puts, List.foldr_cons, List.foldr_nil, List.setIfInBounds_toArray, List.set_cons_succ, List.set_cons_zero, g11, g9]
            go_step
            refine fam_ex hK rfl rfl (by simp only [Act.put, List.setIfInBounds_toArray, List.set_cons_succ, List.set_cons_zero, Array.getD_eq_getD_getElem?, List.getElem?_toArray, List.getElem?_cons_succ, List.getElem?_cons_zero, Option.getD_some] <;> rfl) rfl (Below.refl _ _) hC
          · -- 13: Op.move (Operand.tmp 3)
            obtain ⟨h12, -⟩ := hh
            have g12 : f 12 = _ := h12
            refine tab_yes g12 fun K Q hK => ?_
            simp only [puts, List.foldr_cons, List.foldr_nil, List.setIfInBounds_toArray, List.set_cons_succ, List.set_cons_zero, g12]
            go_step
            refine fam_ex hK rfl rfl (by simp only [Act.put, List.setIfInBounds_toArray, List.set_cons_succ, List.set_cons_zero, Array.getD_eq_getD_getElem?, List.getElem?_toArray, List.getElem?_cons_succ, List.getElem?_cons_zero, Option.getD_some] <;> rfl) rfl (Below.refl _ _) hC
          · -- 14: Op.call { callee := Callee.value (Operand.func 21), args := #[Operand.tmp 62], argTypes :=
            obtain ⟨h13, h12, _, -⟩ := hh
            have g13 : f 13 = _ := h13
            have g12 : f 12 = _ := h12
            refine tab_yes g12 fun K Q hK => ?_
            simp only [puts, List.foldr_cons, List.foldr_nil, List.setIfInBounds_toArray, List.set_cons_succ, List.set_cons_zero, g13, g12]
            go_step
            go_at_call 21
            refine (seal_any _ _ _ _ _ (hi2X.later hC) (by omega)).mono ?_
            rintro e w' ⟨av, cv, rfl, hv, hbv⟩
            exact fam_fin hK rfl ⟨_, _, rfl, (IsInts.of_owns hv).1⟩ hbv (hC.trans (hbv.mono hC.size))
          · -- 15: Op.convert 23 9 (Operand.tmp 63)
            obtain ⟨h14, h12, -⟩ := hh
            obtain ⟨a14, c14, g14, s14⟩ := h14
            have g12 : f 12 = _ := h12
            refine tab_yes g12 fun K Q hK => ?_
            simp only [puts, List.foldr_cons, List.foldr_nil, List.setIfInBounds_toArray, List.set_cons_succ, List.set_cons_zero, g14, g12]
            rw [hes] at s14
            have hcv := KC.out W _ _ _ _ s14
            go_step
            refine fam_ex hK rfl rfl (by simp only [Act.put, List.setIfInBounds_toArray, List.set_cons_succ, List.set_cons_zero, Array.getD_eq_getD_getElem?, List.getElem?_toArray, List.getElem?_cons_succ, List.getElem?_cons_zero, Option.getD_some] <;> rfl) rfl (Below.refl _ _) hC
          · -- 16: Op.move (Operand.tmp 0)
            obtain ⟨h12, -⟩ := hh
            have g12 : f 12 = _ := h12
            refine tab_yes g12 fun K Q hK => ?_
            simp only [puts, List.foldr_cons, List.foldr_nil, List.setIfInBounds_toArray, List.set_cons_succ, List.set_cons_zero, g12]
            go_step
            refine fam_ex hK rfl rfl (by simp only [Act.put, List.setIfInBounds_toArray, List.set_cons_succ, List.set_cons_zero, Array.getD_eq_getD_getElem?, List.getElem?_toArray, List.getElem?_cons_succ, List.getElem?_cons_zero, Option.getD_some] <;> rfl) rfl (Below.refl _ _) hC
          · -- 17: Op.convert 23 9 (Operand.tmp 65)
            obtain ⟨h16, h12, -⟩ := hh
            have g16 : f 16 = _ := h16
            have g12 : f 12 = _ := h12
            refine tab_yes g12 fun K Q hK => ?_
            simp only [puts, List.foldr_cons, List.foldr_nil, List.setIfInBounds_toArray, List.set_cons_succ, List.set_cons_zero, g16, g12]
            have hcv := KC.out W _ _ _ _ (hsX.later hC)
            go_step
            refine fam_ex hK rfl rfl (by simp only [Act.put, List.setIfInBounds_toArray, List.set_cons_succ, List.set_cons_zero, Array.getD_eq_getD_getElem?, List.getElem?_toArray, List.getElem?_cons_succ, List.getElem?_cons_zero, Option.getD_some] <;> rfl) rfl (Below.refl _ _) hC
          · -- 18: Op.binOp BinOp.eql 9 (Operand.tmp 64) (Operand.tmp 66) 9
            obtain ⟨h15, h17, h12, -⟩ := hh
            have g15 : f 15 = _ := h15
            have g17 : f 17 = _ := h17
            have g12 : f 12 = _ := h12
            refine tab_yes g12 fun K Q hK => ?_
            simp only [puts, List.foldr_cons, List.foldr_nil, List.setIfInBounds_toArray, List.set_cons_succ, List.set_cons_zero, g15, g17, g12]
            go_step
            refine fam_ex hK rfl rfl (by simp only [Act.put, List.setIfInBounds_toArray, List.set_cons_succ, List.set_cons_zero, Array.getD_eq_getD_getElem?, List.getElem?_toArray, List.getElem?_cons_succ, List.getElem?_cons_zero, Option.getD_some] <;> rfl) rfl (Below.refl _ _) hC
          · -- 19: Op.pick (Operand.tmp 61) (Operand.const (Value.bool true)) (Operand.tmp 67)
            obtain ⟨h12, h18, h9, -⟩ := hh
            have g12 : f 12 = _ := h12
            have g18 : f 18 = _ := h18
            have g9 : f 9 = _ := h9
            refine tab_yes g9 fun K Q hK => ?_
            simp only [puts, List.foldr_cons, List.foldr_nil, List.setIfInBounds_toArray, List.set_cons_succ, List.set_cons_zero, g12, g18, g9]
            go_step
            refine fam_ex hK rfl rfl (by simp only [Act.put, List.setIfInBounds_toArray, List.set_cons_succ, List.set_cons_zero, Array.getD_eq_getD_getElem?, List.getElem?_toArray, List.getElem?_cons_succ, List.getElem?_cons_zero, Option.getD_some] <;> rfl) rfl (Below.refl _ _) hC
          · -- 20: Op.pick (Operand.tmp 58) (Operand.tmp 68) (Operand.const (Value.bool false))
            obtain ⟨h9, h19, -⟩ := hh
            have g9 : f 9 = _ := h9
            have g19 : f 19 = _ := h19
            refine tab_plain fun K Q hK => ?_
            simp only [puts, List.foldr_cons, List.foldr_nil, List.setIfInBounds_toArray, List.set_cons_succ, List.set_cons_zero, g9, g19]
            go_step
            refine fam_ex hK rfl rfl (by simp only [Act.put, List.setIfInBounds_toArray, List.set_cons_succ, List.set_cons_zero, Array.getD_eq_getD_getElem?, List.getElem?_toArray, List.getElem?_cons_succ, List.getElem?_cons_zero, Option.getD_some] <;> rfl) rfl (Below.refl _ _) hC
          · -- 21: Op.assign (Operand.tmp 69)
            obtain ⟨h20, h14, h0, h1, h2, h3, h4, h5, h6, h7, h8, h9, h10, h11, h12, h13, _, h15, h16, h17, h18, h19, _, -⟩ := hh
            have g20 : f 20 = _ := h20
            obtain ⟨a14, c14, g14, s14⟩ := h14
            have g0 : f 0 = _ := h0
            have g1 : f 1 = _ := h1
            have g2 : f 2 = _ := h2
            have g3 : f 3 = _ := h3
            have g4 : f 4 = _ := h4
            have g5 : f 5 = _ := h5
            have g6 : f 6 = _ := h6
            have g7 : f 7 = _ := h7
            have g8 : f 8 = _ := h8
            have g9 : f 9 = _ := h9
            have g10 : f 10 = _ := h10
            have g11 : f 11 = _ := h11
            have g12 : f 12 = _ := h12
            have g13 : f 13 = _ := h13
            have g15 : f 15 = _ := h15
            have g16 : f 16 = _ := h16
            have g17 : f 17 = _ := h17
            have g18 : f 18 = _ := h18
            have g19 : f 19 = _ := h19
            refine tab_plain fun K Q hK => ?_
            simp only [puts, List.foldr_cons, List.foldr_nil, List.setIfInBounds_toArray, List.set_cons_succ, List.set_cons_zero, g20, g14, g0, g1, g2, g3, g4, g5, g6, g7, g8, g9, g10, g11, g12, g13, g15, g16, g17, g18, g19]
            go_step
            refine fam_ex hK rfl rfl (by simp only [Act.put, List.setIfInBounds_toArray, List.set_cons_succ, List.set_cons_zero, Array.getD_eq_getD_getElem?, List.getElem?_toArray, List.getElem?_cons_succ, List.getElem?_cons_zero, Option.getD_some] <;> rfl) rfl (Below.refl _ _) hC
        case brest =>
          intro f W2 hC hh
          obtain ⟨h0, h1, h2, h3, h4, h5, h6, h7, h8, h9, h10, h11, h12, h13, h14, h15, h16, h17, h18, h19, h20, h21, -⟩ := hh
          have g0 : f 0 = _ := h0
          have g1 : f 1 = _ := h1
          have g2 : f 2 = _ := h2
          have g3 : f 3 = _ := h3
          have g4 : f 4 = _ := h4
          have g5 : f 5 = _ := h5
          have g6 : f 6 = _ := h6
          have g7 : f 7 = _ := h7
          have g8 : f 8 = _ := h8
          have g9 : f 9 = _ := h9
          have g10 : f 10 = _ := h10
          have g11 : f 11 = _ := h11
          have g12 : f 12 = _ := h12
          have g13 : f 13 = _ := h13
          obtain ⟨a14, c14, g14, s14⟩ := h14
          have g15 : f 15 = _ := h15
          have g16 : f 16 = _ := h16
          have g17 : f 17 = _ := h17
          have g18 : f 18 = _ := h18
          have g19 : f 19 = _ := h19
          have g20 : f 20 = _ := h20
          have g21 : f 21 = _ := h21
          simp only [puts, List.foldr_cons, List.foldr_nil, List.setIfInBounds_toArray, List.set_cons_succ, List.set_cons_zero, g0, g1, g2, g3, g4, g5, g6, g7, g8, g9, g10, g11, g12, g13, g14, g15, g16, g17, g18, g19, g20, g21]
          clear h0 h1 h2 h3 h4 h5 h6 h7 h8 h9 h10 h11 h12 h13 h15 h16 h17 h18 h19 h20 h21 g0 g1 g2 g3 g4 g5 g6 g7 g8 g9 g10 g11 g12 g13 g15 g16 g17 g18 g19 g20 g21
          go_wp2
          go_ret
          exact ⟨rfl, hbX.trans (hC.mono hbX.size)⟩
      · have r10 : ((openR zs).2 != 0) = true := by simpa using he
        refine wp_region_grow mixed (by kernel_rfl) [[], [(0, 49)], [(1, 50)], [(2, 51)], [(3, 52), (2, 51)], [(2, 51)], [(5, 54), (2, 51)], [(4, 53), (6, 55), (2, 51)], [(2, 51), (7, 56)], [(8, 57), (2, 51)], [(9, 58)], [(10, 59), (9, 58)], [(11, 60), (9, 58), (9, 58)], [(12, 61)], [(13, 62), (12, 61), (12, 61)], [(14, 63), (12, 61)], [(12, 61)], [(16, 65), (12, 61)], [(15, 64), (17, 66), (12, 61)], [(12, 61), (18, 67), (9, 58)], [(9, 58), (19, 68)], [(20, 69), (14, 63), (0, 49), (1, 50), (2, 51), (3, 52), (4, 53), (5, 54), (6, 55), (7, 56), (8, 57), (9, 58), (10, 59), (11, 60), (12, 61), (13, 62), (14, 63), (15, 64), (16, 65), (17, 66), (18, 67), (19, 68), (20, 69)]] [(0, 49), (1, 50), (2, 51), (3, 52), (4, 53), (5, 54), (6, 55), (7, 56), (8, 57), (9, 58), (10, 59), (11, 60), (12, 61), (13, 62), (14, 63), (15, 64), (16, 65), (17, 66), (18, 67), (19, 68), (20, 69), (21, 2)] rfl rfl [Ex ?ed0, Ex ?ed1, Ex ?ed2, Ex ?ed3, Ex ?ed4, Ex ?ed5, Ex ?ed6, Ex (.bool true), Ex ?ed8, Ex ?ed9, Ex ?ed10, Ex (.bool true), Ex ?ed12, Ex undef, Ex undef, Ex undef, Ex undef, Ex undef, Ex undef, Ex ?ed19, Ex ?ed20, Ex ?ed21] ⟨stays_ex _, stays_ex _, stays_ex _, stays_ex _, stays_ex _, stays_ex _, stays_ex _, stays_ex _, stays_ex _, stays_ex _, stays_ex _, stays_ex _, stays_ex _, stays_ex _, stays_ex _, stays_ex _, stays_ex _, stays_ex _, stays_ex _, stays_ex _, stays_ex _, stays_ex _, trivial⟩ ?dsteps ?drest
        case dsteps =>
          refine ⟨fun f W hC hh => ?_, fun f W hC hh => ?_, fun f W hC hh => ?_, fun f W hC hh => ?_, fun f W hC hh => ?_, fun f W hC hh => ?_, fun f W hC hh => ?_, fun f W hC hh => ?_, fun f W hC hh => ?_, fun f W hC hh => ?_, fun f W hC hh => ?_, fun f W hC hh => ?_, fun f W hC hh => ?_, fun f W hC hh => ?_, fun f W hC hh => ?_, fun f W hC hh => ?_, fun f W hC hh => ?_, fun f W hC hh => ?_, fun f W hC hh => ?_, fun f W hC hh => ?_, fun f W hC hh => ?_, fun f W hC hh => ?_, trivial⟩
          · -- 0: Op.move (Operand.tmp 8)
            refine tab_plain fun K Q hK => ?_
            simp only [puts, List.foldr_nil]
            go_step
            refine fam_ex hK rfl rfl (by simp only [Act.put, List.setIfInBounds_toArray, List.set_cons_succ, List.set_cons_zero, Array.getD_eq_getD_getElem?, List.getElem?_toArray, List.getElem?_cons_succ, List.getElem?_cons_zero, Option.getD_some] <;> rfl) rfl (Below.refl _ _) hC
          · -- 1: Op.binOp BinOp.eql 35 (Operand.tmp 49) (Operand.const (Value.int IntKind.i64 0)) 35
            obtain ⟨h0, -⟩ := hh
            have g0 : f 0 = _ := h0
            refine tab_plain fun K Q hK => ?_
            simp only [puts, List.foldr_cons, List.foldr_nil, List.setIfInBounds_toArray, List.set_cons_succ, List.set_cons_zero, g0]
            go_step
            refine fam_ex hK rfl rfl (by simp only [Act.put, List.setIfInBounds_toArray, List.set_cons_succ, List.set_cons_zero, Array.getD_eq_getD_getElem?, List.getElem?_toArray, List.getElem?_cons_succ, List.getElem?_cons_zero, Option.getD_some] <;> rfl) rfl (Below.refl _ _) hC
          · -- 2: Op.move (Operand.tmp 50)
            obtain ⟨h1, -⟩ := hh
            have g1 : f 1 = _ := h1
            refine tab_plain fun K Q hK => ?_
            simp only [puts, List.foldr_cons, List.foldr_nil, List.setIfInBounds_toArray, List.set_cons_succ, List.set_cons_zero, g1]
            go_step
            refine fam_ex hK rfl rfl (by simp only [Act.put, List.setIfInBounds_toArray, List.set_cons_succ, List.set_cons_zero, Array.getD_eq_getD_getElem?, List.getElem?_toArray, List.getElem?_cons_succ, List.getElem?_cons_zero, Option.getD_some] <;> rfl) rfl (Below.refl _ _) hC
          · -- 3: Op.move (Operand.tmp 7)
            obtain ⟨h2, -⟩ := hh
            have g2 : f 2 = _ := h2
            refine tab_yes g2 fun K Q hK => ?_
            simp only [puts, List.foldr_cons, List.foldr_nil, List.setIfInBounds_toArray, List.set_cons_succ, List.set_cons_zero, g2]
            go_step
            refine fam_ex hK rfl rfl (by simp only [Act.put, List.setIfInBounds_toArray, List.set_cons_succ, List.set_cons_zero, Array.getD_eq_getD_getElem?, List.getElem?_toArray, List.getElem?_cons_succ, List.getElem?_cons_zero, Option.getD_some] <;> rfl) rfl (Below.refl _ _) hC
          · -- 4: Op.convert 23 9 (Operand.tmp 52)
            obtain ⟨h3, h2, -⟩ := hh
            have g3 : f 3 = _ := h3
            have g2 : f 2 = _ := h2
            refine tab_yes g2 fun K Q hK => ?_
            simp only [puts, List.foldr_cons, List.foldr_nil, List.setIfInBounds_toArray, List.set_cons_succ, List.set_cons_zero, g3, g2]
            have hcv := KC.out W _ _ _ _ (hi6.later hC)
            go_step
            refine fam_ex hK rfl rfl (by simp only [Act.put, List.setIfInBounds_toArray, List.set_cons_succ, List.set_cons_zero, Array.getD_eq_getD_getElem?, List.getElem?_toArray, List.getElem?_cons_succ, List.getElem?_cons_zero, Option.getD_some] <;> rfl) rfl (Below.refl _ _) hC
          · -- 5: Op.move (Operand.tmp 0)
            obtain ⟨h2, -⟩ := hh
            have g2 : f 2 = _ := h2
            refine tab_yes g2 fun K Q hK => ?_
            simp only [puts, List.foldr_cons, List.foldr_nil, List.setIfInBounds_toArray, List.set_cons_succ, List.set_cons_zero, g2]
            go_step
            refine fam_ex hK rfl rfl (by simp only [Act.put, List.setIfInBounds_toArray, List.set_cons_succ, List.set_cons_zero, Array.getD_eq_getD_getElem?, List.getElem?_toArray, List.getElem?_cons_succ, List.getElem?_cons_zero, Option.getD_some] <;> rfl) rfl (Below.refl _ _) hC
          · -- 6: Op.convert 23 9 (Operand.tmp 54)
            obtain ⟨h5, h2, -⟩ := hh
            have g5 : f 5 = _ := h5
            have g2 : f 2 = _ := h2
            refine tab_yes g2 fun K Q hK => ?_
            simp only [puts, List.foldr_cons, List.foldr_nil, List.setIfInBounds_toArray, List.set_cons_succ, List.set_cons_zero, g5, g2]
            have hcv := KC.out W _ _ _ _ (hsX.later hC)
            go_step
            refine fam_ex hK rfl rfl (by simp only [Act.put, List.setIfInBounds_toArray, List.set_cons_succ, List.set_cons_zero, Array.getD_eq_getD_getElem?, List.getElem?_toArray, List.getElem?_cons_succ, List.getElem?_cons_zero, Option.getD_some] <;> rfl) rfl (Below.refl _ _) hC
          · -- 7: Op.binOp BinOp.eql 9 (Operand.tmp 53) (Operand.tmp 55) 9
            obtain ⟨h4, h6, h2, -⟩ := hh
            have g4 : f 4 = _ := h4
            have g6 : f 6 = _ := h6
            have g2 : f 2 = _ := h2
            refine tab_yes g2 fun K Q hK => ?_
            simp only [puts, List.foldr_cons, List.foldr_nil, List.setIfInBounds_toArray, List.set_cons_succ, List.set_cons_zero, g4, g6, g2]
            go_step
            refine fam_ex hK rfl rfl (by simp only [Act.put, List.setIfInBounds_toArray, List.set_cons_succ, List.set_cons_zero, Array.getD_eq_getD_getElem?, List.getElem?_toArray, List.getElem?_cons_succ, List.getElem?_cons_zero, Option.getD_some] <;> rfl) rfl (Below.refl _ _) hC
          · -- 8: Op.pick (Operand.tmp 51) (Operand.tmp 56) (Operand.const (Value.bool false))
            obtain ⟨h2, h7, -⟩ := hh
            have g2 : f 2 = _ := h2
            have g7 : f 7 = _ := h7
            refine tab_plain fun K Q hK => ?_
            simp only [puts, List.foldr_cons, List.foldr_nil, List.setIfInBounds_toArray, List.set_cons_succ, List.set_cons_zero, g2, g7]
            go_step
            refine fam_ex hK rfl rfl (by simp only [Act.put, List.setIfInBounds_toArray, List.set_cons_succ, List.set_cons_zero, Array.getD_eq_getD_getElem?, List.getElem?_toArray, List.getElem?_cons_succ, List.getElem?_cons_zero, Option.getD_some] <;> rfl) rfl (Below.refl _ _) hC
          · -- 9: Op.move (Operand.tmp 57)
            obtain ⟨h8, h2, -⟩ := hh
            have g8 : f 8 = _ := h8
            have g2 : f 2 = _ := h2
            refine tab_plain fun K Q hK => ?_
            simp only [puts, List.foldr_cons, List.foldr_nil, List.setIfInBounds_toArray, List.set_cons_succ, List.set_cons_zero, g8, g2]
            go_step
            refine fam_ex hK rfl rfl (by simp only [Act.put, List.setIfInBounds_toArray, List.set_cons_succ, List.set_cons_zero, Array.getD_eq_getD_getElem?, List.getElem?_toArray, List.getElem?_cons_succ, List.getElem?_cons_zero, Option.getD_some] <;> rfl) rfl (Below.refl _ _) hC
          · -- 10: Op.move (Operand.tmp 4)
            obtain ⟨h9, -⟩ := hh
            have g9 : f 9 = _ := h9
            refine tab_yes g9 fun K Q hK => ?_
            simp only [puts, List.foldr_cons, List.foldr_nil, List.setIfInBounds_toArray, List.set_cons_succ, List.set_cons_zero, g9]
            go_step
            refine fam_ex hK rfl rfl (by simp only [Act.put, List.setIfInBounds_toArray, List.set_cons_succ, List.set_cons_zero, Array.getD_eq_getD_getElem?, List.getElem?_toArray, List.getElem?_cons_succ, List.getElem?_cons_zero, Option.getD_some] <;> rfl) rfl (Below.refl _ _) hC
          · -- 11: Op.binOp BinOp.neq 35 (Operand.tmp 59) (Operand.const (Value.int IntKind.i64 0)) 35
            obtain ⟨h10, h9, -⟩ := hh
            have g10 : f 10 = _ := h10
            have g9 : f 9 = _ := h9
            refine tab_yes g9 fun K Q hK => ?_
            simp only [puts, List.foldr_cons, List.foldr_nil, List.setIfInBounds_toArray, List.set_cons_succ, List.set_cons_zero, g10, g9]
            go_step
            refine fam_ex hK rfl rfl (by simp only [Act.put, List.setIfInBounds_toArray, List.set_cons_succ, List.set_cons_zero, Array.getD_eq_getD_getElem?, List.getElem?_toArray, List.getElem?_cons_succ, List.getElem?_cons_zero, Option.getD_some] <;> rfl) rfl (Below.refl _ _) hC
          · -- 12: Op.move (Operand.tmp 60)
            obtain ⟨h11, h9, _, -⟩ := hh
            have g11 : f 11 = _ := h11
            have g9 : f 9 = _ := h9
            refine tab_yes g9 fun K Q hK => ?_
            simp only [puts, List.foldr_cons, List.foldr_nil, List.setIfInBounds_toArray, List.set_cons_succ, List.set_cons_zero, g11, g9]
            go_step
            refine fam_ex hK rfl rfl (by simp only [Act.put, List.setIfInBounds_toArray, List.set_cons_succ, List.set_cons_zero, Array.getD_eq_getD_getElem?, List.getElem?_toArray, List.getElem?_cons_succ, List.getElem?_cons_zero, Option.getD_some] <;> rfl) rfl (Below.refl _ _) hC
          · -- 13: Op.move (Operand.tmp 3)
            obtain ⟨h12, -⟩ := hh
            have g12 : f 12 = _ := h12
            exact tab_no rfl g12 (by decide) rfl
          · -- 14: Op.call { callee := Callee.value (Operand.func 21), args := #[Operand.tmp 62], argTypes :=
            obtain ⟨h13, h12, _, -⟩ := hh
            have g13 : f 13 = _ := h13
            have g12 : f 12 = _ := h12
            exact tab_no rfl g12 (by decide) rfl
          · -- 15: Op.convert 23 9 (Operand.tmp 63)
            obtain ⟨h14, h12, -⟩ := hh
            have g14 : f 14 = _ := h14
            have g12 : f 12 = _ := h12
            exact tab_no rfl g12 (by decide) rfl
          · -- 16: Op.move (Operand.tmp 0)
            obtain ⟨h12, -⟩ := hh
            have g12 : f 12 = _ := h12
            exact tab_no rfl g12 (by decide) rfl
          · -- 17: Op.convert 23 9 (Operand.tmp 65)
            obtain ⟨h16, h12, -⟩ := hh
            have g16 : f 16 = _ := h16
            have g12 : f 12 = _ := h12
            exact tab_no rfl g12 (by decide) rfl
          · -- 18: Op.binOp BinOp.eql 9 (Operand.tmp 64) (Operand.tmp 66) 9
            obtain ⟨h15, h17, h12, -⟩ := hh
            have g15 : f 15 = _ := h15
            have g17 : f 17 = _ := h17
            have g12 : f 12 = _ := h12
            exact tab_no rfl g12 (by decide) rfl
          · -- 19: Op.pick (Operand.tmp 61) (Operand.const (Value.bool true)) (Operand.tmp 67)
            obtain ⟨h12, h18, h9, -⟩ := hh
            have g12 : f 12 = _ := h12
            have g18 : f 18 = _ := h18
            have g9 : f 9 = _ := h9
            refine tab_yes g9 fun K Q hK => ?_
            simp only [puts, List.foldr_cons, List.foldr_nil, List.setIfInBounds_toArray, List.set_cons_succ, List.set_cons_zero, g12, g18, g9]
            go_step
            refine fam_ex hK rfl rfl (by simp only [Act.put, List.setIfInBounds_toArray, List.set_cons_succ, List.set_cons_zero, Array.getD_eq_getD_getElem?, List.getElem?_toArray, List.getElem?_cons_succ, List.getElem?_cons_zero, Option.getD_some] <;> rfl) rfl (Below.refl _ _) hC
          · -- 20: Op.pick (Operand.tmp 58) (Operand.tmp 68) (Operand.const (Value.bool false))
            obtain ⟨h9, h19, -⟩ := hh
            have g9 : f 9 = _ := h9
            have g19 : f 19 = _ := h19
            refine tab_plain fun K Q hK => ?_
            simp only [puts, List.foldr_cons, List.foldr_nil, List.setIfInBounds_toArray, List.set_cons_succ, List.set_cons_zero, g9, g19]
            go_step
            refine fam_ex hK rfl rfl (by simp only [Act.put, List.setIfInBounds_toArray, List.set_cons_succ, List.set_cons_zero, Array.getD_eq_getD_getElem?, List.getElem?_toArray, List.getElem?_cons_succ, List.getElem?_cons_zero, Option.getD_some] <;> rfl) rfl (Below.refl _ _) hC
          · -- 21: Op.assign (Operand.tmp 69)
            obtain ⟨h20, h14, h0, h1, h2, h3, h4, h5, h6, h7, h8, h9, h10, h11, h12, h13, _, h15, h16, h17, h18, h19, _, -⟩ := hh
            have g20 : f 20 = _ := h20
            have g14 : f 14 = _ := h14
            have g0 : f 0 = _ := h0
            have g1 : f 1 = _ := h1
            have g2 : f 2 = _ := h2
            have g3 : f 3 = _ := h3
            have g4 : f 4 = _ := h4
            have g5 : f 5 = _ := h5
            have g6 : f 6 = _ := h6
            have g7 : f 7 = _ := h7
            have g8 : f 8 = _ := h8
            have g9 : f 9 = _ := h9
            have g10 : f 10 = _ := h10
            have g11 : f 11 = _ := h11
            have g12 : f 12 = _ := h12
            have g13 : f 13 = _ := h13
            have g15 : f 15 = _ := h15
            have g16 : f 16 = _ := h16
            have g17 : f 17 = _ := h17
            have g18 : f 18 = _ := h18
            have g19 : f 19 = _ := h19
            refine tab_plain fun K Q hK => ?_
            simp only [puts, List.foldr_cons, List.foldr_nil, List.setIfInBounds_toArray, List.set_cons_succ, List.set_cons_zero, g20, g14, g0, g1, g2, g3, g4, g5, g6, g7, g8, g9, g10, g11, g12, g13, g15, g16, g17, g18, g19]
            go_step
            refine fam_ex hK rfl rfl (by simp only [Act.put, List.setIfInBounds_toArray, List.set_cons_succ, List.set_cons_zero, Array.getD_eq_getD_getElem?, List.getElem?_toArray, List.getElem?_cons_succ, List.getElem?_cons_zero, Option.getD_some] <;> rfl) rfl (Below.refl _ _) hC
        case drest =>
          intro f W2 hC hh
          obtain ⟨h0, h1, h2, h3, h4, h5, h6, h7, h8, h9, h10, h11, h12, h13, h14, h15, h16, h17, h18, h19, h20, h21, -⟩ := hh
          have g0 : f 0 = _ := h0
          have g1 : f 1 = _ := h1
          have g2 : f 2 = _ := h2
          have g3 : f 3 = _ := h3
          have g4 : f 4 = _ := h4
          have g5 : f 5 = _ := h5
          have g6 : f 6 = _ := h6
          have g7 : f 7 = _ := h7
          have g8 : f 8 = _ := h8
          have g9 : f 9 = _ := h9
          have g10 : f 10 = _ := h10
          have g11 : f 11 = _ := h11
          have g12 : f 12 = _ := h12
          have g13 : f 13 = _ := h13
          have g14 : f 14 = _ := h14
          have g15 : f 15 = _ := h15
          have g16 : f 16 = _ := h16
          have g17 : f 17 = _ := h17
          have g18 : f 18 = _ := h18
          have g19 : f 19 = _ := h19
          have g20 : f 20 = _ := h20
          have g21 : f 21 = _ := h21
          simp only [puts, List.foldr_cons, List.foldr_nil, List.setIfInBounds_toArray, List.set_cons_succ, List.set_cons_zero, g0, g1, g2, g3, g4, g5, g6, g7, g8, g9, g10, g11, g12, g13, g14, g15, g16, g17, g18, g19, g20, g21]
          clear h0 h1 h2 h3 h4 h5 h6 h7 h8 h9 h10 h11 h12 h13 h14 h15 h16 h17 h18 h19 h20 h21 g0 g1 g2 g3 g4 g5 g6 g7 g8 g9 g10 g11 g12 g13 g14 g15 g16 g17 g18 g19 g20 g21
          go_wp2
          go_ret
          exact ⟨rfl, hbX.trans (hC.mono hbX.size)⟩
  · have hd : decide (600 < (len : Int)) = true := decide_eq_true (by omega)
    go_enter Try.func7, Try.ntmps7
    go_wp2_with (go_at_call 10; refine (awake_any w).mono ?_; rintro e w1 ⟨rfl, hb1⟩)
    go_ret
    exact ⟨rfl, hb1⟩
end Go.Proofs.Ytoicaacndkjjoaa
