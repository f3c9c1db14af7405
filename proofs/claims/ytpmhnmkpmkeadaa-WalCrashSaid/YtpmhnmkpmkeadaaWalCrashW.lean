/-
  WalCrash: the walk.
-/
import Derived.Test.YtpmhnmkpmkeadaaWalP
set_option linter.unusedSimpArgs false
set_option linter.unusedVariables false
set_option maxHeartbeats 8000000
namespace Go.Proofs.Ytpmhnmkpmkeadaa
open Go.RowKit

set_option maxRecDepth 20000 in
theorem walCrash_walk (a : Option Addr) (len cap : Nat) (rs : List (List Int)) (sy kp : Int) (w : World) (hs : IsRecs w a len cap rs) (hb : ∀ r ∈ rs, Bytes r) (hwa : (Lit.int .u8 sy).wf = true) (hwt : (Lit.int .u16 kp).wf = true) :
    Calls Try.prog 9 #[.slice a len cap, .int .u8 sy, .int .u16 kp] w fun e w' => e = .returned (.bool true) ∧ Below w.heap.size w w' := by
  have hcap := hs.cap
  unfold maxLen at hcap
  have HL := Lib.hid hs.1
  have hS0 := bounds_u8 hwa
  have hK0 := bounds_u16 hwt
  clear hwa hwt
  obtain ⟨S, rfl⟩ := Int.eq_ofNat_of_zero_le hS0.1
  obtain ⟨K, rfl⟩ := Int.eq_ofNat_of_zero_le hK0.1
  go_enter Try.func9, Try.ntmps9
  go_wp2_with (fail)
  go_at_call 10
  refine (awake_any w).mono ?_
  rintro e w1 ⟨rfl, hb1⟩
  have hs1 := hs.later hb1
  cases hfew : fewL rs with
  | false =>
    go_wp2_with (go_at_call 14; refine (Few_any _ _ _ _ _ hs1).mono ?_; rintro e w' ⟨rfl, rfl⟩; rw [hfew])
    go_ret
    exact ⟨rfl, hb1⟩
  | true =>
  obtain ⟨hok, h12⟩ := fewL_yes hfew hb
  have hcnt := hok.cnt
  rw [hs.1] at h12 hcnt
  obtain ⟨SP, hSP⟩ : ∃ SP, 32 * (allP (rs.take S)).length = SP := ⟨_, rfl⟩
  obtain ⟨zs, hzs⟩ : ∃ zs, encP basis (allP rs) = zs := ⟨_, rfl⟩
  have hzb : Bytes zs := by rw [← hzs]; exact encP_bytes basis_bd.1 basis_bd.2 (allP_ok hok.okR)
  have hzl : zs.length = 32 * (allP rs).length := by rw [← hzs, encP_length (allP_ok hok.okR)]
  have hSPl : SP ≤ 32 * (allP rs).length := by
    rw [← hSP]
    have := cnt_mono rs (Nat.le_max_left S rs.length)
    rw [List.take_of_length_le (Nat.le_max_right S rs.length)] at this
    omega
  obtain ⟨Lf, hLf, hL1, hL2⟩ := keep_math (32 * (allP rs).length) SP K hSPl
  have hcm := fun k e h => @crash_math rs hok.okR Lf S hL2 (by rw [hSP]; exact hL1) k e h
  rw [hzs] at hcm
  have hlo := logOf_any a len cap rs S w1 hs1 hok (by omega) (by omega)
  rw [hSP, hzs] at hlo
  obtain ⟨fl, hfl⟩ : ∃ fl, 32 * (allP rs).length = fl := ⟨_, rfl⟩
  rw [hfl] at hlo hzl hSPl hLf hL2
  have hfl5 : fl ≤ 2000 := by omega
  have HCM := Lib.hid hcm
  have HLf := Lib.hid hLf
  clear hcm hLf hSP hzs hfl hcnt
  go_wp2_with (first | (go_at_call 14; refine (Few_any _ _ _ _ _ hs1).mono ?_; rintro e w' ⟨rfl, rfl⟩; rw [hfew]) | fail)
  go_at_call 16
  refine hlo.mono ?_
  clear hlo
  rintro e w2 ⟨⟨fa, fl', fc, rfl, rfl, ho2⟩, hb2⟩
  have hb02 := hb1.trans (hb2.mono hb1.size)
  obtain ⟨w3, hw3⟩ : ∃ w3, w2.alloc (.cells #[.slice fa fl' fc, .int .i64 (SP : Int)] 26) = w3 := ⟨_, rfl⟩
  have hb23 : Below w2.heap.size w2 w3 := by rw [← hw3]; exact (Below.refl _ _).alloc (Nat.le_refl _) _
  have hX3 : Box2 w3 w2.heap.size (.slice fa fl' fc) (.int .i64 (SP : Int)) := by rw [← hw3]; exact Box2.new _ _ _ _
  have hI3 := (IsInts.of_owns ho2).1.later hb23
  have hb03 := hb02.trans (hb23.mono hb02.size)
  obtain ⟨p0, p1, -, -⟩ := hX3.cells
  have hcg := Crash_any fa fl' fc zs SP K w3 hI3 (by omega) (by omega) (by omega)
  have hcr : crashL zs SP K = zs.take Lf := by
    rw [crashL_in (by omega) (by omega), hzl, show keepN (fl' : Int) (SP : Int) (K : Int) = Lf from HLf.out]
    rfl
  rw [hcr] at hcg
  clear hcr
  go_wp2_with (fail)
  try rw [hw3]
  clear hw3
  go_at_call 18
  refine hcg.mono ?_
  clear hcg
  rintro e w4 ⟨⟨a4, n4, c4, rfl, ho4⟩, hb4⟩
  obtain ⟨hI4, -⟩ := IsInts.of_owns ho4
  have hn4 : Lf = n4 := by have := hI4.length; rw [List.length_take] at this; omega
  subst hn4
  go_wp2_with (fail)
  go_at_call 17
  refine (Open_any _ _ _ _ _ hI4 (hzb.take _) (by omega)).mono ?_
  rintro e w5 ⟨k5, e5, rv, ev, af, cf, U, rfl, hR5, hU5, hoF, hS5, hb5⟩
  obtain ⟨n, hn1, hn2, hn6, hn3, hn7, hn5, hn8⟩ := HCM.out k5 e5 hR5
  have hUn : U = 32 * (allP (rs.take n)).length := by rw [hn3] at hU5; omega
  rw [← hUn] at hn5 hn8 hn7
  obtain ⟨ar, cr, hrv, hrec⟩ := hS5.recs
  subst hrv
  rw [hn2] at hrec ⊢
  have hln : (rs.take n).length = n := by rw [List.length_take]; omega
  rw [hln] at hrec ⊢
  rw [hn5] at hoF
  have hb04 := hb03.trans (hb4.mono hb03.size)
  have hb05 := hb04.trans (hb5.mono hb04.size)
  have HN8 := Lib.hid hn8
  obtain ⟨zu, hzu⟩ : ∃ zu, encP basis (allP (rs.take n)) = zu := ⟨_, rfl⟩
  have hzub : Bytes zu := by rw [← hzu]; exact encP_bytes basis_bd.1 basis_bd.2 (allP_ok (hok.okR.take n))
  rw [hzu] at hoF
  have HZU := Lib.hid hzu
  clear hUn hn2 hn3 hn5 hU5 hR5 hS5 hn8 hzu
  obtain ⟨w6, hw6⟩ : ∃ w6, w5.alloc (.cells #[.slice af U cf, .int .i64 (U : Int)] 26) = w6 := ⟨_, rfl⟩
  have hb56 : Below w5.heap.size w5 w6 := by rw [← hw6]; exact (Below.refl _ _).alloc (Nat.le_refl _) _
  have hM6 : Box2 w6 w5.heap.size (.slice af U cf) (.int .i64 (U : Int)) := by rw [← hw6]; exact Box2.new _ _ _ _
  have hb06 := hb05.trans (hb56.mono hb05.size)
  have hb36 := hb4.trans ((hb5.trans (hb56.mono hb5.size)).mono hb4.size)
  have hX6 := hX3.later hb36
  have hI6 := hI3.later hb36
  have hI46 := hI4.later (hb5.trans (hb56.mono hb5.size))
  have hIu6 := (IsInts.of_owns hoF).1.later hb56
  have hrec6 := hrec.later hb56
  have hcut : IsInts .u8 w6 fa Lf fc (zs.take Lf) := by
    have := hI6.slice 0 Lf fc (Nat.zero_le _) (by omega) (by have := hI6.cap; omega) (Nat.le_refl _) (a' := fa) (fun h => (by cases fa with | none => rfl | some x => simp [Addr.add])) (fun _ => rfl)
    simpa using this
  have hfc := hI6.cap
  unfold maxLen at hfc
  have d1 : decide (Lf < SP) = false := decide_eq_false (by omega)
  have d2 : decide (fl' < Lf) = false := decide_eq_false (by omega)
  go_wp2_with (fail)
  try rw [hw6]
  clear hw6
  refine wp_region_grow mixed (by kernel_rfl) [[], [(0, 35)], [], [(2, 37)], [(1, 36), (3, 38)], [(4, 39)], [(5, 40)], [(6, 41), (5, 40)], [(5, 40)], [(8, 43), (5, 40)], [(9, 44), (5, 40)], [(7, 42), (10, 45), (5, 40)], [(5, 40), (11, 46)], [(12, 47), (5, 40)], [(13, 48)], [(14, 49), (13, 48)], [(13, 48)], [(16, 51), (13, 48)], [(13, 48)], [(18, 53), (13, 48)], [(17, 52), (19, 54), (13, 48)], [(20, 55), (13, 48)], [(15, 50), (21, 56), (13, 48)], [(13, 48), (22, 57)]] [(0, 35), (1, 36), (2, 37), (3, 38), (4, 39), (5, 40), (6, 41), (7, 42), (8, 43), (9, 44), (10, 45), (11, 46), (12, 47), (13, 48), (14, 49), (15, 50), (16, 51), (17, 52), (18, 53), (19, 54), (20, 55), (21, 56), (22, 57), (23, 58)] rfl rfl [Ex ?e0, Ex ?e1, Ex ?e2, Ex ?e3, Ex ?e4, Ex ?e5, Ex ?e6, Ex ?e7, Ex ?e8, Ex ?e9, Ex ?e10, Ex ?e11, Ex ?e12, Ex ?e13, Ex ?e14, Ex ?e15, Ex ?e16, Ex ?e17, Ex ?e18, Ex ?e19, Ex ?e20, Ex ?e21, Ex ?e22, Ex ?e23] ⟨stays_ex _, stays_ex _, stays_ex _, stays_ex _, stays_ex _, stays_ex _, stays_ex _, stays_ex _, stays_ex _, stays_ex _, stays_ex _, stays_ex _, stays_ex _, stays_ex _, stays_ex _, stays_ex _, stays_ex _, stays_ex _, stays_ex _, stays_ex _, stays_ex _, stays_ex _, stays_ex _, stays_ex _, trivial⟩ ?steps ?rest
  case steps =>
    refine ⟨fun f W hC hh => ?_, fun f W hC hh => ?_, fun f W hC hh => ?_, fun f W hC hh => ?_, fun f W hC hh => ?_, fun f W hC hh => ?_, fun f W hC hh => ?_, fun f W hC hh => ?_, fun f W hC hh => ?_, fun f W hC hh => ?_, fun f W hC hh => ?_, fun f W hC hh => ?_, fun f W hC hh => ?_, fun f W hC hh => ?_, fun f W hC hh => ?_, fun f W hC hh => ?_, fun f W hC hh => ?_, fun f W hC hh => ?_, fun f W hC hh => ?_, fun f W hC hh => ?_, fun f W hC hh => ?_, fun f W hC hh => ?_, fun f W hC hh => ?_, fun f W hC hh => ?_, trivial⟩
    · -- 0: Op.move (Operand.tmp 9)
      refine tab_plain fun K Q hK => ?_
      simp only [puts, List.foldr_nil]
      go_step
      refine fam_ex hK rfl rfl (by simp only [Act.put, List.setIfInBounds_toArray, List.set_cons_succ, List.set_cons_zero, Array.getD_eq_getD_getElem?, List.getElem?_toArray, List.getElem?_cons_succ, List.getElem?_cons_zero, Option.getD_some] <;> rfl) rfl (Below.refl _ _) hC
    · -- 1: Op.call { callee := Callee.builtin Builtin.len, args := #[Operand.tmp 35], argTypes := #[2
      obtain ⟨h0, -⟩ := hh
      have g0 : f 0 = _ := h0
      refine tab_plain fun K Q hK => ?_
      simp only [puts, List.foldr_cons, List.foldr_nil, List.setIfInBounds_toArray, List.set_cons_succ, List.set_cons_zero, g0]
      go_step
      refine fam_ex hK rfl rfl (by simp only [Act.put, List.setIfInBounds_toArray, List.set_cons_succ, List.set_cons_zero, Array.getD_eq_getD_getElem?, List.getElem?_toArray, List.getElem?_cons_succ, List.getElem?_cons_zero, Option.getD_some] <;> rfl) rfl (Below.refl _ _) hC
    · -- 2: Op.fieldAddr 26 (Operand.tmp 7) 1
      refine tab_plain fun K Q hK => ?_
      simp only [puts, List.foldr_nil]
      go_step
      refine fam_ex hK rfl rfl (by simp only [Act.put, List.setIfInBounds_toArray, List.set_cons_succ, List.set_cons_zero, Array.getD_eq_getD_getElem?, List.getElem?_toArray, List.getElem?_cons_succ, List.getElem?_cons_zero, Option.getD_some] <;> rfl) rfl (Below.refl _ _) hC
    · -- 3: Op.load 3 (Operand.tmp 37)
      obtain ⟨h2, -⟩ := hh
      have g2 : f 2 = _ := h2
      refine tab_plain fun K Q hK => ?_
      simp only [puts, List.foldr_cons, List.foldr_nil, List.setIfInBounds_toArray, List.set_cons_succ, List.set_cons_zero, g2]
      obtain ⟨q0, q1, -, -⟩ := (hX6.later hC).cells
      go_step
      refine fam_ex hK rfl rfl (by simp only [Act.put, List.setIfInBounds_toArray, List.set_cons_succ, List.set_cons_zero, Array.getD_eq_getD_getElem?, List.getElem?_toArray, List.getElem?_cons_succ, List.getElem?_cons_zero, Option.getD_some] <;> rfl) rfl (Below.refl _ _) hC
    · -- 4: Op.binOp BinOp.lss 3 (Operand.tmp 36) (Operand.tmp 38) 3
      obtain ⟨h1, h3, -⟩ := hh
      have g1 : f 1 = _ := h1
      have g3 : f 3 = _ := h3
      refine tab_plain fun K Q hK => ?_
      simp only [puts, List.foldr_cons, List.foldr_nil, List.setIfInBounds_toArray, List.set_cons_succ, List.set_cons_zero, g1, g3]
      go_step
      refine fam_ex hK rfl rfl (by simp only [Act.put, List.setIfInBounds_toArray, List.set_cons_succ, List.set_cons_zero, Array.getD_eq_getD_getElem?, List.getElem?_toArray, List.getElem?_cons_succ, List.getElem?_cons_zero, Option.getD_some] <;> rfl) rfl (Below.refl _ _) hC
    · -- 5: Op.move (Operand.tmp 39)
      obtain ⟨h4, -⟩ := hh
      have g4 : f 4 = _ := h4
      refine tab_plain fun K Q hK => ?_
      simp only [puts, List.foldr_cons, List.foldr_nil, List.setIfInBounds_toArray, List.set_cons_succ, List.set_cons_zero, g4]
      go_step
      refine fam_ex hK rfl rfl (by simp only [Act.put, List.setIfInBounds_toArray, List.set_cons_succ, List.set_cons_zero, Array.getD_eq_getD_getElem?, List.getElem?_toArray, List.getElem?_cons_succ, List.getElem?_cons_zero, Option.getD_some] <;> rfl) rfl (Below.refl _ _) hC
    · -- 6: Op.move (Operand.tmp 9)
      obtain ⟨h5, -⟩ := hh
      have g5 : f 5 = _ := h5
      refine tab_yes g5 fun K Q hK => ?_
      simp only [puts, List.foldr_cons, List.foldr_nil, List.setIfInBounds_toArray, List.set_cons_succ, List.set_cons_zero, g5]
      go_step
      refine fam_ex hK rfl rfl (by simp only [Act.put, List.setIfInBounds_toArray, List.set_cons_succ, List.set_cons_zero, Array.getD_eq_getD_getElem?, List.getElem?_toArray, List.getElem?_cons_succ, List.getElem?_cons_zero, Option.getD_some] <;> rfl) rfl (Below.refl _ _) hC
    · -- 7: Op.call { callee := Callee.builtin Builtin.len, args := #[Operand.tmp 41], argTypes := #[2
      obtain ⟨h6, h5, -⟩ := hh
      have g6 : f 6 = _ := h6
      have g5 : f 5 = _ := h5
      refine tab_yes g5 fun K Q hK => ?_
      simp only [puts, List.foldr_cons, List.foldr_nil, List.setIfInBounds_toArray, List.set_cons_succ, List.set_cons_zero, g6, g5]
      go_step
      refine fam_ex hK rfl rfl (by simp only [Act.put, List.setIfInBounds_toArray, List.set_cons_succ, List.set_cons_zero, Array.getD_eq_getD_getElem?, List.getElem?_toArray, List.getElem?_cons_succ, List.getElem?_cons_zero, Option.getD_some] <;> rfl) rfl (Below.refl _ _) hC
    · -- 8: Op.fieldAddr 26 (Operand.tmp 7) 0
      obtain ⟨h5, -⟩ := hh
      have g5 : f 5 = _ := h5
      refine tab_yes g5 fun K Q hK => ?_
      simp only [puts, List.foldr_cons, List.foldr_nil, List.setIfInBounds_toArray, List.set_cons_succ, List.set_cons_zero, g5]
      go_step
      refine fam_ex hK rfl rfl (by simp only [Act.put, List.setIfInBounds_toArray, List.set_cons_succ, List.set_cons_zero, Array.getD_eq_getD_getElem?, List.getElem?_toArray, List.getElem?_cons_succ, List.getElem?_cons_zero, Option.getD_some] <;> rfl) rfl (Below.refl _ _) hC
    · -- 9: Op.load 24 (Operand.tmp 43)
      obtain ⟨h8, h5, -⟩ := hh
      have g8 : f 8 = _ := h8
      have g5 : f 5 = _ := h5
      refine tab_yes g5 fun K Q hK => ?_
      simp only [puts, List.foldr_cons, List.foldr_nil, List.setIfInBounds_toArray, List.set_cons_succ, List.set_cons_zero, g8, g5]
      obtain ⟨q0, q1, -, -⟩ := (hX6.later hC).cells
      go_step
      refine fam_ex hK rfl rfl (by simp only [Act.put, List.setIfInBounds_toArray, List.set_cons_succ, List.set_cons_zero, Array.getD_eq_getD_getElem?, List.getElem?_toArray, List.getElem?_cons_succ, List.getElem?_cons_zero, Option.getD_some] <;> rfl) rfl (Below.refl _ _) hC
    · -- 10: Op.call { callee := Callee.builtin Builtin.len, args := #[Operand.tmp 44], argTypes := #[2
      obtain ⟨h9, h5, -⟩ := hh
      have g9 : f 9 = _ := h9
      have g5 : f 5 = _ := h5
      refine tab_yes g5 fun K Q hK => ?_
      simp only [puts, List.foldr_cons, List.foldr_nil, List.setIfInBounds_toArray, List.set_cons_succ, List.set_cons_zero, g9, g5]
      go_step
      refine fam_ex hK rfl rfl (by simp only [Act.put, List.setIfInBounds_toArray, List.set_cons_succ, List.set_cons_zero, Array.getD_eq_getD_getElem?, List.getElem?_toArray, List.getElem?_cons_succ, List.getElem?_cons_zero, Option.getD_some] <;> rfl) rfl (Below.refl _ _) hC
    · -- 11: Op.binOp BinOp.gtr 3 (Operand.tmp 42) (Operand.tmp 45) 3
      obtain ⟨h7, h10, h5, -⟩ := hh
      have g7 : f 7 = _ := h7
      have g10 : f 10 = _ := h10
      have g5 : f 5 = _ := h5
      refine tab_yes g5 fun K Q hK => ?_
      simp only [puts, List.foldr_cons, List.foldr_nil, List.setIfInBounds_toArray, List.set_cons_succ, List.set_cons_zero, g7, g10, g5]
      go_step
      refine fam_ex hK rfl rfl (by simp only [Act.put, List.setIfInBounds_toArray, List.set_cons_succ, List.set_cons_zero, Array.getD_eq_getD_getElem?, List.getElem?_toArray, List.getElem?_cons_succ, List.getElem?_cons_zero, Option.getD_some] <;> rfl) rfl (Below.refl _ _) hC
    · -- 12: Op.pick (Operand.tmp 40) (Operand.const (Value.bool true)) (Operand.tmp 46)
      obtain ⟨h5, h11, -⟩ := hh
      have g5 : f 5 = _ := h5
      have g11 : f 11 = _ := h11
      refine tab_plain fun K Q hK => ?_
      simp only [puts, List.foldr_cons, List.foldr_nil, List.setIfInBounds_toArray, List.set_cons_succ, List.set_cons_zero, g5, g11]
      go_step
      refine fam_ex hK rfl rfl (by simp only [Act.put, List.setIfInBounds_toArray, List.set_cons_succ, List.set_cons_zero, Array.getD_eq_getD_getElem?, List.getElem?_toArray, List.getElem?_cons_succ, List.getElem?_cons_zero, Option.getD_some] <;> rfl) rfl (Below.refl _ _) hC
    · -- 13: Op.move (Operand.tmp 47)
      obtain ⟨h12, h5, -⟩ := hh
      have g12 : f 12 = _ := h12
      have g5 : f 5 = _ := h5
      refine tab_plain fun K Q hK => ?_
      simp only [puts, List.foldr_cons, List.foldr_nil, List.setIfInBounds_toArray, List.set_cons_succ, List.set_cons_zero, g12, g5]
      go_step
      refine fam_ex hK rfl rfl (by simp only [Act.put, List.setIfInBounds_toArray, List.set_cons_succ, List.set_cons_zero, Array.getD_eq_getD_getElem?, List.getElem?_toArray, List.getElem?_cons_succ, List.getElem?_cons_zero, Option.getD_some] <;> rfl) rfl (Below.refl _ _) hC
    · -- 14: Op.move (Operand.tmp 9)
      obtain ⟨h13, -⟩ := hh
      have g13 : f 13 = _ := h13
      refine tab_yes g13 fun K Q hK => ?_
      simp only [puts, List.foldr_cons, List.foldr_nil, List.setIfInBounds_toArray, List.set_cons_succ, List.set_cons_zero, g13]
      go_step
      refine fam_ex hK rfl rfl (by simp only [Act.put, List.setIfInBounds_toArray, List.set_cons_succ, List.set_cons_zero, Array.getD_eq_getD_getElem?, List.getElem?_toArray, List.getElem?_cons_succ, List.getElem?_cons_zero, Option.getD_some] <;> rfl) rfl (Below.refl _ _) hC
    · -- 15: Op.convert 24 9 (Operand.tmp 49)
      obtain ⟨h14, h13, -⟩ := hh
      have g14 : f 14 = _ := h14
      have g13 : f 13 = _ := h13
      refine tab_yes g13 fun K Q hK => ?_
      simp only [puts, List.foldr_cons, List.foldr_nil, List.setIfInBounds_toArray, List.set_cons_succ, List.set_cons_zero, g14, g13]
      have h1 := run_toString W 24 9 5 Try.underlying24 Try.underlying5 Try.underlying9 a4 Lf c4 (zs.take Lf) (hI46.later hC)
      go_step
      refine fam_ex hK rfl rfl (by simp only [Act.put, List.setIfInBounds_toArray, List.set_cons_succ, List.set_cons_zero, Array.getD_eq_getD_getElem?, List.getElem?_toArray, List.getElem?_cons_succ, List.getElem?_cons_zero, Option.getD_some] <;> rfl) rfl (Below.refl _ _) hC
    · -- 16: Op.fieldAddr 26 (Operand.tmp 7) 0
      obtain ⟨h13, -⟩ := hh
      have g13 : f 13 = _ := h13
      refine tab_yes g13 fun K Q hK => ?_
      simp only [puts, List.foldr_cons, List.foldr_nil, List.setIfInBounds_toArray, List.set_cons_succ, List.set_cons_zero, g13]
      go_step
      refine fam_ex hK rfl rfl (by simp only [Act.put, List.setIfInBounds_toArray, List.set_cons_succ, List.set_cons_zero, Array.getD_eq_getD_getElem?, List.getElem?_toArray, List.getElem?_cons_succ, List.getElem?_cons_zero, Option.getD_some] <;> rfl) rfl (Below.refl _ _) hC
    · -- 17: Op.load 24 (Operand.tmp 51)
      obtain ⟨h16, h13, -⟩ := hh
      have g16 : f 16 = _ := h16
      have g13 : f 13 = _ := h13
      refine tab_yes g13 fun K Q hK => ?_
      simp only [puts, List.foldr_cons, List.foldr_nil, List.setIfInBounds_toArray, List.set_cons_succ, List.set_cons_zero, g16, g13]
      obtain ⟨q0, q1, -, -⟩ := (hX6.later hC).cells
      go_step
      refine fam_ex hK rfl rfl (by simp only [Act.put, List.setIfInBounds_toArray, List.set_cons_succ, List.set_cons_zero, Array.getD_eq_getD_getElem?, List.getElem?_toArray, List.getElem?_cons_succ, List.getElem?_cons_zero, Option.getD_some] <;> rfl) rfl (Below.refl _ _) hC
    · -- 18: Op.move (Operand.tmp 9)
      obtain ⟨h13, -⟩ := hh
      have g13 : f 13 = _ := h13
      refine tab_yes g13 fun K Q hK => ?_
      simp only [puts, List.foldr_cons, List.foldr_nil, List.setIfInBounds_toArray, List.set_cons_succ, List.set_cons_zero, g13]
      go_step
      refine fam_ex hK rfl rfl (by simp only [Act.put, List.setIfInBounds_toArray, List.set_cons_succ, List.set_cons_zero, Array.getD_eq_getD_getElem?, List.getElem?_toArray, List.getElem?_cons_succ, List.getElem?_cons_zero, Option.getD_some] <;> rfl) rfl (Below.refl _ _) hC
    · -- 19: Op.call { callee := Callee.builtin Builtin.len, args := #[Operand.tmp 53], argTypes := #[2
      obtain ⟨h18, h13, -⟩ := hh
      have g18 : f 18 = _ := h18
      have g13 : f 13 = _ := h13
      refine tab_yes g13 fun K Q hK => ?_
      simp only [puts, List.foldr_cons, List.foldr_nil, List.setIfInBounds_toArray, List.set_cons_succ, List.set_cons_zero, g18, g13]
      go_step
      refine fam_ex hK rfl rfl (by simp only [Act.put, List.setIfInBounds_toArray, List.set_cons_succ, List.set_cons_zero, Array.getD_eq_getD_getElem?, List.getElem?_toArray, List.getElem?_cons_succ, List.getElem?_cons_zero, Option.getD_some] <;> rfl) rfl (Below.refl _ _) hC
    · -- 20: Op.slice 24 (Operand.tmp 52) none (some (Operand.tmp 54)) none
      obtain ⟨h17, h19, h13, -⟩ := hh
      have g17 : f 17 = _ := h17
      have g19 : f 19 = _ := h19
      have g13 : f 13 = _ := h13
      refine tab_yes g13 fun K Q hK => ?_
      simp only [puts, List.foldr_cons, List.foldr_nil, List.setIfInBounds_toArray, List.set_cons_succ, List.set_cons_zero, g17, g19, g13]
      go_step
      refine fam_ex hK rfl rfl (by simp only [Act.put, List.setIfInBounds_toArray, List.set_cons_succ, List.set_cons_zero, Array.getD_eq_getD_getElem?, List.getElem?_toArray, List.getElem?_cons_succ, List.getElem?_cons_zero, Option.getD_some] <;> rfl) rfl (Below.refl _ _) hC
    · -- 21: Op.convert 24 9 (Operand.tmp 55)
      obtain ⟨h20, h13, -⟩ := hh
      have g20 : f 20 = _ := h20
      have g13 : f 13 = _ := h13
      refine tab_yes g13 fun K Q hK => ?_
      simp only [puts, List.foldr_cons, List.foldr_nil, List.setIfInBounds_toArray, List.set_cons_succ, List.set_cons_zero, g20, g13]
      have h1 := run_toString W 24 9 5 Try.underlying24 Try.underlying5 Try.underlying9 fa Lf fc (zs.take Lf) (hcut.later hC)
      go_step
      refine fam_ex hK rfl rfl (by simp only [Act.put, List.setIfInBounds_toArray, List.set_cons_succ, List.set_cons_zero, Array.getD_eq_getD_getElem?, List.getElem?_toArray, List.getElem?_cons_succ, List.getElem?_cons_zero, Option.getD_some] <;> rfl) rfl (Below.refl _ _) hC
    · -- 22: Op.binOp BinOp.neq 9 (Operand.tmp 50) (Operand.tmp 56) 9
      obtain ⟨h15, h21, h13, -⟩ := hh
      have g15 : f 15 = _ := h15
      have g21 : f 21 = _ := h21
      have g13 : f 13 = _ := h13
      refine tab_yes g13 fun K Q hK => ?_
      simp only [puts, List.foldr_cons, List.foldr_nil, List.setIfInBounds_toArray, List.set_cons_succ, List.set_cons_zero, g15, g21, g13]
      go_step
      refine fam_ex hK rfl rfl (by simp only [Act.put, List.setIfInBounds_toArray, List.set_cons_succ, List.set_cons_zero, Array.getD_eq_getD_getElem?, List.getElem?_toArray, List.getElem?_cons_succ, List.getElem?_cons_zero, Option.getD_some] <;> rfl) rfl (Below.refl _ _) hC
    · -- 23: Op.pick (Operand.tmp 48) (Operand.const (Value.bool true)) (Operand.tmp 57)
      obtain ⟨h13, h22, -⟩ := hh
      have g13 : f 13 = _ := h13
      have g22 : f 22 = _ := h22
      refine tab_plain fun K Q hK => ?_
      simp only [puts, List.foldr_cons, List.foldr_nil, List.setIfInBounds_toArray, List.set_cons_succ, List.set_cons_zero, g13, g22]
      go_step
      refine fam_ex hK rfl rfl (by simp only [Act.put, List.setIfInBounds_toArray, List.set_cons_succ, List.set_cons_zero, Array.getD_eq_getD_getElem?, List.getElem?_toArray, List.getElem?_cons_succ, List.getElem?_cons_zero, Option.getD_some] <;> rfl) rfl (Below.refl _ _) hC
  case rest =>
    intro f W2 hC hh
    obtain ⟨h0, h1, h2, h3, h4, h5, h6, h7, h8, h9, h10, h11, h12, h13, h14, h15, h16, h17, h18, h19, h20, h21, h22, h23, -⟩ := hh
    have g0 : f 0 = _ := h0
    have g1 : f 1 = _ := h1
    have g2 : f 2 = _ := h2
    have g3 : f 3 = _ := h3
    have g4 : f 4 = _ := h4
    have g5 : f 5 = _ := h5
    have g6 : f 6 = _ := h6
    have g7 : f 7 = _ := h7
    have g8 : f 8 = _ := h8
    have g9 : f 9 = _ := h9
    have g10 : f 10 = _ := h10
    have g11 : f 11 = _ := h11
    have g12 : f 12 = _ := h12
    have g13 : f 13 = _ := h13
    have g14 : f 14 = _ := h14
    have g15 : f 15 = _ := h15
    have g16 : f 16 = _ := h16
    have g17 : f 17 = _ := h17
    have g18 : f 18 = _ := h18
    have g19 : f 19 = _ := h19
    have g20 : f 20 = _ := h20
    have g21 : f 21 = _ := h21
    have g22 : f 22 = _ := h22
    have g23 : f 23 = _ := h23
    simp only [puts, List.foldr_cons, List.foldr_nil, List.setIfInBounds_toArray, List.set_cons_succ, List.set_cons_zero, g0, g1, g2, g3, g4, g5, g6, g7, g8, g9, g10, g11, g12, g13, g14, g15, g16, g17, g18, g19, g20, g21, g22, g23]
    clear h0 h1 h2 h3 h4 h5 h6 h7 h8 h9 h10 h11 h12 h13 h14 h15 h16 h17 h18 h19 h20 h21 h22 h23 g0 g1 g2 g3 g4 g5 g6 g7 g8 g9 g10 g11 g12 g13 g14 g15 g16 g17 g18 g19 g20 g21 g22 g23
    have hb07 := hb06.trans (hC.mono hb06.size)
    have hM7 := hM6.later hC
    have hrec7 := hrec6.later hC
    have hIu7 := hIu6.later hC
    have hs7 := (hs.later hb07).slice n (by rw [← HL.out]; exact hn1)
    have hbt : ∀ r ∈ rs.take n, Bytes r := fun r hr => hb r (List.mem_of_mem_take hr)
    have hsa := SameAll_any _ _ _ _ _ _ _ _ _ hrec7 hs7 hbt hbt
    rw [decide_eq_true rfl] at hsa
    have hnlen : n ≤ len := by rw [← HL.out]; exact hn1
    rw [HL.out] at hn6
    have dn : decide (n ≤ len) = true := decide_eq_true hnlen
    have dU : decide (U ≤ Lf) = true := decide_eq_true hn7
    clear hX3 hX6 hI3 hI6 hI4 hI46 hcut hrec hrec6 hIu6 hM6 hln
    obtain ⟨m0, m1, -, -⟩ := hM7.cells
    go_wp2_with (first | (go_at_call 15; refine hsa.mono ?_; rintro e w8 ⟨rfl, hb8⟩; have hM8 := hM7.later hb8; obtain ⟨m2, m3, -, -⟩ := hM8.cells; have hIu8 := hIu7.later hb8; have hb08 := hb07.trans (hb8.mono hb07.size)) | (go_at_call 21; refine (Valid_any _ _ _ _ _ _ hIu8 hzub (by omega)).mono ?_; rintro e w9 ⟨k9, e9, rfl, hR9, hb9⟩; rw [HZU.out] at HN8; rw [HN8.out k9 e9 hR9]; have hM9 := hM8.later hb9; obtain ⟨m4, m5, -, -⟩ := hM9.cells) | fail)
    all_goals first | (exfalso; omega) | skip
    all_goals
      go_ret
      exact ⟨rfl, hb08.trans (hb9.mono hb08.size)⟩
end Go.Proofs.Ytpmhnmkpmkeadaa
