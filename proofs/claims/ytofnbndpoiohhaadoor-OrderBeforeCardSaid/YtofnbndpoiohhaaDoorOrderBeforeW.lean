/-
  OrderBefore: the walk.
-/
import Derived.Test.YtofnbndpoiohhaaDoorOrdR
import Derived.Test.YtofnbndpoiohhaaDoorOrdK
import Derived.OpenShut
set_option linter.unusedSimpArgs false
set_option linter.unusedVariables false
set_option maxHeartbeats 8000000
namespace Go.Proofs.YtofnbndpoiohhaaDoor
open Go.RowKit Go.Shelf Go.ChangeShapes
attribute [local go_sem] Oper.semAt_some

theorem orderBefore_walk (n : Int) (a : Option Addr) (len cap : Nat) (es : List (Int × Int)) (x y : Int) (w : World) (he : IsPairs w a len cap es) (hn : (Lit.int .i64 n).wf = true) (hx : (Lit.int .i64 x).wf = true) (hy : (Lit.int .i64 y).wf = true) (hT : TabAt 0 Lib.deBruijn64tab w) :
    Calls Tryd.prog 3 #[.agg #[.int .i64 n, .slice a len cap], .int .i64 x, .int .i64 y] w fun e w' => e = .returned (.bool true) ∧ Below w.heap.size w w' := by
  obtain ⟨hb2, hs2, hRO⟩ := boxR n a len cap w
  obtain ⟨W2, hW2⟩ : ∃ W2, w.alloc (.cells #[.int .i64 n, .slice a len cap] 24) = W2 := ⟨_, rfl⟩
  rw [hW2] at hb2 hs2 hRO
  have he2 := he.later hb2
  have hT2 := tab_later hT hb2
  have hcap : len ≤ maxLen := by
    rcases he with ⟨_, h, _⟩ | ⟨_, _, _, h, h', _⟩
    · rw [h]; decide
    · omega
  unfold maxLen at hcap
  have HW := Lib.hid hW2
  rw [← hs2] at hRO
  obtain ⟨r0, r1⟩ := hRO _ (Below.refl _ _)
  have HRO := Lib.hid hRO
  clear hW2 hRO
  go_enter Tryd.func3, Tryd.ntmps3
  go_wp2_with (fail)
  rw [HW.out]
  go_at_call 11
  refine (awake_any _ hT2).mono ?_
  rintro e w3 ⟨rfl, hb3⟩
  clear r0 r1
  obtain ⟨r0, r1⟩ := HRO.out _ hb3
  go_wp2_with (fail)
  go_at_call 12
  refine (few_any n a len cap w3 (by omega)).mono ?_
  rintro e w4 ⟨rfl, hb4⟩
  have hb24 := hb3.trans (hb4.mono hb3.size)
  have hT4 := tab_later hT2 hb24
  have hb04 := hb2.trans (hb24.mono hb2.size)
  clear r0 r1
  obtain ⟨r0, r1⟩ := HRO.out _ hb24
  cases hf : decide (n ≤ 12 ∧ len ≤ 80) with
  | false =>
    go_wp2_with (fail)
    go_at_call 11
    refine (awake_any _ hT4).mono ?_
    rintro e w5 ⟨rfl, hb5⟩
    go_wp2
    go_ret
    exact ⟨rfl, hb04.trans (hb5.mono hb04.size)⟩
  | true =>
  have hf' := of_decide_eq_true hf
  clear hf
  obtain ⟨hb5, hs5, hO5⟩ := boxT 27 n a len cap w4
  obtain ⟨w5, hw5⟩ : ∃ w5, w4.alloc (.cells #[.int .i64 n, .slice a len cap] 27) = w5 := ⟨_, rfl⟩
  rw [hw5] at hb5 hs5 hO5
  rw [← hs5] at hO5
  have hb25 := hb24.trans (hb5.mono hb24.size)
  have hb05 := hb2.trans (hb25.mono hb2.size)
  have hT5 := tab_later hT2 hb25
  have he5 := he2.later hb25
  have hBO : ∀ W, Below w5.heap.size w5 W → (W.cell? ⟨w.heap.size, 0, none⟩ = some (.int .i64 n) ∧ W.cell? ⟨w.heap.size, 1, none⟩ = some (.slice a len cap)) ∧ W.cell? ⟨w4.heap.size, 0, none⟩ = some (.int .i64 n) ∧ W.cell? ⟨w4.heap.size, 1, none⟩ = some (.slice a len cap) :=
    fun W h => ⟨HRO.out W (hb25.trans (h.mono hb25.size)), hO5 W h⟩
  have HBO := Lib.hid hBO
  replace hw5 := Lib.hid hw5
  clear hBO hO5
  have hcap63 : len ≤ 9223372036854775807 := by omega
  obtain ⟨u, hu⟩ : ∃ u, validB n es = u := ⟨_, rfl⟩
  obtain ⟨v, hv⟩ : ∃ v, beforeB n es x y = v := ⟨_, rfl⟩
  obtain ⟨z, hz⟩ : ∃ z, concB n es x y = z := ⟨_, rfl⟩
  have Hu := Lib.hid hu
  have Hv := Lib.hid hv
  have Hz := Lib.hid hz
  have guu : (u == u) = true := beq_self_eq_true u
  have gvv : (v == v) = true := beq_self_eq_true v
  have gzz : (z == z) = true := beq_self_eq_true z
  clear hu hv hz hf' hn hx hy
  go_wp2_with (fail)
  rw [hw5.out]
  refine wp_region_grow mixed (by kernel_rfl) [[], [(0, 17)], [], [(2, 19), (1, 18)], [(1, 18), (3, 20)], [(4, 21), (3, 20)], [(5, 22)], [(5, 22)], [(5, 22)], [(6, 23), (7, 24), (8, 25), (5, 22), (5, 22)], [(5, 22)], [(5, 22)], [(5, 22)], [(10, 27), (11, 28), (12, 29), (9, 26), (5, 22)], [(9, 26), (13, 30), (5, 22)], [(5, 22), (14, 31)], [(15, 32), (13, 30)], [(16, 33)], [(16, 33)], [(16, 33)], [(17, 34), (18, 35), (19, 36), (16, 33), (16, 33)], [(16, 33)], [(16, 33)], [(16, 33)], [(21, 38), (22, 39), (23, 40), (20, 37), (16, 33)], [(20, 37), (24, 41), (16, 33)], [(16, 33), (25, 42)], [(26, 43), (24, 41), (0, 17), (1, 18), (2, 19), (3, 20), (4, 21), (5, 22), (6, 23), (7, 24), (8, 25), (9, 26), (10, 27), (11, 28), (12, 29), (13, 30), (14, 31), (15, 32), (16, 33), (17, 34), (18, 35), (19, 36), (20, 37), (21, 38), (22, 39), (23, 40), (24, 41), (25, 42), (26, 43)]] [(0, 17), (1, 18), (2, 19), (3, 20), (4, 21), (5, 22), (6, 23), (7, 24), (8, 25), (9, 26), (10, 27), (11, 28), (12, 29), (13, 30), (14, 31), (15, 32), (16, 33), (17, 34), (18, 35), (19, 36), (20, 37), (21, 38), (22, 39), (23, 40), (24, 41), (25, 42), (26, 43), (27, 6)] rfl rfl [Ex ?e0, Ex (.bool u), Ex ?e2, Ex (.bool u), Ex ?e4, Ex ?e5, Ex ?e6, Ex ?e7, Ex ?e8, Ex (.bool v), Ex ?e10, Ex ?e11, Ex ?e12, Ex (.bool v), Ex ?e14, Ex ?e15, Ex ?e16, Ex ?e17, Ex ?e18, Ex ?e19, Ex (.bool z), Ex ?e21, Ex ?e22, Ex ?e23, Ex (.bool z), Ex ?e25, Ex ?e26, Ex ?e27] ⟨stays_ex _, stays_ex _, stays_ex _, stays_ex _, stays_ex _, stays_ex _, stays_ex _, stays_ex _, stays_ex _, stays_ex _, stays_ex _, stays_ex _, stays_ex _, stays_ex _, stays_ex _, stays_ex _, stays_ex _, stays_ex _, stays_ex _, stays_ex _, stays_ex _, stays_ex _, stays_ex _, stays_ex _, stays_ex _, stays_ex _, stays_ex _, stays_ex _, trivial⟩ ?steps ?rest
  case steps =>
    refine ⟨fun f W hC hh => ?_, fun f W hC hh => ?_, fun f W hC hh => ?_, fun f W hC hh => ?_, fun f W hC hh => ?_, fun f W hC hh => ?_, fun f W hC hh => ?_, fun f W hC hh => ?_, fun f W hC hh => ?_, fun f W hC hh => ?_, fun f W hC hh => ?_, fun f W hC hh => ?_, fun f W hC hh => ?_, fun f W hC hh => ?_, fun f W hC hh => ?_, fun f W hC hh => ?_, fun f W hC hh => ?_, fun f W hC hh => ?_, fun f W hC hh => ?_, fun f W hC hh => ?_, fun f W hC hh => ?_, fun f W hC hh => ?_, fun f W hC hh => ?_, fun f W hC hh => ?_, fun f W hC hh => ?_, fun f W hC hh => ?_, fun f W hC hh => ?_, fun f W hC hh => ?_, trivial⟩
    · -- 0: Op.load 27 (Operand.tmp 7)
      refine tab_plain fun K Q hK => ?_
      simp only [puts, List.foldr_nil]
      obtain ⟨⟨r0, r1⟩, o0, o1⟩ := HBO.out W hC
      go_step
      refine fam_ex hK rfl rfl (by simp only [Act.put, List.setIfInBounds_toArray, List.set_cons_succ, List.set_cons_zero, Array.getD_eq_getD_getElem?, List.getElem?_toArray, List.getElem?_cons_succ, List.getElem?_cons_zero, Option.getD_some] <;> rfl) rfl (Below.refl _ _) hC
    · -- 1: Op.call { callee := Callee.value (Operand.func 13), args := #[Operand.tmp 17], argTypes :=
      obtain ⟨h0, -⟩ := hh
      have g0 : f 0 = _ := h0
      refine tab_plain fun K Q hK => ?_
      simp only [puts, List.foldr_cons, List.foldr_nil, List.setIfInBounds_toArray, List.set_cons_succ, List.set_cons_zero, g0]
      go_step
      go_at_call 13
      refine (valid_any (he5.later hC) (tab_later hT5 hC)).mono ?_
      rintro e w' ⟨rfl, hb⟩
      rw [Hu.out]
      exact fam_fin hK rfl rfl hb (hC.trans (hb.mono hC.size))
    · -- 2: Op.load 24 (Operand.tmp 3)
      refine tab_plain fun K Q hK => ?_
      simp only [puts, List.foldr_nil]
      obtain ⟨⟨r0, r1⟩, o0, o1⟩ := HBO.out W hC
      go_step
      refine fam_ex hK rfl rfl (by simp only [Act.put, List.setIfInBounds_toArray, List.set_cons_succ, List.set_cons_zero, Array.getD_eq_getD_getElem?, List.getElem?_toArray, List.getElem?_cons_succ, List.getElem?_cons_zero, Option.getD_some] <;> rfl) rfl (Below.refl _ _) hC
    · -- 3: Op.call { callee := Callee.value (Operand.func 14), args := #[Operand.tmp 19], argTypes :=
      obtain ⟨h2, h1, -⟩ := hh
      have g2 : f 2 = _ := h2
      have g1 : f 1 = _ := h1
      refine tab_plain fun K Q hK => ?_
      simp only [puts, List.foldr_cons, List.foldr_nil, List.setIfInBounds_toArray, List.set_cons_succ, List.set_cons_zero, g2, g1]
      go_step
      go_at_call 14
      refine (refValid_any (he5.later hC) hcap63).mono ?_
      rintro e w' ⟨rfl, hb⟩
      rw [Hu.out]
      exact fam_fin hK rfl rfl hb (hC.trans (hb.mono hC.size))
    · -- 4: Op.binOp BinOp.eql 4 (Operand.tmp 18) (Operand.tmp 20) 4
      obtain ⟨h1, h3, -⟩ := hh
      have g1 : f 1 = _ := h1
      have g3 : f 3 = _ := h3
      refine tab_plain fun K Q hK => ?_
      simp only [puts, List.foldr_cons, List.foldr_nil, List.setIfInBounds_toArray, List.set_cons_succ, List.set_cons_zero, g1, g3]
      go_step
      refine fam_ex hK rfl rfl (by simp only [Act.put, List.setIfInBounds_toArray, List.set_cons_succ, List.set_cons_zero, Array.getD_eq_getD_getElem?, List.getElem?_toArray, List.getElem?_cons_succ, List.getElem?_cons_zero, Option.getD_some] <;> rfl) rfl (Below.refl _ _) hC
    · -- 5: Op.move (Operand.tmp 21)
      obtain ⟨h4, h3, -⟩ := hh
      have g4 : f 4 = _ := h4
      have g3 : f 3 = _ := h3
      refine tab_plain fun K Q hK => ?_
      simp only [puts, List.foldr_cons, List.foldr_nil, List.setIfInBounds_toArray, List.set_cons_succ, List.set_cons_zero, g4, g3]
      go_step
      refine fam_ex hK rfl rfl (by simp only [Act.put, List.setIfInBounds_toArray, List.set_cons_succ, List.set_cons_zero, Array.getD_eq_getD_getElem?, List.getElem?_toArray, List.getElem?_cons_succ, List.getElem?_cons_zero, Option.getD_some] <;> rfl) rfl (Below.refl _ _) hC
    · -- 6: Op.load 27 (Operand.tmp 7)
      obtain ⟨h5, -⟩ := hh
      have g5 : f 5 = _ := h5
      refine tab_yes g5 fun K Q hK => ?_
      simp only [puts, List.foldr_cons, List.foldr_nil, List.setIfInBounds_toArray, List.set_cons_succ, List.set_cons_zero, g5]
      obtain ⟨⟨r0, r1⟩, o0, o1⟩ := HBO.out W hC
      go_step
      refine fam_ex hK rfl rfl (by simp only [Act.put, List.setIfInBounds_toArray, List.set_cons_succ, List.set_cons_zero, Array.getD_eq_getD_getElem?, List.getElem?_toArray, List.getElem?_cons_succ, List.getElem?_cons_zero, Option.getD_some] <;> rfl) rfl (Below.refl _ _) hC
    · -- 7: Op.move (Operand.tmp 1)
      obtain ⟨h5, -⟩ := hh
      have g5 : f 5 = _ := h5
      refine tab_yes g5 fun K Q hK => ?_
      simp only [puts, List.foldr_cons, List.foldr_nil, List.setIfInBounds_toArray, List.set_cons_succ, List.set_cons_zero, g5]
      go_step
      refine fam_ex hK rfl rfl (by simp only [Act.put, List.setIfInBounds_toArray, List.set_cons_succ, List.set_cons_zero, Array.getD_eq_getD_getElem?, List.getElem?_toArray, List.getElem?_cons_succ, List.getElem?_cons_zero, Option.getD_some] <;> rfl) rfl (Below.refl _ _) hC
    · -- 8: Op.move (Operand.tmp 2)
      obtain ⟨h5, -⟩ := hh
      have g5 : f 5 = _ := h5
      refine tab_yes g5 fun K Q hK => ?_
      simp only [puts, List.foldr_cons, List.foldr_nil, List.setIfInBounds_toArray, List.set_cons_succ, List.set_cons_zero, g5]
      go_step
      refine fam_ex hK rfl rfl (by simp only [Act.put, List.setIfInBounds_toArray, List.set_cons_succ, List.set_cons_zero, Array.getD_eq_getD_getElem?, List.getElem?_toArray, List.getElem?_cons_succ, List.getElem?_cons_zero, Option.getD_some] <;> rfl) rfl (Below.refl _ _) hC
    · -- 9: Op.call { callee := Callee.value (Operand.func 15), args := #[Operand.tmp 23, Operand.tmp 
      obtain ⟨h6, h7, h8, h5, _, -⟩ := hh
      have g6 : f 6 = _ := h6
      have g7 : f 7 = _ := h7
      have g8 : f 8 = _ := h8
      have g5 : f 5 = _ := h5
      refine tab_yes g5 fun K Q hK => ?_
      simp only [puts, List.foldr_cons, List.foldr_nil, List.setIfInBounds_toArray, List.set_cons_succ, List.set_cons_zero, g6, g7, g8, g5]
      go_step
      go_at_call 15
      refine (before_any _ _ (he5.later hC) (tab_later hT5 hC)).mono ?_
      rintro e w' ⟨rfl, hb⟩
      rw [Hv.out]
      exact fam_fin hK rfl rfl hb (hC.trans (hb.mono hC.size))
    · -- 10: Op.load 24 (Operand.tmp 3)
      obtain ⟨h5, -⟩ := hh
      have g5 : f 5 = _ := h5
      refine tab_yes g5 fun K Q hK => ?_
      simp only [puts, List.foldr_cons, List.foldr_nil, List.setIfInBounds_toArray, List.set_cons_succ, List.set_cons_zero, g5]
      obtain ⟨⟨r0, r1⟩, o0, o1⟩ := HBO.out W hC
      go_step
      refine fam_ex hK rfl rfl (by simp only [Act.put, List.setIfInBounds_toArray, List.set_cons_succ, List.set_cons_zero, Array.getD_eq_getD_getElem?, List.getElem?_toArray, List.getElem?_cons_succ, List.getElem?_cons_zero, Option.getD_some] <;> rfl) rfl (Below.refl _ _) hC
    · -- 11: Op.move (Operand.tmp 1)
      obtain ⟨h5, -⟩ := hh
      have g5 : f 5 = _ := h5
      refine tab_yes g5 fun K Q hK => ?_
      simp only [puts, List.foldr_cons, List.foldr_nil, List.setIfInBounds_toArray, List.set_cons_succ, List.set_cons_zero, g5]
      go_step
      refine fam_ex hK rfl rfl (by simp only [Act.put, List.setIfInBounds_toArray, List.set_cons_succ, List.set_cons_zero, Array.getD_eq_getD_getElem?, List.getElem?_toArray, List.getElem?_cons_succ, List.getElem?_cons_zero, Option.getD_some] <;> rfl) rfl (Below.refl _ _) hC
    · -- 12: Op.move (Operand.tmp 2)
      obtain ⟨h5, -⟩ := hh
      have g5 : f 5 = _ := h5
      refine tab_yes g5 fun K Q hK => ?_
      simp only [puts, List.foldr_cons, List.foldr_nil, List.setIfInBounds_toArray, List.set_cons_succ, List.set_cons_zero, g5]
      go_step
      refine fam_ex hK rfl rfl (by simp only [Act.put, List.setIfInBounds_toArray, List.set_cons_succ, List.set_cons_zero, Array.getD_eq_getD_getElem?, List.getElem?_toArray, List.getElem?_cons_succ, List.getElem?_cons_zero, Option.getD_some] <;> rfl) rfl (Below.refl _ _) hC
    · -- 13: Op.call { callee := Callee.value (Operand.func 16), args := #[Operand.tmp 27, Operand.tmp 
      obtain ⟨h10, h11, h12, h9, h5, -⟩ := hh
      have g10 : f 10 = _ := h10
      have g11 : f 11 = _ := h11
      have g12 : f 12 = _ := h12
      have g9 : f 9 = _ := h9
      have g5 : f 5 = _ := h5
      refine tab_yes g5 fun K Q hK => ?_
      simp only [puts, List.foldr_cons, List.foldr_nil, List.setIfInBounds_toArray, List.set_cons_succ, List.set_cons_zero, g10, g11, g12, g9, g5]
      go_step
      go_at_call 16
      refine (refBefore_any _ _ (he5.later hC) hcap63).mono ?_
      rintro e w' ⟨rfl, hb⟩
      rw [Hv.out]
      exact fam_fin hK rfl rfl hb (hC.trans (hb.mono hC.size))
    · -- 14: Op.binOp BinOp.eql 4 (Operand.tmp 26) (Operand.tmp 30) 4
      obtain ⟨h9, h13, h5, -⟩ := hh
      have g9 : f 9 = _ := h9
      have g13 : f 13 = _ := h13
      have g5 : f 5 = _ := h5
      refine tab_yes g5 fun K Q hK => ?_
      simp only [puts, List.foldr_cons, List.foldr_nil, List.setIfInBounds_toArray, List.set_cons_succ, List.set_cons_zero, g9, g13, g5]
      go_step
      refine fam_ex hK rfl rfl (by simp only [Act.put, List.setIfInBounds_toArray, List.set_cons_succ, List.set_cons_zero, Array.getD_eq_getD_getElem?, List.getElem?_toArray, List.getElem?_cons_succ, List.getElem?_cons_zero, Option.getD_some] <;> rfl) rfl (Below.refl _ _) hC
    · -- 15: Op.pick (Operand.tmp 22) (Operand.tmp 31) (Operand.const (Value.bool false))
      obtain ⟨h5, h14, -⟩ := hh
      have g5 : f 5 = _ := h5
      have g14 : f 14 = _ := h14
      refine tab_plain fun K Q hK => ?_
      simp only [puts, List.foldr_cons, List.foldr_nil, List.setIfInBounds_toArray, List.set_cons_succ, List.set_cons_zero, g5, g14]
      go_step
      refine fam_ex hK rfl rfl (by simp only [Act.put, List.setIfInBounds_toArray, List.set_cons_succ, List.set_cons_zero, Array.getD_eq_getD_getElem?, List.getElem?_toArray, List.getElem?_cons_succ, List.getElem?_cons_zero, Option.getD_some] <;> rfl) rfl (Below.refl _ _) hC
    · -- 16: Op.move (Operand.tmp 32)
      obtain ⟨h15, h13, -⟩ := hh
      have g15 : f 15 = _ := h15
      have g13 : f 13 = _ := h13
      refine tab_plain fun K Q hK => ?_
      simp only [puts, List.foldr_cons, List.foldr_nil, List.setIfInBounds_toArray, List.set_cons_succ, List.set_cons_zero, g15, g13]
      go_step
      refine fam_ex hK rfl rfl (by simp only [Act.put, List.setIfInBounds_toArray, List.set_cons_succ, List.set_cons_zero, Array.getD_eq_getD_getElem?, List.getElem?_toArray, List.getElem?_cons_succ, List.getElem?_cons_zero, Option.getD_some] <;> rfl) rfl (Below.refl _ _) hC
    · -- 17: Op.load 27 (Operand.tmp 7)
      obtain ⟨h16, -⟩ := hh
      have g16 : f 16 = _ := h16
      refine tab_yes g16 fun K Q hK => ?_
      simp only [puts, List.foldr_cons, List.foldr_nil, List.setIfInBounds_toArray, List.set_cons_succ, List.set_cons_zero, g16]
      obtain ⟨⟨r0, r1⟩, o0, o1⟩ := HBO.out W hC
      go_step
      refine fam_ex hK rfl rfl (by simp only [Act.put, List.setIfInBounds_toArray, List.set_cons_succ, List.set_cons_zero, Array.getD_eq_getD_getElem?, List.getElem?_toArray, List.getElem?_cons_succ, List.getElem?_cons_zero, Option.getD_some] <;> rfl) rfl (Below.refl _ _) hC
    · -- 18: Op.move (Operand.tmp 1)
      obtain ⟨h16, -⟩ := hh
      have g16 : f 16 = _ := h16
      refine tab_yes g16 fun K Q hK => ?_
      simp only [puts, List.foldr_cons, List.foldr_nil, List.setIfInBounds_toArray, List.set_cons_succ, List.set_cons_zero, g16]
      go_step
      refine fam_ex hK rfl rfl (by simp only [Act.put, List.setIfInBounds_toArray, List.set_cons_succ, List.set_cons_zero, Array.getD_eq_getD_getElem?, List.getElem?_toArray, List.getElem?_cons_succ, List.getElem?_cons_zero, Option.getD_some] <;> rfl) rfl (Below.refl _ _) hC
    · -- 19: Op.move (Operand.tmp 2)
      obtain ⟨h16, -⟩ := hh
      have g16 : f 16 = _ := h16
      refine tab_yes g16 fun K Q hK => ?_
      simp only [puts, List.foldr_cons, List.foldr_nil, List.setIfInBounds_toArray, List.set_cons_succ, List.set_cons_zero, g16]
      go_step
      refine fam_ex hK rfl rfl (by simp only [Act.put, List.setIfInBounds_toArray, List.set_cons_succ, List.set_cons_zero, Array.getD_eq_getD_getElem?, List.getElem?_toArray, List.getElem?_cons_succ, List.getElem?_cons_zero, Option.getD_some] <;> rfl) rfl (Below.refl _ _) hC
    · -- 20: Op.call { callee := Callee.value (Operand.func 17), args := #[Operand.tmp 34, Operand.tmp 
      obtain ⟨h17, h18, h19, h16, _, -⟩ := hh
      have g17 : f 17 = _ := h17
      have g18 : f 18 = _ := h18
      have g19 : f 19 = _ := h19
      have g16 : f 16 = _ := h16
      refine tab_yes g16 fun K Q hK => ?_
      simp only [puts, List.foldr_cons, List.foldr_nil, List.setIfInBounds_toArray, List.set_cons_succ, List.set_cons_zero, g17, g18, g19, g16]
      go_step
      go_at_call 17
      refine (concurrent_any _ _ (he5.later hC) (tab_later hT5 hC)).mono ?_
      rintro e w' ⟨rfl, hb⟩
      rw [Hz.out]
      exact fam_fin hK rfl rfl hb (hC.trans (hb.mono hC.size))
    · -- 21: Op.load 24 (Operand.tmp 3)
      obtain ⟨h16, -⟩ := hh
      have g16 : f 16 = _ := h16
      refine tab_yes g16 fun K Q hK => ?_
      simp only [puts, List.foldr_cons, List.foldr_nil, List.setIfInBounds_toArray, List.set_cons_succ, List.set_cons_zero, g16]
      obtain ⟨⟨r0, r1⟩, o0, o1⟩ := HBO.out W hC
      go_step
      refine fam_ex hK rfl rfl (by simp only [Act.put, List.setIfInBounds_toArray, List.set_cons_succ, List.set_cons_zero, Array.getD_eq_getD_getElem?, List.getElem?_toArray, List.getElem?_cons_succ, List.getElem?_cons_zero, Option.getD_some] <;> rfl) rfl (Below.refl _ _) hC
    · -- 22: Op.move (Operand.tmp 1)
      obtain ⟨h16, -⟩ := hh
      have g16 : f 16 = _ := h16
      refine tab_yes g16 fun K Q hK => ?_
      simp only [puts, List.foldr_cons, List.foldr_nil, List.setIfInBounds_toArray, List.set_cons_succ, List.set_cons_zero, g16]
      go_step
      refine fam_ex hK rfl rfl (by simp only [Act.put, List.setIfInBounds_toArray, List.set_cons_succ, List.set_cons_zero, Array.getD_eq_getD_getElem?, List.getElem?_toArray, List.getElem?_cons_succ, List.getElem?_cons_zero, Option.getD_some] <;> rfl) rfl (Below.refl _ _) hC
    · -- 23: Op.move (Operand.tmp 2)
      obtain ⟨h16, -⟩ := hh
      have g16 : f 16 = _ := h16
      refine tab_yes g16 fun K Q hK => ?_
      simp only [puts, List.foldr_cons, List.foldr_nil, List.setIfInBounds_toArray, List.set_cons_succ, List.set_cons_zero, g16]
      go_step
      refine fam_ex hK rfl rfl (by simp only [Act.put, List.setIfInBounds_toArray, List.set_cons_succ, List.set_cons_zero, Array.getD_eq_getD_getElem?, List.getElem?_toArray, List.getElem?_cons_succ, List.getElem?_cons_zero, Option.getD_some] <;> rfl) rfl (Below.refl _ _) hC
    · -- 24: Op.call { callee := Callee.value (Operand.func 18), args := #[Operand.tmp 38, Operand.tmp 
      obtain ⟨h21, h22, h23, h20, h16, -⟩ := hh
      have g21 : f 21 = _ := h21
      have g22 : f 22 = _ := h22
      have g23 : f 23 = _ := h23
      have g20 : f 20 = _ := h20
      have g16 : f 16 = _ := h16
      refine tab_yes g16 fun K Q hK => ?_
      simp only [puts, List.foldr_cons, List.foldr_nil, List.setIfInBounds_toArray, List.set_cons_succ, List.set_cons_zero, g21, g22, g23, g20, g16]
      go_step
      go_at_call 18
      refine (refConcurrent_any _ _ (he5.later hC) hcap63).mono ?_
      rintro e w' ⟨rfl, hb⟩
      rw [Hz.out]
      exact fam_fin hK rfl rfl hb (hC.trans (hb.mono hC.size))
    · -- 25: Op.binOp BinOp.eql 4 (Operand.tmp 37) (Operand.tmp 41) 4
      obtain ⟨h20, h24, h16, -⟩ := hh
      have g20 : f 20 = _ := h20
      have g24 : f 24 = _ := h24
      have g16 : f 16 = _ := h16
      refine tab_yes g16 fun K Q hK => ?_
      simp only [puts, List.foldr_cons, List.foldr_nil, List.setIfInBounds_toArray, List.set_cons_succ, List.set_cons_zero, g20, g24, g16]
      go_step
      refine fam_ex hK rfl rfl (by simp only [Act.put, List.setIfInBounds_toArray, List.set_cons_succ, List.set_cons_zero, Array.getD_eq_getD_getElem?, List.getElem?_toArray, List.getElem?_cons_succ, List.getElem?_cons_zero, Option.getD_some] <;> rfl) rfl (Below.refl _ _) hC
    · -- 26: Op.pick (Operand.tmp 33) (Operand.tmp 42) (Operand.const (Value.bool false))
      obtain ⟨h16, h25, -⟩ := hh
      have g16 : f 16 = _ := h16
      have g25 : f 25 = _ := h25
      refine tab_plain fun K Q hK => ?_
      simp only [puts, List.foldr_cons, List.foldr_nil, List.setIfInBounds_toArray, List.set_cons_succ, List.set_cons_zero, g16, g25]
      go_step
      refine fam_ex hK rfl rfl (by simp only [Act.put, List.setIfInBounds_toArray, List.set_cons_succ, List.set_cons_zero, Array.getD_eq_getD_getElem?, List.getElem?_toArray, List.getElem?_cons_succ, List.getElem?_cons_zero, Option.getD_some] <;> rfl) rfl (Below.refl _ _) hC
    · -- 27: Op.assign (Operand.tmp 43)
      obtain ⟨h26, h24, h0, h1, h2, h3, h4, h5, h6, h7, h8, h9, h10, h11, h12, h13, h14, h15, h16, h17, h18, h19, h20, h21, h22, h23, _, h25, _, -⟩ := hh
      have g26 : f 26 = _ := h26
      have g24 : f 24 = _ := h24
      have g0 : f 0 = _ := h0
      have g1 : f 1 = _ := h1
      have g2 : f 2 = _ := h2
      have g3 : f 3 = _ := h3
      have g4 : f 4 = _ := h4
      have g5 : f 5 = _ := h5
      have g6 : f 6 = _ := h6
      have g7 : f 7 = _ := h7
      have g8 : f 8 = _ := h8
      have g9 : f 9 = _ := h9
      have g10 : f 10 = _ := h10
      have g11 : f 11 = _ := h11
      have g12 : f 12 = _ := h12
      have g13 : f 13 = _ := h13
      have g14 : f 14 = _ := h14
      have g15 : f 15 = _ := h15
      have g16 : f 16 = _ := h16
      have g17 : f 17 = _ := h17
      have g18 : f 18 = _ := h18
      have g19 : f 19 = _ := h19
      have g20 : f 20 = _ := h20
      have g21 : f 21 = _ := h21
      have g22 : f 22 = _ := h22
      have g23 : f 23 = _ := h23
      have g25 : f 25 = _ := h25
      refine tab_plain fun K Q hK => ?_
      simp only [puts, List.foldr_cons, List.foldr_nil, List.setIfInBounds_toArray, List.set_cons_succ, List.set_cons_zero, g26, g24, g0, g1, g2, g3, g4, g5, g6, g7, g8, g9, g10, g11, g12, g13, g14, g15, g16, g17, g18, g19, g20, g21, g22, g23, g25]
      go_step
      refine fam_ex hK rfl rfl (by simp only [Act.put, List.setIfInBounds_toArray, List.set_cons_succ, List.set_cons_zero, Array.getD_eq_getD_getElem?, List.getElem?_toArray, List.getElem?_cons_succ, List.getElem?_cons_zero, Option.getD_some] <;> rfl) rfl (Below.refl _ _) hC
  case rest =>
    intro f W2 hC hh
    obtain ⟨h0, h1, h2, h3, h4, h5, h6, h7, h8, h9, h10, h11, h12, h13, h14, h15, h16, h17, h18, h19, h20, h21, h22, h23, h24, h25, h26, h27, -⟩ := hh
    have g0 : f 0 = _ := h0
    have g1 : f 1 = _ := h1
    have g2 : f 2 = _ := h2
    have g3 : f 3 = _ := h3
    have g4 : f 4 = _ := h4
    have g5 : f 5 = _ := h5
    have g6 : f 6 = _ := h6
    have g7 : f 7 = _ := h7
    have g8 : f 8 = _ := h8
    have g9 : f 9 = _ := h9
    have g10 : f 10 = _ := h10
    have g11 : f 11 = _ := h11
    have g12 : f 12 = _ := h12
    have g13 : f 13 = _ := h13
    have g14 : f 14 = _ := h14
    have g15 : f 15 = _ := h15
    have g16 : f 16 = _ := h16
    have g17 : f 17 = _ := h17
    have g18 : f 18 = _ := h18
    have g19 : f 19 = _ := h19
    have g20 : f 20 = _ := h20
    have g21 : f 21 = _ := h21
    have g22 : f 22 = _ := h22
    have g23 : f 23 = _ := h23
    have g24 : f 24 = _ := h24
    have g25 : f 25 = _ := h25
    have g26 : f 26 = _ := h26
    have g27 : f 27 = _ := h27
    simp only [puts, List.foldr_cons, List.foldr_nil, List.setIfInBounds_toArray, List.set_cons_succ, List.set_cons_zero, g0, g1, g2, g3, g4, g5, g6, g7, g8, g9, g10, g11, g12, g13, g14, g15, g16, g17, g18, g19, g20, g21, g22, g23, g24, g25, g26, g27]
    clear h0 h1 h2 h3 h4 h5 h6 h7 h8 h9 h10 h11 h12 h13 h14 h15 h16 h17 h18 h19 h20 h21 h22 h23 h24 h25 h26 h27 g0 g1 g2 g3 g4 g5 g6 g7 g8 g9 g10 g11 g12 g13 g14 g15 g16 g17 g18 g19 g20 g21 g22 g23 g24 g25 g26 g27
    go_wp2
    go_ret
    exact ⟨rfl, hb05.trans (hC.mono hb05.size)⟩
end Go.Proofs.YtofnbndpoiohhaaDoor
