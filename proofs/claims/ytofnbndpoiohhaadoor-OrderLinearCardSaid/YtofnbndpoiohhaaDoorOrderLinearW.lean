/-
  OrderLinear: the walk.
-/
import Derived.Test.YtofnbndpoiohhaaDoorOrdS
import Derived.Test.YtofnbndpoiohhaaDoorOrdK
import Derived.OpenShut
set_option linter.unusedSimpArgs false
set_option linter.unusedVariables false
set_option maxHeartbeats 8000000
namespace Go.Proofs.YtofnbndpoiohhaaDoor
open Go.RowKit Go.Shelf Go.ChangeShapes
attribute [local go_sem] Oper.semAt_some

theorem refSame_self {ax : Option Addr} {lx cx : Nat} {xs : List Int} {ay : Option Addr} {ly cy : Nat} {w : World} (hx : IsInts .i64 w ax lx cx xs) (hy : IsInts .i64 w ay ly cy xs) :
    Calls Tryd.prog 21 #[.slice ax lx cx, .slice ay ly cy] w fun e w' => e = .returned (.bool true) ∧ Below w.heap.size w w' := by
  have h := refSame_any _ _ _ _ _ _ _ _ w hx hy
  rwa [show decide (xs = xs) = true from decide_eq_true rfl] at h

theorem orderLinear_walk (n : Int) (a : Option Addr) (len cap : Nat) (es : List (Int × Int)) (al : Option Addr) (ll cl : Nat) (l : List Int) (w : World) (he : IsPairs w a len cap es) (hn : (Lit.int .i64 n).wf = true) (hl : IsInts .i64 w al ll cl l) (hlb : ∀ z ∈ l, (Lit.int .i64 z).wf = true) (hlm : cl * 8 ≤ 140737488351232) (hT : TabAt 0 Lib.deBruijn64tab w) :
    Calls Tryd.prog 4 #[.agg #[.int .i64 n, .slice a len cap], .slice al ll cl] w fun e w' => e = .returned (.bool true) ∧ Below w.heap.size w w' := by
  have hcl := hl.cap
  unfold maxLen at hcl
  clear hlb hlm
  obtain ⟨hb2, hs2, hRO⟩ := boxR n a len cap w
  obtain ⟨W2, hW2⟩ : ∃ W2, w.alloc (.cells #[.int .i64 n, .slice a len cap] 24) = W2 := ⟨_, rfl⟩
  rw [hW2] at hb2 hs2 hRO
  have he2 := he.later hb2
  have hT2 := tab_later hT hb2
  have hcap : len ≤ maxLen := by
    rcases he with ⟨_, h, _⟩ | ⟨_, _, _, h, h', _⟩
    · rw [h]; decide
    · omega
  unfold maxLen at hcap
  have HW := Lib.hid hW2
  rw [← hs2] at hRO
  obtain ⟨r0, r1⟩ := hRO _ (Below.refl _ _)
  have HRO := Lib.hid hRO
  clear hW2 hRO
  go_enter Tryd.func4, Tryd.ntmps4
  go_wp2_with (fail)
  rw [HW.out]
  go_at_call 11
  refine (awake_any _ hT2).mono ?_
  rintro e w3 ⟨rfl, hb3⟩
  clear r0 r1
  obtain ⟨r0, r1⟩ := HRO.out _ hb3
  go_wp2_with (fail)
  go_at_call 12
  refine (few_any n a len cap w3 (by omega)).mono ?_
  rintro e w4 ⟨rfl, hb4⟩
  have hb24 := hb3.trans (hb4.mono hb3.size)
  have hT4 := tab_later hT2 hb24
  have hb04 := hb2.trans (hb24.mono hb2.size)
  clear r0 r1
  obtain ⟨r0, r1⟩ := HRO.out _ hb24
  cases hf : decide (n ≤ 12 ∧ len ≤ 80) with
  | false =>
    go_wp2_with (fail)
    go_at_call 11
    refine (awake_any _ hT4).mono ?_
    rintro e w5 ⟨rfl, hb5⟩
    go_wp2
    go_ret
    exact ⟨rfl, hb04.trans (hb5.mono hb04.size)⟩
  | true =>
  have hf' := of_decide_eq_true hf
  clear hf
  by_cases h15 : 15 < ll
  · have d15 : decide (15 < (ll : Int)) = true := decide_eq_true (by omega)
    go_wp2_with (fail)
    go_at_call 11
    refine (awake_any _ hT4).mono ?_
    rintro e w5 ⟨rfl, hb5⟩
    go_wp2
    go_ret
    exact ⟨rfl, hb04.trans (hb5.mono hb04.size)⟩
  have d15 : decide (15 < (ll : Int)) = false := decide_eq_false (by omega)
  obtain ⟨hb5, hs5, hO5⟩ := boxT 27 n a len cap w4
  obtain ⟨w5, hw5⟩ : ∃ w5, w4.alloc (.cells #[.int .i64 n, .slice a len cap] 27) = w5 := ⟨_, rfl⟩
  rw [hw5] at hb5 hs5 hO5
  rw [← hs5] at hO5
  have hb25 := hb24.trans (hb5.mono hb24.size)
  have hb05 := hb2.trans (hb25.mono hb2.size)
  have hT5 := tab_later hT2 hb25
  have he5 := he2.later hb25
  have hBO : ∀ W, Below w5.heap.size w5 W → (W.cell? ⟨w.heap.size, 0, none⟩ = some (.int .i64 n) ∧ W.cell? ⟨w.heap.size, 1, none⟩ = some (.slice a len cap)) ∧ W.cell? ⟨w4.heap.size, 0, none⟩ = some (.int .i64 n) ∧ W.cell? ⟨w4.heap.size, 1, none⟩ = some (.slice a len cap) :=
    fun W h => ⟨HRO.out W (hb25.trans (h.mono hb25.size)), hO5 W h⟩
  have HBO := Lib.hid hBO
  replace hw5 := Lib.hid hw5
  clear hBO hO5
  have hcap63 : len ≤ 9223372036854775807 := by omega
  obtain ⟨u, hu⟩ : ∃ u, linB n es l = u := ⟨_, rfl⟩
  obtain ⟨v, hv⟩ : ∃ v, cutB n es l = v := ⟨_, rfl⟩
  have Hu := Lib.hid hu
  have Hv := Lib.hid hv
  have guu : (u == u) = true := beq_self_eq_true u
  have gvv : (v == v) = true := beq_self_eq_true v
  clear hu hv hf' hn h15
  go_wp2_with (fail)
  rw [hw5.out]
  clear r0 r1
  obtain ⟨⟨r0, r1⟩, o0, o1⟩ := HBO.out _ (Below.refl _ _)
  by_cases hval : ValidO n es
  · have HV := Lib.hid hval
    clear hval
    go_wp2_with (fail)
    go_at_call 19
    refine (linear_yes he5 hT5 HV.out).mono ?_
    rintro e w6 ⟨l1, ao, co, rfl, hK1, hl1, hrow1, hb6⟩
    replace hl1 := Lib.hid hl1
    clear r0 r1 o0 o1
    obtain ⟨⟨r0, r1⟩, o0, o1⟩ := HBO.out _ hb6
    go_wp2_with (fail)
    go_at_call 20
    refine (refLinear_yes (he5.later hb6) hcap63 HV.out).mono ?_
    rintro e w7 ⟨l2, ao2, co2, rfl, hK2, hl2, hrow2, hb7⟩
    obtain rfl := hK1.uniq hK2 (by rw [hl1.out, hl2])
    have hI1 := (IsInts.of_owns hrow1).1.later hb7
    have hI2 := (IsInts.of_owns hrow2).1
    clear hK1 hK2 hl1 hl2 hrow1 hrow2
    have hb57 := hb6.trans (hb7.mono hb6.size)
    have hb07 := hb05.trans (hb57.mono hb05.size)
    have hT7 := tab_later hT5 hb57
    have he7 := he5.later hb57
    have hl7 := hl.later hb07
    clear r0 r1 o0 o1
    obtain ⟨⟨r0, r1⟩, o0, o1⟩ := HBO.out _ hb57
    go_wp2_with (fail)
    refine wp_region_grow mixed (by kernel_rfl) [[], [], [(0, 34), (1, 35)], [(2, 36)], [(3, 37)], [(3, 37)], [(4, 38), (5, 39), (3, 37), (3, 37)], [(3, 37), (6, 40)], [(7, 41), (6, 40)], [(8, 42)], [(8, 42)], [(9, 43), (10, 44), (8, 42), (8, 42)], [(8, 42)], [(8, 42)], [(12, 46), (13, 47), (11, 45), (8, 42)], [(11, 45), (14, 48), (8, 42)], [(8, 42), (15, 49)], [(16, 50), (14, 48)], [(17, 51)], [(17, 51)], [(18, 52), (19, 53), (17, 51), (17, 51)], [(17, 51)], [(17, 51)], [(21, 55), (22, 56), (20, 54), (17, 51)], [(20, 54), (23, 57), (17, 51)], [(17, 51), (24, 58)], [(25, 59), (23, 57), (0, 34), (1, 35), (2, 36), (3, 37), (4, 38), (5, 39), (6, 40), (7, 41), (8, 42), (9, 43), (10, 44), (11, 45), (12, 46), (13, 47), (14, 48), (15, 49), (16, 50), (17, 51), (18, 52), (19, 53), (20, 54), (21, 55), (22, 56), (23, 57), (24, 58), (25, 59)]] [(0, 34), (1, 35), (2, 36), (3, 37), (4, 38), (5, 39), (6, 40), (7, 41), (8, 42), (9, 43), (10, 44), (11, 45), (12, 46), (13, 47), (14, 48), (15, 49), (16, 50), (17, 51), (18, 52), (19, 53), (20, 54), (21, 55), (22, 56), (23, 57), (24, 58), (25, 59), (26, 4)] rfl rfl [Ex ?ep0, Ex ?ep1, Ex ?ep2, Ex ?ep3, Ex ?ep4, Ex ?ep5, Ex (.bool true), Ex ?ep7, Ex ?ep8, Ex ?ep9, Ex ?ep10, Ex (.bool u), Ex ?ep12, Ex ?ep13, Ex (.bool u), Ex ?ep15, Ex ?ep16, Ex ?ep17, Ex ?ep18, Ex ?ep19, Ex (.bool v), Ex ?ep21, Ex ?ep22, Ex (.bool v), Ex ?ep24, Ex ?ep25, Ex ?ep26] ⟨stays_ex _, stays_ex _, stays_ex _, stays_ex _, stays_ex _, stays_ex _, stays_ex _, stays_ex _, stays_ex _, stays_ex _, stays_ex _, stays_ex _, stays_ex _, stays_ex _, stays_ex _, stays_ex _, stays_ex _, stays_ex _, stays_ex _, stays_ex _, stays_ex _, stays_ex _, stays_ex _, stays_ex _, stays_ex _, stays_ex _, stays_ex _, trivial⟩ ?psteps ?prest
    case psteps =>
      refine ⟨fun f W hC hh => ?_, fun f W hC hh => ?_, fun f W hC hh => ?_, fun f W hC hh => ?_, fun f W hC hh => ?_, fun f W hC hh => ?_, fun f W hC hh => ?_, fun f W hC hh => ?_, fun f W hC hh => ?_, fun f W hC hh => ?_, fun f W hC hh => ?_, fun f W hC hh => ?_, fun f W hC hh => ?_, fun f W hC hh => ?_, fun f W hC hh => ?_, fun f W hC hh => ?_, fun f W hC hh => ?_, fun f W hC hh => ?_, fun f W hC hh => ?_, fun f W hC hh => ?_, fun f W hC hh => ?_, fun f W hC hh => ?_, fun f W hC hh => ?_, fun f W hC hh => ?_, fun f W hC hh => ?_, fun f W hC hh => ?_, fun f W hC hh => ?_, trivial⟩
      · -- 0: Op.move (Operand.tmp 7)
        refine tab_plain fun K Q hK => ?_
        simp only [puts, List.foldr_nil]
        go_step
        refine fam_ex hK rfl rfl (by simp only [Act.put, List.setIfInBounds_toArray, List.set_cons_succ, List.set_cons_zero, Array.getD_eq_getD_getElem?, List.getElem?_toArray, List.getElem?_cons_succ, List.getElem?_cons_zero, Option.getD_some] <;> rfl) rfl (Below.refl _ _) hC
      · -- 1: Op.move (Operand.tmp 9)
        refine tab_plain fun K Q hK => ?_
        simp only [puts, List.foldr_nil]
        go_step
        refine fam_ex hK rfl rfl (by simp only [Act.put, List.setIfInBounds_toArray, List.set_cons_succ, List.set_cons_zero, Array.getD_eq_getD_getElem?, List.getElem?_toArray, List.getElem?_cons_succ, List.getElem?_cons_zero, Option.getD_some] <;> rfl) rfl (Below.refl _ _) hC
      · -- 2: Op.binOp BinOp.eql 32 (Operand.tmp 34) (Operand.tmp 35) 32
        obtain ⟨h0, h1, -⟩ := hh
        have g0 : f 0 = _ := h0
        have g1 : f 1 = _ := h1
        refine tab_plain fun K Q hK => ?_
        simp only [puts, List.foldr_cons, List.foldr_nil, List.setIfInBounds_toArray, List.set_cons_succ, List.set_cons_zero, g0, g1]
        go_step
        refine fam_ex hK rfl rfl (by simp only [Act.put, List.setIfInBounds_toArray, List.set_cons_succ, List.set_cons_zero, Array.getD_eq_getD_getElem?, List.getElem?_toArray, List.getElem?_cons_succ, List.getElem?_cons_zero, Option.getD_some] <;> rfl) rfl (Below.refl _ _) hC
      · -- 3: Op.move (Operand.tmp 36)
        obtain ⟨h2, -⟩ := hh
        have g2 : f 2 = _ := h2
        refine tab_plain fun K Q hK => ?_
        simp only [puts, List.foldr_cons, List.foldr_nil, List.setIfInBounds_toArray, List.set_cons_succ, List.set_cons_zero, g2]
        go_step
        refine fam_ex hK rfl rfl (by simp only [Act.put, List.setIfInBounds_toArray, List.set_cons_succ, List.set_cons_zero, Array.getD_eq_getD_getElem?, List.getElem?_toArray, List.getElem?_cons_succ, List.getElem?_cons_zero, Option.getD_some] <;> rfl) rfl (Below.refl _ _) hC
      · -- 4: Op.move (Operand.tmp 6)
        obtain ⟨h3, -⟩ := hh
        have g3 : f 3 = _ := h3
        refine tab_yes g3 fun K Q hK => ?_
        simp only [puts, List.foldr_cons, List.foldr_nil, List.setIfInBounds_toArray, List.set_cons_succ, List.set_cons_zero, g3]
        go_step
        refine fam_ex hK rfl rfl (by simp only [Act.put, List.setIfInBounds_toArray, List.set_cons_succ, List.set_cons_zero, Array.getD_eq_getD_getElem?, List.getElem?_toArray, List.getElem?_cons_succ, List.getElem?_cons_zero, Option.getD_some] <;> rfl) rfl (Below.refl _ _) hC
      · -- 5: Op.move (Operand.tmp 8)
        obtain ⟨h3, -⟩ := hh
        have g3 : f 3 = _ := h3
        refine tab_yes g3 fun K Q hK => ?_
        simp only [puts, List.foldr_cons, List.foldr_nil, List.setIfInBounds_toArray, List.set_cons_succ, List.set_cons_zero, g3]
        go_step
        refine fam_ex hK rfl rfl (by simp only [Act.put, List.setIfInBounds_toArray, List.set_cons_succ, List.set_cons_zero, Array.getD_eq_getD_getElem?, List.getElem?_toArray, List.getElem?_cons_succ, List.getElem?_cons_zero, Option.getD_some] <;> rfl) rfl (Below.refl _ _) hC
      · -- 6: Op.call { callee := Callee.value (Operand.func 21), args := #[Operand.tmp 38, Operand.tmp 
        obtain ⟨h4, h5, h3, _, -⟩ := hh
        have g4 : f 4 = _ := h4
        have g5 : f 5 = _ := h5
        have g3 : f 3 = _ := h3
        refine tab_yes g3 fun K Q hK => ?_
        simp only [puts, List.foldr_cons, List.foldr_nil, List.setIfInBounds_toArray, List.set_cons_succ, List.set_cons_zero, g4, g5, g3]
        go_step
        go_at_call 21
        refine (refSame_self (hI1.later hC) (hI2.later hC)).mono ?_
        rintro e w' ⟨rfl, hb⟩
        exact fam_fin hK rfl rfl hb (hC.trans (hb.mono hC.size))
      · -- 7: Op.pick (Operand.tmp 37) (Operand.tmp 40) (Operand.const (Value.bool false))
        obtain ⟨h3, h6, -⟩ := hh
        have g3 : f 3 = _ := h3
        have g6 : f 6 = _ := h6
        refine tab_plain fun K Q hK => ?_
        simp only [puts, List.foldr_cons, List.foldr_nil, List.setIfInBounds_toArray, List.set_cons_succ, List.set_cons_zero, g3, g6]
        go_step
        refine fam_ex hK rfl rfl (by simp only [Act.put, List.setIfInBounds_toArray, List.set_cons_succ, List.set_cons_zero, Array.getD_eq_getD_getElem?, List.getElem?_toArray, List.getElem?_cons_succ, List.getElem?_cons_zero, Option.getD_some] <;> rfl) rfl (Below.refl _ _) hC
      · -- 8: Op.move (Operand.tmp 41)
        obtain ⟨h7, h6, -⟩ := hh
        have g7 : f 7 = _ := h7
        have g6 : f 6 = _ := h6
        refine tab_plain fun K Q hK => ?_
        simp only [puts, List.foldr_cons, List.foldr_nil, List.setIfInBounds_toArray, List.set_cons_succ, List.set_cons_zero, g7, g6]
        go_step
        refine fam_ex hK rfl rfl (by simp only [Act.put, List.setIfInBounds_toArray, List.set_cons_succ, List.set_cons_zero, Array.getD_eq_getD_getElem?, List.getElem?_toArray, List.getElem?_cons_succ, List.getElem?_cons_zero, Option.getD_some] <;> rfl) rfl (Below.refl _ _) hC
      · -- 9: Op.load 27 (Operand.tmp 5)
        obtain ⟨h8, -⟩ := hh
        have g8 : f 8 = _ := h8
        refine tab_yes g8 fun K Q hK => ?_
        simp only [puts, List.foldr_cons, List.foldr_nil, List.setIfInBounds_toArray, List.set_cons_succ, List.set_cons_zero, g8]
        obtain ⟨⟨r0, r1⟩, o0, o1⟩ := HBO.out W (hb57.trans (hC.mono hb57.size))
        go_step
        refine fam_ex hK rfl rfl (by simp only [Act.put, List.setIfInBounds_toArray, List.set_cons_succ, List.set_cons_zero, Array.getD_eq_getD_getElem?, List.getElem?_toArray, List.getElem?_cons_succ, List.getElem?_cons_zero, Option.getD_some] <;> rfl) rfl (Below.refl _ _) hC
      · -- 10: Op.move (Operand.tmp 1)
        obtain ⟨h8, -⟩ := hh
        have g8 : f 8 = _ := h8
        refine tab_yes g8 fun K Q hK => ?_
        simp only [puts, List.foldr_cons, List.foldr_nil, List.setIfInBounds_toArray, List.set_cons_succ, List.set_cons_zero, g8]
        go_step
        refine fam_ex hK rfl rfl (by simp only [Act.put, List.setIfInBounds_toArray, List.set_cons_succ, List.set_cons_zero, Array.getD_eq_getD_getElem?, List.getElem?_toArray, List.getElem?_cons_succ, List.getElem?_cons_zero, Option.getD_some] <;> rfl) rfl (Below.refl _ _) hC
      · -- 11: Op.call { callee := Callee.value (Operand.func 22), args := #[Operand.tmp 43, Operand.tmp 
        obtain ⟨h9, h10, h8, _, -⟩ := hh
        have g9 : f 9 = _ := h9
        have g10 : f 10 = _ := h10
        have g8 : f 8 = _ := h8
        refine tab_yes g8 fun K Q hK => ?_
        simp only [puts, List.foldr_cons, List.foldr_nil, List.setIfInBounds_toArray, List.set_cons_succ, List.set_cons_zero, g9, g10, g8]
        go_step
        go_at_call 22
        refine (isLinear_any _ _ _ _ (he7.later hC) (tab_later hT7 hC) (hl7.later hC)).mono ?_
        rintro e w' ⟨rfl, hb⟩
        rw [Hu.out]
        exact fam_fin hK rfl rfl hb (hC.trans (hb.mono hC.size))
      · -- 12: Op.load 24 (Operand.tmp 2)
        obtain ⟨h8, -⟩ := hh
        have g8 : f 8 = _ := h8
        refine tab_yes g8 fun K Q hK => ?_
        simp only [puts, List.foldr_cons, List.foldr_nil, List.setIfInBounds_toArray, List.set_cons_succ, List.set_cons_zero, g8]
        obtain ⟨⟨r0, r1⟩, o0, o1⟩ := HBO.out W (hb57.trans (hC.mono hb57.size))
        go_step
        refine fam_ex hK rfl rfl (by simp only [Act.put, List.setIfInBounds_toArray, List.set_cons_succ, List.set_cons_zero, Array.getD_eq_getD_getElem?, List.getElem?_toArray, List.getElem?_cons_succ, List.getElem?_cons_zero, Option.getD_some] <;> rfl) rfl (Below.refl _ _) hC
      · -- 13: Op.move (Operand.tmp 1)
        obtain ⟨h8, -⟩ := hh
        have g8 : f 8 = _ := h8
        refine tab_yes g8 fun K Q hK => ?_
        simp only [puts, List.foldr_cons, List.foldr_nil, List.setIfInBounds_toArray, List.set_cons_succ, List.set_cons_zero, g8]
        go_step
        refine fam_ex hK rfl rfl (by simp only [Act.put, List.setIfInBounds_toArray, List.set_cons_succ, List.set_cons_zero, Array.getD_eq_getD_getElem?, List.getElem?_toArray, List.getElem?_cons_succ, List.getElem?_cons_zero, Option.getD_some] <;> rfl) rfl (Below.refl _ _) hC
      · -- 14: Op.call { callee := Callee.value (Operand.func 23), args := #[Operand.tmp 46, Operand.tmp 
        obtain ⟨h12, h13, h11, h8, -⟩ := hh
        have g12 : f 12 = _ := h12
        have g13 : f 13 = _ := h13
        have g11 : f 11 = _ := h11
        have g8 : f 8 = _ := h8
        refine tab_yes g8 fun K Q hK => ?_
        simp only [puts, List.foldr_cons, List.foldr_nil, List.setIfInBounds_toArray, List.set_cons_succ, List.set_cons_zero, g12, g13, g11, g8]
        go_step
        go_at_call 23
        refine (refIsLinear_any _ _ _ _ (he7.later hC) hcap63 (hl7.later hC)).mono ?_
        rintro e w' ⟨rfl, hb⟩
        rw [Hu.out]
        exact fam_fin hK rfl rfl hb (hC.trans (hb.mono hC.size))
      · -- 15: Op.binOp BinOp.eql 4 (Operand.tmp 45) (Operand.tmp 48) 4
        obtain ⟨h11, h14, h8, -⟩ := hh
        have g11 : f 11 = _ := h11
        have g14 : f 14 = _ := h14
        have g8 : f 8 = _ := h8
        refine tab_yes g8 fun K Q hK => ?_
        simp only [puts, List.foldr_cons, List.foldr_nil, List.setIfInBounds_toArray, List.set_cons_succ, List.set_cons_zero, g11, g14, g8]
        go_step
        refine fam_ex hK rfl rfl (by simp only [Act.put, List.setIfInBounds_toArray, List.set_cons_succ, List.set_cons_zero, Array.getD_eq_getD_getElem?, List.getElem?_toArray, List.getElem?_cons_succ, List.getElem?_cons_zero, Option.getD_some] <;> rfl) rfl (Below.refl _ _) hC
      · -- 16: Op.pick (Operand.tmp 42) (Operand.tmp 49) (Operand.const (Value.bool false))
        obtain ⟨h8, h15, -⟩ := hh
        have g8 : f 8 = _ := h8
        have g15 : f 15 = _ := h15
        refine tab_plain fun K Q hK => ?_
        simp only [puts, List.foldr_cons, List.foldr_nil, List.setIfInBounds_toArray, List.set_cons_succ, List.set_cons_zero, g8, g15]
        go_step
        refine fam_ex hK rfl rfl (by simp only [Act.put, List.setIfInBounds_toArray, List.set_cons_succ, List.set_cons_zero, Array.getD_eq_getD_getElem?, List.getElem?_toArray, List.getElem?_cons_succ, List.getElem?_cons_zero, Option.getD_some] <;> rfl) rfl (Below.refl _ _) hC
      · -- 17: Op.move (Operand.tmp 50)
        obtain ⟨h16, h14, -⟩ := hh
        have g16 : f 16 = _ := h16
        have g14 : f 14 = _ := h14
        refine tab_plain fun K Q hK => ?_
        simp only [puts, List.foldr_cons, List.foldr_nil, List.setIfInBounds_toArray, List.set_cons_succ, List.set_cons_zero, g16, g14]
        go_step
        refine fam_ex hK rfl rfl (by simp only [Act.put, List.setIfInBounds_toArray, List.set_cons_succ, List.set_cons_zero, Array.getD_eq_getD_getElem?, List.getElem?_toArray, List.getElem?_cons_succ, List.getElem?_cons_zero, Option.getD_some] <;> rfl) rfl (Below.refl _ _) hC
      · -- 18: Op.load 27 (Operand.tmp 5)
        obtain ⟨h17, -⟩ := hh
        have g17 : f 17 = _ := h17
        refine tab_yes g17 fun K Q hK => ?_
        simp only [puts, List.foldr_cons, List.foldr_nil, List.setIfInBounds_toArray, List.set_cons_succ, List.set_cons_zero, g17]
        obtain ⟨⟨r0, r1⟩, o0, o1⟩ := HBO.out W (hb57.trans (hC.mono hb57.size))
        go_step
        refine fam_ex hK rfl rfl (by simp only [Act.put, List.setIfInBounds_toArray, List.set_cons_succ, List.set_cons_zero, Array.getD_eq_getD_getElem?, List.getElem?_toArray, List.getElem?_cons_succ, List.getElem?_cons_zero, Option.getD_some] <;> rfl) rfl (Below.refl _ _) hC
      · -- 19: Op.move (Operand.tmp 1)
        obtain ⟨h17, -⟩ := hh
        have g17 : f 17 = _ := h17
        refine tab_yes g17 fun K Q hK => ?_
        simp only [puts, List.foldr_cons, List.foldr_nil, List.setIfInBounds_toArray, List.set_cons_succ, List.set_cons_zero, g17]
        go_step
        refine fam_ex hK rfl rfl (by simp only [Act.put, List.setIfInBounds_toArray, List.set_cons_succ, List.set_cons_zero, Array.getD_eq_getD_getElem?, List.getElem?_toArray, List.getElem?_cons_succ, List.getElem?_cons_zero, Option.getD_some] <;> rfl) rfl (Below.refl _ _) hC
      · -- 20: Op.call { callee := Callee.value (Operand.func 24), args := #[Operand.tmp 52, Operand.tmp 
        obtain ⟨h18, h19, h17, _, -⟩ := hh
        have g18 : f 18 = _ := h18
        have g19 : f 19 = _ := h19
        have g17 : f 17 = _ := h17
        refine tab_yes g17 fun K Q hK => ?_
        simp only [puts, List.foldr_cons, List.foldr_nil, List.setIfInBounds_toArray, List.set_cons_succ, List.set_cons_zero, g18, g19, g17]
        go_step
        go_at_call 24
        refine (cut_any _ _ _ _ (he7.later hC) (tab_later hT7 hC) (hl7.later hC)).mono ?_
        rintro e w' ⟨rfl, hb⟩
        rw [Hv.out]
        exact fam_fin hK rfl rfl hb (hC.trans (hb.mono hC.size))
      · -- 21: Op.load 24 (Operand.tmp 2)
        obtain ⟨h17, -⟩ := hh
        have g17 : f 17 = _ := h17
        refine tab_yes g17 fun K Q hK => ?_
        simp only [puts, List.foldr_cons, List.foldr_nil, List.setIfInBounds_toArray, List.set_cons_succ, List.set_cons_zero, g17]
        obtain ⟨⟨r0, r1⟩, o0, o1⟩ := HBO.out W (hb57.trans (hC.mono hb57.size))
        go_step
        refine fam_ex hK rfl rfl (by simp only [Act.put, List.setIfInBounds_toArray, List.set_cons_succ, List.set_cons_zero, Array.getD_eq_getD_getElem?, List.getElem?_toArray, List.getElem?_cons_succ, List.getElem?_cons_zero, Option.getD_some] <;> rfl) rfl (Below.refl _ _) hC
      · -- 22: Op.move (Operand.tmp 1)
        obtain ⟨h17, -⟩ := hh
        have g17 : f 17 = _ := h17
        refine tab_yes g17 fun K Q hK => ?_
        simp only [puts, List.foldr_cons, List.foldr_nil, List.setIfInBounds_toArray, List.set_cons_succ, List.set_cons_zero, g17]
        go_step
        refine fam_ex hK rfl rfl (by simp only [Act.put, List.setIfInBounds_toArray, List.set_cons_succ, List.set_cons_zero, Array.getD_eq_getD_getElem?, List.getElem?_toArray, List.getElem?_cons_succ, List.getElem?_cons_zero, Option.getD_some] <;> rfl) rfl (Below.refl _ _) hC
      · -- 23: Op.call { callee := Callee.value (Operand.func 25), args := #[Operand.tmp 55, Operand.tmp 
        obtain ⟨h21, h22, h20, h17, -⟩ := hh
        have g21 : f 21 = _ := h21
        have g22 : f 22 = _ := h22
        have g20 : f 20 = _ := h20
        have g17 : f 17 = _ := h17
        refine tab_yes g17 fun K Q hK => ?_
        simp only [puts, List.foldr_cons, List.foldr_nil, List.setIfInBounds_toArray, List.set_cons_succ, List.set_cons_zero, g21, g22, g20, g17]
        go_step
        go_at_call 25
        refine (refCut_any _ _ _ _ (he7.later hC) hcap63 (hl7.later hC)).mono ?_
        rintro e w' ⟨rfl, hb⟩
        rw [Hv.out]
        exact fam_fin hK rfl rfl hb (hC.trans (hb.mono hC.size))
      · -- 24: Op.binOp BinOp.eql 4 (Operand.tmp 54) (Operand.tmp 57) 4
        obtain ⟨h20, h23, h17, -⟩ := hh
        have g20 : f 20 = _ := h20
        have g23 : f 23 = _ := h23
        have g17 : f 17 = _ := h17
        refine tab_yes g17 fun K Q hK => ?_
        simp only [puts, List.foldr_cons, List.foldr_nil, List.setIfInBounds_toArray, List.set_cons_succ, List.set_cons_zero, g20, g23, g17]
        go_step
        refine fam_ex hK rfl rfl (by simp only [Act.put, List.setIfInBounds_toArray, List.set_cons_succ, List.set_cons_zero, Array.getD_eq_getD_getElem?, List.getElem?_toArray, List.getElem?_cons_succ, List.getElem?_cons_zero, Option.getD_some] <;> rfl) rfl (Below.refl _ _) hC
      · -- 25: Op.pick (Operand.tmp 51) (Operand.tmp 58) (Operand.const (Value.bool false))
        obtain ⟨h17, h24, -⟩ := hh
        have g17 : f 17 = _ := h17
        have g24 : f 24 = _ := h24
        refine tab_plain fun K Q hK => ?_
        simp only [puts, List.foldr_cons, List.foldr_nil, List.setIfInBounds_toArray, List.set_cons_succ, List.set_cons_zero, g17, g24]
        go_step
        refine fam_ex hK rfl rfl (by simp only [Act.put, List.setIfInBounds_toArray, List.set_cons_succ, List.set_cons_zero, Array.getD_eq_getD_getElem?, List.getElem?_toArray, List.getElem?_cons_succ, List.getElem?_cons_zero, Option.getD_some] <;> rfl) rfl (Below.refl _ _) hC
      · -- 26: Op.assign (Operand.tmp 59)
        obtain ⟨h25, h23, h0, h1, h2, h3, h4, h5, h6, h7, h8, h9, h10, h11, h12, h13, h14, h15, h16, h17, h18, h19, h20, h21, h22, _, h24, _, -⟩ := hh
        have g25 : f 25 = _ := h25
        have g23 : f 23 = _ := h23
        have g0 : f 0 = _ := h0
        have g1 : f 1 = _ := h1
        have g2 : f 2 = _ := h2
        have g3 : f 3 = _ := h3
        have g4 : f 4 = _ := h4
        have g5 : f 5 = _ := h5
        have g6 : f 6 = _ := h6
        have g7 : f 7 = _ := h7
        have g8 : f 8 = _ := h8
        have g9 : f 9 = _ := h9
        have g10 : f 10 = _ := h10
        have g11 : f 11 = _ := h11
        have g12 : f 12 = _ := h12
        have g13 : f 13 = _ := h13
        have g14 : f 14 = _ := h14
        have g15 : f 15 = _ := h15
        have g16 : f 16 = _ := h16
        have g17 : f 17 = _ := h17
        have g18 : f 18 = _ := h18
        have g19 : f 19 = _ := h19
        have g20 : f 20 = _ := h20
        have g21 : f 21 = _ := h21
        have g22 : f 22 = _ := h22
        have g24 : f 24 = _ := h24
        refine tab_plain fun K Q hK => ?_
        simp only [puts, List.foldr_cons, List.foldr_nil, List.setIfInBounds_toArray, List.set_cons_succ, List.set_cons_zero, g25, g23, g0, g1, g2, g3, g4, g5, g6, g7, g8, g9, g10, g11, g12, g13, g14, g15, g16, g17, g18, g19, g20, g21, g22, g24]
        go_step
        refine fam_ex hK rfl rfl (by simp only [Act.put, List.setIfInBounds_toArray, List.set_cons_succ, List.set_cons_zero, Array.getD_eq_getD_getElem?, List.getElem?_toArray, List.getElem?_cons_succ, List.getElem?_cons_zero, Option.getD_some] <;> rfl) rfl (Below.refl _ _) hC
    case prest =>
      intro f W2 hC hh
      obtain ⟨h0, h1, h2, h3, h4, h5, h6, h7, h8, h9, h10, h11, h12, h13, h14, h15, h16, h17, h18, h19, h20, h21, h22, h23, h24, h25, h26, -⟩ := hh
      have g0 : f 0 = _ := h0
      have g1 : f 1 = _ := h1
      have g2 : f 2 = _ := h2
      have g3 : f 3 = _ := h3
      have g4 : f 4 = _ := h4
      have g5 : f 5 = _ := h5
      have g6 : f 6 = _ := h6
      have g7 : f 7 = _ := h7
      have g8 : f 8 = _ := h8
      have g9 : f 9 = _ := h9
      have g10 : f 10 = _ := h10
      have g11 : f 11 = _ := h11
      have g12 : f 12 = _ := h12
      have g13 : f 13 = _ := h13
      have g14 : f 14 = _ := h14
      have g15 : f 15 = _ := h15
      have g16 : f 16 = _ := h16
      have g17 : f 17 = _ := h17
      have g18 : f 18 = _ := h18
      have g19 : f 19 = _ := h19
      have g20 : f 20 = _ := h20
      have g21 : f 21 = _ := h21
      have g22 : f 22 = _ := h22
      have g23 : f 23 = _ := h23
      have g24 : f 24 = _ := h24
      have g25 : f 25 = _ := h25
      have g26 : f 26 = _ := h26
      simp only [puts, List.foldr_cons, List.foldr_nil, List.setIfInBounds_toArray, List.set_cons_succ, List.set_cons_zero, g0, g1, g2, g3, g4, g5, g6, g7, g8, g9, g10, g11, g12, g13, g14, g15, g16, g17, g18, g19, g20, g21, g22, g23, g24, g25, g26]
      clear h0 h1 h2 h3 h4 h5 h6 h7 h8 h9 h10 h11 h12 h13 h14 h15 h16 h17 h18 h19 h20 h21 h22 h23 h24 h25 h26 g0 g1 g2 g3 g4 g5 g6 g7 g8 g9 g10 g11 g12 g13 g14 g15 g16 g17 g18 g19 g20 g21 g22 g23 g24 g25 g26
      go_wp2
      go_ret
      exact ⟨rfl, hb07.trans (hC.mono hb07.size)⟩
  · go_wp2_with (fail)
    go_at_call 19
    refine (linear_no he5 hT5 hval).mono ?_
    rintro e w6 ⟨rfl, hb6⟩
    clear r0 r1 o0 o1
    obtain ⟨⟨r0, r1⟩, o0, o1⟩ := HBO.out _ hb6
    go_wp2_with (fail)
    go_at_call 20
    refine (refLinear_no (he5.later hb6) hcap63 hval).mono ?_
    rintro e w7 ⟨rfl, hb7⟩
    clear hval
    have hI1 : IsInts .i64 w7 none 0 0 [] := .inl ⟨rfl, rfl, rfl, rfl⟩
    have hI2 := hI1
    have hb57 := hb6.trans (hb7.mono hb6.size)
    have hb07 := hb05.trans (hb57.mono hb05.size)
    have hT7 := tab_later hT5 hb57
    have he7 := he5.later hb57
    have hl7 := hl.later hb07
    clear r0 r1 o0 o1
    obtain ⟨⟨r0, r1⟩, o0, o1⟩ := HBO.out _ hb57
    go_wp2_with (fail)
    refine wp_region_grow mixed (by kernel_rfl) [[], [], [(0, 34), (1, 35)], [(2, 36)], [(3, 37)], [(3, 37)], [(4, 38), (5, 39), (3, 37), (3, 37)], [(3, 37), (6, 40)], [(7, 41), (6, 40)], [(8, 42)], [(8, 42)], [(9, 43), (10, 44), (8, 42), (8, 42)], [(8, 42)], [(8, 42)], [(12, 46), (13, 47), (11, 45), (8, 42)], [(11, 45), (14, 48), (8, 42)], [(8, 42), (15, 49)], [(16, 50), (14, 48)], [(17, 51)], [(17, 51)], [(18, 52), (19, 53), (17, 51), (17, 51)], [(17, 51)], [(17, 51)], [(21, 55), (22, 56), (20, 54), (17, 51)], [(20, 54), (23, 57), (17, 51)], [(17, 51), (24, 58)], [(25, 59), (23, 57), (0, 34), (1, 35), (2, 36), (3, 37), (4, 38), (5, 39), (6, 40), (7, 41), (8, 42), (9, 43), (10, 44), (11, 45), (12, 46), (13, 47), (14, 48), (15, 49), (16, 50), (17, 51), (18, 52), (19, 53), (20, 54), (21, 55), (22, 56), (23, 57), (24, 58), (25, 59)]] [(0, 34), (1, 35), (2, 36), (3, 37), (4, 38), (5, 39), (6, 40), (7, 41), (8, 42), (9, 43), (10, 44), (11, 45), (12, 46), (13, 47), (14, 48), (15, 49), (16, 50), (17, 51), (18, 52), (19, 53), (20, 54), (21, 55), (22, 56), (23, 57), (24, 58), (25, 59), (26, 4)] rfl rfl [Ex ?eq0, Ex ?eq1, Ex ?eq2, Ex ?eq3, Ex ?eq4, Ex ?eq5, Ex (.bool true), Ex ?eq7, Ex ?eq8, Ex ?eq9, Ex ?eq10, Ex (.bool u), Ex ?eq12, Ex ?eq13, Ex (.bool u), Ex ?eq15, Ex ?eq16, Ex ?eq17, Ex ?eq18, Ex ?eq19, Ex (.bool v), Ex ?eq21, Ex ?eq22, Ex (.bool v), Ex ?eq24, Ex ?eq25, Ex ?eq26] ⟨stays_ex _, stays_ex _, stays_ex _, stays_ex _, stays_ex _, stays_ex _, stays_ex _, stays_ex _, stays_ex _, stays_ex _, stays_ex _, stays_ex _, stays_ex _, stays_ex _, stays_ex _, stays_ex _, stays_ex _, stays_ex _, stays_ex _, stays_ex _, stays_ex _, stays_ex _, stays_ex _, stays_ex _, stays_ex _, stays_ex _, stays_ex _, trivial⟩ ?qsteps ?qrest
    case qsteps =>
      refine ⟨fun f W hC hh => ?_, fun f W hC hh => ?_, fun f W hC hh => ?_, fun f W hC hh => ?_, fun f W hC hh => ?_, fun f W hC hh => ?_, fun f W hC hh => ?_, fun f W hC hh => ?_, fun f W hC hh => ?_, fun f W hC hh => ?_, fun f W hC hh => ?_, fun f W hC hh => ?_, fun f W hC hh => ?_, fun f W hC hh => ?_, fun f W hC hh => ?_, fun f W hC hh => ?_, fun f W hC hh => ?_, fun f W hC hh => ?_, fun f W hC hh => ?_, fun f W hC hh => ?_, fun f W hC hh => ?_, fun f W hC hh => ?_, fun f W hC hh => ?_, fun f W hC hh => ?_, fun f W hC hh => ?_, fun f W hC hh => ?_, fun f W hC hh => ?_, trivial⟩
      · -- 0: Op.move (Operand.tmp 7)
        refine tab_plain fun K Q hK => ?_
        simp only [puts, List.foldr_nil]
        go_step
        refine fam_ex hK rfl rfl (by simp only [Act.put, List.setIfInBounds_toArray, List.set_cons_succ, List.set_cons_zero, Array.getD_eq_getD_getElem?, List.getElem?_toArray, List.getElem?_cons_succ, List.getElem?_cons_zero, Option.getD_some] <;> rfl) rfl (Below.refl _ _) hC
      · -- 1: Op.move (Operand.tmp 9)
        refine tab_plain fun K Q hK => ?_
        simp only [puts, List.foldr_nil]
        go_step
        refine fam_ex hK rfl rfl (by simp only [Act.put, List.setIfInBounds_toArray, List.set_cons_succ, List.set_cons_zero, Array.getD_eq_getD_getElem?, List.getElem?_toArray, List.getElem?_cons_succ, List.getElem?_cons_zero, Option.getD_some] <;> rfl) rfl (Below.refl _ _) hC
      · -- 2: Op.binOp BinOp.eql 32 (Operand.tmp 34) (Operand.tmp 35) 32
        obtain ⟨h0, h1, -⟩ := hh
        have g0 : f 0 = _ := h0
        have g1 : f 1 = _ := h1
        refine tab_plain fun K Q hK => ?_
        simp only [puts, List.foldr_cons, List.foldr_nil, List.setIfInBounds_toArray, List.set_cons_succ, List.set_cons_zero, g0, g1]
        go_step
        refine fam_ex hK rfl rfl (by simp only [Act.put, List.setIfInBounds_toArray, List.set_cons_succ, List.set_cons_zero, Array.getD_eq_getD_getElem?, List.getElem?_toArray, List.getElem?_cons_succ, List.getElem?_cons_zero, Option.getD_some] <;> rfl) rfl (Below.refl _ _) hC
      · -- 3: Op.move (Operand.tmp 36)
        obtain ⟨h2, -⟩ := hh
        have g2 : f 2 = _ := h2
        refine tab_plain fun K Q hK => ?_
        simp only [puts, List.foldr_cons, List.foldr_nil, List.setIfInBounds_toArray, List.set_cons_succ, List.set_cons_zero, g2]
        go_step
        refine fam_ex hK rfl rfl (by simp only [Act.put, List.setIfInBounds_toArray, List.set_cons_succ, List.set_cons_zero, Array.getD_eq_getD_getElem?, List.getElem?_toArray, List.getElem?_cons_succ, List.getElem?_cons_zero, Option.getD_some] <;> rfl) rfl (Below.refl _ _) hC
      · -- 4: Op.move (Operand.tmp 6)
        obtain ⟨h3, -⟩ := hh
        have g3 : f 3 = _ := h3
        refine tab_yes g3 fun K Q hK => ?_
        simp only [puts, List.foldr_cons, List.foldr_nil, List.setIfInBounds_toArray, List.set_cons_succ, List.set_cons_zero, g3]
        go_step
        refine fam_ex hK rfl rfl (by simp only [Act.put, List.setIfInBounds_toArray, List.set_cons_succ, List.set_cons_zero, Array.getD_eq_getD_getElem?, List.getElem?_toArray, List.getElem?_cons_succ, List.getElem?_cons_zero, Option.getD_some] <;> rfl) rfl (Below.refl _ _) hC
      · -- 5: Op.move (Operand.tmp 8)
        obtain ⟨h3, -⟩ := hh
        have g3 : f 3 = _ := h3
        refine tab_yes g3 fun K Q hK => ?_
        simp only [puts, List.foldr_cons, List.foldr_nil, List.setIfInBounds_toArray, List.set_cons_succ, List.set_cons_zero, g3]
        go_step
        refine fam_ex hK rfl rfl (by simp only [Act.put, List.setIfInBounds_toArray, List.set_cons_succ, List.set_cons_zero, Array.getD_eq_getD_getElem?, List.getElem?_toArray, List.getElem?_cons_succ, List.getElem?_cons_zero, Option.getD_some] <;> rfl) rfl (Below.refl _ _) hC
      · -- 6: Op.call { callee := Callee.value (Operand.func 21), args := #[Operand.tmp 38, Operand.tmp 
        obtain ⟨h4, h5, h3, _, -⟩ := hh
        have g4 : f 4 = _ := h4
        have g5 : f 5 = _ := h5
        have g3 : f 3 = _ := h3
        refine tab_yes g3 fun K Q hK => ?_
        simp only [puts, List.foldr_cons, List.foldr_nil, List.setIfInBounds_toArray, List.set_cons_succ, List.set_cons_zero, g4, g5, g3]
        go_step
        go_at_call 21
        refine (refSame_self (hI1.later hC) (hI2.later hC)).mono ?_
        rintro e w' ⟨rfl, hb⟩
        exact fam_fin hK rfl rfl hb (hC.trans (hb.mono hC.size))
      · -- 7: Op.pick (Operand.tmp 37) (Operand.tmp 40) (Operand.const (Value.bool false))
        obtain ⟨h3, h6, -⟩ := hh
        have g3 : f 3 = _ := h3
        have g6 : f 6 = _ := h6
        refine tab_plain fun K Q hK => ?_
        simp only [puts, List.foldr_cons, List.foldr_nil, List.setIfInBounds_toArray, List.set_cons_succ, List.set_cons_zero, g3, g6]
        go_step
        refine fam_ex hK rfl rfl (by simp only [Act.put, List.setIfInBounds_toArray, List.set_cons_succ, List.set_cons_zero, Array.getD_eq_getD_getElem?, List.getElem?_toArray, List.getElem?_cons_succ, List.getElem?_cons_zero, Option.getD_some] <;> rfl) rfl (Below.refl _ _) hC
      · -- 8: Op.move (Operand.tmp 41)
        obtain ⟨h7, h6, -⟩ := hh
        have g7 : f 7 = _ := h7
        have g6 : f 6 = _ := h6
        refine tab_plain fun K Q hK => ?_
        simp only [puts, List.foldr_cons, List.foldr_nil, List.setIfInBounds_toArray, List.set_cons_succ, List.set_cons_zero, g7, g6]
        go_step
        refine fam_ex hK rfl rfl (by simp only [Act.put, List.setIfInBounds_toArray, List.set_cons_succ, List.set_cons_zero, Array.getD_eq_getD_getElem?, List.getElem?_toArray, List.getElem?_cons_succ, List.getElem?_cons_zero, Option.getD_some] <;> rfl) rfl (Below.refl _ _) hC
      · -- 9: Op.load 27 (Operand.tmp 5)
        obtain ⟨h8, -⟩ := hh
        have g8 : f 8 = _ := h8
        refine tab_yes g8 fun K Q hK => ?_
        simp only [puts, List.foldr_cons, List.foldr_nil, List.setIfInBounds_toArray, List.set_cons_succ, List.set_cons_zero, g8]
        obtain ⟨⟨r0, r1⟩, o0, o1⟩ := HBO.out W (hb57.trans (hC.mono hb57.size))
        go_step
        refine fam_ex hK rfl rfl (by simp only [Act.put, List.setIfInBounds_toArray, List.set_cons_succ, List.set_cons_zero, Array.getD_eq_getD_getElem?, List.getElem?_toArray, List.getElem?_cons_succ, List.getElem?_cons_zero, Option.getD_some] <;> rfl) rfl (Below.refl _ _) hC
      · -- 10: Op.move (Operand.tmp 1)
        obtain ⟨h8, -⟩ := hh
        have g8 : f 8 = _ := h8
        refine tab_yes g8 fun K Q hK => ?_
        simp only [puts, List.foldr_cons, List.foldr_nil, List.setIfInBounds_toArray, List.set_cons_succ, List.set_cons_zero, g8]
        go_step
        refine fam_ex hK rfl rfl (by simp only [Act.put, List.setIfInBounds_toArray, List.set_cons_succ, List.set_cons_zero, Array.getD_eq_getD_getElem?, List.getElem?_toArray, List.getElem?_cons_succ, List.getElem?_cons_zero, Option.getD_some] <;> rfl) rfl (Below.refl _ _) hC
      · -- 11: Op.call { callee := Callee.value (Operand.func 22), args := #[Operand.tmp 43, Operand.tmp 
        obtain ⟨h9, h10, h8, _, -⟩ := hh
        have g9 : f 9 = _ := h9
        have g10 : f 10 = _ := h10
        have g8 : f 8 = _ := h8
        refine tab_yes g8 fun K Q hK => ?_
        simp only [puts, List.foldr_cons, List.foldr_nil, List.setIfInBounds_toArray, List.set_cons_succ, List.set_cons_zero, g9, g10, g8]
        go_step
        go_at_call 22
        refine (isLinear_any _ _ _ _ (he7.later hC) (tab_later hT7 hC) (hl7.later hC)).mono ?_
        rintro e w' ⟨rfl, hb⟩
        rw [Hu.out]
        exact fam_fin hK rfl rfl hb (hC.trans (hb.mono hC.size))
      · -- 12: Op.load 24 (Operand.tmp 2)
        obtain ⟨h8, -⟩ := hh
        have g8 : f 8 = _ := h8
        refine tab_yes g8 fun K Q hK => ?_
        simp only [puts, List.foldr_cons, List.foldr_nil, List.setIfInBounds_toArray, List.set_cons_succ, List.set_cons_zero, g8]
        obtain ⟨⟨r0, r1⟩, o0, o1⟩ := HBO.out W (hb57.trans (hC.mono hb57.size))
        go_step
        refine fam_ex hK rfl rfl (by simp only [Act.put, List.setIfInBounds_toArray, List.set_cons_succ, List.set_cons_zero, Array.getD_eq_getD_getElem?, List.getElem?_toArray, List.getElem?_cons_succ, List.getElem?_cons_zero, Option.getD_some] <;> rfl) rfl (Below.refl _ _) hC
      · -- 13: Op.move (Operand.tmp 1)
        obtain ⟨h8, -⟩ := hh
        have g8 : f 8 = _ := h8
        refine tab_yes g8 fun K Q hK => ?_
        simp only [puts, List.foldr_cons, List.foldr_nil, List.setIfInBounds_toArray, List.set_cons_succ, List.set_cons_zero, g8]
        go_step
        refine fam_ex hK rfl rfl (by simp only [Act.put, List.setIfInBounds_toArray, List.set_cons_succ, List.set_cons_zero, Array.getD_eq_getD_getElem?, List.getElem?_toArray, List.getElem?_cons_succ, List.getElem?_cons_zero, Option.getD_some] <;> rfl) rfl (Below.refl _ _) hC
      · -- 14: Op.call { callee := Callee.value (Operand.func 23), args := #[Operand.tmp 46, Operand.tmp 
        obtain ⟨h12, h13, h11, h8, -⟩ := hh
        have g12 : f 12 = _ := h12
        have g13 : f 13 = _ := h13
        have g11 : f 11 = _ := h11
        have g8 : f 8 = _ := h8
        refine tab_yes g8 fun K Q hK => ?_
        simp only [puts, List.foldr_cons, List.foldr_nil, List.setIfInBounds_toArray, List.set_cons_succ, List.set_cons_zero, g12, g13, g11, g8]
        go_step
        go_at_call 23
        refine (refIsLinear_any _ _ _ _ (he7.later hC) hcap63 (hl7.later hC)).mono ?_
        rintro e w' ⟨rfl, hb⟩
        rw [Hu.out]
        exact fam_fin hK rfl rfl hb (hC.trans (hb.mono hC.size))
      · -- 15: Op.binOp BinOp.eql 4 (Operand.tmp 45) (Operand.tmp 48) 4
        obtain ⟨h11, h14, h8, -⟩ := hh
        have g11 : f 11 = _ := h11
        have g14 : f 14 = _ := h14
        have g8 : f 8 = _ := h8
        refine tab_yes g8 fun K Q hK => ?_
        simp only [puts, List.foldr_cons, List.foldr_nil, List.setIfInBounds_toArray, List.set_cons_succ, List.set_cons_zero, g11, g14, g8]
        go_step
        refine fam_ex hK rfl rfl (by simp only [Act.put, List.setIfInBounds_toArray, List.set_cons_succ, List.set_cons_zero, Array.getD_eq_getD_getElem?, List.getElem?_toArray, List.getElem?_cons_succ, List.getElem?_cons_zero, Option.getD_some] <;> rfl) rfl (Below.refl _ _) hC
      · -- 16: Op.pick (Operand.tmp 42) (Operand.tmp 49) (Operand.const (Value.bool false))
        obtain ⟨h8, h15, -⟩ := hh
        have g8 : f 8 = _ := h8
        have g15 : f 15 = _ := h15
        refine tab_plain fun K Q hK => ?_
        simp only [puts, List.foldr_cons, List.foldr_nil, List.setIfInBounds_toArray, List.set_cons_succ, List.set_cons_zero, g8, g15]
        go_step
        refine fam_ex hK rfl rfl (by simp only [Act.put, List.setIfInBounds_toArray, List.set_cons_succ, List.set_cons_zero, Array.getD_eq_getD_getElem?, List.getElem?_toArray, List.getElem?_cons_succ, List.getElem?_cons_zero, Option.getD_some] <;> rfl) rfl (Below.refl _ _) hC
      · -- 17: Op.move (Operand.tmp 50)
        obtain ⟨h16, h14, -⟩ := hh
        have g16 : f 16 = _ := h16
        have g14 : f 14 = _ := h14
        refine tab_plain fun K Q hK => ?_
        simp only [puts, List.foldr_cons, List.foldr_nil, List.setIfInBounds_toArray, List.set_cons_succ, List.set_cons_zero, g16, g14]
        go_step
        refine fam_ex hK rfl rfl (by simp only [Act.put, List.setIfInBounds_toArray, List.set_cons_succ, List.set_cons_zero, Array.getD_eq_getD_getElem?, List.getElem?_toArray, List.getElem?_cons_succ, List.getElem?_cons_zero, Option.getD_some] <;> rfl) rfl (Below.refl _ _) hC
      · -- 18: Op.load 27 (Operand.tmp 5)
        obtain ⟨h17, -⟩ := hh
        have g17 : f 17 = _ := h17
        refine tab_yes g17 fun K Q hK => ?_
        simp only [puts, List.foldr_cons, List.foldr_nil, List.setIfInBounds_toArray, List.set_cons_succ, List.set_cons_zero, g17]
        obtain ⟨⟨r0, r1⟩, o0, o1⟩ := HBO.out W (hb57.trans (hC.mono hb57.size))
        go_step
        refine fam_ex hK rfl rfl (by simp only [Act.put, List.setIfInBounds_toArray, List.set_cons_succ, List.set_cons_zero, Array.getD_eq_getD_getElem?, List.getElem?_toArray, List.getElem?_cons_succ, List.getElem?_cons_zero, Option.getD_some] <;> rfl) rfl (Below.refl _ _) hC
      · -- 19: Op.move (Operand.tmp 1)
        obtain ⟨h17, -⟩ := hh
        have g17 : f 17 = _ := h17
        refine tab_yes g17 fun K Q hK => ?_
        simp only [puts, List.foldr_cons, List.foldr_nil, List.setIfInBounds_toArray, List.set_cons_succ, List.set_cons_zero, g17]
        go_step
        refine fam_ex hK rfl rfl (by simp only [Act.put, List.setIfInBounds_toArray, List.set_cons_succ, List.set_cons_zero, Array.getD_eq_getD_getElem?, List.getElem?_toArray, List.getElem?_cons_succ, List.getElem?_cons_zero, Option.getD_some] <;> rfl) rfl (Below.refl _ _) hC
      · -- 20: Op.call { callee := Callee.value (Operand.func 24), args := #[Operand.tmp 52, Operand.tmp 
        obtain ⟨h18, h19, h17, _, -⟩ := hh
        have g18 : f 18 = _ := h18
        have g19 : f 19 = _ := h19
        have g17 : f 17 = _ := h17
        refine tab_yes g17 fun K Q hK => ?_
        simp only [puts, List.foldr_cons, List.foldr_nil, List.setIfInBounds_toArray, List.set_cons_succ, List.set_cons_zero, g18, g19, g17]
        go_step
        go_at_call 24
        refine (cut_any _ _ _ _ (he7.later hC) (tab_later hT7 hC) (hl7.later hC)).mono ?_
        rintro e w' ⟨rfl, hb⟩
        rw [Hv.out]
        exact fam_fin hK rfl rfl hb (hC.trans (hb.mono hC.size))
      · -- 21: Op.load 24 (Operand.tmp 2)
        obtain ⟨h17, -⟩ := hh
        have g17 : f 17 = _ := h17
        refine tab_yes g17 fun K Q hK => ?_
        simp only [puts, List.foldr_cons, List.foldr_nil, List.setIfInBounds_toArray, List.set_cons_succ, List.set_cons_zero, g17]
        obtain ⟨⟨r0, r1⟩, o0, o1⟩ := HBO.out W (hb57.trans (hC.mono hb57.size))
        go_step
        refine fam_ex hK rfl rfl (by simp only [Act.put, List.setIfInBounds_toArray, List.set_cons_succ, List.set_cons_zero, Array.getD_eq_getD_getElem?, List.getElem?_toArray, List.getElem?_cons_succ, List.getElem?_cons_zero, Option.getD_some] <;> rfl) rfl (Below.refl _ _) hC
      · -- 22: Op.move (Operand.tmp 1)
        obtain ⟨h17, -⟩ := hh
        have g17 : f 17 = _ := h17
        refine tab_yes g17 fun K Q hK => ?_
        simp only [puts, List.foldr_cons, List.foldr_nil, List.setIfInBounds_toArray, List.set_cons_succ, List.set_cons_zero, g17]
        go_step
        refine fam_ex hK rfl rfl (by simp only [Act.put, List.setIfInBounds_toArray, List.set_cons_succ, List.set_cons_zero, Array.getD_eq_getD_getElem?, List.getElem?_toArray, List.getElem?_cons_succ, List.getElem?_cons_zero, Option.getD_some] <;> rfl) rfl (Below.refl _ _) hC
      · -- 23: Op.call { callee := Callee.value (Operand.func 25), args := #[Operand.tmp 55, Operand.tmp 
        obtain ⟨h21, h22, h20, h17, -⟩ := hh
        have g21 : f 21 = _ := h21
        have g22 : f 22 = _ := h22
        have g20 : f 20 = _ := h20
        have g17 : f 17 = _ := h17
        refine tab_yes g17 fun K Q hK => ?_
        simp only [puts, List.foldr_cons, List.foldr_nil, List.setIfInBounds_toArray, List.set_cons_succ, List.set_cons_zero, g21, g22, g20, g17]
        go_step
        go_at_call 25
        refine (refCut_any _ _ _ _ (he7.later hC) hcap63 (hl7.later hC)).mono ?_
        rintro e w' ⟨rfl, hb⟩
        rw [Hv.out]
        exact fam_fin hK rfl rfl hb (hC.trans (hb.mono hC.size))
      · -- 24: Op.binOp BinOp.eql 4 (Operand.tmp 54) (Operand.tmp 57) 4
        obtain ⟨h20, h23, h17, -⟩ := hh
        have g20 : f 20 = _ := h20
        have g23 : f 23 = _ := h23
        have g17 : f 17 = _ := h17
        refine tab_yes g17 fun K Q hK => ?_
        simp only [puts, List.foldr_cons, List.foldr_nil, List.setIfInBounds_toArray, List.set_cons_succ, List.set_cons_zero, g20, g23, g17]
        go_step
        refine fam_ex hK rfl rfl (by simp only [Act.put, List.setIfInBounds_toArray, List.set_cons_succ, List.set_cons_zero, Array.getD_eq_getD_getElem?, List.getElem?_toArray, List.getElem?_cons_succ, List.getElem?_cons_zero, Option.getD_some] <;> rfl) rfl (Below.refl _ _) hC
      · -- 25: Op.pick (Operand.tmp 51) (Operand.tmp 58) (Operand.const (Value.bool false))
        obtain ⟨h17, h24, -⟩ := hh
        have g17 : f 17 = _ := h17
        have g24 : f 24 = _ := h24
        refine tab_plain fun K Q hK => ?_
        simp only [puts, List.foldr_cons, List.foldr_nil, List.setIfInBounds_toArray, List.set_cons_succ, List.set_cons_zero, g17, g24]
        go_step
        refine fam_ex hK rfl rfl (by simp only [Act.put, List.setIfInBounds_toArray, List.set_cons_succ, List.set_cons_zero, Array.getD_eq_getD_getElem?, List.getElem?_toArray, List.getElem?_cons_succ, List.getElem?_cons_zero, Option.getD_some] <;> rfl) rfl (Below.refl _ _) hC
      · -- 26: Op.assign (Operand.tmp 59)
        obtain ⟨h25, h23, h0, h1, h2, h3, h4, h5, h6, h7, h8, h9, h10, h11, h12, h13, h14, h15, h16, h17, h18, h19, h20, h21, h22, _, h24, _, -⟩ := hh
        have g25 : f 25 = _ := h25
        have g23 : f 23 = _ := h23
        have g0 : f 0 = _ := h0
        have g1 : f 1 = _ := h1
        have g2 : f 2 = _ := h2
        have g3 : f 3 = _ := h3
        have g4 : f 4 = _ := h4
        have g5 : f 5 = _ := h5
        have g6 : f 6 = _ := h6
        have g7 : f 7 = _ := h7
        have g8 : f 8 = _ := h8
        have g9 : f 9 = _ := h9
        have g10 : f 10 = _ := h10
        have g11 : f 11 = _ := h11
        have g12 : f 12 = _ := h12
        have g13 : f 13 = _ := h13
        have g14 : f 14 = _ := h14
        have g15 : f 15 = _ := h15
        have g16 : f 16 = _ := h16
        have g17 : f 17 = _ := h17
        have g18 : f 18 = _ := h18
        have g19 : f 19 = _ := h19
        have g20 : f 20 = _ := h20
        have g21 : f 21 = _ := h21
        have g22 : f 22 = _ := h22
        have g24 : f 24 = _ := h24
        refine tab_plain fun K Q hK => ?_
        simp only [puts, List.foldr_cons, List.foldr_nil, List.setIfInBounds_toArray, List.set_cons_succ, List.set_cons_zero, g25, g23, g0, g1, g2, g3, g4, g5, g6, g7, g8, g9, g10, g11, g12, g13, g14, g15, g16, g17, g18, g19, g20, g21, g22, g24]
        go_step
        refine fam_ex hK rfl rfl (by simp only [Act.put, List.setIfInBounds_toArray, List.set_cons_succ, List.set_cons_zero, Array.getD_eq_getD_getElem?, List.getElem?_toArray, List.getElem?_cons_succ, List.getElem?_cons_zero, Option.getD_some] <;> rfl) rfl (Below.refl _ _) hC
    case qrest =>
      intro f W2 hC hh
      obtain ⟨h0, h1, h2, h3, h4, h5, h6, h7, h8, h9, h10, h11, h12, h13, h14, h15, h16, h17, h18, h19, h20, h21, h22, h23, h24, h25, h26, -⟩ := hh
      have g0 : f 0 = _ := h0
      have g1 : f 1 = _ := h1
      have g2 : f 2 = _ := h2
      have g3 : f 3 = _ := h3
      have g4 : f 4 = _ := h4
      have g5 : f 5 = _ := h5
      have g6 : f 6 = _ := h6
      have g7 : f 7 = _ := h7
      have g8 : f 8 = _ := h8
      have g9 : f 9 = _ := h9
      have g10 : f 10 = _ := h10
      have g11 : f 11 = _ := h11
      have g12 : f 12 = _ := h12
      have g13 : f 13 = _ := h13
      have g14 : f 14 = _ := h14
      have g15 : f 15 = _ := h15
      have g16 : f 16 = _ := h16
      have g17 : f 17 = _ := h17
      have g18 : f 18 = _ := h18
      have g19 : f 19 = _ := h19
      have g20 : f 20 = _ := h20
      have g21 : f 21 = _ := h21
      have g22 : f 22 = _ := h22
      have g23 : f 23 = _ := h23
      have g24 : f 24 = _ := h24
      have g25 : f 25 = _ := h25
      have g26 : f 26 = _ := h26
      simp only [puts, List.foldr_cons, List.foldr_nil, List.setIfInBounds_toArray, List.set_cons_succ, List.set_cons_zero, g0, g1, g2, g3, g4, g5, g6, g7, g8, g9, g10, g11, g12, g13, g14, g15, g16, g17, g18, g19, g20, g21, g22, g23, g24, g25, g26]
      clear h0 h1 h2 h3 h4 h5 h6 h7 h8 h9 h10 h11 h12 h13 h14 h15 h16 h17 h18 h19 h20 h21 h22 h23 h24 h25 h26 g0 g1 g2 g3 g4 g5 g6 g7 g8 g9 g10 g11 g12 g13 g14 g15 g16 g17 g18 g19 g20 g21 g22 g23 g24 g25 g26
      go_wp2
      go_ret
      exact ⟨rfl, hb07.trans (hC.mono hb07.size)⟩
end Go.Proofs.YtofnbndpoiohhaaDoor
