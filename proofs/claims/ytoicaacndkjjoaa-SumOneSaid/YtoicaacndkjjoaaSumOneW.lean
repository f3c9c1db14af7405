/-
  SumOne: the walk.
-/
import Derived.Test.YtoicaacndkjjoaaSumL
import Derived.OpenShut
import Derived.Test.YtoicaacndkjjoaaOwn
set_option linter.unusedSimpArgs false
set_option linter.unusedVariables false
namespace Go.Proofs.Ytoicaacndkjjoaa
open Go.RowKit

set_option maxHeartbeats 2000000 in
theorem sumOne_walk (sA sB : Int) (a : Option Addr) (len cap : Nat) (zs : List Int) (at' to : Int) (w : World) (hwA : (Lit.int .u64 sA).wf = true) (hwB : (Lit.int .u64 sB).wf = true) (hs : IsInts .u8 w a len cap zs) (hwz : ∀ n ∈ zs, (Lit.int .u8 n).wf = true) (_ : cap * 1 ≤ 140737488351232) (hwa : (Lit.int .u16 at').wf = true) (hwt : (Lit.int .u8 to).wf = true) :
    Calls Try.prog 5 #[.agg #[.int .u64 sA, .int .u64 sB], .slice a len cap, .agg #[.int .u16 at', .int .u8 to]] w fun e w' => e = .returned (.bool true) ∧ Below w.heap.size w w' := by
  have ha : 0 ≤ at' ∧ at' < 65536 := by
    have := bounds_u16 hwa
    omega
  have ht : 0 ≤ to ∧ to < 256 := by
    have := bounds_u8 hwt
    omega
  have hb : Bytes zs := fun n hn => by
    have := bounds_u8 (hwz n hn)
    omega
  obtain ⟨ha0, ha1⟩ := ha
  obtain ⟨W0, hW0⟩ : ∃ W0, (w.alloc (.cells #[.int .u64 sA, .int .u64 sB] 30)).alloc (.cells #[.int .u16 at', .int .u8 to] 33) = W0 := ⟨_, rfl⟩
  obtain ⟨hz0, hb0, hcA, hcB⟩ := box2 _ _ _ _ _ _ hW0
  have hw0 := hwA; have hw1 := hwB
  have hA := bounds_u64 hwA
  have hB := bounds_u64 hwB
  rcases Nat.eq_zero_or_pos len with hz | hpos
  · subst hz
    go_enter Try.func5, Try.ntmps5
    go_wp2_with (go_at_call 10; refine (awake_any W0).mono ?_; rintro e w1 ⟨rfl, hb1⟩)
    go_ret
    exact ⟨rfl, hb0.trans (hb1.mono hb0.size)⟩
  · have hne : ((len : Int) == 0) = false := by simp; omega
    by_cases hlen : len ≤ 600
    · have hd : decide (600 < (len : Int)) = false := decide_eq_false (by omega)
      have hl : zs.length = len := hs.length
      obtain ⟨k, hk, hkl⟩ : ∃ k : Nat, at'.tmod (len : Int) = k ∧ k < len := by
        refine ⟨(at'.tmod (len : Int)).toNat, ?_, ?_⟩
        · have := Int.tmod_nonneg (len : Int) ha0; omega
        · have := Int.tmod_lt_of_pos at' (show (0 : Int) < (len : Int) by omega); omega
      obtain ⟨b1, hq15, hq8⟩ : ∃ b1, (gi zs k == to) = b1 ∧ (fromH sA zs == fromH sA (zs.set k to)) = b1 := by
        refine ⟨_, rfl, ?_⟩
        rw [Bool.eq_iff_iff, beq_iff_eq, beq_iff_eq]
        exact ⟨fun h => fromH_set hb hA.1 (by omega) ht.1 ht.2 (by omega) h.symm, fun h => by rw [set_same (by omega) h]⟩
      obtain ⟨b2, hq31, hq26⟩ : ∃ b2, (sA == sB) = b2 ∧ (fromH sA zs == fromH sB zs) = b2 := by
        refine ⟨_, rfl, ?_⟩
        rw [Bool.eq_iff_iff, beq_iff_eq, beq_iff_eq]
        exact ⟨fun h => fromH_inj_seed hb hA.1 (by omega) hB.1 (by omega) h, fun h => by rw [h]⟩
      have hq16 : (b1 == b1) = true := by simp
      have hq32 : (b2 == b2) = true := by simp
      have hs0 := hs.later hb0
      rcases hs with ⟨_, h0, _⟩ | ⟨b, off, rfl, h1, h2, hz, hc⟩
      · omega
      · have hcb : W0.cell? ⟨b, off + k, none⟩ = some (.int .u8 (gi zs k)) := by
          rw [hb0.cell (p := ⟨b, off + k, none⟩) (lt_of_cell (hc k hkl))]; exact hc k hkl
        clear hc hz
        go_enter Try.func5, Try.ntmps5
        go_wp2_with (first | (go_at_call 10; refine (awake_any W0).mono ?_; rintro e w1 ⟨rfl, hb1⟩; have hs1 := (hs0.later hb1).later ((Below.refl _ w1).alloc (Nat.le_refl _) (.cells #[] 5))) | (at_builtin; refine app_ints0 (k := .u8) (v := .slice (some ⟨w1.heap.size, 0, none⟩) 0 0) elU8 rfl _ _ rfl rfl (World.ownsRow_made _ _ _ (Nat.le_refl _) (by decide) rfl) rfl hs1 (by omega) (by simp) ?_; intro a3 c3 w3 ho3 hgr hbel hnil; clear hnil hgr; obtain ⟨g3, rfl, hg3, hg3'⟩ := owns_at ho3 hpos; have hb3 : Below W0.heap.size W0 w3 := hb1.trans ((((Below.refl _ w1).alloc (Nat.le_refl _) _).trans hbel).mono hb1.size); clear hbel; obtain ⟨hc3, hf3⟩ := own_cell ho3 k hkl hl; have hat := (hb3.cell (p := ⟨w.heap.size + 1, 0, none⟩) (show w.heap.size + 1 < _ by omega)).trans (hcB 0); have hto := (hb3.cell (p := ⟨w.heap.size + 1, 1, none⟩) (show w.heap.size + 1 < _ by omega)).trans (hcB 1); simp only [List.getElem?_toArray, List.getElem?_cons_zero, List.getElem?_cons_succ] at hat hto))
        obtain ⟨w5, hw5⟩ : ∃ w5, w3.setCell ⟨g3, k, none⟩ (.int .u8 to) = w5 := ⟨_, rfl⟩
        have ho5 := own_store ho3 k to
        have hb5 := hb3.setCell (p := ⟨g3, k, none⟩) (Nat.le_trans hb1.size hg3) (.int .u8 to)
        rw [hw5] at ho5 hb5 ⊢
        have hi5 := (IsInts.of_owns ho5).1
        have hs5 := hs0.later hb5
        have hA0 := (hb5.cell (p := ⟨w.heap.size, 0, none⟩) (show w.heap.size < _ by omega)).trans (hcA 0)
        have hA1 := (hb5.cell (p := ⟨w.heap.size, 1, none⟩) (show w.heap.size < _ by omega)).trans (hcA 1)
        have hB1 := (hb5.cell (p := ⟨w.heap.size + 1, 1, none⟩) (show w.heap.size + 1 < _ by omega)).trans (hcB 1)
        have hbk := (hb5.cell (p := ⟨b, off + k, none⟩) (lt_of_cell hcb)).trans hcb
        simp only [List.getElem?_toArray, List.getElem?_cons_zero, List.getElem?_cons_succ] at hA0 hA1 hB1
        have hz5 : w.heap.size + 2 ≤ w5.heap.size := by have := hb5.size; omega
        clear hat hto hc3 hf3 ho3 ho5 hs1 hs0 hcA hcB
        refine wp_region_grow mixed (by kernel_rfl) [[], [(0, 33)], [], [(1, 34), (2, 35)], [], [(4, 37)], [], [(5, 38), (6, 39), (3, 36)], [(3, 36), (7, 40)], [], [], [(9, 42), (10, 43)], [(11, 44)], [], [(13, 46)], [(12, 45), (14, 47)], [(8, 41), (15, 48)], [(16, 49), (7, 40)], [(17, 50)], [(18, 51), (17, 50)], [(17, 50)], [(19, 52), (20, 53), (17, 50), (17, 50)], [(17, 50)], [(22, 55), (17, 50)], [(17, 50)], [(23, 56), (24, 57), (21, 54), (17, 50)], [(21, 54), (25, 58), (17, 50)], [(17, 50)], [(27, 60), (17, 50)], [(17, 50)], [(29, 62), (17, 50)], [(28, 61), (30, 63), (17, 50)], [(26, 59), (31, 64), (17, 50)], [(17, 50), (32, 65)], [(33, 66), (25, 58), (0, 33), (1, 34), (2, 35), (3, 36), (4, 37), (5, 38), (6, 39), (7, 40), (8, 41), (9, 42), (10, 43), (11, 44), (12, 45), (13, 46), (14, 47), (15, 48), (16, 49), (17, 50), (18, 51), (19, 52), (20, 53), (21, 54), (22, 55), (23, 56), (24, 57), (25, 58), (26, 59), (27, 60), (28, 61), (29, 62), (30, 63), (31, 64), (32, 65), (33, 66)]] [(0, 33), (1, 34), (2, 35), (3, 36), (4, 37), (5, 38), (6, 39), (7, 40), (8, 41), (9, 42), (10, 43), (11, 44), (12, 45), (13, 46), (14, 47), (15, 48), (16, 49), (17, 50), (18, 51), (19, 52), (20, 53), (21, 54), (22, 55), (23, 56), (24, 57), (25, 58), (26, 59), (27, 60), (28, 61), (29, 62), (30, 63), (31, 64), (32, 65), (33, 66), (34, 6)] rfl rfl [Ex ?e0, Ex ?e1, Ex ?e2, Ex ?e3, Ex ?e4, Ex ?e5, Ex ?e6, Ex ?e7, Ex (.bool b1), Ex ?e9, Ex ?e10, Ex ?e11, Ex ?e12, Ex ?e13, Ex ?e14, Ex (.bool b1), Ex (.bool true), Ex ?e17, Ex ?e18, Ex ?e19, Ex ?e20, Ex ?e21, Ex ?e22, Ex ?e23, Ex ?e24, Ex ?e25, Ex (.bool b2), Ex ?e27, Ex ?e28, Ex ?e29, Ex ?e30, Ex (.bool b2), Ex (.bool true), Ex ?e33, Ex ?e34] ⟨stays_ex _, stays_ex _, stays_ex _, stays_ex _, stays_ex _, stays_ex _, stays_ex _, stays_ex _, stays_ex _, stays_ex _, stays_ex _, stays_ex _, stays_ex _, stays_ex _, stays_ex _, stays_ex _, stays_ex _, stays_ex _, stays_ex _, stays_ex _, stays_ex _, stays_ex _, stays_ex _, stays_ex _, stays_ex _, stays_ex _, stays_ex _, stays_ex _, stays_ex _, stays_ex _, stays_ex _, stays_ex _, stays_ex _, stays_ex _, stays_ex _, trivial⟩ ?steps ?rest
        case steps =>
          refine ⟨fun f W hC hh => ?_, fun f W hC hh => ?_, fun f W hC hh => ?_, fun f W hC hh => ?_, fun f W hC hh => ?_, fun f W hC hh => ?_, fun f W hC hh => ?_, fun f W hC hh => ?_, fun f W hC hh => ?_, fun f W hC hh => ?_, fun f W hC hh => ?_, fun f W hC hh => ?_, fun f W hC hh => ?_, fun f W hC hh => ?_, fun f W hC hh => ?_, fun f W hC hh => ?_, fun f W hC hh => ?_, fun f W hC hh => ?_, fun f W hC hh => ?_, fun f W hC hh => ?_, fun f W hC hh => ?_, fun f W hC hh => ?_, fun f W hC hh => ?_, fun f W hC hh => ?_, fun f W hC hh => ?_, fun f W hC hh => ?_, fun f W hC hh => ?_, fun f W hC hh => ?_, fun f W hC hh => ?_, fun f W hC hh => ?_, fun f W hC hh => ?_, fun f W hC hh => ?_, fun f W hC hh => ?_, fun f W hC hh => ?_, fun f W hC hh => ?_, trivial⟩
          · -- 0: Op.fieldAddr 30 (Operand.tmp 3) 0
            refine tab_plain fun K Q hK => ?_
            simp only [puts, List.foldr_nil]
            go_step
            refine fam_ex hK rfl rfl (by simp only [Act.put, List.setIfInBounds_toArray, List.set_cons_succ, List.set_cons_zero, Array.getD_eq_getD_getElem?, List.getElem?_toArray, List.getElem?_cons_succ, List.getElem?_cons_zero, Option.getD_some] <;> rfl) rfl (Below.refl _ _) hC
          · -- 1: Op.load 22 (Operand.tmp 33)
            obtain ⟨h0, -⟩ := hh
            have g0 : f 0 = _ := h0
            refine tab_plain fun K Q hK => ?_
            simp only [puts, List.foldr_cons, List.foldr_nil, List.setIfInBounds_toArray, List.set_cons_succ, List.set_cons_zero, g0]
            have cc := (hC.cell (p := ⟨w.heap.size, 0, none⟩) (show w.heap.size < _ by omega)).trans hA0
            go_step
            refine fam_ex hK rfl rfl (by simp only [Act.put, List.setIfInBounds_toArray, List.set_cons_succ, List.set_cons_zero, Array.getD_eq_getD_getElem?, List.getElem?_toArray, List.getElem?_cons_succ, List.getElem?_cons_zero, Option.getD_some] <;> rfl) rfl (Below.refl _ _) hC
          · -- 2: Op.move (Operand.tmp 1)
            refine tab_plain fun K Q hK => ?_
            simp only [puts, List.foldr_nil]
            go_step
            refine fam_ex hK rfl rfl (by simp only [Act.put, List.setIfInBounds_toArray, List.set_cons_succ, List.set_cons_zero, Array.getD_eq_getD_getElem?, List.getElem?_toArray, List.getElem?_cons_succ, List.getElem?_cons_zero, Option.getD_some] <;> rfl) rfl (Below.refl _ _) hC
          · -- 3: Op.call { callee := Callee.value (Operand.func 13), args := #[Operand.tmp 34, Operand.tmp 
            obtain ⟨h1, h2, -⟩ := hh
            have g1 : f 1 = _ := h1
            have g2 : f 2 = _ := h2
            refine tab_plain fun K Q hK => ?_
            simp only [puts, List.foldr_cons, List.foldr_nil, List.setIfInBounds_toArray, List.set_cons_succ, List.set_cons_zero, g1, g2]
            go_step
            go_at_call 13
            refine (from_any _ _ _ _ _ _ (hs5.later hC)).mono ?_
            rintro e w' ⟨rfl, rfl⟩
            refine fam_ex hK rfl rfl (by simp only [Act.put, List.setIfInBounds_toArray, List.set_cons_succ, List.set_cons_zero, Array.getD_eq_getD_getElem?, List.getElem?_toArray, List.getElem?_cons_succ, List.getElem?_cons_zero, Option.getD_some] <;> rfl) rfl (Below.refl _ _) hC
          · -- 4: Op.fieldAddr 30 (Operand.tmp 3) 0
            refine tab_plain fun K Q hK => ?_
            simp only [puts, List.foldr_nil]
            go_step
            refine fam_ex hK rfl rfl (by simp only [Act.put, List.setIfInBounds_toArray, List.set_cons_succ, List.set_cons_zero, Array.getD_eq_getD_getElem?, List.getElem?_toArray, List.getElem?_cons_succ, List.getElem?_cons_zero, Option.getD_some] <;> rfl) rfl (Below.refl _ _) hC
          · -- 5: Op.load 22 (Operand.tmp 37)
            obtain ⟨h4, -⟩ := hh
            have g4 : f 4 = _ := h4
            refine tab_plain fun K Q hK => ?_
            simp only [puts, List.foldr_cons, List.foldr_nil, List.setIfInBounds_toArray, List.set_cons_succ, List.set_cons_zero, g4]
            have cc := (hC.cell (p := ⟨w.heap.size, 0, none⟩) (show w.heap.size < _ by omega)).trans hA0
            go_step
            refine fam_ex hK rfl rfl (by simp only [Act.put, List.setIfInBounds_toArray, List.set_cons_succ, List.set_cons_zero, Array.getD_eq_getD_getElem?, List.getElem?_toArray, List.getElem?_cons_succ, List.getElem?_cons_zero, Option.getD_some] <;> rfl) rfl (Below.refl _ _) hC
          · -- 6: Op.move (Operand.tmp 7)
            refine tab_plain fun K Q hK => ?_
            simp only [puts, List.foldr_nil]
            go_step
            refine fam_ex hK rfl rfl (by simp only [Act.put, List.setIfInBounds_toArray, List.set_cons_succ, List.set_cons_zero, Array.getD_eq_getD_getElem?, List.getElem?_toArray, List.getElem?_cons_succ, List.getElem?_cons_zero, Option.getD_some] <;> rfl) rfl (Below.refl _ _) hC
          · -- 7: Op.call { callee := Callee.value (Operand.func 13), args := #[Operand.tmp 38, Operand.tmp 
            obtain ⟨h5, h6, h3, -⟩ := hh
            have g5 : f 5 = _ := h5
            have g6 : f 6 = _ := h6
            have g3 : f 3 = _ := h3
            refine tab_plain fun K Q hK => ?_
            simp only [puts, List.foldr_cons, List.foldr_nil, List.setIfInBounds_toArray, List.set_cons_succ, List.set_cons_zero, g5, g6, g3]
            go_step
            go_at_call 13
            refine (from_any _ _ _ _ _ _ (hi5.later hC)).mono ?_
            rintro e w' ⟨rfl, rfl⟩
            refine fam_ex hK rfl rfl (by simp only [Act.put, List.setIfInBounds_toArray, List.set_cons_succ, List.set_cons_zero, Array.getD_eq_getD_getElem?, List.getElem?_toArray, List.getElem?_cons_succ, List.getElem?_cons_zero, Option.getD_some] <;> rfl) rfl (Below.refl _ _) hC
          · -- 8: Op.binOp BinOp.eql 22 (Operand.tmp 36) (Operand.tmp 40) 22
            obtain ⟨h3, h7, -⟩ := hh
            have g3 : f 3 = _ := h3
            have g7 : f 7 = _ := h7
            refine tab_plain fun K Q hK => ?_
            simp only [puts, List.foldr_cons, List.foldr_nil, List.setIfInBounds_toArray, List.set_cons_succ, List.set_cons_zero, g3, g7]
            go_step
            refine fam_ex hK rfl rfl (by simp only [Act.put, List.setIfInBounds_toArray, List.set_cons_succ, List.set_cons_zero, Array.getD_eq_getD_getElem?, List.getElem?_toArray, List.getElem?_cons_succ, List.getElem?_cons_zero, Option.getD_some] <;> rfl) rfl (Below.refl _ _) hC
          · -- 9: Op.move (Operand.tmp 1)
            refine tab_plain fun K Q hK => ?_
            simp only [puts, List.foldr_nil]
            go_step
            refine fam_ex hK rfl rfl (by simp only [Act.put, List.setIfInBounds_toArray, List.set_cons_succ, List.set_cons_zero, Array.getD_eq_getD_getElem?, List.getElem?_toArray, List.getElem?_cons_succ, List.getElem?_cons_zero, Option.getD_some] <;> rfl) rfl (Below.refl _ _) hC
          · -- 10: Op.move (Operand.tmp 8)
            refine tab_plain fun K Q hK => ?_
            simp only [puts, List.foldr_nil]
            go_step
            refine fam_ex hK rfl rfl (by simp only [Act.put, List.setIfInBounds_toArray, List.set_cons_succ, List.set_cons_zero, Array.getD_eq_getD_getElem?, List.getElem?_toArray, List.getElem?_cons_succ, List.getElem?_cons_zero, Option.getD_some] <;> rfl) rfl (Below.refl _ _) hC
          · -- 11: Op.indexAddr 23 (Operand.tmp 42) (Operand.tmp 43)
            obtain ⟨h9, h10, -⟩ := hh
            have g9 : f 9 = _ := h9
            have g10 : f 10 = _ := h10
            refine tab_plain fun K Q hK => ?_
            simp only [puts, List.foldr_cons, List.foldr_nil, List.setIfInBounds_toArray, List.set_cons_succ, List.set_cons_zero, g9, g10]
            go_step
            refine fam_ex hK rfl rfl (by simp only [Act.put, List.setIfInBounds_toArray, List.set_cons_succ, List.set_cons_zero, Array.getD_eq_getD_getElem?, List.getElem?_toArray, List.getElem?_cons_succ, List.getElem?_cons_zero, Option.getD_some] <;> rfl) rfl (Below.refl _ _) hC
          · -- 12: Op.load 5 (Operand.tmp 44)
            obtain ⟨h11, -⟩ := hh
            have g11 : f 11 = _ := h11
            refine tab_plain fun K Q hK => ?_
            simp only [puts, List.foldr_cons, List.foldr_nil, List.setIfInBounds_toArray, List.set_cons_succ, List.set_cons_zero, g11]
            have cc := (hC.cell (p := ⟨b, off + k, none⟩) (lt_of_cell hbk)).trans hbk
            go_step
            refine fam_ex hK rfl rfl (by simp only [Act.put, List.setIfInBounds_toArray, List.set_cons_succ, List.set_cons_zero, Array.getD_eq_getD_getElem?, List.getElem?_toArray, List.getElem?_cons_succ, List.getElem?_cons_zero, Option.getD_some] <;> rfl) rfl (Below.refl _ _) hC
          · -- 13: Op.fieldAddr 33 (Operand.tmp 5) 1
            refine tab_plain fun K Q hK => ?_
            simp only [puts, List.foldr_nil]
            go_step
            refine fam_ex hK rfl rfl (by simp only [Act.put, List.setIfInBounds_toArray, List.set_cons_succ, List.set_cons_zero, Array.getD_eq_getD_getElem?, List.getElem?_toArray, List.getElem?_cons_succ, List.getElem?_cons_zero, Option.getD_some] <;> rfl) rfl (Below.refl _ _) hC
          · -- 14: Op.load 5 (Operand.tmp 46)
            obtain ⟨h13, -⟩ := hh
            have g13 : f 13 = _ := h13
            refine tab_plain fun K Q hK => ?_
            simp only [puts, List.foldr_cons, List.foldr_nil, List.setIfInBounds_toArray, List.set_cons_succ, List.set_cons_zero, g13]
            have cc := (hC.cell (p := ⟨w.heap.size + 1, 1, none⟩) (show w.heap.size + 1 < _ by omega)).trans hB1
            go_step
            refine fam_ex hK rfl rfl (by simp only [Act.put, List.setIfInBounds_toArray, List.set_cons_succ, List.set_cons_zero, Array.getD_eq_getD_getElem?, List.getElem?_toArray, List.getElem?_cons_succ, List.getElem?_cons_zero, Option.getD_some] <;> rfl) rfl (Below.refl _ _) hC
          · -- 15: Op.binOp BinOp.eql 5 (Operand.tmp 45) (Operand.tmp 47) 5
            obtain ⟨h12, h14, -⟩ := hh
            have g12 : f 12 = _ := h12
            have g14 : f 14 = _ := h14
            refine tab_plain fun K Q hK => ?_
            simp only [puts, List.foldr_cons, List.foldr_nil, List.setIfInBounds_toArray, List.set_cons_succ, List.set_cons_zero, g12, g14]
            go_step
            refine fam_ex hK rfl rfl (by simp only [Act.put, List.setIfInBounds_toArray, List.set_cons_succ, List.set_cons_zero, Array.getD_eq_getD_getElem?, List.getElem?_toArray, List.getElem?_cons_succ, List.getElem?_cons_zero, Option.getD_some] <;> rfl) rfl (Below.refl _ _) hC
          · -- 16: Op.binOp BinOp.eql 4 (Operand.tmp 41) (Operand.tmp 48) 4
            obtain ⟨h8, h15, -⟩ := hh
            have g8 : f 8 = _ := h8
            have g15 : f 15 = _ := h15
            refine tab_plain fun K Q hK => ?_
            simp only [puts, List.foldr_cons, List.foldr_nil, List.setIfInBounds_toArray, List.set_cons_succ, List.set_cons_zero, g8, g15]
            go_step
            refine fam_ex hK rfl rfl (by simp only [Act.put, List.setIfInBounds_toArray, List.set_cons_succ, List.set_cons_zero, Array.getD_eq_getD_getElem?, List.getElem?_toArray, List.getElem?_cons_succ, List.getElem?_cons_zero, Option.getD_some] <;> rfl) rfl (Below.refl _ _) hC
          · -- 17: Op.move (Operand.tmp 49)
            obtain ⟨h16, h7, -⟩ := hh
            have g16 : f 16 = _ := h16
            have g7 : f 7 = _ := h7
            refine tab_plain fun K Q hK => ?_
            simp only [puts, List.foldr_cons, List.foldr_nil, List.setIfInBounds_toArray, List.set_cons_succ, List.set_cons_zero, g16, g7]
            go_step
            refine fam_ex hK rfl rfl (by simp only [Act.put, List.setIfInBounds_toArray, List.set_cons_succ, List.set_cons_zero, Array.getD_eq_getD_getElem?, List.getElem?_toArray, List.getElem?_cons_succ, List.getElem?_cons_zero, Option.getD_some] <;> rfl) rfl (Below.refl _ _) hC
          · -- 18: Op.fieldAddr 30 (Operand.tmp 3) 0
            obtain ⟨h17, -⟩ := hh
            have g17 : f 17 = _ := h17
            refine tab_yes g17 fun K Q hK => ?_
            simp only [puts, List.foldr_cons, List.foldr_nil, List.setIfInBounds_toArray, List.set_cons_succ, List.set_cons_zero, g17]
            go_step
            refine fam_ex hK rfl rfl (by simp only [Act.put, List.setIfInBounds_toArray, List.set_cons_succ, List.set_cons_zero, Array.getD_eq_getD_getElem?, List.getElem?_toArray, List.getElem?_cons_succ, List.getElem?_cons_zero, Option.getD_some] <;> rfl) rfl (Below.refl _ _) hC
          · -- 19: Op.load 22 (Operand.tmp 51)
            obtain ⟨h18, h17, -⟩ := hh
            have g18 : f 18 = _ := h18
            have g17 : f 17 = _ := h17
            refine tab_yes g17 fun K Q hK => ?_
            simp only [puts, List.foldr_cons, List.foldr_nil, List.setIfInBounds_toArray, List.set_cons_succ, List.set_cons_zero, g18, g17]
            have cc := (hC.cell (p := ⟨w.heap.size, 0, none⟩) (show w.heap.size < _ by omega)).trans hA0
            go_step
            refine fam_ex hK rfl rfl (by simp only [Act.put, List.setIfInBounds_toArray, List.set_cons_succ, List.set_cons_zero, Array.getD_eq_getD_getElem?, List.getElem?_toArray, List.getElem?_cons_succ, List.getElem?_cons_zero, Option.getD_some] <;> rfl) rfl (Below.refl _ _) hC
          · -- 20: Op.move (Operand.tmp 1)
            obtain ⟨h17, -⟩ := hh
            have g17 : f 17 = _ := h17
            refine tab_yes g17 fun K Q hK => ?_
            simp only [puts, List.foldr_cons, List.foldr_nil, List.setIfInBounds_toArray, List.set_cons_succ, List.set_cons_zero, g17]
            go_step
            refine fam_ex hK rfl rfl (by simp only [Act.put, List.setIfInBounds_toArray, List.set_cons_succ, List.set_cons_zero, Array.getD_eq_getD_getElem?, List.getElem?_toArray, List.getElem?_cons_succ, List.getElem?_cons_zero, Option.getD_some] <;> rfl) rfl (Below.refl _ _) hC
          · -- 21: Op.call { callee := Callee.value (Operand.func 13), args := #[Operand.tmp 52, Operand.tmp 
            obtain ⟨h19, h20, h17, _, -⟩ := hh
            have g19 : f 19 = _ := h19
            have g20 : f 20 = _ := h20
            have g17 : f 17 = _ := h17
            refine tab_yes g17 fun K Q hK => ?_
            simp only [puts, List.foldr_cons, List.foldr_nil, List.setIfInBounds_toArray, List.set_cons_succ, List.set_cons_zero, g19, g20, g17]
            go_step
            go_at_call 13
            refine (from_any _ _ _ _ _ _ (hs5.later hC)).mono ?_
            rintro e w' ⟨rfl, rfl⟩
            refine fam_ex hK rfl rfl (by simp only [Act.put, List.setIfInBounds_toArray, List.set_cons_succ, List.set_cons_zero, Array.getD_eq_getD_getElem?, List.getElem?_toArray, List.getElem?_cons_succ, List.getElem?_cons_zero, Option.getD_some] <;> rfl) rfl (Below.refl _ _) hC
          · -- 22: Op.fieldAddr 30 (Operand.tmp 3) 1
            obtain ⟨h17, -⟩ := hh
            have g17 : f 17 = _ := h17
            refine tab_yes g17 fun K Q hK => ?_
            simp only [puts, List.foldr_cons, List.foldr_nil, List.setIfInBounds_toArray, List.set_cons_succ, List.set_cons_zero, g17]
            go_step
            refine fam_ex hK rfl rfl (by simp only [Act.put, List.setIfInBounds_toArray, List.set_cons_succ, List.set_cons_zero, Array.getD_eq_getD_getElem?, List.getElem?_toArray, List.getElem?_cons_succ, List.getElem?_cons_zero, Option.getD_some] <;> rfl) rfl (Below.refl _ _) hC
          · -- 23: Op.load 22 (Operand.tmp 55)
            obtain ⟨h22, h17, -⟩ := hh
            have g22 : f 22 = _ := h22
            have g17 : f 17 = _ := h17
            refine tab_yes g17 fun K Q hK => ?_
            simp only [puts, List.foldr_cons, List.foldr_nil, List.setIfInBounds_toArray, List.set_cons_succ, List.set_cons_zero, g22, g17]
            have cc := (hC.cell (p := ⟨w.heap.size, 1, none⟩) (show w.heap.size < _ by omega)).trans hA1
            go_step
            refine fam_ex hK rfl rfl (by simp only [Act.put, List.setIfInBounds_toArray, List.set_cons_succ, List.set_cons_zero, Array.getD_eq_getD_getElem?, List.getElem?_toArray, List.getElem?_cons_succ, List.getElem?_cons_zero, Option.getD_some] <;> rfl) rfl (Below.refl _ _) hC
          · -- 24: Op.move (Operand.tmp 1)
            obtain ⟨h17, -⟩ := hh
            have g17 : f 17 = _ := h17
            refine tab_yes g17 fun K Q hK => ?_
            simp only [puts, List.foldr_cons, List.foldr_nil, List.setIfInBounds_toArray, List.set_cons_succ, List.set_cons_zero, g17]
            go_step
            refine fam_ex hK rfl rfl (by simp only [Act.put, List.setIfInBounds_toArray, List.set_cons_succ, List.set_cons_zero, Array.getD_eq_getD_getElem?, List.getElem?_toArray, List.getElem?_cons_succ, List.getElem?_cons_zero, Option.getD_some] <;> rfl) rfl (Below.refl _ _) hC
          · -- 25: Op.call { callee := Callee.value (Operand.func 13), args := #[Operand.tmp 56, Operand.tmp 
            obtain ⟨h23, h24, h21, h17, -⟩ := hh
            have g23 : f 23 = _ := h23
            have g24 : f 24 = _ := h24
            have g21 : f 21 = _ := h21
            have g17 : f 17 = _ := h17
            refine tab_yes g17 fun K Q hK => ?_
            simp only [puts, List.foldr_cons, List.foldr_nil, List.setIfInBounds_toArray, List.set_cons_succ, List.set_cons_zero, g23, g24, g21, g17]
            go_step
            go_at_call 13
            refine (from_any _ _ _ _ _ _ (hs5.later hC)).mono ?_
            rintro e w' ⟨rfl, rfl⟩
            refine fam_ex hK rfl rfl (by simp only [Act.put, List.setIfInBounds_toArray, List.set_cons_succ, List.set_cons_zero, Array.getD_eq_getD_getElem?, List.getElem?_toArray, List.getElem?_cons_succ, List.getElem?_cons_zero, Option.getD_some] <;> rfl) rfl (Below.refl _ _) hC
          · -- 26: Op.binOp BinOp.eql 22 (Operand.tmp 54) (Operand.tmp 58) 22
            obtain ⟨h21, h25, h17, -⟩ := hh
            have g21 : f 21 = _ := h21
            have g25 : f 25 = _ := h25
            have g17 : f 17 = _ := h17
            refine tab_yes g17 fun K Q hK => ?_
            simp only [puts, List.foldr_cons, List.foldr_nil, List.setIfInBounds_toArray, List.set_cons_succ, List.set_cons_zero, g21, g25, g17]
            go_step
            refine fam_ex hK rfl rfl (by simp only [Act.put, List.setIfInBounds_toArray, List.set_cons_succ, List.set_cons_zero, Array.getD_eq_getD_getElem?, List.getElem?_toArray, List.getElem?_cons_succ, List.getElem?_cons_zero, Option.getD_some] <;> rfl) rfl (Below.refl _ _) hC
          · -- 27: Op.fieldAddr 30 (Operand.tmp 3) 0
            obtain ⟨h17, -⟩ := hh
            have g17 : f 17 = _ := h17
            refine tab_yes g17 fun K Q hK => ?_
            simp only [puts, List.foldr_cons, List.foldr_nil, List.setIfInBounds_toArray, List.set_cons_succ, List.set_cons_zero, g17]
            go_step
            refine fam_ex hK rfl rfl (by simp only [Act.put, List.setIfInBounds_toArray, List.set_cons_succ, List.set_cons_zero, Array.getD_eq_getD_getElem?, List.getElem?_toArray, List.getElem?_cons_succ, List.getElem?_cons_zero, Option.getD_some] <;> rfl) rfl (Below.refl _ _) hC
          · -- 28: Op.load 22 (Operand.tmp 60)
            obtain ⟨h27, h17, -⟩ := hh
            have g27 : f 27 = _ := h27
            have g17 : f 17 = _ := h17
            refine tab_yes g17 fun K Q hK => ?_
            simp only [puts, List.foldr_cons, List.foldr_nil, List.setIfInBounds_toArray, List.set_cons_succ, List.set_cons_zero, g27, g17]
            have cc := (hC.cell (p := ⟨w.heap.size, 0, none⟩) (show w.heap.size < _ by omega)).trans hA0
            go_step
            refine fam_ex hK rfl rfl (by simp only [Act.put, List.setIfInBounds_toArray, List.set_cons_succ, List.set_cons_zero, Array.getD_eq_getD_getElem?, List.getElem?_toArray, List.getElem?_cons_succ, List.getElem?_cons_zero, Option.getD_some] <;> rfl) rfl (Below.refl _ _) hC
          · -- 29: Op.fieldAddr 30 (Operand.tmp 3) 1
            obtain ⟨h17, -⟩ := hh
            have g17 : f 17 = _ := h17
            refine tab_yes g17 fun K Q hK => ?_
            simp only [puts, List.foldr_cons, List.foldr_nil, List.setIfInBounds_toArray, List.set_cons_succ, List.set_cons_zero, g17]
            go_step
            refine fam_ex hK rfl rfl (by simp only [Act.put, List.setIfInBounds_toArray, List.set_cons_succ, List.set_cons_zero, Array.getD_eq_getD_getElem?, List.getElem?_toArray, List.getElem?_cons_succ, List.getElem?_cons_zero, Option.getD_some] <;> rfl) rfl (Below.refl _ _) hC
          · -- 30: Op.load 22 (Operand.tmp 62)
            obtain ⟨h29, h17, -⟩ := hh
            have g29 : f 29 = _ := h29
            have g17 : f 17 = _ := h17
            refine tab_yes g17 fun K Q hK => ?_
            simp only [puts, List.foldr_cons, List.foldr_nil, List.setIfInBounds_toArray, List.set_cons_succ, List.set_cons_zero, g29, g17]
            have cc := (hC.cell (p := ⟨w.heap.size, 1, none⟩) (show w.heap.size < _ by omega)).trans hA1
            go_step
            refine fam_ex hK rfl rfl (by simp only [Act.put, List.setIfInBounds_toArray, List.set_cons_succ, List.set_cons_zero, Array.getD_eq_getD_getElem?, List.getElem?_toArray, List.getElem?_cons_succ, List.getElem?_cons_zero, Option.getD_some] <;> rfl) rfl (Below.refl _ _) hC
          · -- 31: Op.binOp BinOp.eql 22 (Operand.tmp 61) (Operand.tmp 63) 22
            obtain ⟨h28, h30, h17, -⟩ := hh
            have g28 : f 28 = _ := h28
            have g30 : f 30 = _ := h30
            have g17 : f 17 = _ := h17
            refine tab_yes g17 fun K Q hK => ?_
            simp only [puts, List.foldr_cons, List.foldr_nil, List.setIfInBounds_toArray, List.set_cons_succ, List.set_cons_zero, g28, g30, g17]
            go_step
            refine fam_ex hK rfl rfl (by simp only [Act.put, List.setIfInBounds_toArray, List.set_cons_succ, List.set_cons_zero, Array.getD_eq_getD_getElem?, List.getElem?_toArray, List.getElem?_cons_succ, List.getElem?_cons_zero, Option.getD_some] <;> rfl) rfl (Below.refl _ _) hC
          · -- 32: Op.binOp BinOp.eql 4 (Operand.tmp 59) (Operand.tmp 64) 4
            obtain ⟨h26, h31, h17, -⟩ := hh
            have g26 : f 26 = _ := h26
            have g31 : f 31 = _ := h31
            have g17 : f 17 = _ := h17
            refine tab_yes g17 fun K Q hK => ?_
            simp only [puts, List.foldr_cons, List.foldr_nil, List.setIfInBounds_toArray, List.set_cons_succ, List.set_cons_zero, g26, g31, g17]
            go_step
            refine fam_ex hK rfl rfl (by simp only [Act.put, List.setIfInBounds_toArray, List.set_cons_succ, List.set_cons_zero, Array.getD_eq_getD_getElem?, List.getElem?_toArray, List.getElem?_cons_succ, List.getElem?_cons_zero, Option.getD_some] <;> rfl) rfl (Below.refl _ _) hC
          · -- 33: Op.pick (Operand.tmp 50) (Operand.tmp 65) (Operand.const (Value.bool false))
            obtain ⟨h17, h32, -⟩ := hh
            have g17 : f 17 = _ := h17
            have g32 : f 32 = _ := h32
            refine tab_plain fun K Q hK => ?_
            simp only [puts, List.foldr_cons, List.foldr_nil, List.setIfInBounds_toArray, List.set_cons_succ, List.set_cons_zero, g17, g32]
            go_step
            refine fam_ex hK rfl rfl (by simp only [Act.put, List.setIfInBounds_toArray, List.set_cons_succ, List.set_cons_zero, Array.getD_eq_getD_getElem?, List.getElem?_toArray, List.getElem?_cons_succ, List.getElem?_cons_zero, Option.getD_some] <;> rfl) rfl (Below.refl _ _) hC
          · -- 34: Op.assign (Operand.tmp 66)
            obtain ⟨h33, h25, h0, h1, h2, h3, h4, h5, h6, h7, h8, h9, h10, h11, h12, h13, h14, h15, h16, h17, h18, h19, h20, h21, h22, h23, h24, _, h26, h27, h28, h29, h30, h31, h32, _, -⟩ := hh
            have g33 : f 33 = _ := h33
            have g25 : f 25 = _ := h25
            have g0 : f 0 = _ := h0
            have g1 : f 1 = _ := h1
            have g2 : f 2 = _ := h2
            have g3 : f 3 = _ := h3
            have g4 : f 4 = _ := h4
            have g5 : f 5 = _ := h5
            have g6 : f 6 = _ := h6
            have g7 : f 7 = _ := h7
            have g8 : f 8 = _ := h8
            have g9 : f 9 = _ := h9
            have g10 : f 10 = _ := h10
            have g11 : f 11 = _ := h11
            have g12 : f 12 = _ := h12
            have g13 : f 13 = _ := h13
            have g14 : f 14 = _ := h14
            have g15 : f 15 = _ := h15
            have g16 : f 16 = _ := h16
            have g17 : f 17 = _ := h17
            have g18 : f 18 = _ := h18
            have g19 : f 19 = _ := h19
            have g20 : f 20 = _ := h20
            have g21 : f 21 = _ := h21
            have g22 : f 22 = _ := h22
            have g23 : f 23 = _ := h23
            have g24 : f 24 = _ := h24
            have g26 : f 26 = _ := h26
            have g27 : f 27 = _ := h27
            have g28 : f 28 = _ := h28
            have g29 : f 29 = _ := h29
            have g30 : f 30 = _ := h30
            have g31 : f 31 = _ := h31
            have g32 : f 32 = _ := h32
            refine tab_plain fun K Q hK => ?_
            simp only [puts, List.foldr_cons, List.foldr_nil, List.setIfInBounds_toArray, List.set_cons_succ, List.set_cons_zero, g33, g25, g0, g1, g2, g3, g4, g5, g6, g7, g8, g9, g10, g11, g12, g13, g14, g15, g16, g17, g18, g19, g20, g21, g22, g23, g24, g26, g27, g28, g29, g30, g31, g32]
            go_step
            refine fam_ex hK rfl rfl (by simp only [Act.put, List.setIfInBounds_toArray, List.set_cons_succ, List.set_cons_zero, Array.getD_eq_getD_getElem?, List.getElem?_toArray, List.getElem?_cons_succ, List.getElem?_cons_zero, Option.getD_some] <;> rfl) rfl (Below.refl _ _) hC
        case rest =>
          intro f W2 hC hh
          obtain ⟨h0, h1, h2, h3, h4, h5, h6, h7, h8, h9, h10, h11, h12, h13, h14, h15, h16, h17, h18, h19, h20, h21, h22, h23, h24, h25, h26, h27, h28, h29, h30, h31, h32, h33, h34, -⟩ := hh
          have g0 : f 0 = _ := h0
          have g1 : f 1 = _ := h1
          have g2 : f 2 = _ := h2
          have g3 : f 3 = _ := h3
          have g4 : f 4 = _ := h4
          have g5 : f 5 = _ := h5
          have g6 : f 6 = _ := h6
          have g7 : f 7 = _ := h7
          have g8 : f 8 = _ := h8
          have g9 : f 9 = _ := h9
          have g10 : f 10 = _ := h10
          have g11 : f 11 = _ := h11
          have g12 : f 12 = _ := h12
          have g13 : f 13 = _ := h13
          have g14 : f 14 = _ := h14
          have g15 : f 15 = _ := h15
          have g16 : f 16 = _ := h16
          have g17 : f 17 = _ := h17
          have g18 : f 18 = _ := h18
          have g19 : f 19 = _ := h19
          have g20 : f 20 = _ := h20
          have g21 : f 21 = _ := h21
          have g22 : f 22 = _ := h22
          have g23 : f 23 = _ := h23
          have g24 : f 24 = _ := h24
          have g25 : f 25 = _ := h25
          have g26 : f 26 = _ := h26
          have g27 : f 27 = _ := h27
          have g28 : f 28 = _ := h28
          have g29 : f 29 = _ := h29
          have g30 : f 30 = _ := h30
          have g31 : f 31 = _ := h31
          have g32 : f 32 = _ := h32
          have g33 : f 33 = _ := h33
          have g34 : f 34 = _ := h34
          simp only [puts, List.foldr_cons, List.foldr_nil, List.setIfInBounds_toArray, List.set_cons_succ, List.set_cons_zero, g0, g1, g2, g3, g4, g5, g6, g7, g8, g9, g10, g11, g12, g13, g14, g15, g16, g17, g18, g19, g20, g21, g22, g23, g24, g25, g26, g27, g28, g29, g30, g31, g32, g33, g34]
          clear h0 h1 h2 h3 h4 h5 h6 h7 h8 h9 h10 h11 h12 h13 h14 h15 h16 h17 h18 h19 h20 h21 h22 h23 h24 h25 h26 h27 h28 h29 h30 h31 h32 h33 h34 g0 g1 g2 g3 g4 g5 g6 g7 g8 g9 g10 g11 g12 g13 g14 g15 g16 g17 g18 g19 g20 g21 g22 g23 g24 g25 g26 g27 g28 g29 g30 g31 g32 g33 g34
          go_wp2
          go_ret
          exact ⟨rfl, hb0.trans ((hb5.trans (hC.mono hb5.size)).mono hb0.size)⟩
    · have hd : decide (600 < (len : Int)) = true := decide_eq_true (by omega)
      go_enter Try.func5, Try.ntmps5
      go_wp2_with (go_at_call 10; refine (awake_any W0).mono ?_; rintro e w1 ⟨rfl, hb1⟩)
      go_ret
      exact ⟨rfl, hb0.trans (hb1.mono hb0.size)⟩
end Go.Proofs.Ytoicaacndkjjoaa
