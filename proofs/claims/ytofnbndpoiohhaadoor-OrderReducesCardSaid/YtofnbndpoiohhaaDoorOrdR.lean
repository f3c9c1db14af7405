/-
  The reference: Valid, exists, Before, Concurrent.
-/
import Derived.Test.YtofnbndpoiohhaaDoorOrdH
import Derived.Test.YtofnbndpoiohhaaDoorOrdJ
set_option linter.unusedSimpArgs false
set_option linter.unusedVariables false
set_option maxHeartbeats 8000000
namespace Go.Proofs.YtofnbndpoiohhaaDoor
open Go.RowKit Go.Shelf
attribute [local go_sem] Oper.semAt_some

variable {n : Int} {a : Option Addr} {len cap : Nat} {es : List (Int × Int)} {w : World}

def cmpE (es : List (Int × Int)) (k j : Nat) : Int := if j = 0 then (gp es k).1 else (gp es k).2
theorem inR_snoc {N : Nat} {k : Nat} (hk : k < es.length) (h : InR N (es.take k)) (h2 : ∀ j, j < 2 → 0 ≤ cmpE es k j ∧ cmpE es k j < N) : InR N (es.take (k + 1)) := by
  rw [take_succ_gp es k hk]
  exact h.snoc ⟨h2 0 (by decide), h2 1 (by decide)⟩
theorem inR_cmp {N : Nat} {k j : Nat} (hk : k < es.length) (h : InR N es) : 0 ≤ cmpE es k j ∧ cmpE es k j < N := by
  have := h _ (gp_mem es k hk)
  unfold cmpE
  split
  · exact this.1
  · exact this.2

open Classical in
theorem path_true {x y : Nat} (h : Path (Ed es) x y) : pathB es x y = true := by unfold pathB; exact decide_eq_true h
open Classical in
theorem path_false {x y : Nat} (h : ¬ Path (Ed es) x y) : pathB es x y = false := by unfold pathB; exact decide_eq_false h

theorem refValid_any (he : IsPairs w a len cap es) (hcap : len ≤ 9223372036854775807) :
    Calls Tryd.prog 14 #[.agg #[.int .i64 n, .slice a len cap]] w fun e w' => e = .returned (.bool (validB n es)) ∧ Below w.heap.size w w' := by
  obtain ⟨hb1, hs1, hO⟩ := boxR n a len cap w
  obtain ⟨W1, hW1⟩ : ∃ W1, w.alloc (.cells #[.int .i64 n, .slice a len cap] 24) = W1 := ⟨_, rfl⟩
  rw [hW1] at hb1 hs1 hO
  rw [← hs1] at hO
  have he1 := he.later hb1
  obtain ⟨c0, c1⟩ := hO _ (Below.refl _ _)
  have HL := Lib.hid he.length
  have HW := Lib.hid hW1
  have HO := Lib.hid hO
  clear hW1 hO
  by_cases h0 : n < 0
  · have d0 : decide (n < 0) = true := decide_eq_true h0
    rw [validB_no (fun h => by have := h.1; omega)]
    go_enter Tryd.func14, Tryd.ntmps14
    go_wp2_with (fail)
    rw [HW.out]
    go_wp2
    go_ret
    exact ⟨rfl, hb1⟩
  have d0 : decide (n < 0) = false := decide_eq_false h0
  by_cases h60 : 60 < n
  · have d6 : decide (60 < n) = true := decide_eq_true h60
    rw [validB_no (fun h => by have := h.1; omega)]
    go_enter Tryd.func14, Tryd.ntmps14
    go_wp2_with (fail)
    rw [HW.out]
    go_wp2
    go_ret
    exact ⟨rfl, hb1⟩
  have d6 : decide (60 < n) = false := decide_eq_false h60
  by_cases h36 : 3600 < len
  · have d3 : decide (3600 < (len : Int)) = true := decide_eq_true (by omega)
    rw [validB_no (fun h => by have := h.2.1; rw [HL.out] at this; omega)]
    go_enter Tryd.func14, Tryd.ntmps14
    go_wp2_with (fail)
    rw [HW.out]
    go_wp2
    go_ret
    exact ⟨rfl, hb1⟩
  have d3 : decide (3600 < (len : Int)) = false := decide_eq_false (by omega)
  obtain ⟨N, rfl⟩ := Int.eq_ofNat_of_zero_le (show 0 ≤ n by omega)
  have hN60 : N ≤ 60 := by omega
  have H36 := Lib.hid (show len ≤ 3600 by omega)
  clear h0 h60 h36
  go_enter Tryd.func14, Tryd.ntmps14
  go_wp2_with (fail)
  rw [HW.out]
  go_wp2_with (fail)
  clear d0 d6 d3
  go_loopw [3] (fun c W => ∃ k : Nat, k ≤ len ∧ c = .int .i64 (k : Int) ∧ Hid (InR N (es.take k)) ∧ Below W1.heap.size W1 W) (fun c _ => len - (intOf c).toNat)
  case atStart => exact ⟨0, Nat.zero_le _, rfl, Lib.hid (fun e h => by cases h), Below.refl _ _⟩
  case round =>
    obtain ⟨k, hk, rfl, HR, hB⟩ := hrel
    clear c0 c1
    obtain ⟨c0, c1⟩ := HO.out _ hB
    have hb0r := hb1.trans (hB.mono hb1.size)
    by_cases hlt : k < len
    · have dlt : decide ((k : Int) < len) = true := decide_eq_true (by omega)
      go_wp2_with (fail)
      go_loopw [4] (fun c W => ∃ j : Nat, j ≤ 2 ∧ c = .int .i64 (j : Int) ∧ Hid (∀ i, i < j → 0 ≤ cmpE es k i ∧ cmpE es k i < N) ∧ Below W1.heap.size W1 W) (fun c _ => 2 - (intOf c).toNat)
      case atStart => exact ⟨0, Nat.zero_le _, rfl, Lib.hid (fun i hi => by omega), hB⟩
      case round =>
        obtain ⟨j, hj, rfl, HJ, hB2⟩ := hrel
        have hb0s := hb1.trans (hB2.mono hb1.size)
        by_cases hj2 : j < 2
        · have dj : decide ((j : Int) < 2) = true := decide_eq_true (by omega)
          obtain ⟨ba, off, rfl, hbl, -, -⟩ := he1.at wr hB2 k hlt
          obtain ⟨z, hz⟩ : ∃ z, cmpE es k j = z := ⟨_, rfl⟩
          have hE : ∀ W, Below W1.heap.size W1 W → W.cell? ⟨ba, off + k * 2 + j, none⟩ = some (.int .i64 z) := by
            intro W hW
            obtain ⟨b', o', e', _, h1, h2⟩ := he1.at W hW k hlt
            injection e' with e'; injection e' with e1 e2; subst e1; subst e2
            rw [← hz]
            have : j = 0 ∨ j = 1 := by omega
            rcases this with rfl | rfl
            · exact h1
            · exact h2
          have HE := Lib.hid hE
          have HZ := Lib.hid hz
          clear hE hz
          by_cases hz0 : z < 0
          · have tz : decide (z < 0) = true := decide_eq_true hz0
            have hbad : Hid (¬ ValidO N es) := Lib.hid (fun h => by
              have := inR_cmp (j := j) (by rw [HL.out]; exact hlt) h.2.2.1
              rw [HZ.out] at this
              omega)
            go_wp2
            refine wp_region_grow mixed (by kernel_rfl) [[], [(0, 32)], [], [], [(1, 33), (2, 34)], [(4, 36), (3, 35)], [(5, 37)], [(6, 38)], [(7, 39)], [(8, 40)], [(9, 41), (8, 40)], [(8, 40)], [(8, 40)], [(10, 42), (11, 43), (8, 40)], [(13, 45), (12, 44), (8, 40)], [(14, 46), (8, 40)], [(8, 40)], [(16, 48), (8, 40)], [(15, 47), (17, 49), (8, 40)], [(8, 40), (18, 50)]] [(0, 32), (1, 33), (2, 34), (3, 35), (4, 36), (5, 37), (6, 38), (7, 39), (8, 40), (9, 41), (10, 42), (11, 43), (12, 44), (13, 45), (14, 46), (15, 47), (16, 48), (17, 49), (18, 50), (19, 51)] rfl rfl [Ex ?e0, Ex ?e1, Ex ?e2, Ex ?e3, Ex ?e4, Ex ?e5, Ex ?e6, Ex ?e7, Ex ?e8, Ex undef, Ex undef, Ex undef, Ex undef, Ex undef, Ex undef, Ex undef, Ex undef, Ex undef, Ex undef, Ex ?e19] ⟨stays_ex _, stays_ex _, stays_ex _, stays_ex _, stays_ex _, stays_ex _, stays_ex _, stays_ex _, stays_ex _, stays_ex _, stays_ex _, stays_ex _, stays_ex _, stays_ex _, stays_ex _, stays_ex _, stays_ex _, stays_ex _, stays_ex _, stays_ex _, trivial⟩ ?steps ?rest
            case steps =>
              refine ⟨fun f W hC hh => ?_, fun f W hC hh => ?_, fun f W hC hh => ?_, fun f W hC hh => ?_, fun f W hC hh => ?_, fun f W hC hh => ?_, fun f W hC hh => ?_, fun f W hC hh => ?_, fun f W hC hh => ?_, fun f W hC hh => ?_, fun f W hC hh => ?_, fun f W hC hh => ?_, fun f W hC hh => ?_, fun f W hC hh => ?_, fun f W hC hh => ?_, fun f W hC hh => ?_, fun f W hC hh => ?_, fun f W hC hh => ?_, fun f W hC hh => ?_, fun f W hC hh => ?_, trivial⟩
              · -- 0: Op.fieldAddr 24 (Operand.tmp 1) 1
                refine tab_plain fun K Q hK => ?_
                simp only [puts, List.foldr_nil]
                go_step
                refine fam_ex hK rfl rfl (by simp only [Act.put, List.setIfInBounds_toArray, List.set_cons_succ, List.set_cons_zero, Array.getD_eq_getD_getElem?, List.getElem?_toArray, List.getElem?_cons_succ, List.getElem?_cons_zero, Option.getD_some] <;> rfl) rfl (Below.refl _ _) hC
              · -- 1: Op.load 22 (Operand.tmp 32)
                obtain ⟨h0, -⟩ := hh
                have g0 : f 0 = _ := h0
                refine tab_plain fun K Q hK => ?_
                simp only [puts, List.foldr_cons, List.foldr_nil, List.setIfInBounds_toArray, List.set_cons_succ, List.set_cons_zero, g0]
                obtain ⟨c0, c1⟩ := HO.out W (hB2.trans (hC.mono hB2.size))
                go_step
                refine fam_ex hK rfl rfl (by simp only [Act.put, List.setIfInBounds_toArray, List.set_cons_succ, List.set_cons_zero, Array.getD_eq_getD_getElem?, List.getElem?_toArray, List.getElem?_cons_succ, List.getElem?_cons_zero, Option.getD_some] <;> rfl) rfl (Below.refl _ _) hC
              · -- 2: Op.move (Operand.tmp 3)
                refine tab_plain fun K Q hK => ?_
                simp only [puts, List.foldr_nil]
                go_step
                refine fam_ex hK rfl rfl (by simp only [Act.put, List.setIfInBounds_toArray, List.set_cons_succ, List.set_cons_zero, Array.getD_eq_getD_getElem?, List.getElem?_toArray, List.getElem?_cons_succ, List.getElem?_cons_zero, Option.getD_some] <;> rfl) rfl (Below.refl _ _) hC
              · -- 3: Op.move (Operand.tmp 4)
                refine tab_plain fun K Q hK => ?_
                simp only [puts, List.foldr_nil]
                go_step
                refine fam_ex hK rfl rfl (by simp only [Act.put, List.setIfInBounds_toArray, List.set_cons_succ, List.set_cons_zero, Array.getD_eq_getD_getElem?, List.getElem?_toArray, List.getElem?_cons_succ, List.getElem?_cons_zero, Option.getD_some] <;> rfl) rfl (Below.refl _ _) hC
              · -- 4: Op.indexAddr 22 (Operand.tmp 33) (Operand.tmp 34)
                obtain ⟨h1, h2, -⟩ := hh
                have g1 : f 1 = _ := h1
                have g2 : f 2 = _ := h2
                refine tab_plain fun K Q hK => ?_
                simp only [puts, List.foldr_cons, List.foldr_nil, List.setIfInBounds_toArray, List.set_cons_succ, List.set_cons_zero, g1, g2]
                go_step
                refine fam_ex hK rfl rfl (by simp only [Act.put, List.setIfInBounds_toArray, List.set_cons_succ, List.set_cons_zero, Array.getD_eq_getD_getElem?, List.getElem?_toArray, List.getElem?_cons_succ, List.getElem?_cons_zero, Option.getD_some] <;> rfl) rfl (Below.refl _ _) hC
              · -- 5: Op.indexAddr 39 (Operand.tmp 36) (Operand.tmp 35)
                obtain ⟨h4, h3, -⟩ := hh
                have g4 : f 4 = _ := h4
                have g3 : f 3 = _ := h3
                refine tab_plain fun K Q hK => ?_
                simp only [puts, List.foldr_cons, List.foldr_nil, List.setIfInBounds_toArray, List.set_cons_succ, List.set_cons_zero, g4, g3]
                go_step
                refine fam_ex hK rfl rfl (by simp only [Act.put, List.setIfInBounds_toArray, List.set_cons_succ, List.set_cons_zero, Array.getD_eq_getD_getElem?, List.getElem?_toArray, List.getElem?_cons_succ, List.getElem?_cons_zero, Option.getD_some] <;> rfl) rfl (Below.refl _ _) hC
              · -- 6: Op.load 3 (Operand.tmp 37)
                obtain ⟨h5, -⟩ := hh
                have g5 : f 5 = _ := h5
                refine tab_plain fun K Q hK => ?_
                simp only [puts, List.foldr_cons, List.foldr_nil, List.setIfInBounds_toArray, List.set_cons_succ, List.set_cons_zero, g5]
                have hc6 := HE.out W (hB2.trans (hC.mono hB2.size))
                go_step
                refine fam_ex hK rfl rfl (by simp only [Act.put, List.setIfInBounds_toArray, List.set_cons_succ, List.set_cons_zero, Array.getD_eq_getD_getElem?, List.getElem?_toArray, List.getElem?_cons_succ, List.getElem?_cons_zero, Option.getD_some] <;> rfl) rfl (Below.refl _ _) hC
              · -- 7: Op.binOp BinOp.lss 3 (Operand.tmp 38) (Operand.const (Value.int IntKind.i64 0)) 3
                obtain ⟨h6, -⟩ := hh
                have g6 : f 6 = _ := h6
                refine tab_plain fun K Q hK => ?_
                simp only [puts, List.foldr_cons, List.foldr_nil, List.setIfInBounds_toArray, List.set_cons_succ, List.set_cons_zero, g6]
                go_step
                refine fam_ex hK rfl rfl (by simp only [Act.put, List.setIfInBounds_toArray, List.set_cons_succ, List.set_cons_zero, Array.getD_eq_getD_getElem?, List.getElem?_toArray, List.getElem?_cons_succ, List.getElem?_cons_zero, Option.getD_some] <;> rfl) rfl (Below.refl _ _) hC
              · -- 8: Op.move (Operand.tmp 39)
                obtain ⟨h7, -⟩ := hh
                have g7 : f 7 = _ := h7
                refine tab_plain fun K Q hK => ?_
                simp only [puts, List.foldr_cons, List.foldr_nil, List.setIfInBounds_toArray, List.set_cons_succ, List.set_cons_zero, g7]
                go_step
                refine fam_ex hK rfl rfl (by simp only [Act.put, List.setIfInBounds_toArray, List.set_cons_succ, List.set_cons_zero, Array.getD_eq_getD_getElem?, List.getElem?_toArray, List.getElem?_cons_succ, List.getElem?_cons_zero, Option.getD_some] <;> rfl) rfl (Below.refl _ _) hC
              · -- 9: Op.fieldAddr 24 (Operand.tmp 1) 1
                obtain ⟨h8, -⟩ := hh
                have g8 : f 8 = _ := h8
                exact tab_no rfl g8 (by decide) rfl
              · -- 10: Op.load 22 (Operand.tmp 41)
                obtain ⟨h9, h8, -⟩ := hh
                have g9 : f 9 = _ := h9
                have g8 : f 8 = _ := h8
                exact tab_no rfl g8 (by decide) rfl
              · -- 11: Op.move (Operand.tmp 3)
                obtain ⟨h8, -⟩ := hh
                have g8 : f 8 = _ := h8
                exact tab_no rfl g8 (by decide) rfl
              · -- 12: Op.move (Operand.tmp 4)
                obtain ⟨h8, -⟩ := hh
                have g8 : f 8 = _ := h8
                exact tab_no rfl g8 (by decide) rfl
              · -- 13: Op.indexAddr 22 (Operand.tmp 42) (Operand.tmp 43)
                obtain ⟨h10, h11, h8, -⟩ := hh
                have g10 : f 10 = _ := h10
                have g11 : f 11 = _ := h11
                have g8 : f 8 = _ := h8
                exact tab_no rfl g8 (by decide) rfl
              · -- 14: Op.indexAddr 39 (Operand.tmp 45) (Operand.tmp 44)
                obtain ⟨h13, h12, h8, -⟩ := hh
                have g13 : f 13 = _ := h13
                have g12 : f 12 = _ := h12
                have g8 : f 8 = _ := h8
                exact tab_no rfl g8 (by decide) rfl
              · -- 15: Op.load 3 (Operand.tmp 46)
                obtain ⟨h14, h8, -⟩ := hh
                have g14 : f 14 = _ := h14
                have g8 : f 8 = _ := h8
                exact tab_no rfl g8 (by decide) rfl
              · -- 16: Op.fieldAddr 24 (Operand.tmp 1) 0
                obtain ⟨h8, -⟩ := hh
                have g8 : f 8 = _ := h8
                exact tab_no rfl g8 (by decide) rfl
              · -- 17: Op.load 3 (Operand.tmp 48)
                obtain ⟨h16, h8, -⟩ := hh
                have g16 : f 16 = _ := h16
                have g8 : f 8 = _ := h8
                exact tab_no rfl g8 (by decide) rfl
              · -- 18: Op.binOp BinOp.geq 3 (Operand.tmp 47) (Operand.tmp 49) 3
                obtain ⟨h15, h17, h8, -⟩ := hh
                have g15 : f 15 = _ := h15
                have g17 : f 17 = _ := h17
                have g8 : f 8 = _ := h8
                exact tab_no rfl g8 (by decide) rfl
              · -- 19: Op.pick (Operand.tmp 40) (Operand.const (Value.bool true)) (Operand.tmp 50)
                obtain ⟨h8, h18, -⟩ := hh
                have g8 : f 8 = _ := h8
                have g18 : f 18 = _ := h18
                refine tab_plain fun K Q hK => ?_
                simp only [puts, List.foldr_cons, List.foldr_nil, List.setIfInBounds_toArray, List.set_cons_succ, List.set_cons_zero, g8, g18]
                go_step
                refine fam_ex hK rfl rfl (by simp only [Act.put, List.setIfInBounds_toArray, List.set_cons_succ, List.set_cons_zero, Array.getD_eq_getD_getElem?, List.getElem?_toArray, List.getElem?_cons_succ, List.getElem?_cons_zero, Option.getD_some] <;> rfl) rfl (Below.refl _ _) hC
            case rest =>
              intro f W2 hC hh
              obtain ⟨h0, h1, h2, h3, h4, h5, h6, h7, h8, h9, h10, h11, h12, h13, h14, h15, h16, h17, h18, h19, -⟩ := hh
              have g0 : f 0 = _ := h0
              have g1 : f 1 = _ := h1
              have g2 : f 2 = _ := h2
              have g3 : f 3 = _ := h3
              have g4 : f 4 = _ := h4
              have g5 : f 5 = _ := h5
              have g6 : f 6 = _ := h6
              have g7 : f 7 = _ := h7
              have g8 : f 8 = _ := h8
              have g9 : f 9 = _ := h9
              have g10 : f 10 = _ := h10
              have g11 : f 11 = _ := h11
              have g12 : f 12 = _ := h12
              have g13 : f 13 = _ := h13
              have g14 : f 14 = _ := h14
              have g15 : f 15 = _ := h15
              have g16 : f 16 = _ := h16
              have g17 : f 17 = _ := h17
              have g18 : f 18 = _ := h18
              have g19 : f 19 = _ := h19
              simp only [puts, List.foldr_cons, List.foldr_nil, List.setIfInBounds_toArray, List.set_cons_succ, List.set_cons_zero, g0, g1, g2, g3, g4, g5, g6, g7, g8, g9, g10, g11, g12, g13, g14, g15, g16, g17, g18, g19]
              clear h0 h1 h2 h3 h4 h5 h6 h7 h8 h9 h10 h11 h12 h13 h14 h15 h16 h17 h18 h19 g0 g1 g2 g3 g4 g5 g6 g7 g8 g9 g10 g11 g12 g13 g14 g15 g16 g17 g18 g19
              go_wp2
              go_ret
              exact ⟨by rw [validB_no hbad.out] <;> rfl, hb0s.trans (hC.mono hb0s.size)⟩
          have tz : decide (z < 0) = false := decide_eq_false hz0
          by_cases hzN : (N : Int) ≤ z
          · have tz2 : decide ((N : Int) ≤ z) = true := decide_eq_true hzN
            have hbad : Hid (¬ ValidO N es) := Lib.hid (fun h => by
              have := inR_cmp (j := j) (by rw [HL.out]; exact hlt) h.2.2.1
              rw [HZ.out] at this
              omega)
            go_wp2
            refine wp_region_grow mixed (by kernel_rfl) [[], [(0, 32)], [], [], [(1, 33), (2, 34)], [(4, 36), (3, 35)], [(5, 37)], [(6, 38)], [(7, 39)], [(8, 40)], [(9, 41), (8, 40)], [(8, 40)], [(8, 40)], [(10, 42), (11, 43), (8, 40)], [(13, 45), (12, 44), (8, 40)], [(14, 46), (8, 40)], [(8, 40)], [(16, 48), (8, 40)], [(15, 47), (17, 49), (8, 40)], [(8, 40), (18, 50)]] [(0, 32), (1, 33), (2, 34), (3, 35), (4, 36), (5, 37), (6, 38), (7, 39), (8, 40), (9, 41), (10, 42), (11, 43), (12, 44), (13, 45), (14, 46), (15, 47), (16, 48), (17, 49), (18, 50), (19, 51)] rfl rfl [Ex ?ep0, Ex ?ep1, Ex ?ep2, Ex ?ep3, Ex ?ep4, Ex ?ep5, Ex ?ep6, Ex ?ep7, Ex ?ep8, Ex ?ep9, Ex ?ep10, Ex ?ep11, Ex ?ep12, Ex ?ep13, Ex ?ep14, Ex ?ep15, Ex ?ep16, Ex ?ep17, Ex ?ep18, Ex ?ep19] ⟨stays_ex _, stays_ex _, stays_ex _, stays_ex _, stays_ex _, stays_ex _, stays_ex _, stays_ex _, stays_ex _, stays_ex _, stays_ex _, stays_ex _, stays_ex _, stays_ex _, stays_ex _, stays_ex _, stays_ex _, stays_ex _, stays_ex _, stays_ex _, trivial⟩ ?psteps ?prest
            case psteps =>
              refine ⟨fun f W hC hh => ?_, fun f W hC hh => ?_, fun f W hC hh => ?_, fun f W hC hh => ?_, fun f W hC hh => ?_, fun f W hC hh => ?_, fun f W hC hh => ?_, fun f W hC hh => ?_, fun f W hC hh => ?_, fun f W hC hh => ?_, fun f W hC hh => ?_, fun f W hC hh => ?_, fun f W hC hh => ?_, fun f W hC hh => ?_, fun f W hC hh => ?_, fun f W hC hh => ?_, fun f W hC hh => ?_, fun f W hC hh => ?_, fun f W hC hh => ?_, fun f W hC hh => ?_, trivial⟩
              · -- 0: Op.fieldAddr 24 (Operand.tmp 1) 1
                refine tab_plain fun K Q hK => ?_
                simp only [puts, List.foldr_nil]
                go_step
                refine fam_ex hK rfl rfl (by simp only [Act.put, List.setIfInBounds_toArray, List.set_cons_succ, List.set_cons_zero, Array.getD_eq_getD_getElem?, List.getElem?_toArray, List.getElem?_cons_succ, List.getElem?_cons_zero, Option.getD_some] <;> rfl) rfl (Below.refl _ _) hC
              · -- 1: Op.load 22 (Operand.tmp 32)
                obtain ⟨h0, -⟩ := hh
                have g0 : f 0 = _ := h0
                refine tab_plain fun K Q hK => ?_
                simp only [puts, List.foldr_cons, List.foldr_nil, List.setIfInBounds_toArray, List.set_cons_succ, List.set_cons_zero, g0]
                obtain ⟨c0, c1⟩ := HO.out W (hB2.trans (hC.mono hB2.size))
                go_step
                refine fam_ex hK rfl rfl (by simp only [Act.put, List.setIfInBounds_toArray, List.set_cons_succ, List.set_cons_zero, Array.getD_eq_getD_getElem?, List.getElem?_toArray, List.getElem?_cons_succ, List.getElem?_cons_zero, Option.getD_some] <;> rfl) rfl (Below.refl _ _) hC
              · -- 2: Op.move (Operand.tmp 3)
                refine tab_plain fun K Q hK => ?_
                simp only [puts, List.foldr_nil]
                go_step
                refine fam_ex hK rfl rfl (by simp only [Act.put, List.setIfInBounds_toArray, List.set_cons_succ, List.set_cons_zero, Array.getD_eq_getD_getElem?, List.getElem?_toArray, List.getElem?_cons_succ, List.getElem?_cons_zero, Option.getD_some] <;> rfl) rfl (Below.refl _ _) hC
              · -- 3: Op.move (Operand.tmp 4)
                refine tab_plain fun K Q hK => ?_
                simp only [puts, List.foldr_nil]
                go_step
                refine fam_ex hK rfl rfl (by simp only [Act.put, List.setIfInBounds_toArray, List.set_cons_succ, List.set_cons_zero, Array.getD_eq_getD_getElem?, List.getElem?_toArray, List.getElem?_cons_succ, List.getElem?_cons_zero, Option.getD_some] <;> rfl) rfl (Below.refl _ _) hC
              · -- 4: Op.indexAddr 22 (Operand.tmp 33) (Operand.tmp 34)
                obtain ⟨h1, h2, -⟩ := hh
                have g1 : f 1 = _ := h1
                have g2 : f 2 = _ := h2
                refine tab_plain fun K Q hK => ?_
                simp only [puts, List.foldr_cons, List.foldr_nil, List.setIfInBounds_toArray, List.set_cons_succ, List.set_cons_zero, g1, g2]
                go_step
                refine fam_ex hK rfl rfl (by simp only [Act.put, List.setIfInBounds_toArray, List.set_cons_succ, List.set_cons_zero, Array.getD_eq_getD_getElem?, List.getElem?_toArray, List.getElem?_cons_succ, List.getElem?_cons_zero, Option.getD_some] <;> rfl) rfl (Below.refl _ _) hC
              · -- 5: Op.indexAddr 39 (Operand.tmp 36) (Operand.tmp 35)
                obtain ⟨h4, h3, -⟩ := hh
                have g4 : f 4 = _ := h4
                have g3 : f 3 = _ := h3
                refine tab_plain fun K Q hK => ?_
                simp only [puts, List.foldr_cons, List.foldr_nil, List.setIfInBounds_toArray, List.set_cons_succ, List.set_cons_zero, g4, g3]
                go_step
                refine fam_ex hK rfl rfl (by simp only [Act.put, List.setIfInBounds_toArray, List.set_cons_succ, List.set_cons_zero, Array.getD_eq_getD_getElem?, List.getElem?_toArray, List.getElem?_cons_succ, List.getElem?_cons_zero, Option.getD_some] <;> rfl) rfl (Below.refl _ _) hC
              · -- 6: Op.load 3 (Operand.tmp 37)
                obtain ⟨h5, -⟩ := hh
                have g5 : f 5 = _ := h5
                refine tab_plain fun K Q hK => ?_
                simp only [puts, List.foldr_cons, List.foldr_nil, List.setIfInBounds_toArray, List.set_cons_succ, List.set_cons_zero, g5]
                have hc6 := HE.out W (hB2.trans (hC.mono hB2.size))
                go_step
                refine fam_ex hK rfl rfl (by simp only [Act.put, List.setIfInBounds_toArray, List.set_cons_succ, List.set_cons_zero, Array.getD_eq_getD_getElem?, List.getElem?_toArray, List.getElem?_cons_succ, List.getElem?_cons_zero, Option.getD_some] <;> rfl) rfl (Below.refl _ _) hC
              · -- 7: Op.binOp BinOp.lss 3 (Operand.tmp 38) (Operand.const (Value.int IntKind.i64 0)) 3
                obtain ⟨h6, -⟩ := hh
                have g6 : f 6 = _ := h6
                refine tab_plain fun K Q hK => ?_
                simp only [puts, List.foldr_cons, List.foldr_nil, List.setIfInBounds_toArray, List.set_cons_succ, List.set_cons_zero, g6]
                go_step
                refine fam_ex hK rfl rfl (by simp only [Act.put, List.setIfInBounds_toArray, List.set_cons_succ, List.set_cons_zero, Array.getD_eq_getD_getElem?, List.getElem?_toArray, List.getElem?_cons_succ, List.getElem?_cons_zero, Option.getD_some] <;> rfl) rfl (Below.refl _ _) hC
              · -- 8: Op.move (Operand.tmp 39)
                obtain ⟨h7, -⟩ := hh
                have g7 : f 7 = _ := h7
                refine tab_plain fun K Q hK => ?_
                simp only [puts, List.foldr_cons, List.foldr_nil, List.setIfInBounds_toArray, List.set_cons_succ, List.set_cons_zero, g7]
                go_step
                refine fam_ex hK rfl rfl (by simp only [Act.put, List.setIfInBounds_toArray, List.set_cons_succ, List.set_cons_zero, Array.getD_eq_getD_getElem?, List.getElem?_toArray, List.getElem?_cons_succ, List.getElem?_cons_zero, Option.getD_some] <;> rfl) rfl (Below.refl _ _) hC
              · -- 9: Op.fieldAddr 24 (Operand.tmp 1) 1
                obtain ⟨h8, -⟩ := hh
                have g8 : f 8 = _ := h8
                refine tab_yes g8 fun K Q hK => ?_
                simp only [puts, List.foldr_cons, List.foldr_nil, List.setIfInBounds_toArray, List.set_cons_succ, List.set_cons_zero, g8]
                go_step
                refine fam_ex hK rfl rfl (by simp only [Act.put, List.setIfInBounds_toArray, List.set_cons_succ, List.set_cons_zero, Array.getD_eq_getD_getElem?, List.getElem?_toArray, List.getElem?_cons_succ, List.getElem?_cons_zero, Option.getD_some] <;> rfl) rfl (Below.refl _ _) hC
              · -- 10: Op.load 22 (Operand.tmp 41)
                obtain ⟨h9, h8, -⟩ := hh
                have g9 : f 9 = _ := h9
                have g8 : f 8 = _ := h8
                refine tab_yes g8 fun K Q hK => ?_
                simp only [puts, List.foldr_cons, List.foldr_nil, List.setIfInBounds_toArray, List.set_cons_succ, List.set_cons_zero, g9, g8]
                obtain ⟨c0, c1⟩ := HO.out W (hB2.trans (hC.mono hB2.size))
                go_step
                refine fam_ex hK rfl rfl (by simp only [Act.put, List.setIfInBounds_toArray, List.set_cons_succ, List.set_cons_zero, Array.getD_eq_getD_getElem?, List.getElem?_toArray, List.getElem?_cons_succ, List.getElem?_cons_zero, Option.getD_some] <;> rfl) rfl (Below.refl _ _) hC
              · -- 11: Op.move (Operand.tmp 3)
                obtain ⟨h8, -⟩ := hh
                have g8 : f 8 = _ := h8
                refine tab_yes g8 fun K Q hK => ?_
                simp only [puts, List.foldr_cons, List.foldr_nil, List.setIfInBounds_toArray, List.set_cons_succ, List.set_cons_zero, g8]
                go_step
                refine fam_ex hK rfl rfl (by simp only [Act.put, List.setIfInBounds_toArray, List.set_cons_succ, List.set_cons_zero, Array.getD_eq_getD_getElem?, List.getElem?_toArray, List.getElem?_cons_succ, List.getElem?_cons_zero, Option.getD_some] <;> rfl) rfl (Below.refl _ _) hC
              · -- 12: Op.move (Operand.tmp 4)
                obtain ⟨h8, -⟩ := hh
                have g8 : f 8 = _ := h8
                refine tab_yes g8 fun K Q hK => ?_
                simp only [puts, List.foldr_cons, List.foldr_nil, List.setIfInBounds_toArray, List.set_cons_succ, List.set_cons_zero, g8]
                go_step
                refine fam_ex hK rfl rfl (by simp only [Act.put, List.setIfInBounds_toArray, List.set_cons_succ, List.set_cons_zero, Array.getD_eq_getD_getElem?, List.getElem?_toArray, List.getElem?_cons_succ, List.getElem?_cons_zero, Option.getD_some] <;> rfl) rfl (Below.refl _ _) hC
              · -- 13: Op.indexAddr 22 (Operand.tmp 42) (Operand.tmp 43)
                obtain ⟨h10, h11, h8, -⟩ := hh
                have g10 : f 10 = _ := h10
                have g11 : f 11 = _ := h11
                have g8 : f 8 = _ := h8
                refine tab_yes g8 fun K Q hK => ?_
                simp only [puts, List.foldr_cons, List.foldr_nil, List.setIfInBounds_toArray, List.set_cons_succ, List.set_cons_zero, g10, g11, g8]
                go_step
                refine fam_ex hK rfl rfl (by simp only [Act.put, List.setIfInBounds_toArray, List.set_cons_succ, List.set_cons_zero, Array.getD_eq_getD_getElem?, List.getElem?_toArray, List.getElem?_cons_succ, List.getElem?_cons_zero, Option.getD_some] <;> rfl) rfl (Below.refl _ _) hC
              · -- 14: Op.indexAddr 39 (Operand.tmp 45) (Operand.tmp 44)
                obtain ⟨h13, h12, h8, -⟩ := hh
                have g13 : f 13 = _ := h13
                have g12 : f 12 = _ := h12
                have g8 : f 8 = _ := h8
                refine tab_yes g8 fun K Q hK => ?_
                simp only [puts, List.foldr_cons, List.foldr_nil, List.setIfInBounds_toArray, List.set_cons_succ, List.set_cons_zero, g13, g12, g8]
                go_step
                refine fam_ex hK rfl rfl (by simp only [Act.put, List.setIfInBounds_toArray, List.set_cons_succ, List.set_cons_zero, Array.getD_eq_getD_getElem?, List.getElem?_toArray, List.getElem?_cons_succ, List.getElem?_cons_zero, Option.getD_some] <;> rfl) rfl (Below.refl _ _) hC
              · -- 15: Op.load 3 (Operand.tmp 46)
                obtain ⟨h14, h8, -⟩ := hh
                have g14 : f 14 = _ := h14
                have g8 : f 8 = _ := h8
                refine tab_yes g8 fun K Q hK => ?_
                simp only [puts, List.foldr_cons, List.foldr_nil, List.setIfInBounds_toArray, List.set_cons_succ, List.set_cons_zero, g14, g8]
                have hc6 := HE.out W (hB2.trans (hC.mono hB2.size))
                go_step
                refine fam_ex hK rfl rfl (by simp only [Act.put, List.setIfInBounds_toArray, List.set_cons_succ, List.set_cons_zero, Array.getD_eq_getD_getElem?, List.getElem?_toArray, List.getElem?_cons_succ, List.getElem?_cons_zero, Option.getD_some] <;> rfl) rfl (Below.refl _ _) hC
              · -- 16: Op.fieldAddr 24 (Operand.tmp 1) 0
                obtain ⟨h8, -⟩ := hh
                have g8 : f 8 = _ := h8
                refine tab_yes g8 fun K Q hK => ?_
                simp only [puts, List.foldr_cons, List.foldr_nil, List.setIfInBounds_toArray, List.set_cons_succ, List.set_cons_zero, g8]
                go_step
                refine fam_ex hK rfl rfl (by simp only [Act.put, List.setIfInBounds_toArray, List.set_cons_succ, List.set_cons_zero, Array.getD_eq_getD_getElem?, List.getElem?_toArray, List.getElem?_cons_succ, List.getElem?_cons_zero, Option.getD_some] <;> rfl) rfl (Below.refl _ _) hC
              · -- 17: Op.load 3 (Operand.tmp 48)
                obtain ⟨h16, h8, -⟩ := hh
                have g16 : f 16 = _ := h16
                have g8 : f 8 = _ := h8
                refine tab_yes g8 fun K Q hK => ?_
                simp only [puts, List.foldr_cons, List.foldr_nil, List.setIfInBounds_toArray, List.set_cons_succ, List.set_cons_zero, g16, g8]
                obtain ⟨c0, c1⟩ := HO.out W (hB2.trans (hC.mono hB2.size))
                go_step
                refine fam_ex hK rfl rfl (by simp only [Act.put, List.setIfInBounds_toArray, List.set_cons_succ, List.set_cons_zero, Array.getD_eq_getD_getElem?, List.getElem?_toArray, List.getElem?_cons_succ, List.getElem?_cons_zero, Option.getD_some] <;> rfl) rfl (Below.refl _ _) hC
              · -- 18: Op.binOp BinOp.geq 3 (Operand.tmp 47) (Operand.tmp 49) 3
                obtain ⟨h15, h17, h8, -⟩ := hh
                have g15 : f 15 = _ := h15
                have g17 : f 17 = _ := h17
                have g8 : f 8 = _ := h8
                refine tab_yes g8 fun K Q hK => ?_
                simp only [puts, List.foldr_cons, List.foldr_nil, List.setIfInBounds_toArray, List.set_cons_succ, List.set_cons_zero, g15, g17, g8]
                go_step
                refine fam_ex hK rfl rfl (by simp only [Act.put, List.setIfInBounds_toArray, List.set_cons_succ, List.set_cons_zero, Array.getD_eq_getD_getElem?, List.getElem?_toArray, List.getElem?_cons_succ, List.getElem?_cons_zero, Option.getD_some] <;> rfl) rfl (Below.refl _ _) hC
              · -- 19: Op.pick (Operand.tmp 40) (Operand.const (Value.bool true)) (Operand.tmp 50)
                obtain ⟨h8, h18, -⟩ := hh
                have g8 : f 8 = _ := h8
                have g18 : f 18 = _ := h18
                refine tab_plain fun K Q hK => ?_
                simp only [puts, List.foldr_cons, List.foldr_nil, List.setIfInBounds_toArray, List.set_cons_succ, List.set_cons_zero, g8, g18]
                go_step
                refine fam_ex hK rfl rfl (by simp only [Act.put, List.setIfInBounds_toArray, List.set_cons_succ, List.set_cons_zero, Array.getD_eq_getD_getElem?, List.getElem?_toArray, List.getElem?_cons_succ, List.getElem?_cons_zero, Option.getD_some] <;> rfl) rfl (Below.refl _ _) hC
            case prest =>
              intro f W2 hC hh
              obtain ⟨h0, h1, h2, h3, h4, h5, h6, h7, h8, h9, h10, h11, h12, h13, h14, h15, h16, h17, h18, h19, -⟩ := hh
              have g0 : f 0 = _ := h0
              have g1 : f 1 = _ := h1
              have g2 : f 2 = _ := h2
              have g3 : f 3 = _ := h3
              have g4 : f 4 = _ := h4
              have g5 : f 5 = _ := h5
              have g6 : f 6 = _ := h6
              have g7 : f 7 = _ := h7
              have g8 : f 8 = _ := h8
              have g9 : f 9 = _ := h9
              have g10 : f 10 = _ := h10
              have g11 : f 11 = _ := h11
              have g12 : f 12 = _ := h12
              have g13 : f 13 = _ := h13
              have g14 : f 14 = _ := h14
              have g15 : f 15 = _ := h15
              have g16 : f 16 = _ := h16
              have g17 : f 17 = _ := h17
              have g18 : f 18 = _ := h18
              have g19 : f 19 = _ := h19
              simp only [puts, List.foldr_cons, List.foldr_nil, List.setIfInBounds_toArray, List.set_cons_succ, List.set_cons_zero, g0, g1, g2, g3, g4, g5, g6, g7, g8, g9, g10, g11, g12, g13, g14, g15, g16, g17, g18, g19]
              clear h0 h1 h2 h3 h4 h5 h6 h7 h8 h9 h10 h11 h12 h13 h14 h15 h16 h17 h18 h19 g0 g1 g2 g3 g4 g5 g6 g7 g8 g9 g10 g11 g12 g13 g14 g15 g16 g17 g18 g19
              go_wp2
              go_ret
              exact ⟨by rw [validB_no hbad.out] <;> rfl, hb0s.trans (hC.mono hb0s.size)⟩
          have tz2 : decide ((N : Int) ≤ z) = false := decide_eq_false hzN
          have hnext : Hid (∀ i, i < j + 1 → 0 ≤ cmpE es k i ∧ cmpE es k i < N) := Lib.hid (fun i hi => by
            rcases Nat.lt_or_ge i j with h | h
            · exact HJ.out i h
            · obtain rfl : i = j := by omega
              rw [HZ.out]
              omega)
          go_wp2
          refine wp_region_grow mixed (by kernel_rfl) [[], [(0, 32)], [], [], [(1, 33), (2, 34)], [(4, 36), (3, 35)], [(5, 37)], [(6, 38)], [(7, 39)], [(8, 40)], [(9, 41), (8, 40)], [(8, 40)], [(8, 40)], [(10, 42), (11, 43), (8, 40)], [(13, 45), (12, 44), (8, 40)], [(14, 46), (8, 40)], [(8, 40)], [(16, 48), (8, 40)], [(15, 47), (17, 49), (8, 40)], [(8, 40), (18, 50)]] [(0, 32), (1, 33), (2, 34), (3, 35), (4, 36), (5, 37), (6, 38), (7, 39), (8, 40), (9, 41), (10, 42), (11, 43), (12, 44), (13, 45), (14, 46), (15, 47), (16, 48), (17, 49), (18, 50), (19, 51)] rfl rfl [Ex ?eq0, Ex ?eq1, Ex ?eq2, Ex ?eq3, Ex ?eq4, Ex ?eq5, Ex ?eq6, Ex ?eq7, Ex ?eq8, Ex ?eq9, Ex ?eq10, Ex ?eq11, Ex ?eq12, Ex ?eq13, Ex ?eq14, Ex ?eq15, Ex ?eq16, Ex ?eq17, Ex ?eq18, Ex ?eq19] ⟨stays_ex _, stays_ex _, stays_ex _, stays_ex _, stays_ex _, stays_ex _, stays_ex _, stays_ex _, stays_ex _, stays_ex _, stays_ex _, stays_ex _, stays_ex _, stays_ex _, stays_ex _, stays_ex _, stays_ex _, stays_ex _, stays_ex _, stays_ex _, trivial⟩ ?qsteps ?qrest
          case qsteps =>
            refine ⟨fun f W hC hh => ?_, fun f W hC hh => ?_, fun f W hC hh => ?_, fun f W hC hh => ?_, fun f W hC hh => ?_, fun f W hC hh => ?_, fun f W hC hh => ?_, fun f W hC hh => ?_, fun f W hC hh => ?_, fun f W hC hh => ?_, fun f W hC hh => ?_, fun f W hC hh => ?_, fun f W hC hh => ?_, fun f W hC hh => ?_, fun f W hC hh => ?_, fun f W hC hh => ?_, fun f W hC hh => ?_, fun f W hC hh => ?_, fun f W hC hh => ?_, fun f W hC hh => ?_, trivial⟩
            · -- 0: Op.fieldAddr 24 (Operand.tmp 1) 1
              refine tab_plain fun K Q hK => ?_
              simp only [puts, List.foldr_nil]
              go_step
              refine fam_ex hK rfl rfl (by simp only [Act.put, List.setIfInBounds_toArray, List.set_cons_succ, List.set_cons_zero, Array.getD_eq_getD_getElem?, List.getElem?_toArray, List.getElem?_cons_succ, List.getElem?_cons_zero, Option.getD_some] <;> rfl) rfl (Below.refl _ _) hC
            · -- 1: Op.load 22 (Operand.tmp 32)
              obtain ⟨h0, -⟩ := hh
              have g0 : f 0 = _ := h0
              refine tab_plain fun K Q hK => ?_
              simp only [puts, List.foldr_cons, List.foldr_nil, List.setIfInBounds_toArray, List.set_cons_succ, List.set_cons_zero, g0]
              obtain ⟨c0, c1⟩ := HO.out W (hB2.trans (hC.mono hB2.size))
              go_step
              refine fam_ex hK rfl rfl (by simp only [Act.put, List.setIfInBounds_toArray, List.set_cons_succ, List.set_cons_zero, Array.getD_eq_getD_getElem?, List.getElem?_toArray, List.getElem?_cons_succ, List.getElem?_cons_zero, Option.getD_some] <;> rfl) rfl (Below.refl _ _) hC
            · -- 2: Op.move (Operand.tmp 3)
              refine tab_plain fun K Q hK => ?_
              simp only [puts, List.foldr_nil]
              go_step
              refine fam_ex hK rfl rfl (by simp only [Act.put, List.setIfInBounds_toArray, List.set_cons_succ, List.set_cons_zero, Array.getD_eq_getD_getElem?, List.getElem?_toArray, List.getElem?_cons_succ, List.getElem?_cons_zero, Option.getD_some] <;> rfl) rfl (Below.refl _ _) hC
            · -- 3: Op.move (Operand.tmp 4)
              refine tab_plain fun K Q hK => ?_
              simp only [puts, List.foldr_nil]
              go_step
              refine fam_ex hK rfl rfl (by simp only [Act.put, List.setIfInBounds_toArray, List.set_cons_succ, List.set_cons_zero, Array.getD_eq_getD_getElem?, List.getElem?_toArray, List.getElem?_cons_succ, List.getElem?_cons_zero, Option.getD_some] <;> rfl) rfl (Below.refl _ _) hC
            · -- 4: Op.indexAddr 22 (Operand.tmp 33) (Operand.tmp 34)
              obtain ⟨h1, h2, -⟩ := hh
              have g1 : f 1 = _ := h1
              have g2 : f 2 = _ := h2
              refine tab_plain fun K Q hK => ?_
              simp only [puts, List.foldr_cons, List.foldr_nil, List.setIfInBounds_toArray, List.set_cons_succ, List.set_cons_zero, g1, g2]
              go_step
              refine fam_ex hK rfl rfl (by simp only [Act.put, List.setIfInBounds_toArray, List.set_cons_succ, List.set_cons_zero, Array.getD_eq_getD_getElem?, List.getElem?_toArray, List.getElem?_cons_succ, List.getElem?_cons_zero, Option.getD_some] <;> rfl) rfl (Below.refl _ _) hC
            · -- 5: Op.indexAddr 39 (Operand.tmp 36) (Operand.tmp 35)
              obtain ⟨h4, h3, -⟩ := hh
              have g4 : f 4 = _ := h4
              have g3 : f 3 = _ := h3
              refine tab_plain fun K Q hK => ?_
              simp only [puts, List.foldr_cons, List.foldr_nil, List.setIfInBounds_toArray, List.set_cons_succ, List.set_cons_zero, g4, g3]
              go_step
              refine fam_ex hK rfl rfl (by simp only [Act.put, List.setIfInBounds_toArray, List.set_cons_succ, List.set_cons_zero, Array.getD_eq_getD_getElem?, List.getElem?_toArray, List.getElem?_cons_succ, List.getElem?_cons_zero, Option.getD_some] <;> rfl) rfl (Below.refl _ _) hC
            · -- 6: Op.load 3 (Operand.tmp 37)
              obtain ⟨h5, -⟩ := hh
              have g5 : f 5 = _ := h5
              refine tab_plain fun K Q hK => ?_
              simp only [puts, List.foldr_cons, List.foldr_nil, List.setIfInBounds_toArray, List.set_cons_succ, List.set_cons_zero, g5]
              have hc6 := HE.out W (hB2.trans (hC.mono hB2.size))
              go_step
              refine fam_ex hK rfl rfl (by simp only [Act.put, List.setIfInBounds_toArray, List.set_cons_succ, List.set_cons_zero, Array.getD_eq_getD_getElem?, List.getElem?_toArray, List.getElem?_cons_succ, List.getElem?_cons_zero, Option.getD_some] <;> rfl) rfl (Below.refl _ _) hC
            · -- 7: Op.binOp BinOp.lss 3 (Operand.tmp 38) (Operand.const (Value.int IntKind.i64 0)) 3
              obtain ⟨h6, -⟩ := hh
              have g6 : f 6 = _ := h6
              refine tab_plain fun K Q hK => ?_
              simp only [puts, List.foldr_cons, List.foldr_nil, List.setIfInBounds_toArray, List.set_cons_succ, List.set_cons_zero, g6]
              go_step
              refine fam_ex hK rfl rfl (by simp only [Act.put, List.setIfInBounds_toArray, List.set_cons_succ, List.set_cons_zero, Array.getD_eq_getD_getElem?, List.getElem?_toArray, List.getElem?_cons_succ, List.getElem?_cons_zero, Option.getD_some] <;> rfl) rfl (Below.refl _ _) hC
            · -- 8: Op.move (Operand.tmp 39)
              obtain ⟨h7, -⟩ := hh
              have g7 : f 7 = _ := h7
              refine tab_plain fun K Q hK => ?_
              simp only [puts, List.foldr_cons, List.foldr_nil, List.setIfInBounds_toArray, List.set_cons_succ, List.set_cons_zero, g7]
              go_step
              refine fam_ex hK rfl rfl (by simp only [Act.put, List.setIfInBounds_toArray, List.set_cons_succ, List.set_cons_zero, Array.getD_eq_getD_getElem?, List.getElem?_toArray, List.getElem?_cons_succ, List.getElem?_cons_zero, Option.getD_some] <;> rfl) rfl (Below.refl _ _) hC
            · -- 9: Op.fieldAddr 24 (Operand.tmp 1) 1
              obtain ⟨h8, -⟩ := hh
              have g8 : f 8 = _ := h8
              refine tab_yes g8 fun K Q hK => ?_
              simp only [puts, List.foldr_cons, List.foldr_nil, List.setIfInBounds_toArray, List.set_cons_succ, List.set_cons_zero, g8]
              go_step
              refine fam_ex hK rfl rfl (by simp only [Act.put, List.setIfInBounds_toArray, List.set_cons_succ, List.set_cons_zero, Array.getD_eq_getD_getElem?, List.getElem?_toArray, List.getElem?_cons_succ, List.getElem?_cons_zero, Option.getD_some] <;> rfl) rfl (Below.refl _ _) hC
            · -- 10: Op.load 22 (Operand.tmp 41)
              obtain ⟨h9, h8, -⟩ := hh
              have g9 : f 9 = _ := h9
              have g8 : f 8 = _ := h8
              refine tab_yes g8 fun K Q hK => ?_
              simp only [puts, List.foldr_cons, List.foldr_nil, List.setIfInBounds_toArray, List.set_cons_succ, List.set_cons_zero, g9, g8]
              obtain ⟨c0, c1⟩ := HO.out W (hB2.trans (hC.mono hB2.size))
              go_step
              refine fam_ex hK rfl rfl (by simp only [Act.put, List.setIfInBounds_toArray, List.set_cons_succ, List.set_cons_zero, Array.getD_eq_getD_getElem?, List.getElem?_toArray, List.getElem?_cons_succ, List.getElem?_cons_zero, Option.getD_some] <;> rfl) rfl (Below.refl _ _) hC
            · -- 11: Op.move (Operand.tmp 3)
              obtain ⟨h8, -⟩ := hh
              have g8 : f 8 = _ := h8
              refine tab_yes g8 fun K Q hK => ?_
              simp only [puts, List.foldr_cons, List.foldr_nil, List.setIfInBounds_toArray, List.set_cons_succ, List.set_cons_zero, g8]
              go_step
              refine fam_ex hK rfl rfl (by simp only [Act.put, List.setIfInBounds_toArray, List.set_cons_succ, List.set_cons_zero, Array.getD_eq_getD_getElem?, List.getElem?_toArray, List.getElem?_cons_succ, List.getElem?_cons_zero, Option.getD_some] <;> rfl) rfl (Below.refl _ _) hC
            · -- 12: Op.move (Operand.tmp 4)
              obtain ⟨h8, -⟩ := hh
              have g8 : f 8 = _ := h8
              refine tab_yes g8 fun K Q hK => ?_
              simp only [puts, List.foldr_cons, List.foldr_nil, List.setIfInBounds_toArray, List.set_cons_succ, List.set_cons_zero, g8]
              go_step
              refine fam_ex hK rfl rfl (by simp only [Act.put, List.setIfInBounds_toArray, List.set_cons_succ, List.set_cons_zero, Array.getD_eq_getD_getElem?, List.getElem?_toArray, List.getElem?_cons_succ, List.getElem?_cons_zero, Option.getD_some] <;> rfl) rfl (Below.refl _ _) hC
            · -- 13: Op.indexAddr 22 (Operand.tmp 42) (Operand.tmp 43)
              obtain ⟨h10, h11, h8, -⟩ := hh
              have g10 : f 10 = _ := h10
              have g11 : f 11 = _ := h11
              have g8 : f 8 = _ := h8
              refine tab_yes g8 fun K Q hK => ?_
              simp only [puts, List.foldr_cons, List.foldr_nil, List.setIfInBounds_toArray, List.set_cons_succ, List.set_cons_zero, g10, g11, g8]
              go_step
              refine fam_ex hK rfl rfl (by simp only [Act.put, List.setIfInBounds_toArray, List.set_cons_succ, List.set_cons_zero, Array.getD_eq_getD_getElem?, List.getElem?_toArray, List.getElem?_cons_succ, List.getElem?_cons_zero, Option.getD_some] <;> rfl) rfl (Below.refl _ _) hC
            · -- 14: Op.indexAddr 39 (Operand.tmp 45) (Operand.tmp 44)
              obtain ⟨h13, h12, h8, -⟩ := hh
              have g13 : f 13 = _ := h13
              have g12 : f 12 = _ := h12
              have g8 : f 8 = _ := h8
              refine tab_yes g8 fun K Q hK => ?_
              simp only [puts, List.foldr_cons, List.foldr_nil, List.setIfInBounds_toArray, List.set_cons_succ, List.set_cons_zero, g13, g12, g8]
              go_step
              refine fam_ex hK rfl rfl (by simp only [Act.put, List.setIfInBounds_toArray, List.set_cons_succ, List.set_cons_zero, Array.getD_eq_getD_getElem?, List.getElem?_toArray, List.getElem?_cons_succ, List.getElem?_cons_zero, Option.getD_some] <;> rfl) rfl (Below.refl _ _) hC
            · -- 15: Op.load 3 (Operand.tmp 46)
              obtain ⟨h14, h8, -⟩ := hh
              have g14 : f 14 = _ := h14
              have g8 : f 8 = _ := h8
              refine tab_yes g8 fun K Q hK => ?_
              simp only [puts, List.foldr_cons, List.foldr_nil, List.setIfInBounds_toArray, List.set_cons_succ, List.set_cons_zero, g14, g8]
              have hc6 := HE.out W (hB2.trans (hC.mono hB2.size))
              go_step
              refine fam_ex hK rfl rfl (by simp only [Act.put, List.setIfInBounds_toArray, List.set_cons_succ, List.set_cons_zero, Array.getD_eq_getD_getElem?, List.getElem?_toArray, List.getElem?_cons_succ, List.getElem?_cons_zero, Option.getD_some] <;> rfl) rfl (Below.refl _ _) hC
            · -- 16: Op.fieldAddr 24 (Operand.tmp 1) 0
              obtain ⟨h8, -⟩ := hh
              have g8 : f 8 = _ := h8
              refine tab_yes g8 fun K Q hK => ?_
              simp only [puts, List.foldr_cons, List.foldr_nil, List.setIfInBounds_toArray, List.set_cons_succ, List.set_cons_zero, g8]
              go_step
              refine fam_ex hK rfl rfl (by simp only [Act.put, List.setIfInBounds_toArray, List.set_cons_succ, List.set_cons_zero, Array.getD_eq_getD_getElem?, List.getElem?_toArray, List.getElem?_cons_succ, List.getElem?_cons_zero, Option.getD_some] <;> rfl) rfl (Below.refl _ _) hC
            · -- 17: Op.load 3 (Operand.tmp 48)
              obtain ⟨h16, h8, -⟩ := hh
              have g16 : f 16 = _ := h16
              have g8 : f 8 = _ := h8
              refine tab_yes g8 fun K Q hK => ?_
              simp only [puts, List.foldr_cons, List.foldr_nil, List.setIfInBounds_toArray, List.set_cons_succ, List.set_cons_zero, g16, g8]
              obtain ⟨c0, c1⟩ := HO.out W (hB2.trans (hC.mono hB2.size))
              go_step
              refine fam_ex hK rfl rfl (by simp only [Act.put, List.setIfInBounds_toArray, List.set_cons_succ, List.set_cons_zero, Array.getD_eq_getD_getElem?, List.getElem?_toArray, List.getElem?_cons_succ, List.getElem?_cons_zero, Option.getD_some] <;> rfl) rfl (Below.refl _ _) hC
            · -- 18: Op.binOp BinOp.geq 3 (Operand.tmp 47) (Operand.tmp 49) 3
              obtain ⟨h15, h17, h8, -⟩ := hh
              have g15 : f 15 = _ := h15
              have g17 : f 17 = _ := h17
              have g8 : f 8 = _ := h8
              refine tab_yes g8 fun K Q hK => ?_
              simp only [puts, List.foldr_cons, List.foldr_nil, List.setIfInBounds_toArray, List.set_cons_succ, List.set_cons_zero, g15, g17, g8]
              go_step
              refine fam_ex hK rfl rfl (by simp only [Act.put, List.setIfInBounds_toArray, List.set_cons_succ, List.set_cons_zero, Array.getD_eq_getD_getElem?, List.getElem?_toArray, List.getElem?_cons_succ, List.getElem?_cons_zero, Option.getD_some] <;> rfl) rfl (Below.refl _ _) hC
            · -- 19: Op.pick (Operand.tmp 40) (Operand.const (Value.bool true)) (Operand.tmp 50)
              obtain ⟨h8, h18, -⟩ := hh
              have g8 : f 8 = _ := h8
              have g18 : f 18 = _ := h18
              refine tab_plain fun K Q hK => ?_
              simp only [puts, List.foldr_cons, List.foldr_nil, List.setIfInBounds_toArray, List.set_cons_succ, List.set_cons_zero, g8, g18]
              go_step
              refine fam_ex hK rfl rfl (by simp only [Act.put, List.setIfInBounds_toArray, List.set_cons_succ, List.set_cons_zero, Array.getD_eq_getD_getElem?, List.getElem?_toArray, List.getElem?_cons_succ, List.getElem?_cons_zero, Option.getD_some] <;> rfl) rfl (Below.refl _ _) hC
          case qrest =>
            intro f W2 hC hh
            obtain ⟨h0, h1, h2, h3, h4, h5, h6, h7, h8, h9, h10, h11, h12, h13, h14, h15, h16, h17, h18, h19, -⟩ := hh
            have g0 : f 0 = _ := h0
            have g1 : f 1 = _ := h1
            have g2 : f 2 = _ := h2
            have g3 : f 3 = _ := h3
            have g4 : f 4 = _ := h4
            have g5 : f 5 = _ := h5
            have g6 : f 6 = _ := h6
            have g7 : f 7 = _ := h7
            have g8 : f 8 = _ := h8
            have g9 : f 9 = _ := h9
            have g10 : f 10 = _ := h10
            have g11 : f 11 = _ := h11
            have g12 : f 12 = _ := h12
            have g13 : f 13 = _ := h13
            have g14 : f 14 = _ := h14
            have g15 : f 15 = _ := h15
            have g16 : f 16 = _ := h16
            have g17 : f 17 = _ := h17
            have g18 : f 18 = _ := h18
            have g19 : f 19 = _ := h19
            simp only [puts, List.foldr_cons, List.foldr_nil, List.setIfInBounds_toArray, List.set_cons_succ, List.set_cons_zero, g0, g1, g2, g3, g4, g5, g6, g7, g8, g9, g10, g11, g12, g13, g14, g15, g16, g17, g18, g19]
            clear h0 h1 h2 h3 h4 h5 h6 h7 h8 h9 h10 h11 h12 h13 h14 h15 h16 h17 h18 h19 g0 g1 g2 g3 g4 g5 g6 g7 g8 g9 g10 g11 g12 g13 g14 g15 g16 g17 g18 g19
            go_wp2
            go_roundw
            case rel => exact ⟨j + 1, hj2, by go_num, hnext, hB2.trans (hC.mono hB2.size)⟩
            case measure => simp [intOf]; omega
        · have dj : decide ((j : Int) < 2) = false := decide_eq_false (by omega)
          have hR2 := Lib.hid (inR_snoc (by rw [HL.out]; exact hlt) HR.out (fun i hi => HJ.out i (by omega)))
          go_wp2
          go_roundw
          case rel => exact ⟨k + 1, hlt, by go_num, hR2, hB2⟩
          case measure => simp [intOf]; omega
    · have dlt : decide ((k : Int) < len) = false := decide_eq_false (by omega)
      have hR : InR N es := by
        have := HR.out
        rwa [List.take_of_length_le (by rw [HL.out]; omega)] at this
      have her := he1.later hB
      have hbh := behind_any N hN60 a len cap es wr her hR H36.out
      have HR2 := Lib.hid hR
      clear hR
      go_wp2_with (fail)
      go_at_call 34
      refine hbh.mono ?_
      rintro e w3 ⟨g, r, rfl, hM, hb3⟩
      clear hbh c0 c1
      have hB3 := hB.trans (hb3.mono hB.size)
      have hb03 := hb0r.trans (hb3.mono hb0r.size)
      obtain ⟨c0, c1⟩ := HO.out _ hB3
      go_wp2_with (fail)
      go_loop [6] (fun c => ∃ i : Nat, i ≤ N ∧ c = .int .i64 (i : Int) ∧ Hid (∀ j, j < i → ¬ Path (Ed es) j j)) (fun c => N - (intOf c).toNat)
      case atStart => exact ⟨0, Nat.zero_le _, rfl, Lib.hid (fun i hi => by omega)⟩
      case round =>
        obtain ⟨i, hi, rfl, HI⟩ := hrel
        by_cases hi2 : i < N
        · have di : decide ((i : Int) < N) = true := decide_eq_true (by omega)
          have hrow := hM.row i hi2
          have hcell := (hM.cell i i hi2 hi2).1
          by_cases hp : Path (Ed es) i i
          · rw [path_true hp] at hcell
            have hbad : Hid (¬ ValidO N es) := Lib.hid (fun h => h.2.2.2 i hp)
            clear hp
            go_wp2
            go_ret
            exact ⟨by rw [validB_no hbad.out] <;> rfl, hb03⟩
          · rw [path_false hp] at hcell
            have hnext : Hid (∀ j, j < i + 1 → ¬ Path (Ed es) j j) := Lib.hid (fun j hj => by
              rcases Nat.lt_or_ge j i with h | h
              · exact HI.out j h
              · obtain rfl : j = i := by omega
                exact hp)
            clear hp
            go_wp2
            go_round
            case rel => exact ⟨i + 1, hi2, by go_num, hnext⟩
            case measure => simp [intOf]; omega
        · have di : decide ((i : Int) < N) = false := decide_eq_false (by omega)
          have hgood : Hid (ValidO N es) := Lib.hid ⟨by omega, by rw [HL.out]; exact H36.out, HR2.out, fun x p => by
            have := HR2.out.ed
            obtain ⟨y, e⟩ := p.first
            exact HI.out x (by have := (this _ _ e).1; omega) p⟩
          go_wp2
          go_ret
          exact ⟨by rw [validB_yes hgood.out] <;> rfl, hb03⟩

theorem refExists_any (x : Int) : Calls Tryd.prog 36 #[.agg #[.int .i64 n, .slice a len cap], .int .i64 x] w fun e w' => e = .returned (.bool (decide (0 ≤ x ∧ x < n))) ∧ Below w.heap.size w w' := by
  obtain ⟨hb1, hs1, hO⟩ := boxR n a len cap w
  obtain ⟨c0, c1⟩ := hO _ (Below.refl _ _)
  by_cases h0 : 0 ≤ x
  · have d0 : decide (0 ≤ x) = true := decide_eq_true h0
    have d1 : decide (0 ≤ x ∧ x < n) = decide (x < n) := by simp [h0]
    rw [d1]
    clear h0 d1
    go_enter Tryd.func36, Tryd.ntmps36
    go_wp2
    all_goals
      go_ret
      exact ⟨by first | rfl | simp [*], hb1⟩
  · have d0 : decide (0 ≤ x) = false := decide_eq_false h0
    rw [decide_eq_false (fun h => h0 h.1)]
    clear h0
    go_enter Tryd.func36, Tryd.ntmps36
    go_wp2
    go_ret
    exact ⟨rfl, hb1⟩

open Classical in
theorem beforeB_eq {x y : Nat} {N : Nat} (h : ValidO N es ∧ ((0 ≤ (x : Int) ∧ (x : Int) < N) ∧ 0 ≤ (y : Int) ∧ (y : Int) < N)) : beforeB N es x y = pathB es x y := by
  unfold beforeB pathB
  rw [Bool.eq_iff_iff, decide_eq_true_iff, decide_eq_true_iff]
  exact ⟨fun h => h.2.2, fun p => ⟨h.1, h.2, p⟩⟩
open Classical in
theorem beforeB_no2 {x y : Int} (h : ¬ (ValidO n es ∧ ((0 ≤ x ∧ x < n) ∧ 0 ≤ y ∧ y < n) ∧ Path (Ed es) x.toNat y.toNat)) : beforeB n es x y = false := by
  unfold beforeB
  exact decide_eq_false h

theorem refBefore_any (x y : Int) (he : IsPairs w a len cap es) (hcap : len ≤ 9223372036854775807) :
    Calls Tryd.prog 16 #[.agg #[.int .i64 n, .slice a len cap], .int .i64 x, .int .i64 y] w fun e w' => e = .returned (.bool (beforeB n es x y)) ∧ Below w.heap.size w w' := by
  obtain ⟨hb1, hs1, hO⟩ := boxR n a len cap w
  obtain ⟨W1, hW1⟩ : ∃ W1, w.alloc (.cells #[.int .i64 n, .slice a len cap] 24) = W1 := ⟨_, rfl⟩
  rw [hW1] at hb1 hs1 hO
  rw [← hs1] at hO
  have he1 := he.later hb1
  obtain ⟨c0, c1⟩ := hO _ (Below.refl _ _)
  have HL := Lib.hid he.length
  have HW := Lib.hid hW1
  have HO := Lib.hid hO
  clear hW1 hO
  go_enter Tryd.func16, Tryd.ntmps16
  go_wp2_with (fail)
  rw [HW.out]
  go_at_call 14
  refine (refValid_any he1 hcap).mono ?_
  rintro e w2 ⟨rfl, hb2⟩
  clear c0 c1
  obtain ⟨c0, c1⟩ := HO.out _ hb2
  have hb02 := hb1.trans (hb2.mono hb1.size)
  by_cases hv : ValidO n es
  rotate_left
  · rw [validB_no hv]
    have hno := Lib.hid (beforeB_no2 (n := n) (es := es) (x := x) (y := y) (fun h => hv h.1))
    clear hv
    go_wp2
    go_ret
    exact ⟨by rw [hno.out] <;> rfl, hb02⟩
  rw [validB_yes hv]
  go_wp2_with (fail)
  go_at_call 36
  refine (refExists_any x).mono ?_
  rintro e w3 ⟨rfl, hb3⟩
  clear c0 c1
  have hB3 := hb2.trans (hb3.mono hb2.size)
  obtain ⟨c0, c1⟩ := HO.out _ hB3
  have hb03 := hb1.trans (hB3.mono hb1.size)
  by_cases hx : 0 ≤ x ∧ x < n
  rotate_left
  · rw [decide_eq_false hx]
    have hno := Lib.hid (beforeB_no2 (n := n) (es := es) (x := x) (y := y) (fun h => hx h.2.1.1))
    clear hx
    go_wp2
    go_ret
    exact ⟨by rw [hno.out] <;> rfl, hb03⟩
  rw [decide_eq_true hx]
  go_wp2_with (fail)
  go_at_call 36
  refine (refExists_any y).mono ?_
  rintro e w4 ⟨rfl, hb4⟩
  clear c0 c1
  have hB4 := hB3.trans (hb4.mono hB3.size)
  obtain ⟨c0, c1⟩ := HO.out _ hB4
  have hb04 := hb1.trans (hB4.mono hb1.size)
  by_cases hy : 0 ≤ y ∧ y < n
  rotate_left
  · rw [decide_eq_false hy]
    have hno := Lib.hid (beforeB_no2 (n := n) (es := es) (x := x) (y := y) (fun h => hy h.2.1.2))
    clear hy
    go_wp2
    go_ret
    exact ⟨by rw [hno.out] <;> rfl, hb04⟩
  rw [decide_eq_true hy]
  obtain ⟨N, rfl⟩ := Int.eq_ofNat_of_zero_le hv.1.1
  obtain ⟨x, rfl⟩ := Int.eq_ofNat_of_zero_le hx.1
  obtain ⟨y, rfl⟩ := Int.eq_ofNat_of_zero_le hy.1
  have hxN : x < N := by omega
  have hyN : y < N := by omega
  have hN60 : N ≤ 60 := by have := hv.1.2; omega
  have h36 : len ≤ 3600 := by rw [← HL.out]; exact hv.2.1
  have hbeh := fun W h => behind_any N hN60 a len cap es W h hv.2.2.1 h36
  have HBH := Lib.hid hbeh
  have HV := Lib.hid hv
  have HX := Lib.hid hx
  have HY := Lib.hid hy
  have HR := Lib.hid (show ValidO N es ∧ ((0 ≤ (x : Int) ∧ (x : Int) < N) ∧ 0 ≤ (y : Int) ∧ (y : Int) < N) from ⟨hv, hx, hy⟩)
  clear hbeh hv h36 hx hy
  go_wp2_with (fail)
  go_at_call 34
  refine (HBH.out _ (he1.later hB4)).mono ?_
  rintro e w5 ⟨g5, r5, rfl, hM5, hb5⟩
  clear c0 c1
  have hB5 := hB4.trans (hb5.mono hB4.size)
  obtain ⟨c0, c1⟩ := HO.out _ hB5
  have hrow := hM5.row x hxN
  have hcell := (hM5.cell x y hxN hyN).1
  have hres := Lib.hid (beforeB_eq HR.out)
  have hb05 := hb1.trans (hB5.mono hb1.size)
  obtain ⟨pb, hpb⟩ : ∃ pb, pathB es x y = pb := ⟨_, rfl⟩
  rw [hpb] at hcell
  replace hpb := Lib.hid hpb
  go_wp2
  go_ret
  exact ⟨by rw [hres.out, hpb.out] <;> rfl, hb05⟩

theorem refConcurrent_any (x y : Int) (he : IsPairs w a len cap es) (hcap : len ≤ 9223372036854775807) :
    Calls Tryd.prog 18 #[.agg #[.int .i64 n, .slice a len cap], .int .i64 x, .int .i64 y] w fun e w' => e = .returned (.bool (concB n es x y)) ∧ Below w.heap.size w w' := by
  obtain ⟨hb1, hs1, hO⟩ := boxR n a len cap w
  obtain ⟨W1, hW1⟩ : ∃ W1, w.alloc (.cells #[.int .i64 n, .slice a len cap] 24) = W1 := ⟨_, rfl⟩
  rw [hW1] at hb1 hs1 hO
  rw [← hs1] at hO
  have he1 := he.later hb1
  obtain ⟨c0, c1⟩ := hO _ (Below.refl _ _)
  have HL := Lib.hid he.length
  have HW := Lib.hid hW1
  have HO := Lib.hid hO
  clear hW1 hO
  go_enter Tryd.func18, Tryd.ntmps18
  go_wp2_with (fail)
  rw [HW.out]
  go_at_call 14
  refine (refValid_any he1 hcap).mono ?_
  rintro e w2 ⟨rfl, hb2⟩
  clear c0 c1
  obtain ⟨c0, c1⟩ := HO.out _ hb2
  have hb02 := hb1.trans (hb2.mono hb1.size)
  by_cases hv : ValidO n es
  rotate_left
  · rw [validB_no hv]
    have hno := Lib.hid (concB_no (n := n) (es := es) (x := x) (y := y) (fun h => hv h.1))
    clear hv
    go_wp2
    go_ret
    exact ⟨by rw [hno.out] <;> rfl, hb02⟩
  rw [validB_yes hv]
  go_wp2_with (fail)
  go_at_call 36
  refine (refExists_any x).mono ?_
  rintro e w3 ⟨rfl, hb3⟩
  clear c0 c1
  have hB3 := hb2.trans (hb3.mono hb2.size)
  obtain ⟨c0, c1⟩ := HO.out _ hB3
  have hb03 := hb1.trans (hB3.mono hb1.size)
  by_cases hx : 0 ≤ x ∧ x < n
  rotate_left
  · rw [decide_eq_false hx]
    have hno := Lib.hid (concB_no (n := n) (es := es) (x := x) (y := y) (fun h => hx h.2.1.1))
    clear hx
    go_wp2
    go_ret
    exact ⟨by rw [hno.out] <;> rfl, hb03⟩
  rw [decide_eq_true hx]
  go_wp2_with (fail)
  go_at_call 36
  refine (refExists_any y).mono ?_
  rintro e w4 ⟨rfl, hb4⟩
  clear c0 c1
  have hB4 := hB3.trans (hb4.mono hB3.size)
  obtain ⟨c0, c1⟩ := HO.out _ hB4
  have hb04 := hb1.trans (hB4.mono hb1.size)
  by_cases hy : 0 ≤ y ∧ y < n
  rotate_left
  · rw [decide_eq_false hy]
    have hno := Lib.hid (concB_no (n := n) (es := es) (x := x) (y := y) (fun h => hy h.2.1.2))
    clear hy
    go_wp2
    go_ret
    exact ⟨by rw [hno.out] <;> rfl, hb04⟩
  rw [decide_eq_true hy]
  obtain ⟨N, rfl⟩ := Int.eq_ofNat_of_zero_le hv.1.1
  obtain ⟨x, rfl⟩ := Int.eq_ofNat_of_zero_le hx.1
  obtain ⟨y, rfl⟩ := Int.eq_ofNat_of_zero_le hy.1
  have hxN : x < N := by omega
  have hyN : y < N := by omega
  have hN60 : N ≤ 60 := by have := hv.1.2; omega
  have h36 : len ≤ 3600 := by rw [← HL.out]; exact hv.2.1
  have hbeh := fun W h => behind_any N hN60 a len cap es W h hv.2.2.1 h36
  have HBH := Lib.hid hbeh
  have HV := Lib.hid hv
  have HX := Lib.hid hx
  have HY := Lib.hid hy
  have HR := Lib.hid (show ValidO N es ∧ ((0 ≤ (x : Int) ∧ (x : Int) < N) ∧ 0 ≤ (y : Int) ∧ (y : Int) < N) from ⟨hv, hx, hy⟩)
  clear hbeh hv h36 hx hy
  by_cases hxy : x = y
  · have dxy : ((x : Int) != (y : Int)) = false := by simp; omega
    have hno := Lib.hid (concB_no (n := N) (es := es) (x := x) (y := y) (fun h => h.2.2.1 (by rw [hxy])))
    clear hxy
    go_wp2
    go_ret
    exact ⟨by rw [hno.out] <;> rfl, hb04⟩
  have dxy : ((x : Int) != (y : Int)) = true := by simp; omega
  go_wp2_with (fail)
  go_at_call 34
  refine (HBH.out _ (he1.later hB4)).mono ?_
  rintro e w5 ⟨g5, r5, rfl, hM5, hb5⟩
  clear c0 c1
  have hB5 := hB4.trans (hb5.mono hB4.size)
  obtain ⟨c0, c1⟩ := HO.out _ hB5
  have hrow := hM5.row x hxN
  have hcell := (hM5.cell x y hxN hyN).1
  have hb05 := hb1.trans (hB5.mono hb1.size)
  by_cases p1 : Path (Ed es) x y
  · rw [path_true p1] at hcell
    have hno := Lib.hid (concB_no (n := N) (es := es) (x := x) (y := y) (fun h => h.2.2.2.1 p1))
    clear p1 hxy
    go_wp2
    go_ret
    exact ⟨by rw [hno.out] <;> rfl, hb05⟩
  rw [path_false p1] at hcell
  have P1 := Lib.hid p1
  have HXY := Lib.hid hxy
  clear p1 hxy
  go_wp2_with (fail)
  go_at_call 34
  refine (HBH.out _ (he1.later hB5)).mono ?_
  rintro e w6 ⟨g6, r6, rfl, hM6, hb6⟩
  clear c0 c1
  have hB6 := hB5.trans (hb6.mono hB5.size)
  obtain ⟨c0, c1⟩ := HO.out _ hB6
  have hrow2 := hM6.row y hyN
  have hcell2 := (hM6.cell y x hyN hxN).1
  have hb06 := hb1.trans (hB6.mono hb1.size)
  clear hrow hcell
  by_cases p2 : Path (Ed es) y x
  · rw [path_true p2] at hcell2
    have hno := Lib.hid (concB_no (n := N) (es := es) (x := x) (y := y) (fun h => h.2.2.2.2 p2))
    clear p2
    go_wp2
    go_ret
    exact ⟨by rw [hno.out] <;> rfl, hb06⟩
  rw [path_false p2] at hcell2
  have hyes := Lib.hid (concB_yes (n := N) (es := es) (x := x) (y := y) ⟨HR.out.1, HR.out.2, fun e => HXY.out (Int.ofNat_inj.1 e), P1.out, p2⟩)
  clear p2
  go_wp2
  go_ret
  exact ⟨by rw [hyes.out] <;> rfl, hb06⟩
end Go.Proofs.YtofnbndpoiohhaaDoor
