/-
  WalAppend: the walk.
-/
import Derived.Test.YtpmhnmkpmkeadaaWalP
import Derived.Test.YtpmhnmkpmkeadaaWalT
set_option linter.unusedSimpArgs false
set_option linter.unusedVariables false
set_option maxHeartbeats 8000000
namespace Go.Proofs.Ytpmhnmkpmkeadaa
open Go.RowKit

theorem valid_math {rs : List (List Int)} (hok : OkR rs) (S : Nat) {k : Nat} {e : Int} (h : ReadIs (encP basis (allP rs)) k e) :
    decide (e = 0 ∧ (((32 * (allP (rs.take S)).length : Nat) : Int) = 0 ∨ ((32 * (allP (rs.take S)).length : Nat) : Int) ∈ (stB (encP basis (allP rs)) k).ends)) = true := by
  obtain ⟨g1, g2⟩ := read_all hok rfl
  obtain ⟨rfl, rfl⟩ := h.uniq g1
  refine decide_eq_true ⟨rfl, ?_⟩
  rw [g2]
  have e1 : rs.take S = rs.take (min S rs.length) := by
    rcases Nat.le_total S rs.length with h | h
    · rw [Nat.min_eq_left h]
    · rw [Nat.min_eq_right h, List.take_of_length_le h, List.take_of_length_le (Nat.le_refl _)]
  rw [e1]
  rcases ends_mem rs (min S rs.length) (Nat.min_le_right _ _) with h0 | h0
  · left
    rw [h0]
    simp [allP]
  · right
    rw [show ((32 * (allP (rs.take (min S rs.length))).length : Nat) : Int) = 32 * ((allP (rs.take (min S rs.length))).length : Int) by omega]
    exact h0

set_option maxRecDepth 20000 in
theorem walAppend_walk (a : Option Addr) (len cap : Nat) (rs : List (List Int)) (sy : Int) (w : World) (hs : IsRecs w a len cap rs) (hb : ∀ r ∈ rs, Bytes r) (hwa : (Lit.int .u8 sy).wf = true) :
    Calls Try.prog 8 #[.slice a len cap, .int .u8 sy] w fun e w' => e = .returned (.bool true) ∧ Below w.heap.size w w' := by
  have hcap := hs.cap
  unfold maxLen at hcap
  have HL := Lib.hid hs.1
  have hS0 := bounds_u8 hwa
  clear hwa
  obtain ⟨S, rfl⟩ := Int.eq_ofNat_of_zero_le hS0.1
  go_enter Try.func8, Try.ntmps8
  go_wp2_with (fail)
  go_at_call 10
  refine (awake_any w).mono ?_
  rintro e w1 ⟨rfl, hb1⟩
  have hs1 := hs.later hb1
  cases hfew : fewL rs with
  | false =>
    go_wp2_with (go_at_call 14; refine (Few_any _ _ _ _ _ hs1).mono ?_; rintro e w' ⟨rfl, rfl⟩; rw [hfew])
    go_ret
    exact ⟨rfl, hb1⟩
  | true =>
  obtain ⟨hok, h12⟩ := fewL_yes hfew hb
  have hcnt := hok.cnt
  rw [hs.1] at h12 hcnt
  have hvm := fun k e h => @valid_math rs hok.okR S k e h
  have hlo := logOf_any a len cap rs S w1 hs1 hok (by omega) (by omega)
  have hmk := fun W h => refMake_any a len cap rs S W h hok (by omega) (by omega)
  obtain ⟨zs, hzs⟩ : ∃ zs, encP basis (allP rs) = zs := ⟨_, rfl⟩
  have hzb : Bytes zs := by rw [← hzs]; exact encP_bytes basis_bd.1 basis_bd.2 (allP_ok hok.okR)
  obtain ⟨SP, hSP⟩ : ∃ SP, 32 * (allP (rs.take S)).length = SP := ⟨_, rfl⟩
  rw [hSP, hzs] at hlo hvm
  simp only [hSP, hzs] at hmk
  obtain ⟨fl, hfl⟩ : ∃ fl, 32 * (allP rs).length = fl := ⟨_, rfl⟩
  rw [hfl] at hlo
  simp only [hfl] at hmk
  have hfl5 : fl ≤ 2000 := by omega
  have HVM := Lib.hid hvm
  have HMK := Lib.hid hmk
  clear hvm hmk hSP hzs hfl hcnt
  go_wp2_with (first | (go_at_call 14; refine (Few_any _ _ _ _ _ hs1).mono ?_; rintro e w' ⟨rfl, rfl⟩; rw [hfew]) | fail)
  go_at_call 16
  refine hlo.mono ?_
  clear hlo
  rintro e w2 ⟨⟨fa, fl', fc, rfl, rfl, ho2⟩, hb2⟩
  have hb02 := hb1.trans (hb2.mono hb1.size)
  obtain ⟨w3, hw3⟩ : ∃ w3, w2.alloc (.cells #[.slice fa fl' fc, .int .i64 (SP : Int)] 26) = w3 := ⟨_, rfl⟩
  have hb23 : Below w2.heap.size w2 w3 := by rw [← hw3]; exact (Below.refl _ _).alloc (Nat.le_refl _) _
  have hX3 : Box2 w3 w2.heap.size (.slice fa fl' fc) (.int .i64 (SP : Int)) := by rw [← hw3]; exact Box2.new _ _ _ _
  have hI3 := (IsInts.of_owns ho2).1.later hb23
  have hb03 := hb02.trans (hb23.mono hb02.size)
  replace hw3 := Lib.hid hw3
  go_wp2_with (fail)
  rw [hw3.out]
  clear hw3
  go_at_call 24
  refine (HMK.out _ (hs.later hb03)).mono ?_
  rintro e w4 ⟨⟨ga, gl', gc, rfl, rfl, ho4⟩, hb4⟩
  have hb04 := hb03.trans (hb4.mono hb03.size)
  obtain ⟨w5, hw5⟩ : ∃ w5, w4.alloc (.cells #[.slice ga gl' gc, .int .i64 (SP : Int)] 46) = w5 := ⟨_, rfl⟩
  have hb45 : Below w4.heap.size w4 w5 := by rw [← hw5]; exact (Below.refl _ _).alloc (Nat.le_refl _) _
  have hY5 : Box2 w5 w4.heap.size (.slice ga gl' gc) (.int .i64 (SP : Int)) := by rw [← hw5]; exact Box2.new _ _ _ _
  have hJ5 := (IsInts.of_owns ho4).1.later hb45
  have hb35 := hb4.trans (hb45.mono hb4.size)
  have hX5 := hX3.later hb35
  have hI5 := hI3.later hb35
  have hb05 := hb04.trans (hb45.mono hb04.size)
  replace hw5 := Lib.hid hw5
  clear hX3 hI3 ho2 ho4
  go_wp2_with (fail)
  rw [hw5.out]
  clear hw5
  obtain ⟨wo, hwo⟩ : ∃ wo, wo = w5 := ⟨_, rfl⟩
  go_loopw [8] (fun i W => ∃ k : Nat, k ≤ len ∧ i = .int .i64 (k : Int) ∧ Below w5.heap.size w5 W) (fun i _ => len - (intOf i).toNat)
  case atStart => exact ⟨0, Nat.zero_le _, rfl, Below.refl _ _⟩
  case round =>
    obtain ⟨k, hk, rfl, hbW⟩ := hrel
    by_cases hlt : k < len
    · have dlt : decide ((k : Int) < len) = true := decide_eq_true (by omega)
      obtain ⟨b, off, ai, ci, rfl, hbl', hcell, hrow⟩ := hs.at w (Below.refl _ _) k hlt
      obtain ⟨r, hr⟩ : ∃ r, gl rs k = r := ⟨_, rfl⟩
      have hrok := hok _ (gl_mem rs k (by rw [HL.out]; exact hlt))
      rw [hr] at hcell hrow hrok
      have hr100 := hrok.2
      obtain ⟨lr, hlr⟩ : ∃ lr, r.length = lr := ⟨_, rfl⟩
      rw [hlr] at hcell hrow hr100
      have hb0W := hb05.trans (hbW.mono hb05.size)
      have hcW := (hb0W.cell (p := ⟨b, off + k, none⟩) hbl').trans hcell
      obtain ⟨C, hC⟩ : ∃ C, cellsN lr = C := ⟨_, rfl⟩
      have hc1 := fun W => Cells_any ai lr ci W (by omega)
      have hc2 := fun W => refCells_any ai lr ci W (by omega)
      rw [hC] at hc1 hc2
      have HC1 := Lib.hid hc1
      have HC2 := Lib.hid hc2
      clear hC hc1 hc2
      go_wp2
      refine wp_region_grow mixed (by kernel_rfl) [[], [], [(0, 31), (1, 32)], [(2, 33)], [(3, 34)], [], [], [(5, 36), (6, 37)], [(7, 38)], [(8, 39), (4, 35)], [(4, 35), (9, 40)]] [(0, 31), (1, 32), (2, 33), (3, 34), (4, 35), (5, 36), (6, 37), (7, 38), (8, 39), (9, 40), (10, 41)] rfl rfl [Ex ?e0, Ex ?e1, Ex ?e2, Ex ?e3, Ex ?e4, Ex ?e5, Ex ?e6, Ex ?e7, Ex ?e8, Ex ?e9, Ex ?e10] ⟨stays_ex _, stays_ex _, stays_ex _, stays_ex _, stays_ex _, stays_ex _, stays_ex _, stays_ex _, stays_ex _, stays_ex _, stays_ex _, trivial⟩ ?steps ?rest
      case steps =>
        refine ⟨fun f W hC hh => ?_, fun f W hC hh => ?_, fun f W hC hh => ?_, fun f W hC hh => ?_, fun f W hC hh => ?_, fun f W hC hh => ?_, fun f W hC hh => ?_, fun f W hC hh => ?_, fun f W hC hh => ?_, fun f W hC hh => ?_, fun f W hC hh => ?_, trivial⟩
        · -- 0: Op.move (Operand.tmp 0)
          refine tab_plain fun K Q hK => ?_
          simp only [puts, List.foldr_nil]
          go_step
          refine fam_ex hK rfl rfl (by simp only [Act.put, List.setIfInBounds_toArray, List.set_cons_succ, List.set_cons_zero, Array.getD_eq_getD_getElem?, List.getElem?_toArray, List.getElem?_cons_succ, List.getElem?_cons_zero, Option.getD_some] <;> rfl) rfl (Below.refl _ _) hC
        · -- 1: Op.move (Operand.tmp 8)
          refine tab_plain fun K Q hK => ?_
          simp only [puts, List.foldr_nil]
          go_step
          refine fam_ex hK rfl rfl (by simp only [Act.put, List.setIfInBounds_toArray, List.set_cons_succ, List.set_cons_zero, Array.getD_eq_getD_getElem?, List.getElem?_toArray, List.getElem?_cons_succ, List.getElem?_cons_zero, Option.getD_some] <;> rfl) rfl (Below.refl _ _) hC
        · -- 2: Op.indexAddr 30 (Operand.tmp 31) (Operand.tmp 32)
          obtain ⟨h0, h1, -⟩ := hh
          have g0 : f 0 = _ := h0
          have g1 : f 1 = _ := h1
          refine tab_plain fun K Q hK => ?_
          simp only [puts, List.foldr_cons, List.foldr_nil, List.setIfInBounds_toArray, List.set_cons_succ, List.set_cons_zero, g0, g1]
          go_step
          refine fam_ex hK rfl rfl (by simp only [Act.put, List.setIfInBounds_toArray, List.set_cons_succ, List.set_cons_zero, Array.getD_eq_getD_getElem?, List.getElem?_toArray, List.getElem?_cons_succ, List.getElem?_cons_zero, Option.getD_some] <;> rfl) rfl (Below.refl _ _) hC
        · -- 3: Op.load 24 (Operand.tmp 33)
          obtain ⟨h2, -⟩ := hh
          have g2 : f 2 = _ := h2
          refine tab_plain fun K Q hK => ?_
          simp only [puts, List.foldr_cons, List.foldr_nil, List.setIfInBounds_toArray, List.set_cons_succ, List.set_cons_zero, g2]
          have hc3 := (hC.cell (p := ⟨b, off + k, none⟩) (by have := hb0W.size; show b < _; omega)).trans hcW
          go_step
          refine fam_ex hK rfl rfl (by simp only [Act.put, List.setIfInBounds_toArray, List.set_cons_succ, List.set_cons_zero, Array.getD_eq_getD_getElem?, List.getElem?_toArray, List.getElem?_cons_succ, List.getElem?_cons_zero, Option.getD_some] <;> rfl) rfl (Below.refl _ _) hC
        · -- 4: Op.call { callee := Callee.value (Operand.func 13), args := #[Operand.tmp 34], argTypes :=
          obtain ⟨h3, -⟩ := hh
          have g3 : f 3 = _ := h3
          refine tab_plain fun K Q hK => ?_
          simp only [puts, List.foldr_cons, List.foldr_nil, List.setIfInBounds_toArray, List.set_cons_succ, List.set_cons_zero, g3]
          go_step
          go_at_call 13
          refine (HC1.out W).mono ?_
          rintro e w' ⟨rfl, rfl⟩
          refine fam_ex hK rfl rfl (by simp only [Act.put, List.setIfInBounds_toArray, List.set_cons_succ, List.set_cons_zero, Array.getD_eq_getD_getElem?, List.getElem?_toArray, List.getElem?_cons_succ, List.getElem?_cons_zero, Option.getD_some] <;> rfl) rfl (Below.refl _ _) hC
        · -- 5: Op.move (Operand.tmp 0)
          refine tab_plain fun K Q hK => ?_
          simp only [puts, List.foldr_nil]
          go_step
          refine fam_ex hK rfl rfl (by simp only [Act.put, List.setIfInBounds_toArray, List.set_cons_succ, List.set_cons_zero, Array.getD_eq_getD_getElem?, List.getElem?_toArray, List.getElem?_cons_succ, List.getElem?_cons_zero, Option.getD_some] <;> rfl) rfl (Below.refl _ _) hC
        · -- 6: Op.move (Operand.tmp 8)
          refine tab_plain fun K Q hK => ?_
          simp only [puts, List.foldr_nil]
          go_step
          refine fam_ex hK rfl rfl (by simp only [Act.put, List.setIfInBounds_toArray, List.set_cons_succ, List.set_cons_zero, Array.getD_eq_getD_getElem?, List.getElem?_toArray, List.getElem?_cons_succ, List.getElem?_cons_zero, Option.getD_some] <;> rfl) rfl (Below.refl _ _) hC
        · -- 7: Op.indexAddr 30 (Operand.tmp 36) (Operand.tmp 37)
          obtain ⟨h5, h6, -⟩ := hh
          have g5 : f 5 = _ := h5
          have g6 : f 6 = _ := h6
          refine tab_plain fun K Q hK => ?_
          simp only [puts, List.foldr_cons, List.foldr_nil, List.setIfInBounds_toArray, List.set_cons_succ, List.set_cons_zero, g5, g6]
          go_step
          refine fam_ex hK rfl rfl (by simp only [Act.put, List.setIfInBounds_toArray, List.set_cons_succ, List.set_cons_zero, Array.getD_eq_getD_getElem?, List.getElem?_toArray, List.getElem?_cons_succ, List.getElem?_cons_zero, Option.getD_some] <;> rfl) rfl (Below.refl _ _) hC
        · -- 8: Op.load 24 (Operand.tmp 38)
          obtain ⟨h7, -⟩ := hh
          have g7 : f 7 = _ := h7
          refine tab_plain fun K Q hK => ?_
          simp only [puts, List.foldr_cons, List.foldr_nil, List.setIfInBounds_toArray, List.set_cons_succ, List.set_cons_zero, g7]
          have hc3 := (hC.cell (p := ⟨b, off + k, none⟩) (by have := hb0W.size; show b < _; omega)).trans hcW
          go_step
          refine fam_ex hK rfl rfl (by simp only [Act.put, List.setIfInBounds_toArray, List.set_cons_succ, List.set_cons_zero, Array.getD_eq_getD_getElem?, List.getElem?_toArray, List.getElem?_cons_succ, List.getElem?_cons_zero, Option.getD_some] <;> rfl) rfl (Below.refl _ _) hC
        · -- 9: Op.call { callee := Callee.value (Operand.func 25), args := #[Operand.tmp 39], argTypes :=
          obtain ⟨h8, h4, -⟩ := hh
          have g8 : f 8 = _ := h8
          have g4 : f 4 = _ := h4
          refine tab_plain fun K Q hK => ?_
          simp only [puts, List.foldr_cons, List.foldr_nil, List.setIfInBounds_toArray, List.set_cons_succ, List.set_cons_zero, g8, g4]
          go_step
          go_at_call 25
          refine (HC2.out W).mono ?_
          rintro e w' ⟨rfl, rfl⟩
          refine fam_ex hK rfl rfl (by simp only [Act.put, List.setIfInBounds_toArray, List.set_cons_succ, List.set_cons_zero, Array.getD_eq_getD_getElem?, List.getElem?_toArray, List.getElem?_cons_succ, List.getElem?_cons_zero, Option.getD_some] <;> rfl) rfl (Below.refl _ _) hC
        · -- 10: Op.binOp BinOp.neq 3 (Operand.tmp 35) (Operand.tmp 40) 3
          obtain ⟨h4, h9, -⟩ := hh
          have g4 : f 4 = _ := h4
          have g9 : f 9 = _ := h9
          refine tab_plain fun K Q hK => ?_
          simp only [puts, List.foldr_cons, List.foldr_nil, List.setIfInBounds_toArray, List.set_cons_succ, List.set_cons_zero, g4, g9]
          go_step
          refine fam_ex hK rfl rfl (by simp only [Act.put, List.setIfInBounds_toArray, List.set_cons_succ, List.set_cons_zero, Array.getD_eq_getD_getElem?, List.getElem?_toArray, List.getElem?_cons_succ, List.getElem?_cons_zero, Option.getD_some] <;> rfl) rfl (Below.refl _ _) hC
      case rest =>
        intro f W2 hC hh
        obtain ⟨h0, h1, h2, h3, h4, h5, h6, h7, h8, h9, h10, -⟩ := hh
        have g0 : f 0 = _ := h0
        have g1 : f 1 = _ := h1
        have g2 : f 2 = _ := h2
        have g3 : f 3 = _ := h3
        have g4 : f 4 = _ := h4
        have g5 : f 5 = _ := h5
        have g6 : f 6 = _ := h6
        have g7 : f 7 = _ := h7
        have g8 : f 8 = _ := h8
        have g9 : f 9 = _ := h9
        have g10 : f 10 = _ := h10
        simp only [puts, List.foldr_cons, List.foldr_nil, List.setIfInBounds_toArray, List.set_cons_succ, List.set_cons_zero, g0, g1, g2, g3, g4, g5, g6, g7, g8, g9, g10]
        clear h0 h1 h2 h3 h4 h5 h6 h7 h8 h9 h10 g0 g1 g2 g3 g4 g5 g6 g7 g8 g9 g10
        go_wp2
        go_roundw
        case rel => exact ⟨k + 1, hlt, by go_num, hbW.trans (hC.mono hbW.size)⟩
        case measure => simp [intOf]; omega
    · obtain rfl : k = len := by omega
      have dlt : decide ((k : Int) < k) = false := decide_eq_false (by omega)
      obtain ⟨x0, x1, -, -⟩ := (hX5.later hbW).cells
      obtain ⟨y0, y1, -, -⟩ := (hY5.later hbW).cells
      have hIW := hI5.later hbW
      have h1 := run_toString wr 24 9 5 Try.underlying24 Try.underlying5 Try.underlying9 fa _ fc zs hIW
      have h2 := run_toString wr 24 9 5 Try.underlying24 Try.underlying5 Try.underlying9 ga _ gc zs (hJ5.later hbW)
      go_wp2_with (first | (go_at_call 21; refine (Valid_any _ _ _ _ _ _ hIW hzb (by omega)).mono ?_; rintro e w9 ⟨k9, e9, rfl, hR9, hb9⟩; rw [HVM.out k9 e9 hR9]) | fail)
      go_ret
      exact ⟨rfl, (hb05.trans (hbW.mono hb05.size)).trans (hb9.mono (Nat.le_trans hb05.size hbW.size))⟩
end Go.Proofs.Ytpmhnmkpmkeadaa
