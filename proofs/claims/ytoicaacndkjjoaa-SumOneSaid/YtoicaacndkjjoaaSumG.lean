/-
  Opening: what the program's Open returns.
-/
import Derived.Test.YtoicaacndkjjoaaSumF
set_option linter.unusedSimpArgs false
set_option linter.unusedVariables false
namespace Go.Proofs.Ytoicaacndkjjoaa
open Go.RowKit

theorem open_any (a : Option Addr) (len cap : Nat) (zs : List Int) (w : World) (hs : IsInts .u8 w a len cap zs) (hb : Bytes zs) (hlen : len ≤ 60000) :
    Calls Try.prog 19 #[.slice a len cap] w fun e w' => ∃ a' n' c', e = .returned (.tuple #[.slice a' n' c', .int .i64 (openR zs).2]) ∧ w'.ownsRow w.heap.size 5 1 (.slice a' n' c') n' (ivs .u8 (openR zs).1) ∧ Below w.heap.size w w' := by
  by_cases h8 : len < 8
  · have hd : decide ((len : Int) < 8) = true := decide_eq_true (by omega)
    have hcap := hs.cap.2
    unfold maxLen at hcap
    have hcl := hs.cap.1
    have HO := Lib.hid (openR_short (zs := zs) (by rw [hs.length]; exact h8))
    go_enter Try.func19, Try.ntmps19
    go_wp2
    go_ret2
    rw [HO.out]
    exact ⟨_, _, _, rfl, World.ownsRow_nil _ _ _ _, Below.refl _ _⟩
  · obtain ⟨n, rfl⟩ : ∃ n, len = n + 8 := ⟨len - 8, by omega⟩
    have hcap := hs.cap
    have hHn := fromH_bd 14695981039346656037 (zs.take n) (by decide) (by decide)
    obtain ⟨hH0, hH1⟩ := hHn
    have HL : Hid (zs.length = n + 8) := Lib.hid hs.length
    have hsl : IsInts .u8 w a n cap (zs.take n) := by
      have := hs.slice 0 n cap (by omega) (by omega) (by omega) (by omega) (a' := a) (fun h => (by cases a with | none => rfl | some x => simp [Addr.add])) (fun _ => rfl)
      simpa using this
    rcases hs with ⟨_, h0, _⟩ | ⟨b, off, rfl, h1, h2, hz, hc⟩
    · omega
    · unfold maxLen at h2
      clear hz
      have HC := Lib.hid hc
      clear hc
      have hdl : (zs.drop n).length = 8 := by rw [List.length_drop, HL.out]; omega
      have e8 : ∀ l : List Int, l.length = 8 → l = [gi l 0, gi l 1, gi l 2, gi l 3, gi l 4, gi l 5, gi l 6, gi l 7] := by
        intro l hl
        match l, hl with
        | [_, _, _, _, _, _, _, _], _ => rfl
      have hdrop : zs.drop n = [gi zs n, gi zs (n + 1), gi zs (n + 2), gi zs (n + 3), gi zs (n + 4), gi zs (n + 5), gi zs (n + 6), gi zs (n + 7)] := by
        have := e8 _ hdl
        simp only [gi_drop] at this
        exact this
      have hneq : ∀ W : World, (Op.equalIn 10000 48 (.agg #[.int .u8 (gi (eightL (fromH 14695981039346656037 (zs.take n))) 0), .int .u8 (gi (eightL (fromH 14695981039346656037 (zs.take n))) 1), .int .u8 (gi (eightL (fromH 14695981039346656037 (zs.take n))) 2), .int .u8 (gi (eightL (fromH 14695981039346656037 (zs.take n))) 3), .int .u8 (gi (eightL (fromH 14695981039346656037 (zs.take n))) 4), .int .u8 (gi (eightL (fromH 14695981039346656037 (zs.take n))) 5), .int .u8 (gi (eightL (fromH 14695981039346656037 (zs.take n))) 6), .int .u8 (gi (eightL (fromH 14695981039346656037 (zs.take n))) 7)])
          (.agg #[.int .u8 (gi zs n), .int .u8 (gi zs (n + 1)), .int .u8 (gi zs (n + 2)), .int .u8 (gi zs (n + 3)), .int .u8 (gi zs (n + 4)), .int .u8 (gi zs (n + 5)), .int .u8 (gi zs (n + 6)), .int .u8 (gi zs (n + 7))])).run Try.prog W = .ok (decide (eightL (fromH 14695981039346656037 (zs.take n)) = zs.drop n)) W := by
        intro W
        have := run_equalIn_ints (P := Try.prog) W 48 5 .u8 8 Try.underlying48 Try.underlying5 (fun w => by kernel_rfl) (eightL (fromH 14695981039346656037 (zs.take n))) (zs.drop n) (eightL_length _) hdl
        rw [← this, hdrop]
        rfl
      have HN := Lib.hid hneq
      clear hneq e8 hdrop hdl
      have hbl : b < w.heap.size := lt_of_cell (HC.out 0 (by omega))
      go_enter Try.func19, Try.ntmps19
      go_wp2
      refine wp_region_grow mixed (by kernel_rfl) [[], [], [(0, 10), (1, 11)], [(2, 12)], [(3, 13), (3, 13)], [], [], [(5, 15), (6, 16)], [(7, 17)], [(8, 18)], [(4, 14), (9, 19)]] [(0, 10), (1, 11), (2, 12), (3, 13), (4, 14), (5, 15), (6, 16), (7, 17), (8, 18), (9, 19), (10, 20)] rfl rfl [Ex ?e0, Ex ?e1, Ex ?e2, Ex ?e3, Ex (.agg #[.int .u8 (gi (eightL (fromH 14695981039346656037 (zs.take n))) 0), .int .u8 (gi (eightL (fromH 14695981039346656037 (zs.take n))) 1), .int .u8 (gi (eightL (fromH 14695981039346656037 (zs.take n))) 2), .int .u8 (gi (eightL (fromH 14695981039346656037 (zs.take n))) 3), .int .u8 (gi (eightL (fromH 14695981039346656037 (zs.take n))) 4), .int .u8 (gi (eightL (fromH 14695981039346656037 (zs.take n))) 5), .int .u8 (gi (eightL (fromH 14695981039346656037 (zs.take n))) 6), .int .u8 (gi (eightL (fromH 14695981039346656037 (zs.take n))) 7)]), Ex ?e5, Ex ?e6, Ex ?e7, Ex ?e8, Ex ?e9, Ex ?e10] ⟨stays_ex _, stays_ex _, stays_ex _, stays_ex _, stays_ex _, stays_ex _, stays_ex _, stays_ex _, stays_ex _, stays_ex _, stays_ex _, trivial⟩ ?steps ?rest
      case steps =>
        refine ⟨fun f W hC hh => ?_, fun f W hC hh => ?_, fun f W hC hh => ?_, fun f W hC hh => ?_, fun f W hC hh => ?_, fun f W hC hh => ?_, fun f W hC hh => ?_, fun f W hC hh => ?_, fun f W hC hh => ?_, fun f W hC hh => ?_, fun f W hC hh => ?_, trivial⟩
        · -- 0: Op.move (Operand.tmp 0)
          refine tab_plain fun K Q hK => ?_
          simp only [puts, List.foldr_nil]
          go_step
          refine fam_ex hK rfl rfl (by simp only [Act.put, List.setIfInBounds_toArray, List.set_cons_succ, List.set_cons_zero, Array.getD_eq_getD_getElem?, List.getElem?_toArray, List.getElem?_cons_succ, List.getElem?_cons_zero, Option.getD_some] <;> rfl) rfl (Below.refl _ _) hC
        · -- 1: Op.move (Operand.tmp 4)
          refine tab_plain fun K Q hK => ?_
          simp only [puts, List.foldr_nil]
          go_step
          refine fam_ex hK rfl rfl (by simp only [Act.put, List.setIfInBounds_toArray, List.set_cons_succ, List.set_cons_zero, Array.getD_eq_getD_getElem?, List.getElem?_toArray, List.getElem?_cons_succ, List.getElem?_cons_zero, Option.getD_some] <;> rfl) rfl (Below.refl _ _) hC
        · -- 2: Op.slice 23 (Operand.tmp 10) none (some (Operand.tmp 11)) none
          obtain ⟨h0, h1, -⟩ := hh
          have g0 : f 0 = _ := h0
          have g1 : f 1 = _ := h1
          refine tab_plain fun K Q hK => ?_
          simp only [puts, List.foldr_cons, List.foldr_nil, List.setIfInBounds_toArray, List.set_cons_succ, List.set_cons_zero, g0, g1]
          go_step
          refine fam_ex hK rfl rfl (by simp only [Act.put, List.setIfInBounds_toArray, List.set_cons_succ, List.set_cons_zero, Array.getD_eq_getD_getElem?, List.getElem?_toArray, List.getElem?_cons_succ, List.getElem?_cons_zero, Option.getD_some] <;> rfl) rfl (Below.refl _ _) hC
        · -- 3: Op.call { callee := Callee.value (Operand.func 11), args := #[Operand.tmp 12], argTypes :=
          obtain ⟨h2, -⟩ := hh
          have g2 : f 2 = _ := h2
          refine tab_plain fun K Q hK => ?_
          simp only [puts, List.foldr_cons, List.foldr_nil, List.setIfInBounds_toArray, List.set_cons_succ, List.set_cons_zero, g2]
          go_step
          go_at_call 11
          refine (of_any _ _ _ _ _ (hsl.later hC)).mono ?_
          rintro e w' ⟨rfl, rfl⟩
          refine fam_ex hK rfl rfl (by simp only [Act.put, List.setIfInBounds_toArray, List.set_cons_succ, List.set_cons_zero, Array.getD_eq_getD_getElem?, List.getElem?_toArray, List.getElem?_cons_succ, List.getElem?_cons_zero, Option.getD_some] <;> rfl) rfl (Below.refl _ _) hC
        · -- 4: Op.call { callee := Callee.value (Operand.func 24), args := #[Operand.tmp 13], argTypes :=
          obtain ⟨h3, _, -⟩ := hh
          have g3 : f 3 = _ := h3
          refine tab_plain fun K Q hK => ?_
          simp only [puts, List.foldr_cons, List.foldr_nil, List.setIfInBounds_toArray, List.set_cons_succ, List.set_cons_zero, g3]
          go_step
          go_at_call 24
          refine (eight_lit _ _ hH0 hH1).mono ?_
          rintro e w' ⟨rfl, hb'⟩
          exact fam_fin hK rfl rfl hb' (hC.trans (hb'.mono hC.size))
        · -- 5: Op.move (Operand.tmp 0)
          refine tab_plain fun K Q hK => ?_
          simp only [puts, List.foldr_nil]
          go_step
          refine fam_ex hK rfl rfl (by simp only [Act.put, List.setIfInBounds_toArray, List.set_cons_succ, List.set_cons_zero, Array.getD_eq_getD_getElem?, List.getElem?_toArray, List.getElem?_cons_succ, List.getElem?_cons_zero, Option.getD_some] <;> rfl) rfl (Below.refl _ _) hC
        · -- 6: Op.move (Operand.tmp 4)
          refine tab_plain fun K Q hK => ?_
          simp only [puts, List.foldr_nil]
          go_step
          refine fam_ex hK rfl rfl (by simp only [Act.put, List.setIfInBounds_toArray, List.set_cons_succ, List.set_cons_zero, Array.getD_eq_getD_getElem?, List.getElem?_toArray, List.getElem?_cons_succ, List.getElem?_cons_zero, Option.getD_some] <;> rfl) rfl (Below.refl _ _) hC
        · -- 7: Op.slice 23 (Operand.tmp 15) (some (Operand.tmp 16)) none none
          obtain ⟨h5, h6, -⟩ := hh
          have g5 : f 5 = _ := h5
          have g6 : f 6 = _ := h6
          refine tab_plain fun K Q hK => ?_
          simp only [puts, List.foldr_cons, List.foldr_nil, List.setIfInBounds_toArray, List.set_cons_succ, List.set_cons_zero, g5, g6]
          go_step
          refine fam_ex hK rfl rfl (by simp only [Act.put, List.setIfInBounds_toArray, List.set_cons_succ, List.set_cons_zero, Array.getD_eq_getD_getElem?, List.getElem?_toArray, List.getElem?_cons_succ, List.getElem?_cons_zero, Option.getD_some] <;> rfl) rfl (Below.refl _ _) hC
        · -- 8: Op.sliceToArrayPointer 48 (Operand.tmp 17)
          obtain ⟨h7, -⟩ := hh
          have g7 : f 7 = _ := h7
          refine tab_plain fun K Q hK => ?_
          simp only [puts, List.foldr_cons, List.foldr_nil, List.setIfInBounds_toArray, List.set_cons_succ, List.set_cons_zero, g7]
          go_step
          refine fam_ex hK rfl rfl (by simp only [Act.put, List.setIfInBounds_toArray, List.set_cons_succ, List.set_cons_zero, Array.getD_eq_getD_getElem?, List.getElem?_toArray, List.getElem?_cons_succ, List.getElem?_cons_zero, Option.getD_some] <;> rfl) rfl (Below.refl _ _) hC
        · -- 9: Op.load 48 (Operand.tmp 18)
          obtain ⟨h8, -⟩ := hh
          have g8 : f 8 = _ := h8
          refine tab_plain fun K Q hK => ?_
          simp only [puts, List.foldr_cons, List.foldr_nil, List.setIfInBounds_toArray, List.set_cons_succ, List.set_cons_zero, g8]
          have c0 := (hC.cell (p := ⟨b, off + n, none⟩) hbl).trans (HC.out n (by omega))
          have c1 := (hC.cell (p := ⟨b, off + n + 1, none⟩) hbl).trans (HC.out (n + 1) (by omega))
          have c2 := (hC.cell (p := ⟨b, off + n + 2, none⟩) hbl).trans (HC.out (n + 2) (by omega))
          have c3 := (hC.cell (p := ⟨b, off + n + 3, none⟩) hbl).trans (HC.out (n + 3) (by omega))
          have c4 := (hC.cell (p := ⟨b, off + n + 4, none⟩) hbl).trans (HC.out (n + 4) (by omega))
          have c5 := (hC.cell (p := ⟨b, off + n + 5, none⟩) hbl).trans (HC.out (n + 5) (by omega))
          have c6 := (hC.cell (p := ⟨b, off + n + 6, none⟩) hbl).trans (HC.out (n + 6) (by omega))
          have c7 := (hC.cell (p := ⟨b, off + n + 7, none⟩) hbl).trans (HC.out (n + 7) (by omega))
          go_step
          refine fam_ex hK rfl rfl (by simp only [Act.put, List.setIfInBounds_toArray, List.set_cons_succ, List.set_cons_zero, Array.getD_eq_getD_getElem?, List.getElem?_toArray, List.getElem?_cons_succ, List.getElem?_cons_zero, Option.getD_some] <;> rfl) rfl (Below.refl _ _) hC
        · -- 10: Op.binOp BinOp.neq 48 (Operand.tmp 14) (Operand.tmp 19) 48
          obtain ⟨h4, h9, -⟩ := hh
          have g4 : f 4 = _ := h4
          have g9 : f 9 = _ := h9
          refine tab_plain fun K Q hK => ?_
          simp only [puts, List.foldr_cons, List.foldr_nil, List.setIfInBounds_toArray, List.set_cons_succ, List.set_cons_zero, g4, g9]
          have hq := HN.out W
          go_step
          refine fam_ex hK rfl rfl (by simp only [Act.put, List.setIfInBounds_toArray, List.set_cons_succ, List.set_cons_zero, Array.getD_eq_getD_getElem?, List.getElem?_toArray, List.getElem?_cons_succ, List.getElem?_cons_zero, Option.getD_some] <;> rfl) rfl (Below.refl _ _) hC
      case rest =>
        intro f W2 hC hh
        obtain ⟨h0, h1, h2, h3, h4, h5, h6, h7, h8, h9, h10, -⟩ := hh
        have g0 : f 0 = _ := h0
        have g1 : f 1 = _ := h1
        have g2 : f 2 = _ := h2
        have g3 : f 3 = _ := h3
        have g4 : f 4 = _ := h4
        have g5 : f 5 = _ := h5
        have g6 : f 6 = _ := h6
        have g7 : f 7 = _ := h7
        have g8 : f 8 = _ := h8
        have g9 : f 9 = _ := h9
        have g10 : f 10 = _ := h10
        simp only [puts, List.foldr_cons, List.foldr_nil, List.setIfInBounds_toArray, List.set_cons_succ, List.set_cons_zero, g0, g1, g2, g3, g4, g5, g6, g7, g8, g9, g10]
        clear h0 h1 h2 h3 h4 h5 h6 h7 h8 h9 h10 g0 g1 g2 g3 g4 g5 g6 g7 g8 g9 g10
        by_cases he : eightL (fromH 14695981039346656037 (zs.take n)) = zs.drop n
        · have HB : decide (eightL (fromH 14695981039346656037 (zs.take n)) = zs.drop n) = true := decide_eq_true he
          rw [HB]
          have HO := Lib.hid (openR_ok HL.out he)
          clear he HB
          have hs2 := hsl.later hC
          go_wp2_with (at_builtin; refine app_ints0 (k := .u8) (v := .slice none 0 0) elU8 rfl _ _ rfl rfl (World.ownsRow_nil _ _ _ _) rfl hs2 (by omega) (Nat.le_refl _) ?_; intro a' c' w1 hown hgr hbel hnil; clear hnil hgr)
          go_ret2
          rw [HO.out]
          exact ⟨_, _, _, rfl, hown.from_mono hC.size, hC.trans (hbel.mono hC.size)⟩
        · have HB : decide (eightL (fromH 14695981039346656037 (zs.take n)) = zs.drop n) = false := decide_eq_false he
          rw [HB]
          have HO := Lib.hid (openR_bad HL.out he)
          clear he HB
          go_wp2
          go_ret2
          rw [HO.out]
          exact ⟨_, _, _, rfl, World.ownsRow_nil _ _ _ _, hC⟩
end Go.Proofs.Ytoicaacndkjjoaa
