/-
  The reference: Same.
-/
import Derived.Test.YtofnbndpoiohhaaDoorOrdR
import Derived.Test.YtofnbndpoiohhaaDoorOrdP
set_option linter.unusedSimpArgs false
set_option linter.unusedVariables false
set_option maxHeartbeats 8000000
namespace Go.Proofs.YtofnbndpoiohhaaDoor
open Go.RowKit Go.Shelf
attribute [local go_sem] Oper.semAt_some

theorem eq_pair (W : World) (x y : Int) : (Op.equalIn 10000 39 (.agg #[.int .i64 x, .int .i64 y]) (.agg #[.int .i64 x, .int .i64 y])).run Tryd.prog W = .ok true W := by
  have := run_equalIn_ints (P := Tryd.prog) W 39 3 .i64 2 Tryd.underlying39 Tryd.underlying3 Tryd.sizeOf3 [x, y] [x, y] rfl rfl
  rw [decide_eq_true rfl] at this
  exact this

theorem refSameO_yes {n : Int} {ax ay : Option Addr} {lx ly cx cy : Nat} {es : List (Int × Int)} {w : World} (hx : IsPairs w ax lx cx es) (hy : IsPairs w ay ly cy es) (hc : lx ≤ 100000000) :
    Calls Tryd.prog 32 #[.agg #[.int .i64 n, .slice ax lx cx], .agg #[.int .i64 n, .slice ay ly cy]] w fun e w' => e = .returned (.bool true) ∧ Below w.heap.size w w' := by
  obtain rfl : lx = ly := by rw [← hx.length, ← hy.length]
  obtain ⟨W0, hW0⟩ : ∃ W0, (w.alloc (.cells #[.int .i64 n, .slice ax lx cx] 24)).alloc (.cells #[.int .i64 n, .slice ay lx cy] 24) = W0 := ⟨_, rfl⟩
  obtain ⟨hs0, hb0, hA, hB⟩ := box2 w _ _ _ _ W0 hW0
  have HA : Hid (∀ W, Below W0.heap.size W0 W → (W.cell? ⟨w.heap.size, 0, none⟩ = some (.int .i64 n) ∧ W.cell? ⟨w.heap.size, 1, none⟩ = some (.slice ax lx cx)) ∧ W.cell? ⟨w.heap.size + 1, 0, none⟩ = some (.int .i64 n) ∧ W.cell? ⟨w.heap.size + 1, 1, none⟩ = some (.slice ay lx cy)) := Lib.hid (fun W h =>
    ⟨⟨(h.cell (p := ⟨w.heap.size, 0, none⟩) (by show w.heap.size < _; omega)).trans (hA 0), (h.cell (p := ⟨w.heap.size, 1, none⟩) (by show w.heap.size < _; omega)).trans (hA 1)⟩, (h.cell (p := ⟨w.heap.size + 1, 0, none⟩) (by show w.heap.size + 1 < _; omega)).trans (hB 0), (h.cell (p := ⟨w.heap.size + 1, 1, none⟩) (by show w.heap.size + 1 < _; omega)).trans (hB 1)⟩)
  have hx0 := hx.later hb0
  have hy0 := hy.later hb0
  obtain ⟨⟨a0, a1⟩, b0, b1⟩ := HA.out W0 (Below.refl _ _)
  have HW := Lib.hid hW0
  clear hx hy hA hB hW0
  go_enter Tryd.func32, Tryd.ntmps32
  go_wp2_with (fail)
  rw [HW.out]
  clear a0 a1 b0 b1 HW
  go_loopw [5] (fun c W => ∃ k : Nat, k ≤ lx ∧ c = .int .i64 (k : Int) ∧ Below W0.heap.size W0 W) (fun c _ => lx - (intOf c).toNat)
  case atStart => exact ⟨0, Nat.zero_le _, rfl, Below.refl _ _⟩
  case round =>
    obtain ⟨k, hk, rfl, hb⟩ := hrel
    obtain ⟨⟨a0, a1⟩, b0, b1⟩ := HA.out wr hb
    rcases Nat.lt_or_ge k lx with hlt | hge
    · have t1 : decide ((k : Int) < lx) = true := decide_eq_true (by omega)
      obtain ⟨bx, ox, rfl, -, x0, x1⟩ := hx0.at wr hb k hlt
      obtain ⟨bY, oY, rfl, -, y0, y1⟩ := hy0.at wr hb k hlt
      obtain ⟨u, hu⟩ : ∃ u, (gp es k).1 = u := ⟨_, rfl⟩
      obtain ⟨v, hv⟩ : ∃ v, (gp es k).2 = v := ⟨_, rfl⟩
      have HC : Hid (∀ W, Below wr.heap.size wr W → ((W.cell? ⟨bx, ox + k * 2, none⟩ = some (.int .i64 u) ∧ W.cell? ⟨bx, ox + k * 2 + 1, none⟩ = some (.int .i64 v)) ∧ W.cell? ⟨bY, oY + k * 2, none⟩ = some (.int .i64 u) ∧ W.cell? ⟨bY, oY + k * 2 + 1, none⟩ = some (.int .i64 v)) ∧ W.cell? ⟨w.heap.size, 1, none⟩ = some (.slice (some ⟨bx, ox, none⟩) lx cx) ∧ W.cell? ⟨w.heap.size + 1, 1, none⟩ = some (.slice (some ⟨bY, oY, none⟩) lx cy)) := Lib.hid (fun W h => by
        have hW := hb.trans (h.mono hb.size)
        rw [← hu, ← hv]
        refine ⟨⟨⟨(h.cell (lt_of_cell x0)).trans x0, (h.cell (lt_of_cell x1)).trans x1⟩, (h.cell (lt_of_cell y0)).trans y0, (h.cell (lt_of_cell y1)).trans y1⟩, (HA.out W hW).1.2, (HA.out W hW).2.2⟩)
      clear x0 x1 y0 y1 hu hv
      go_wp2_with (fail)
      refine wp_region_grow mixed (by kernel_rfl) [[], [(0, 27)], [], [(1, 28), (2, 29)], [(3, 30)], [], [(5, 32)], [], [(6, 33), (7, 34)], [(8, 35)], [(4, 31), (9, 36)]] [(0, 27), (1, 28), (2, 29), (3, 30), (4, 31), (5, 32), (6, 33), (7, 34), (8, 35), (9, 36), (10, 37)] rfl rfl [Ex ?e0, Ex ?e1, Ex ?e2, Ex ?e3, Ex ?e4, Ex ?e5, Ex ?e6, Ex ?e7, Ex ?e8, Ex ?e9, Ex (.bool false)] ⟨stays_ex _, stays_ex _, stays_ex _, stays_ex _, stays_ex _, stays_ex _, stays_ex _, stays_ex _, stays_ex _, stays_ex _, stays_ex _, trivial⟩ ?steps ?rest
      case steps =>
        refine ⟨fun f W hC hh => ?_, fun f W hC hh => ?_, fun f W hC hh => ?_, fun f W hC hh => ?_, fun f W hC hh => ?_, fun f W hC hh => ?_, fun f W hC hh => ?_, fun f W hC hh => ?_, fun f W hC hh => ?_, fun f W hC hh => ?_, fun f W hC hh => ?_, trivial⟩
        · -- 0: Op.fieldAddr 24 (Operand.tmp 2) 1
          refine tab_plain fun K Q hK => ?_
          simp only [puts, List.foldr_nil]
          go_step
          refine fam_ex hK rfl rfl (by simp only [Act.put, List.setIfInBounds_toArray, List.set_cons_succ, List.set_cons_zero, Array.getD_eq_getD_getElem?, List.getElem?_toArray, List.getElem?_cons_succ, List.getElem?_cons_zero, Option.getD_some] <;> rfl) rfl (Below.refl _ _) hC
        · -- 1: Op.load 22 (Operand.tmp 27)
          obtain ⟨h0, -⟩ := hh
          have g0 : f 0 = _ := h0
          refine tab_plain fun K Q hK => ?_
          simp only [puts, List.foldr_cons, List.foldr_nil, List.setIfInBounds_toArray, List.set_cons_succ, List.set_cons_zero, g0]
          obtain ⟨-, q1, q2⟩ := HC.out W hC
          go_step
          refine fam_ex hK rfl rfl (by simp only [Act.put, List.setIfInBounds_toArray, List.set_cons_succ, List.set_cons_zero, Array.getD_eq_getD_getElem?, List.getElem?_toArray, List.getElem?_cons_succ, List.getElem?_cons_zero, Option.getD_some] <;> rfl) rfl (Below.refl _ _) hC
        · -- 2: Op.move (Operand.tmp 5)
          refine tab_plain fun K Q hK => ?_
          simp only [puts, List.foldr_nil]
          go_step
          refine fam_ex hK rfl rfl (by simp only [Act.put, List.setIfInBounds_toArray, List.set_cons_succ, List.set_cons_zero, Array.getD_eq_getD_getElem?, List.getElem?_toArray, List.getElem?_cons_succ, List.getElem?_cons_zero, Option.getD_some] <;> rfl) rfl (Below.refl _ _) hC
        · -- 3: Op.indexAddr 22 (Operand.tmp 28) (Operand.tmp 29)
          obtain ⟨h1, h2, -⟩ := hh
          have g1 : f 1 = _ := h1
          have g2 : f 2 = _ := h2
          refine tab_plain fun K Q hK => ?_
          simp only [puts, List.foldr_cons, List.foldr_nil, List.setIfInBounds_toArray, List.set_cons_succ, List.set_cons_zero, g1, g2]
          go_step
          refine fam_ex hK rfl rfl (by simp only [Act.put, List.setIfInBounds_toArray, List.set_cons_succ, List.set_cons_zero, Array.getD_eq_getD_getElem?, List.getElem?_toArray, List.getElem?_cons_succ, List.getElem?_cons_zero, Option.getD_some] <;> rfl) rfl (Below.refl _ _) hC
        · -- 4: Op.load 39 (Operand.tmp 30)
          obtain ⟨h3, -⟩ := hh
          have g3 : f 3 = _ := h3
          refine tab_plain fun K Q hK => ?_
          simp only [puts, List.foldr_cons, List.foldr_nil, List.setIfInBounds_toArray, List.set_cons_succ, List.set_cons_zero, g3]
          obtain ⟨⟨⟨q1, q2⟩, q3, q4⟩, -, -⟩ := HC.out W hC
          go_step
          refine fam_ex hK rfl rfl (by simp only [Act.put, List.setIfInBounds_toArray, List.set_cons_succ, List.set_cons_zero, Array.getD_eq_getD_getElem?, List.getElem?_toArray, List.getElem?_cons_succ, List.getElem?_cons_zero, Option.getD_some] <;> rfl) rfl (Below.refl _ _) hC
        · -- 5: Op.fieldAddr 24 (Operand.tmp 3) 1
          refine tab_plain fun K Q hK => ?_
          simp only [puts, List.foldr_nil]
          go_step
          refine fam_ex hK rfl rfl (by simp only [Act.put, List.setIfInBounds_toArray, List.set_cons_succ, List.set_cons_zero, Array.getD_eq_getD_getElem?, List.getElem?_toArray, List.getElem?_cons_succ, List.getElem?_cons_zero, Option.getD_some] <;> rfl) rfl (Below.refl _ _) hC
        · -- 6: Op.load 22 (Operand.tmp 32)
          obtain ⟨h5, -⟩ := hh
          have g5 : f 5 = _ := h5
          refine tab_plain fun K Q hK => ?_
          simp only [puts, List.foldr_cons, List.foldr_nil, List.setIfInBounds_toArray, List.set_cons_succ, List.set_cons_zero, g5]
          obtain ⟨-, q1, q2⟩ := HC.out W hC
          go_step
          refine fam_ex hK rfl rfl (by simp only [Act.put, List.setIfInBounds_toArray, List.set_cons_succ, List.set_cons_zero, Array.getD_eq_getD_getElem?, List.getElem?_toArray, List.getElem?_cons_succ, List.getElem?_cons_zero, Option.getD_some] <;> rfl) rfl (Below.refl _ _) hC
        · -- 7: Op.move (Operand.tmp 5)
          refine tab_plain fun K Q hK => ?_
          simp only [puts, List.foldr_nil]
          go_step
          refine fam_ex hK rfl rfl (by simp only [Act.put, List.setIfInBounds_toArray, List.set_cons_succ, List.set_cons_zero, Array.getD_eq_getD_getElem?, List.getElem?_toArray, List.getElem?_cons_succ, List.getElem?_cons_zero, Option.getD_some] <;> rfl) rfl (Below.refl _ _) hC
        · -- 8: Op.indexAddr 22 (Operand.tmp 33) (Operand.tmp 34)
          obtain ⟨h6, h7, -⟩ := hh
          have g6 : f 6 = _ := h6
          have g7 : f 7 = _ := h7
          refine tab_plain fun K Q hK => ?_
          simp only [puts, List.foldr_cons, List.foldr_nil, List.setIfInBounds_toArray, List.set_cons_succ, List.set_cons_zero, g6, g7]
          go_step
          refine fam_ex hK rfl rfl (by simp only [Act.put, List.setIfInBounds_toArray, List.set_cons_succ, List.set_cons_zero, Array.getD_eq_getD_getElem?, List.getElem?_toArray, List.getElem?_cons_succ, List.getElem?_cons_zero, Option.getD_some] <;> rfl) rfl (Below.refl _ _) hC
        · -- 9: Op.load 39 (Operand.tmp 35)
          obtain ⟨h8, -⟩ := hh
          have g8 : f 8 = _ := h8
          refine tab_plain fun K Q hK => ?_
          simp only [puts, List.foldr_cons, List.foldr_nil, List.setIfInBounds_toArray, List.set_cons_succ, List.set_cons_zero, g8]
          obtain ⟨⟨⟨q1, q2⟩, q3, q4⟩, -, -⟩ := HC.out W hC
          go_step
          refine fam_ex hK rfl rfl (by simp only [Act.put, List.setIfInBounds_toArray, List.set_cons_succ, List.set_cons_zero, Array.getD_eq_getD_getElem?, List.getElem?_toArray, List.getElem?_cons_succ, List.getElem?_cons_zero, Option.getD_some] <;> rfl) rfl (Below.refl _ _) hC
        · -- 10: Op.binOp BinOp.neq 39 (Operand.tmp 31) (Operand.tmp 36) 39
          obtain ⟨h4, h9, -⟩ := hh
          have g4 : f 4 = _ := h4
          have g9 : f 9 = _ := h9
          refine tab_plain fun K Q hK => ?_
          simp only [puts, List.foldr_cons, List.foldr_nil, List.setIfInBounds_toArray, List.set_cons_succ, List.set_cons_zero, g4, g9]
          have hnq := eq_pair W u v
          go_step
          refine fam_ex hK rfl rfl (by simp only [Act.put, List.setIfInBounds_toArray, List.set_cons_succ, List.set_cons_zero, Array.getD_eq_getD_getElem?, List.getElem?_toArray, List.getElem?_cons_succ, List.getElem?_cons_zero, Option.getD_some] <;> rfl) rfl (Below.refl _ _) hC
      case rest =>
        intro f WA hC hh
        obtain ⟨h0, h1, h2, h3, h4, h5, h6, h7, h8, h9, h10, -⟩ := hh
        have g0 : f 0 = _ := h0
        have g1 : f 1 = _ := h1
        have g2 : f 2 = _ := h2
        have g3 : f 3 = _ := h3
        have g4 : f 4 = _ := h4
        have g5 : f 5 = _ := h5
        have g6 : f 6 = _ := h6
        have g7 : f 7 = _ := h7
        have g8 : f 8 = _ := h8
        have g9 : f 9 = _ := h9
        have g10 : f 10 = _ := h10
        simp only [puts, List.foldr_cons, List.foldr_nil, List.setIfInBounds_toArray, List.set_cons_succ, List.set_cons_zero, g0, g1, g2, g3, g4, g5, g6, g7, g8, g9, g10]
        clear h0 h1 h2 h3 h4 h5 h6 h7 h8 h9 h10 g0 g1 g2 g3 g4 g5 g6 g7 g8 g9 g10
        have hbA := hb.trans (hC.mono hb.size)
        clear a0 a1 b0 b1 hb hC
        go_wp2
        go_roundw
        case rel => exact ⟨k + 1, hlt, by go_num, hbA⟩
        case measure => simp [intOf]; omega
    · obtain rfl : lx = k := by omega
      have t1 : decide ((lx : Int) < lx) = false := decide_eq_false (by omega)
      go_wp2
      go_ret
      exact ⟨rfl, hb0.trans (hb.mono hb0.size)⟩
end Go.Proofs.YtofnbndpoiohhaaDoor
