/-
  SameInts of the reference; few of the laws.
-/
import Derived.Test.YtofnbndpoiohhaaDoorOrdXa
set_option linter.unusedSimpArgs false
set_option linter.unusedVariables false
set_option maxHeartbeats 8000000
namespace Go.Proofs.YtofnbndpoiohhaaDoor
open Go.RowKit Go.Shelf
attribute [local go_sem] Oper.semAt_some

theorem refSame_any (ax : Option Addr) (lx cx : Nat) (xs : List Int) (ay : Option Addr) (ly cy : Nat) (ys : List Int) (w : World) (hx : IsInts .i64 w ax lx cx xs) (hy : IsInts .i64 w ay ly cy ys) :
    Calls Tryd.prog 21 #[.slice ax lx cx, .slice ay ly cy] w fun e w' => e = .returned (.bool (decide (xs = ys))) ∧ Below w.heap.size w w' := by
  have hcx := hx.cap
  unfold maxLen at hcx
  have HX := Lib.hid hx.length
  have HY := Lib.hid hy.length
  by_cases hl : lx = ly
  · subst hl
    have dl : ((lx : Int) != (lx : Int)) = false := by simp
    go_enter Tryd.func21, Tryd.ntmps21
    go_wp2
    go_loopw [5] (fun c W => ∃ k : Nat, k ≤ lx ∧ c = .int .i64 (k : Int) ∧ Hid (∀ i, i < k → gi xs i = gi ys i) ∧ Below w.heap.size w W) (fun c _ => lx - (intOf c).toNat)
    case atStart => exact ⟨0, Nat.zero_le _, rfl, Lib.hid (fun i hi => by omega), Below.refl _ _⟩
    case round =>
      obtain ⟨k, hk, rfl, HK, hB⟩ := hrel
      by_cases hlt : k < lx
      · have dlt : decide ((k : Int) < lx) = true := decide_eq_true (by omega)
        obtain ⟨bx, ox, rfl, hbx, hc1⟩ := hx.at wr hB k hlt
        obtain ⟨b_y, oy, rfl, hby, hc2⟩ := hy.at wr hB k hlt
        obtain ⟨u, hu⟩ : ∃ u, gi xs k = u := ⟨_, rfl⟩
        obtain ⟨v, hv⟩ : ∃ v, gi ys k = v := ⟨_, rfl⟩
        rw [hu] at hc1
        rw [hv] at hc2
        replace hu := Lib.hid hu
        replace hv := Lib.hid hv
        go_wp2
        refine wp_region_grow mixed (by kernel_rfl) [[], [], [(0, 17), (1, 18)], [(2, 19)], [], [], [(4, 21), (5, 22)], [(6, 23)], [(3, 20), (7, 24)]] [(0, 17), (1, 18), (2, 19), (3, 20), (4, 21), (5, 22), (6, 23), (7, 24), (8, 25)] rfl rfl [Ex ?e0, Ex ?e1, Ex ?e2, Ex ?e3, Ex ?e4, Ex ?e5, Ex ?e6, Ex ?e7, Ex ?e8] ⟨stays_ex _, stays_ex _, stays_ex _, stays_ex _, stays_ex _, stays_ex _, stays_ex _, stays_ex _, stays_ex _, trivial⟩ ?steps ?rest
        case steps =>
          refine ⟨fun f W hC hh => ?_, fun f W hC hh => ?_, fun f W hC hh => ?_, fun f W hC hh => ?_, fun f W hC hh => ?_, fun f W hC hh => ?_, fun f W hC hh => ?_, fun f W hC hh => ?_, fun f W hC hh => ?_, trivial⟩
          · -- 0: Op.move (Operand.tmp 0)
            refine tab_plain fun K Q hK => ?_
            simp only [puts, List.foldr_nil]
            go_step
            refine fam_ex hK rfl rfl (by simp only [Act.put, List.setIfInBounds_toArray, List.set_cons_succ, List.set_cons_zero, Array.getD_eq_getD_getElem?, List.getElem?_toArray, List.getElem?_cons_succ, List.getElem?_cons_zero, Option.getD_some] <;> rfl) rfl (Below.refl _ _) hC
          · -- 1: Op.move (Operand.tmp 5)
            refine tab_plain fun K Q hK => ?_
            simp only [puts, List.foldr_nil]
            go_step
            refine fam_ex hK rfl rfl (by simp only [Act.put, List.setIfInBounds_toArray, List.set_cons_succ, List.set_cons_zero, Array.getD_eq_getD_getElem?, List.getElem?_toArray, List.getElem?_cons_succ, List.getElem?_cons_zero, Option.getD_some] <;> rfl) rfl (Below.refl _ _) hC
          · -- 2: Op.indexAddr 31 (Operand.tmp 17) (Operand.tmp 18)
            obtain ⟨h0, h1, -⟩ := hh
            have g0 : f 0 = _ := h0
            have g1 : f 1 = _ := h1
            refine tab_plain fun K Q hK => ?_
            simp only [puts, List.foldr_cons, List.foldr_nil, List.setIfInBounds_toArray, List.set_cons_succ, List.set_cons_zero, g0, g1]
            go_step
            refine fam_ex hK rfl rfl (by simp only [Act.put, List.setIfInBounds_toArray, List.set_cons_succ, List.set_cons_zero, Array.getD_eq_getD_getElem?, List.getElem?_toArray, List.getElem?_cons_succ, List.getElem?_cons_zero, Option.getD_some] <;> rfl) rfl (Below.refl _ _) hC
          · -- 3: Op.load 3 (Operand.tmp 19)
            obtain ⟨h2, -⟩ := hh
            have g2 : f 2 = _ := h2
            refine tab_plain fun K Q hK => ?_
            simp only [puts, List.foldr_cons, List.foldr_nil, List.setIfInBounds_toArray, List.set_cons_succ, List.set_cons_zero, g2]
            have hc3 := (hC.cell (p := ⟨bx, ox + k, none⟩) (by have := hB.size; show bx < _; omega)).trans hc1
            go_step
            refine fam_ex hK rfl rfl (by simp only [Act.put, List.setIfInBounds_toArray, List.set_cons_succ, List.set_cons_zero, Array.getD_eq_getD_getElem?, List.getElem?_toArray, List.getElem?_cons_succ, List.getElem?_cons_zero, Option.getD_some] <;> rfl) rfl (Below.refl _ _) hC
          · -- 4: Op.move (Operand.tmp 1)
            refine tab_plain fun K Q hK => ?_
            simp only [puts, List.foldr_nil]
            go_step
            refine fam_ex hK rfl rfl (by simp only [Act.put, List.setIfInBounds_toArray, List.set_cons_succ, List.set_cons_zero, Array.getD_eq_getD_getElem?, List.getElem?_toArray, List.getElem?_cons_succ, List.getElem?_cons_zero, Option.getD_some] <;> rfl) rfl (Below.refl _ _) hC
          · -- 5: Op.move (Operand.tmp 5)
            refine tab_plain fun K Q hK => ?_
            simp only [puts, List.foldr_nil]
            go_step
            refine fam_ex hK rfl rfl (by simp only [Act.put, List.setIfInBounds_toArray, List.set_cons_succ, List.set_cons_zero, Array.getD_eq_getD_getElem?, List.getElem?_toArray, List.getElem?_cons_succ, List.getElem?_cons_zero, Option.getD_some] <;> rfl) rfl (Below.refl _ _) hC
          · -- 6: Op.indexAddr 31 (Operand.tmp 21) (Operand.tmp 22)
            obtain ⟨h4, h5, -⟩ := hh
            have g4 : f 4 = _ := h4
            have g5 : f 5 = _ := h5
            refine tab_plain fun K Q hK => ?_
            simp only [puts, List.foldr_cons, List.foldr_nil, List.setIfInBounds_toArray, List.set_cons_succ, List.set_cons_zero, g4, g5]
            go_step
            refine fam_ex hK rfl rfl (by simp only [Act.put, List.setIfInBounds_toArray, List.set_cons_succ, List.set_cons_zero, Array.getD_eq_getD_getElem?, List.getElem?_toArray, List.getElem?_cons_succ, List.getElem?_cons_zero, Option.getD_some] <;> rfl) rfl (Below.refl _ _) hC
          · -- 7: Op.load 3 (Operand.tmp 23)
            obtain ⟨h6, -⟩ := hh
            have g6 : f 6 = _ := h6
            refine tab_plain fun K Q hK => ?_
            simp only [puts, List.foldr_cons, List.foldr_nil, List.setIfInBounds_toArray, List.set_cons_succ, List.set_cons_zero, g6]
            have hc3 := (hC.cell (p := ⟨b_y, oy + k, none⟩) (by have := hB.size; show b_y < _; omega)).trans hc2
            go_step
            refine fam_ex hK rfl rfl (by simp only [Act.put, List.setIfInBounds_toArray, List.set_cons_succ, List.set_cons_zero, Array.getD_eq_getD_getElem?, List.getElem?_toArray, List.getElem?_cons_succ, List.getElem?_cons_zero, Option.getD_some] <;> rfl) rfl (Below.refl _ _) hC
          · -- 8: Op.binOp BinOp.neq 3 (Operand.tmp 20) (Operand.tmp 24) 3
            obtain ⟨h3, h7, -⟩ := hh
            have g3 : f 3 = _ := h3
            have g7 : f 7 = _ := h7
            refine tab_plain fun K Q hK => ?_
            simp only [puts, List.foldr_cons, List.foldr_nil, List.setIfInBounds_toArray, List.set_cons_succ, List.set_cons_zero, g3, g7]
            go_step
            refine fam_ex hK rfl rfl (by simp only [Act.put, List.setIfInBounds_toArray, List.set_cons_succ, List.set_cons_zero, Array.getD_eq_getD_getElem?, List.getElem?_toArray, List.getElem?_cons_succ, List.getElem?_cons_zero, Option.getD_some] <;> rfl) rfl (Below.refl _ _) hC
        case rest =>
          intro f W2 hC hh
          obtain ⟨h0, h1, h2, h3, h4, h5, h6, h7, h8, -⟩ := hh
          have g0 : f 0 = _ := h0
          have g1 : f 1 = _ := h1
          have g2 : f 2 = _ := h2
          have g3 : f 3 = _ := h3
          have g4 : f 4 = _ := h4
          have g5 : f 5 = _ := h5
          have g6 : f 6 = _ := h6
          have g7 : f 7 = _ := h7
          have g8 : f 8 = _ := h8
          simp only [puts, List.foldr_cons, List.foldr_nil, List.setIfInBounds_toArray, List.set_cons_succ, List.set_cons_zero, g0, g1, g2, g3, g4, g5, g6, g7, g8]
          clear h0 h1 h2 h3 h4 h5 h6 h7 h8 g0 g1 g2 g3 g4 g5 g6 g7 g8
          have hB2 := hB.trans (hC.mono hB.size)
          by_cases huv : u = v
          · have t1 : (u != v) = false := by simp [huv]
            have hk2 : Hid (∀ i, i < k + 1 → gi xs i = gi ys i) := Lib.hid (fun i hi => by
              rcases Nat.lt_or_ge i k with h | h
              · exact HK.out i h
              · rw [show i = k by omega, hu.out, hv.out, huv])
            clear huv
            go_wp2
            go_roundw
            case rel => exact ⟨k + 1, hlt, by go_num, hk2, hB2⟩
            case measure => simp [intOf]; omega
          · have t1 : (u != v) = true := by simp [huv]
            have hno : Hid (¬ xs = ys) := Lib.hid (fun h => huv (by rw [← hu.out, ← hv.out, h]))
            clear huv
            go_wp2
            go_ret
            exact ⟨by rw [decide_eq_false hno.out] <;> rfl, hB2⟩
      · obtain rfl : k = lx := by omega
        have dlt : decide ((k : Int) < k) = false := decide_eq_false (by omega)
        go_wp2
        go_ret
        exact ⟨by rw [decide_eq_true (gi_ext (by rw [HX.out, HY.out]) (by rw [HX.out]; exact HK.out))] <;> rfl, hB⟩
  · have dl : ((lx : Int) != (ly : Int)) = true := by simp; omega
    have hno : ¬ xs = ys := fun h => hl (by rw [← hx.length, ← hy.length, h])
    rw [decide_eq_false hno]
    clear hl hno
    go_enter Tryd.func21, Tryd.ntmps21
    go_wp2
    go_ret
    exact ⟨rfl, Below.refl _ _⟩

theorem boxR (n : Int) (a : Option Addr) (len cap : Nat) (w : World) :
    Below w.heap.size w (w.alloc (.cells #[.int .i64 n, .slice a len cap] 24)) ∧ (w.alloc (.cells #[.int .i64 n, .slice a len cap] 24)).heap.size = w.heap.size + 1 ∧
    ∀ W, Below (w.heap.size + 1) (w.alloc (.cells #[.int .i64 n, .slice a len cap] 24)) W → W.cell? ⟨w.heap.size, 0, none⟩ = some (.int .i64 n) ∧ W.cell? ⟨w.heap.size, 1, none⟩ = some (.slice a len cap) := by
  refine ⟨(Below.refl _ _).alloc (Nat.le_refl _) _, by simp, fun W hb => ?_⟩
  have := hb.block w.heap.size (Nat.lt_succ_self _)
  rw [heap_alloc_new] at this
  exact ⟨cell_of_row W _ 0 _ _ _ this, cell_of_row W _ 1 _ _ _ this⟩

theorem few_any (n : Int) (a : Option Addr) (len cap : Nat) (w : World) (hc : len ≤ 9223372036854775807) :
    Calls Tryd.prog 12 #[.agg #[.int .i64 n, .slice a len cap]] w fun e w' => e = .returned (.bool (decide (n ≤ 12 ∧ len ≤ 80))) ∧ Below w.heap.size w w' := by
  obtain ⟨hb1, hs1, hO⟩ := boxR n a len cap w
  obtain ⟨c0, c1⟩ := hO _ (Below.refl _ _)
  by_cases h1 : n ≤ 12
  · have d1 : decide (n ≤ 12) = true := decide_eq_true h1
    have d2 : decide (n ≤ 12 ∧ len ≤ 80) = decide (len ≤ 80) := by simp [h1]
    have d3 : decide ((len : Int) ≤ 80) = decide (len ≤ 80) := by
      by_cases h : len ≤ 80
      · rw [decide_eq_true h]; exact decide_eq_true (by omega)
      · rw [decide_eq_false h]; exact decide_eq_false (by omega)
    rw [d2]
    replace d3 := Lib.hid d3
    clear h1 d2
    go_enter Tryd.func12, Tryd.ntmps12
    go_wp2
    go_ret
    exact ⟨by rw [← d3.out]; rfl, hb1⟩
  · have d1 : decide (n ≤ 12) = false := decide_eq_false h1
    rw [decide_eq_false (fun h => h1 h.1)]
    clear h1
    go_enter Tryd.func12, Tryd.ntmps12
    go_wp2
    go_ret
    exact ⟨rfl, hb1⟩
end Go.Proofs.YtofnbndpoiohhaaDoor
