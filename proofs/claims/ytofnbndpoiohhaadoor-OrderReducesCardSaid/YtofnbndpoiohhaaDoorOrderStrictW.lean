/-
  OrderStrict: the walk.
-/
import Derived.Test.YtofnbndpoiohhaaDoorOrdK
set_option linter.unusedSimpArgs false
set_option linter.unusedVariables false
set_option maxHeartbeats 8000000
namespace Go.Proofs.YtofnbndpoiohhaaDoor
open Go.RowKit Go.Shelf
attribute [local go_sem] Oper.semAt_some

variable {n : Int} {es : List (Int × Int)}

/-- The two boxes in which a law keeps its order: the reference's and the program's. -/
theorem boxRO (n : Int) (a : Option Addr) (len cap : Nat) (w : World) :
    Below w.heap.size w ((w.alloc (.cells #[.int .i64 n, .slice a len cap] 24)).alloc (.cells #[.int .i64 n, .slice a len cap] 27)) ∧
    ((w.alloc (.cells #[.int .i64 n, .slice a len cap] 24)).alloc (.cells #[.int .i64 n, .slice a len cap] 27)).heap.size = w.heap.size + 2 ∧
    ∀ W, Below (w.heap.size + 2) ((w.alloc (.cells #[.int .i64 n, .slice a len cap] 24)).alloc (.cells #[.int .i64 n, .slice a len cap] 27)) W →
      (W.cell? ⟨w.heap.size, 0, none⟩ = some (.int .i64 n) ∧ W.cell? ⟨w.heap.size, 1, none⟩ = some (.slice a len cap)) ∧ W.cell? ⟨w.heap.size + 1, 0, none⟩ = some (.int .i64 n) ∧ W.cell? ⟨w.heap.size + 1, 1, none⟩ = some (.slice a len cap) := by
  obtain ⟨h1, h2, h3⟩ := boxR n a len cap w
  obtain ⟨k1, k2, k3⟩ := boxO n a len cap (w.alloc (.cells #[.int .i64 n, .slice a len cap] 24))
  rw [h2] at k2 k3
  refine ⟨h1.trans (k1.mono (by omega)), k2, fun W hW => ⟨h3 W (?_), k3 W hW⟩⟩
  exact (k1.mono (by omega)).trans (hW.mono (by omega))

open Classical in
theorem before_edge {x y : Int} (hv : ValidO n es) (h : (x, y) ∈ es) : beforeB n es x y = true := by
  have hr := hv.2.2.1 _ h
  simp only at hr
  unfold beforeB
  refine decide_eq_true ⟨hv, hr, .one ?_⟩
  unfold Ed
  rw [Int.toNat_of_nonneg hr.1.1, Int.toNat_of_nonneg hr.2.1]
  exact h
open Classical in
theorem before_path {x y : Int} (h : beforeB n es x y = true) : Path (Ed es) x.toNat y.toNat := by
  unfold beforeB at h
  exact (of_decide_eq_true h).2.2
theorem before_irr (hv : ValidO n es) (x : Int) : beforeB n es x x = false := Bool.eq_false_iff.2 fun h => hv.2.2.2 _ (before_path h)
theorem before_asym (hv : ValidO n es) {x y : Int} (h : beforeB n es x y = true) : beforeB n es y x = false := Bool.eq_false_iff.2 fun h' => hv.2.2.2 _ ((before_path h).trans (before_path h'))
open Classical in
theorem before_trans {x y z : Int} (h : beforeB n es x y = true) (h' : beforeB n es y z = true) : beforeB n es x z = true := by
  have p := (before_path h).trans (before_path h')
  unfold beforeB at h h' ⊢
  have h1 := of_decide_eq_true h
  have h2 := of_decide_eq_true h'
  exact decide_eq_true ⟨h1.1, ⟨h1.2.1.1, h2.2.1.2⟩, p⟩

theorem orderStrict_walk (n : Int) (a : Option Addr) (len cap : Nat) (es : List (Int × Int)) (w : World) (he : IsPairs w a len cap es) (hn : (Lit.int .i64 n).wf = true) (hT : TabAt 0 Lib.deBruijn64tab w) :
    Calls Tryd.prog 5 #[.agg #[.int .i64 n, .slice a len cap]] w fun e w' => e = .returned (.bool true) ∧ Below w.heap.size w w' := by
  obtain ⟨hb2, hs2, hRO⟩ := boxRO n a len cap w
  obtain ⟨W2, hW2⟩ : ∃ W2, (w.alloc (.cells #[.int .i64 n, .slice a len cap] 24)).alloc (.cells #[.int .i64 n, .slice a len cap] 27) = W2 := ⟨_, rfl⟩
  rw [hW2] at hb2 hs2 hRO
  have he2 := he.later hb2
  have hT2 := tab_later hT hb2
  have hcap : len ≤ maxLen := by
    rcases he with ⟨_, h, _⟩ | ⟨_, _, _, h, h', _⟩
    · rw [h]; decide
    · omega
  unfold maxLen at hcap
  have HW := Lib.hid hW2
  rw [← hs2] at hRO
  obtain ⟨⟨r0, r1⟩, o0, o1⟩ := hRO _ (Below.refl _ _)
  have HRO := Lib.hid hRO
  clear hW2 hRO
  go_enter Tryd.func5, Tryd.ntmps5
  go_wp2_with (fail)
  rw [HW.out]
  go_at_call 11
  refine (awake_any _ hT2).mono ?_
  rintro e w3 ⟨rfl, hb3⟩
  clear r0 r1 o0 o1
  obtain ⟨⟨r0, r1⟩, o0, o1⟩ := HRO.out _ hb3
  go_wp2_with (fail)
  go_at_call 12
  refine (few_any n a len cap w3 (by omega)).mono ?_
  rintro e w4 ⟨rfl, hb4⟩
  have hb24 := hb3.trans (hb4.mono hb3.size)
  have hT4 := tab_later hT2 hb24
  have hb04 := hb2.trans (hb24.mono hb2.size)
  clear r0 r1 o0 o1
  obtain ⟨⟨r0, r1⟩, o0, o1⟩ := HRO.out _ hb24
  cases hf : decide (n ≤ 12 ∧ len ≤ 80) with
  | false =>
    go_wp2_with (fail)
    go_at_call 11
    refine (awake_any _ hT4).mono ?_
    rintro e w5 ⟨rfl, hb5⟩
    go_wp2
    go_ret
    exact ⟨rfl, hb04.trans (hb5.mono hb04.size)⟩
  | true =>
  have hf' := of_decide_eq_true hf
  clear hf
  go_wp2_with (fail)
  go_at_call 13
  refine (valid_any (he2.later hb24) hT4).mono ?_
  rintro e w5 ⟨rfl, hb5⟩
  have hb25 := hb24.trans (hb5.mono hb24.size)
  have hb05 := hb2.trans (hb25.mono hb2.size)
  have hT5 := tab_later hT2 hb25
  clear r0 r1 o0 o1
  obtain ⟨⟨r0, r1⟩, o0, o1⟩ := HRO.out _ hb25
  by_cases hv : ValidO n es
  rotate_left
  · rw [validB_no hv]
    go_wp2_with (fail)
    go_at_call 11
    refine (awake_any _ hT5).mono ?_
    rintro e w6 ⟨rfl, hb6⟩
    go_wp2
    go_ret
    exact ⟨rfl, hb05.trans (hb6.mono hb05.size)⟩
  rw [validB_yes hv]
  obtain ⟨N, rfl⟩ := Int.eq_ofNat_of_zero_le hv.1.1
  have hN12 : N ≤ 12 := by omega
  have hl80 := hf'.2
  have he5 := he2.later hb25
  have HV := Lib.hid hv
  have hBO : ∀ W, Below w5.heap.size w5 W → (W.cell? ⟨w.heap.size, 0, none⟩ = some (.int .i64 (N : Int)) ∧ W.cell? ⟨w.heap.size, 1, none⟩ = some (.slice a len cap)) ∧ W.cell? ⟨w.heap.size + 1, 0, none⟩ = some (.int .i64 (N : Int)) ∧ W.cell? ⟨w.heap.size + 1, 1, none⟩ = some (.slice a len cap) :=
    fun W h => HRO.out W (hb25.trans (h.mono hb25.size))
  have HBO := Lib.hid hBO
  have hbe : ∀ (x y : Int) W, Below w5.heap.size w5 W → Calls Tryd.prog 15 #[.agg #[.int .i64 (N : Int), .slice a len cap], .int .i64 x, .int .i64 y] W fun e w' => e = .returned (.bool (beforeB N es x y)) ∧ Below W.heap.size W w' :=
    fun x y W h => before_any x y (he5.later h) (tab_later hT5 h)
  have HBE := Lib.hid hbe
  have hE : ∀ i, i < len → beforeB N es (gp es i).1 (gp es i).2 = true := fun i hi => before_edge hv (by have := gp_mem es i (by rw [he.length]; exact hi); exact this)
  have HE := Lib.hid hE
  clear hf' hbe hBO hE hv
  go_wp2_with (fail)
  go_loopw [25] (fun c W => ∃ k : Nat, k ≤ len ∧ c = .int .i64 (k : Int) ∧ Below w5.heap.size w5 W) (fun c _ => len - (intOf c).toNat)
  case atStart => exact ⟨0, Nat.zero_le _, rfl, Below.refl _ _⟩
  case round =>
    obtain ⟨k, hk, rfl, hB⟩ := hrel
    clear r0 r1 o0 o1
    obtain ⟨⟨r0, r1⟩, o0, o1⟩ := HBO.out _ hB
    by_cases hlt : k < len
    · have dlt : decide ((k : Int) < len) = true := decide_eq_true (by omega)
      obtain ⟨ba, off, rfl, hbl, c1, c2⟩ := he5.at wr hB k hlt
      have hyes := HE.out k hlt
      obtain ⟨x, hx⟩ : ∃ x, (gp es k).1 = x := ⟨_, rfl⟩
      obtain ⟨y, hy⟩ : ∃ y, (gp es k).2 = y := ⟨_, rfl⟩
      rw [hx] at c1 hyes
      rw [hy] at c2 hyes
      clear hx hy
      go_wp2
      refine wp_region_grow mixed (by kernel_rfl) [[], [], [(1, 29)], [], [(2, 30), (3, 31)], [(4, 32)], [(5, 33)], [], [(7, 35)], [], [(8, 36), (9, 37)], [(10, 38)], [(11, 39)], [(0, 28), (6, 34), (12, 40)], [(13, 41)]] [(0, 28), (1, 29), (2, 30), (3, 31), (4, 32), (5, 33), (6, 34), (7, 35), (8, 36), (9, 37), (10, 38), (11, 39), (12, 40), (13, 41), (14, 42)] rfl rfl [Ex ?e0, Ex ?e1, Ex ?e2, Ex ?e3, Ex ?e4, Ex ?e5, Ex ?e6, Ex ?e7, Ex ?e8, Ex ?e9, Ex ?e10, Ex ?e11, Ex ?e12, Ex (.bool true), Ex ?e14] ⟨stays_ex _, stays_ex _, stays_ex _, stays_ex _, stays_ex _, stays_ex _, stays_ex _, stays_ex _, stays_ex _, stays_ex _, stays_ex _, stays_ex _, stays_ex _, stays_ex _, stays_ex _, trivial⟩ ?steps ?rest
      case steps =>
        refine ⟨fun f W hC hh => ?_, fun f W hC hh => ?_, fun f W hC hh => ?_, fun f W hC hh => ?_, fun f W hC hh => ?_, fun f W hC hh => ?_, fun f W hC hh => ?_, fun f W hC hh => ?_, fun f W hC hh => ?_, fun f W hC hh => ?_, fun f W hC hh => ?_, fun f W hC hh => ?_, fun f W hC hh => ?_, fun f W hC hh => ?_, fun f W hC hh => ?_, trivial⟩
        · -- 0: Op.load 27 (Operand.tmp 3)
          refine tab_plain fun K Q hK => ?_
          simp only [puts, List.foldr_nil]
          obtain ⟨⟨r0, r1⟩, o0, o1⟩ := HBO.out W (hB.trans (hC.mono hB.size))
          go_step
          refine fam_ex hK rfl rfl (by simp only [Act.put, List.setIfInBounds_toArray, List.set_cons_succ, List.set_cons_zero, Array.getD_eq_getD_getElem?, List.getElem?_toArray, List.getElem?_cons_succ, List.getElem?_cons_zero, Option.getD_some] <;> rfl) rfl (Below.refl _ _) hC
        · -- 1: Op.fieldAddr 24 (Operand.tmp 1) 1
          refine tab_plain fun K Q hK => ?_
          simp only [puts, List.foldr_nil]
          go_step
          refine fam_ex hK rfl rfl (by simp only [Act.put, List.setIfInBounds_toArray, List.set_cons_succ, List.set_cons_zero, Array.getD_eq_getD_getElem?, List.getElem?_toArray, List.getElem?_cons_succ, List.getElem?_cons_zero, Option.getD_some] <;> rfl) rfl (Below.refl _ _) hC
        · -- 2: Op.load 22 (Operand.tmp 29)
          obtain ⟨h1, -⟩ := hh
          have g1 : f 1 = _ := h1
          refine tab_plain fun K Q hK => ?_
          simp only [puts, List.foldr_cons, List.foldr_nil, List.setIfInBounds_toArray, List.set_cons_succ, List.set_cons_zero, g1]
          obtain ⟨⟨r0, r1⟩, o0, o1⟩ := HBO.out W (hB.trans (hC.mono hB.size))
          go_step
          refine fam_ex hK rfl rfl (by simp only [Act.put, List.setIfInBounds_toArray, List.set_cons_succ, List.set_cons_zero, Array.getD_eq_getD_getElem?, List.getElem?_toArray, List.getElem?_cons_succ, List.getElem?_cons_zero, Option.getD_some] <;> rfl) rfl (Below.refl _ _) hC
        · -- 3: Op.move (Operand.tmp 4)
          refine tab_plain fun K Q hK => ?_
          simp only [puts, List.foldr_nil]
          go_step
          refine fam_ex hK rfl rfl (by simp only [Act.put, List.setIfInBounds_toArray, List.set_cons_succ, List.set_cons_zero, Array.getD_eq_getD_getElem?, List.getElem?_toArray, List.getElem?_cons_succ, List.getElem?_cons_zero, Option.getD_some] <;> rfl) rfl (Below.refl _ _) hC
        · -- 4: Op.indexAddr 22 (Operand.tmp 30) (Operand.tmp 31)
          obtain ⟨h2, h3, -⟩ := hh
          have g2 : f 2 = _ := h2
          have g3 : f 3 = _ := h3
          refine tab_plain fun K Q hK => ?_
          simp only [puts, List.foldr_cons, List.foldr_nil, List.setIfInBounds_toArray, List.set_cons_succ, List.set_cons_zero, g2, g3]
          go_step
          refine fam_ex hK rfl rfl (by simp only [Act.put, List.setIfInBounds_toArray, List.set_cons_succ, List.set_cons_zero, Array.getD_eq_getD_getElem?, List.getElem?_toArray, List.getElem?_cons_succ, List.getElem?_cons_zero, Option.getD_some] <;> rfl) rfl (Below.refl _ _) hC
        · -- 5: Op.indexAddr 39 (Operand.tmp 32) (Operand.const (Value.int IntKind.i64 0))
          obtain ⟨h4, -⟩ := hh
          have g4 : f 4 = _ := h4
          refine tab_plain fun K Q hK => ?_
          simp only [puts, List.foldr_cons, List.foldr_nil, List.setIfInBounds_toArray, List.set_cons_succ, List.set_cons_zero, g4]
          go_step
          refine fam_ex hK rfl rfl (by simp only [Act.put, List.setIfInBounds_toArray, List.set_cons_succ, List.set_cons_zero, Array.getD_eq_getD_getElem?, List.getElem?_toArray, List.getElem?_cons_succ, List.getElem?_cons_zero, Option.getD_some] <;> rfl) rfl (Below.refl _ _) hC
        · -- 6: Op.load 3 (Operand.tmp 33)
          obtain ⟨h5, -⟩ := hh
          have g5 : f 5 = _ := h5
          refine tab_plain fun K Q hK => ?_
          simp only [puts, List.foldr_cons, List.foldr_nil, List.setIfInBounds_toArray, List.set_cons_succ, List.set_cons_zero, g5]
          have hc6 := (hC.cell (p := ⟨ba, off + k * 2, none⟩) (by have := hB.size; show ba < _; omega)).trans c1
          go_step
          refine fam_ex hK rfl rfl (by simp only [Act.put, List.setIfInBounds_toArray, List.set_cons_succ, List.set_cons_zero, Array.getD_eq_getD_getElem?, List.getElem?_toArray, List.getElem?_cons_succ, List.getElem?_cons_zero, Option.getD_some] <;> rfl) rfl (Below.refl _ _) hC
        · -- 7: Op.fieldAddr 24 (Operand.tmp 1) 1
          refine tab_plain fun K Q hK => ?_
          simp only [puts, List.foldr_nil]
          go_step
          refine fam_ex hK rfl rfl (by simp only [Act.put, List.setIfInBounds_toArray, List.set_cons_succ, List.set_cons_zero, Array.getD_eq_getD_getElem?, List.getElem?_toArray, List.getElem?_cons_succ, List.getElem?_cons_zero, Option.getD_some] <;> rfl) rfl (Below.refl _ _) hC
        · -- 8: Op.load 22 (Operand.tmp 35)
          obtain ⟨h7, -⟩ := hh
          have g7 : f 7 = _ := h7
          refine tab_plain fun K Q hK => ?_
          simp only [puts, List.foldr_cons, List.foldr_nil, List.setIfInBounds_toArray, List.set_cons_succ, List.set_cons_zero, g7]
          obtain ⟨⟨r0, r1⟩, o0, o1⟩ := HBO.out W (hB.trans (hC.mono hB.size))
          go_step
          refine fam_ex hK rfl rfl (by simp only [Act.put, List.setIfInBounds_toArray, List.set_cons_succ, List.set_cons_zero, Array.getD_eq_getD_getElem?, List.getElem?_toArray, List.getElem?_cons_succ, List.getElem?_cons_zero, Option.getD_some] <;> rfl) rfl (Below.refl _ _) hC
        · -- 9: Op.move (Operand.tmp 4)
          refine tab_plain fun K Q hK => ?_
          simp only [puts, List.foldr_nil]
          go_step
          refine fam_ex hK rfl rfl (by simp only [Act.put, List.setIfInBounds_toArray, List.set_cons_succ, List.set_cons_zero, Array.getD_eq_getD_getElem?, List.getElem?_toArray, List.getElem?_cons_succ, List.getElem?_cons_zero, Option.getD_some] <;> rfl) rfl (Below.refl _ _) hC
        · -- 10: Op.indexAddr 22 (Operand.tmp 36) (Operand.tmp 37)
          obtain ⟨h8, h9, -⟩ := hh
          have g8 : f 8 = _ := h8
          have g9 : f 9 = _ := h9
          refine tab_plain fun K Q hK => ?_
          simp only [puts, List.foldr_cons, List.foldr_nil, List.setIfInBounds_toArray, List.set_cons_succ, List.set_cons_zero, g8, g9]
          go_step
          refine fam_ex hK rfl rfl (by simp only [Act.put, List.setIfInBounds_toArray, List.set_cons_succ, List.set_cons_zero, Array.getD_eq_getD_getElem?, List.getElem?_toArray, List.getElem?_cons_succ, List.getElem?_cons_zero, Option.getD_some] <;> rfl) rfl (Below.refl _ _) hC
        · -- 11: Op.indexAddr 39 (Operand.tmp 38) (Operand.const (Value.int IntKind.i64 1))
          obtain ⟨h10, -⟩ := hh
          have g10 : f 10 = _ := h10
          refine tab_plain fun K Q hK => ?_
          simp only [puts, List.foldr_cons, List.foldr_nil, List.setIfInBounds_toArray, List.set_cons_succ, List.set_cons_zero, g10]
          go_step
          refine fam_ex hK rfl rfl (by simp only [Act.put, List.setIfInBounds_toArray, List.set_cons_succ, List.set_cons_zero, Array.getD_eq_getD_getElem?, List.getElem?_toArray, List.getElem?_cons_succ, List.getElem?_cons_zero, Option.getD_some] <;> rfl) rfl (Below.refl _ _) hC
        · -- 12: Op.load 3 (Operand.tmp 39)
          obtain ⟨h11, -⟩ := hh
          have g11 : f 11 = _ := h11
          refine tab_plain fun K Q hK => ?_
          simp only [puts, List.foldr_cons, List.foldr_nil, List.setIfInBounds_toArray, List.set_cons_succ, List.set_cons_zero, g11]
          have hc6 := (hC.cell (p := ⟨ba, off + k * 2 + 1, none⟩) (by have := hB.size; show ba < _; omega)).trans c2
          go_step
          refine fam_ex hK rfl rfl (by simp only [Act.put, List.setIfInBounds_toArray, List.set_cons_succ, List.set_cons_zero, Array.getD_eq_getD_getElem?, List.getElem?_toArray, List.getElem?_cons_succ, List.getElem?_cons_zero, Option.getD_some] <;> rfl) rfl (Below.refl _ _) hC
        · -- 13: Op.call { callee := Callee.value (Operand.func 15), args := #[Operand.tmp 28, Operand.tmp 
          obtain ⟨h0, h6, h12, -⟩ := hh
          have g0 : f 0 = _ := h0
          have g6 : f 6 = _ := h6
          have g12 : f 12 = _ := h12
          refine tab_plain fun K Q hK => ?_
          simp only [puts, List.foldr_cons, List.foldr_nil, List.setIfInBounds_toArray, List.set_cons_succ, List.set_cons_zero, g0, g6, g12]
          go_step
          go_at_call 15
          refine (HBE.out _ _ W (hB.trans (hC.mono hB.size))).mono ?_
          rintro e w' ⟨rfl, hb⟩
          rw [hyes]
          exact fam_fin hK rfl rfl hb (hC.trans (hb.mono hC.size))
        · -- 14: Op.unOp UnOp.not 4 (Operand.tmp 41)
          obtain ⟨h13, -⟩ := hh
          have g13 : f 13 = _ := h13
          refine tab_plain fun K Q hK => ?_
          simp only [puts, List.foldr_cons, List.foldr_nil, List.setIfInBounds_toArray, List.set_cons_succ, List.set_cons_zero, g13]
          go_step
          refine fam_ex hK rfl rfl (by simp only [Act.put, List.setIfInBounds_toArray, List.set_cons_succ, List.set_cons_zero, Array.getD_eq_getD_getElem?, List.getElem?_toArray, List.getElem?_cons_succ, List.getElem?_cons_zero, Option.getD_some] <;> rfl) rfl (Below.refl _ _) hC
      case rest =>
        intro f W2 hC hh
        obtain ⟨h0, h1, h2, h3, h4, h5, h6, h7, h8, h9, h10, h11, h12, h13, h14, -⟩ := hh
        have g0 : f 0 = _ := h0
        have g1 : f 1 = _ := h1
        have g2 : f 2 = _ := h2
        have g3 : f 3 = _ := h3
        have g4 : f 4 = _ := h4
        have g5 : f 5 = _ := h5
        have g6 : f 6 = _ := h6
        have g7 : f 7 = _ := h7
        have g8 : f 8 = _ := h8
        have g9 : f 9 = _ := h9
        have g10 : f 10 = _ := h10
        have g11 : f 11 = _ := h11
        have g12 : f 12 = _ := h12
        have g13 : f 13 = _ := h13
        have g14 : f 14 = _ := h14
        simp only [puts, List.foldr_cons, List.foldr_nil, List.setIfInBounds_toArray, List.set_cons_succ, List.set_cons_zero, g0, g1, g2, g3, g4, g5, g6, g7, g8, g9, g10, g11, g12, g13, g14]
        clear h0 h1 h2 h3 h4 h5 h6 h7 h8 h9 h10 h11 h12 h13 h14 g0 g1 g2 g3 g4 g5 g6 g7 g8 g9 g10 g11 g12 g13 g14
        go_wp2
        go_roundw
        case rel => exact ⟨k + 1, hlt, by go_num, hB.trans (hC.mono hB.size)⟩
        case measure => simp [intOf]; omega
    · obtain rfl : k = len := by omega
      have dlt : decide ((k : Int) < k) = false := decide_eq_false (by omega)
      go_wp2_with (fail)
      go_loopw [46] (fun c W => ∃ k : Nat, k ≤ N ∧ c = .int .i64 (k : Int) ∧ Below w5.heap.size w5 W) (fun c _ => N - (intOf c).toNat)
      case atStart => exact ⟨0, Nat.zero_le _, rfl, hB⟩
      case round =>
        obtain ⟨A, hA, rfl, hB2⟩ := hrel
        clear r0 r1 o0 o1
        obtain ⟨⟨r0, r1⟩, o0, o1⟩ := HBO.out _ hB2
        by_cases hlt : A < N
        · have dlt : decide ((A : Int) < N) = true := decide_eq_true (by omega)
          go_wp2_with (fail)
          go_loopw [51] (fun c W => ∃ k : Nat, k ≤ N ∧ c = .int .i64 (k : Int) ∧ Below w5.heap.size w5 W) (fun c _ => N - (intOf c).toNat)
          case atStart => exact ⟨0, Nat.zero_le _, rfl, hB2⟩
          case round =>
            obtain ⟨B, hBk, rfl, hB3⟩ := hrel
            clear r0 r1 o0 o1
            obtain ⟨⟨r0, r1⟩, o0, o1⟩ := HBO.out _ hB3
            by_cases hlt2 : B < N
            · have dlt2 : decide ((B : Int) < N) = true := decide_eq_true (by omega)
              go_wp2_with (fail)
              go_at_call 15
              refine (HBE.out _ _ _ hB3).mono ?_
              rintro e w7 ⟨rfl, hb7⟩
              have hB7 := hB3.trans (hb7.mono hB3.size)
              clear r0 r1 o0 o1
              obtain ⟨⟨r0, r1⟩, o0, o1⟩ := HBO.out _ hB7
              cases hab : beforeB N es A B with
              | false =>
                go_wp2_with (fail)
                go_loopw [71] (fun c W => ∃ k : Nat, k ≤ N ∧ c = .int .i64 (k : Int) ∧ Below w5.heap.size w5 W) (fun c _ => N - (intOf c).toNat)
                case atStart => exact ⟨0, Nat.zero_le _, rfl, hB7⟩
                case round =>
                  obtain ⟨C, hCk, rfl, hB9⟩ := hrel
                  clear r0 r1 o0 o1
                  obtain ⟨⟨r0, r1⟩, o0, o1⟩ := HBO.out _ hB9
                  by_cases hlt3 : C < N
                  · have dlt3 : decide ((C : Int) < N) = true := decide_eq_true (by omega)
                    go_wp2_with (fail)
                    go_at_call 15
                    refine (HBE.out _ _ _ hB9).mono ?_
                    rintro e wa ⟨rfl, hba9⟩
                    have hBa := hB9.trans (hba9.mono hB9.size)
                    clear r0 r1 o0 o1
                    obtain ⟨⟨r0, r1⟩, o0, o1⟩ := HBO.out _ hBa
                    rw [hab]
                    go_wp2
                    go_roundw
                    case rel => exact ⟨C + 1, hlt3, by go_num, hBa⟩
                    case measure => simp [intOf]; omega
                  · have dlt3 : decide ((C : Int) < N) = false := decide_eq_false (by omega)
                    go_wp2
                    go_roundw
                    case rel => exact ⟨B + 1, hlt2, by go_num, hB9⟩
                    case measure => simp [intOf]; omega
              | true =>
                have hAB : ((A : Int) == (B : Int)) = false := by
                  rw [beq_eq_false_iff_ne]
                  intro h
                  rw [h, before_irr HV.out] at hab
                  cases hab
                have hba := before_asym HV.out hab
                go_wp2_with (fail)
                go_at_call 15
                refine (HBE.out _ _ _ hB7).mono ?_
                rintro e w8 ⟨rfl, hb8⟩
                have hB8 := hB7.trans (hb8.mono hB7.size)
                clear r0 r1 o0 o1
                obtain ⟨⟨r0, r1⟩, o0, o1⟩ := HBO.out _ hB8
                rw [hba]
                go_wp2_with (fail)
                go_loopw [71] (fun c W => ∃ k : Nat, k ≤ N ∧ c = .int .i64 (k : Int) ∧ Below w5.heap.size w5 W) (fun c _ => N - (intOf c).toNat)
                case atStart => exact ⟨0, Nat.zero_le _, rfl, hB8⟩
                case round =>
                  obtain ⟨C, hCk, rfl, hB9⟩ := hrel
                  clear r0 r1 o0 o1
                  obtain ⟨⟨r0, r1⟩, o0, o1⟩ := HBO.out _ hB9
                  by_cases hlt3 : C < N
                  · have dlt3 : decide ((C : Int) < N) = true := decide_eq_true (by omega)
                    go_wp2_with (fail)
                    go_at_call 15
                    refine (HBE.out _ _ _ hB9).mono ?_
                    rintro e wa ⟨rfl, hba9⟩
                    have hBa := hB9.trans (hba9.mono hB9.size)
                    clear r0 r1 o0 o1
                    obtain ⟨⟨r0, r1⟩, o0, o1⟩ := HBO.out _ hBa
                    rw [hab]
                    go_wp2_with (fail)
                    go_at_call 15
                    refine (HBE.out _ _ _ hBa).mono ?_
                    rintro e wb ⟨rfl, hbb9⟩
                    have hBb := hBa.trans (hbb9.mono hBa.size)
                    clear r0 r1 o0 o1
                    obtain ⟨⟨r0, r1⟩, o0, o1⟩ := HBO.out _ hBb
                    cases hbc : beforeB N es B C with
                    | false =>
                      go_wp2
                      go_roundw
                      case rel => exact ⟨C + 1, hlt3, by go_num, hBb⟩
                      case measure => simp [intOf]; omega
                    | true =>
                      have hac := before_trans hab hbc
                      go_wp2_with (fail)
                      go_at_call 15
                      refine (HBE.out _ _ _ hBb).mono ?_
                      rintro e wc ⟨rfl, hbc9⟩
                      have hBc := hBb.trans (hbc9.mono hBb.size)
                      clear r0 r1 o0 o1
                      obtain ⟨⟨r0, r1⟩, o0, o1⟩ := HBO.out _ hBc
                      rw [hac]
                      go_wp2
                      go_roundw
                      case rel => exact ⟨C + 1, hlt3, by go_num, hBc⟩
                      case measure => simp [intOf]; omega
                  · have dlt3 : decide ((C : Int) < N) = false := decide_eq_false (by omega)
                    go_wp2
                    go_roundw
                    case rel => exact ⟨B + 1, hlt2, by go_num, hB9⟩
                    case measure => simp [intOf]; omega
            · have dlt2 : decide ((B : Int) < N) = false := decide_eq_false (by omega)
              go_wp2
              go_roundw
              case rel => exact ⟨A + 1, hlt, by go_num, hB3⟩
              case measure => simp [intOf]; omega
        · have dlt : decide ((A : Int) < N) = false := decide_eq_false (by omega)
          go_wp2
          go_ret
          exact ⟨rfl, hb05.trans (hB2.mono hb05.size)⟩
end Go.Proofs.YtofnbndpoiohhaaDoor
