/-
  OrderExtends: the walk.
-/
import Derived.Test.YtofnbndpoiohhaaDoorOrdL
import Derived.OpenShut
set_option linter.unusedSimpArgs false
set_option linter.unusedVariables false
set_option maxHeartbeats 8000000
namespace Go.Proofs.YtofnbndpoiohhaaDoor
open Go.RowKit Go.Shelf Go.ChangeShapes
attribute [local go_sem] Oper.semAt_some

set_option maxRecDepth 20000 in
theorem orderExtends_walk (n : Int) (a : Option Addr) (len cap : Nat) (es : List (Int × Int)) (at0 : Int) (w : World) (he : IsPairs w a len cap es) (hn : (Lit.int .i64 n).wf = true) (ha0 : (Lit.int .u8 at0).wf = true) (hT : TabAt 0 Lib.deBruijn64tab w) :
    Calls Tryd.prog 6 #[.agg #[.int .i64 n, .slice a len cap], .int .u8 at0] w fun e w' => e = .returned (.bool true) ∧ Below w.heap.size w w' := by
  have hS0 := bounds_u8 ha0
  clear ha0
  obtain ⟨S, rfl⟩ := Int.eq_ofNat_of_zero_le hS0.1
  have hS1 : S < 256 := by omega
  clear hS0
  obtain ⟨hb2, hs2, hRO⟩ := boxRO n a len cap w
  obtain ⟨W2, hW2⟩ : ∃ W2, (w.alloc (.cells #[.int .i64 n, .slice a len cap] 24)).alloc (.cells #[.int .i64 n, .slice a len cap] 27) = W2 := ⟨_, rfl⟩
  rw [hW2] at hb2 hs2 hRO
  have he2 := he.later hb2
  have hT2 := tab_later hT hb2
  have hcap : len ≤ maxLen := by
    rcases he with ⟨_, h, _⟩ | ⟨_, _, _, h, h', _⟩
    · rw [h]; decide
    · omega
  unfold maxLen at hcap
  have HW := Lib.hid hW2
  rw [← hs2] at hRO
  obtain ⟨⟨r0, r1⟩, o0, o1⟩ := hRO _ (Below.refl _ _)
  have HRO := Lib.hid hRO
  clear hW2 hRO
  go_enter Tryd.func6, Tryd.ntmps6
  go_wp2_with (fail)
  rw [HW.out]
  go_at_call 11
  refine (awake_any _ hT2).mono ?_
  rintro e w3 ⟨rfl, hb3⟩
  clear r0 r1 o0 o1
  obtain ⟨⟨r0, r1⟩, o0, o1⟩ := HRO.out _ hb3
  go_wp2_with (fail)
  go_at_call 12
  refine (few_any n a len cap w3 (by omega)).mono ?_
  rintro e w4 ⟨rfl, hb4⟩
  have hb24 := hb3.trans (hb4.mono hb3.size)
  have hT4 := tab_later hT2 hb24
  have hb04 := hb2.trans (hb24.mono hb2.size)
  clear r0 r1 o0 o1
  obtain ⟨⟨r0, r1⟩, o0, o1⟩ := HRO.out _ hb24
  cases hf : decide (n ≤ 12 ∧ len ≤ 80) with
  | false =>
    go_wp2_with (fail)
    go_at_call 11
    refine (awake_any _ hT4).mono ?_
    rintro e w5 ⟨rfl, hb5⟩
    go_wp2
    go_ret
    exact ⟨rfl, hb04.trans (hb5.mono hb04.size)⟩
  | true =>
  have hf' := of_decide_eq_true hf
  clear hf
  go_wp2_with (fail)
  go_at_call 13
  refine (valid_any (he2.later hb24) hT4).mono ?_
  rintro e w5 ⟨rfl, hb5⟩
  have hb25 := hb24.trans (hb5.mono hb24.size)
  have hb05 := hb2.trans (hb25.mono hb2.size)
  have hT5 := tab_later hT2 hb25
  clear r0 r1 o0 o1
  obtain ⟨⟨r0, r1⟩, o0, o1⟩ := HRO.out _ hb25
  by_cases hv : ValidO n es
  rotate_left
  · rw [validB_no hv]
    go_wp2_with (fail)
    go_at_call 11
    refine (awake_any _ hT5).mono ?_
    rintro e w6 ⟨rfl, hb6⟩
    go_wp2
    go_ret
    exact ⟨rfl, hb05.trans (hb6.mono hb05.size)⟩
  rw [validB_yes hv]
  obtain ⟨N, rfl⟩ := Int.eq_ofNat_of_zero_le hv.1.1
  have hN12 : N ≤ 12 := by omega
  have hl80 := hf'.2
  have he5 := he2.later hb25
  have HV := Lib.hid hv
  have hBO : ∀ W, Below w5.heap.size w5 W → (W.cell? ⟨w.heap.size, 0, none⟩ = some (.int .i64 (N : Int)) ∧ W.cell? ⟨w.heap.size, 1, none⟩ = some (.slice a len cap)) ∧ W.cell? ⟨w.heap.size + 1, 0, none⟩ = some (.int .i64 (N : Int)) ∧ W.cell? ⟨w.heap.size + 1, 1, none⟩ = some (.slice a len cap) :=
    fun W h => HRO.out W (hb25.trans (h.mono hb25.size))
  have HBO := Lib.hid hBO
  have hbe : ∀ (x y : Int) W, Below w5.heap.size w5 W → Calls Tryd.prog 15 #[.agg #[.int .i64 (N : Int), .slice a len cap], .int .i64 x, .int .i64 y] W fun e w' => e = .returned (.bool (beforeB N es x y)) ∧ Below W.heap.size W w' :=
    fun x y W h => before_any x y (he5.later h) (tab_later hT5 h)
  have HBE := Lib.hid hbe
  clear hf' hbe hBO hv
  go_wp2_with (fail)
  go_at_call 19
  refine (linear_yes he5 hT5 HV.out).mono ?_
  rintro e w6 ⟨ls, ao, co, rfl, hK, hl, hrow, hb6⟩
  rw [Int.toNat_natCast] at hK hl
  rw [hl] at hrow ⊢
  obtain ⟨L, hL⟩ : ∃ L, ls.map Int.ofNat = L := ⟨_, rfl⟩
  have hLl : L.length = N := by rw [← hL, List.length_map, hl]
  have hlin : linB N es L = true := by rw [← hL]; exact kl_lin HV.out hK hl
  have hst : Steps N es [] L := by rw [← hL]; exact kl_steps hK
  rw [hL] at hrow
  have HST := Lib.hid hst
  have HLl := Lib.hid hLl
  obtain ⟨hI6, -⟩ := IsInts.of_owns hrow
  have hco := hI6.cap
  unfold maxLen at hco
  clear hK hl hL hst hLl
  have hb06 := hb05.trans (hb6.mono hb05.size)
  clear r0 r1 o0 o1
  obtain ⟨⟨r0, r1⟩, o0, o1⟩ := HBO.out _ hb6
  have hT6 := tab_later hT5 hb6
  go_wp2_with (fail)
  go_at_call 22
  refine (isLinear_any _ _ _ _ (he5.later hb6) hT6 hI6).mono ?_
  rintro e w7 ⟨rfl, hb7⟩
  rw [hlin]
  have hb57 := hb6.trans (hb7.mono hb6.size)
  have hrow7 := hrow.kept_below hb7
  have hI7 := hI6.later hb7
  clear hlin hrow hI6
  clear r0 r1 o0 o1
  obtain ⟨⟨r0, r1⟩, o0, o1⟩ := HBO.out _ hb57
  go_wp2_with (fail)
  go_loopw [49] (fun c W => ∃ k : Nat, k ≤ N ∧ c = .int .i64 (k : Int) ∧ Below w7.heap.size w7 W) (fun c _ => N - (intOf c).toNat)
  case atStart => exact ⟨0, Nat.zero_le _, rfl, Below.refl _ _⟩
  case round =>
    obtain ⟨I, hI, rfl, hB⟩ := hrel
    have hb5r := hb57.trans (hB.mono hb57.size)
    clear r0 r1 o0 o1
    obtain ⟨⟨r0, r1⟩, o0, o1⟩ := HBO.out _ hb5r
    by_cases hlt : I < N
    · have dlt : decide ((I : Int) < N) = true := decide_eq_true (by omega)
      have hcut : IsInts .i64 wr ao I co (L.take I) := by
        have := (hI7.later hB).slice 0 I co (Nat.zero_le _) (by omega) (by omega) (Nat.le_refl _) (a' := ao) (fun h => (by cases ao with | none => rfl | some x => simp [Addr.add])) (fun _ => rfl)
        simpa using this
      have hcb := steps_cut HV.out HST.out I
      go_wp2_with (fail)
      refine wp_region_grow mixed (by kernel_rfl) [[], [], [], [(1, 53), (2, 54)], [(0, 52), (3, 55)], [(4, 56)]] [(0, 52), (1, 53), (2, 54), (3, 55), (4, 56), (5, 57)] rfl rfl [Ex ?e0, Ex ?e1, Ex ?e2, Ex ?e3, Ex (.bool true), Ex ?e5] ⟨stays_ex _, stays_ex _, stays_ex _, stays_ex _, stays_ex _, stays_ex _, trivial⟩ ?steps ?rest
      case steps =>
        refine ⟨fun f W hC hh => ?_, fun f W hC hh => ?_, fun f W hC hh => ?_, fun f W hC hh => ?_, fun f W hC hh => ?_, fun f W hC hh => ?_, trivial⟩
        · -- 0: Op.load 27 (Operand.tmp 5)
          refine tab_plain fun K Q hK => ?_
          simp only [puts, List.foldr_nil]
          obtain ⟨⟨r0, r1⟩, o0, o1⟩ := HBO.out W (hb5r.trans (hC.mono hb5r.size))
          go_step
          refine fam_ex hK rfl rfl (by simp only [Act.put, List.setIfInBounds_toArray, List.set_cons_succ, List.set_cons_zero, Array.getD_eq_getD_getElem?, List.getElem?_toArray, List.getElem?_cons_succ, List.getElem?_cons_zero, Option.getD_some] <;> rfl) rfl (Below.refl _ _) hC
        · -- 1: Op.move (Operand.tmp 6)
          refine tab_plain fun K Q hK => ?_
          simp only [puts, List.foldr_nil]
          go_step
          refine fam_ex hK rfl rfl (by simp only [Act.put, List.setIfInBounds_toArray, List.set_cons_succ, List.set_cons_zero, Array.getD_eq_getD_getElem?, List.getElem?_toArray, List.getElem?_cons_succ, List.getElem?_cons_zero, Option.getD_some] <;> rfl) rfl (Below.refl _ _) hC
        · -- 2: Op.move (Operand.tmp 8)
          refine tab_plain fun K Q hK => ?_
          simp only [puts, List.foldr_nil]
          go_step
          refine fam_ex hK rfl rfl (by simp only [Act.put, List.setIfInBounds_toArray, List.set_cons_succ, List.set_cons_zero, Array.getD_eq_getD_getElem?, List.getElem?_toArray, List.getElem?_cons_succ, List.getElem?_cons_zero, Option.getD_some] <;> rfl) rfl (Below.refl _ _) hC
        · -- 3: Op.slice 31 (Operand.tmp 53) none (some (Operand.tmp 54)) none
          obtain ⟨h1, h2, -⟩ := hh
          have g1 : f 1 = _ := h1
          have g2 : f 2 = _ := h2
          refine tab_plain fun K Q hK => ?_
          simp only [puts, List.foldr_cons, List.foldr_nil, List.setIfInBounds_toArray, List.set_cons_succ, List.set_cons_zero, g1, g2]
          go_step
          refine fam_ex hK rfl rfl (by simp only [Act.put, List.setIfInBounds_toArray, List.set_cons_succ, List.set_cons_zero, Array.getD_eq_getD_getElem?, List.getElem?_toArray, List.getElem?_cons_succ, List.getElem?_cons_zero, Option.getD_some] <;> rfl) rfl (Below.refl _ _) hC
        · -- 4: Op.call { callee := Callee.value (Operand.func 24), args := #[Operand.tmp 52, Operand.tmp 
          obtain ⟨h0, h3, -⟩ := hh
          have g0 : f 0 = _ := h0
          have g3 : f 3 = _ := h3
          refine tab_plain fun K Q hK => ?_
          simp only [puts, List.foldr_cons, List.foldr_nil, List.setIfInBounds_toArray, List.set_cons_succ, List.set_cons_zero, g0, g3]
          go_step
          go_at_call 24
          refine (cut_any _ _ _ _ (he5.later (hb5r.trans (hC.mono hb5r.size))) (tab_later hT5 (hb5r.trans (hC.mono hb5r.size))) (hcut.later hC)).mono ?_
          rintro e w' ⟨rfl, hb⟩
          rw [hcb]
          exact fam_fin hK rfl rfl hb (hC.trans (hb.mono hC.size))
        · -- 5: Op.unOp UnOp.not 4 (Operand.tmp 56)
          obtain ⟨h4, -⟩ := hh
          have g4 : f 4 = _ := h4
          refine tab_plain fun K Q hK => ?_
          simp only [puts, List.foldr_cons, List.foldr_nil, List.setIfInBounds_toArray, List.set_cons_succ, List.set_cons_zero, g4]
          go_step
          refine fam_ex hK rfl rfl (by simp only [Act.put, List.setIfInBounds_toArray, List.set_cons_succ, List.set_cons_zero, Array.getD_eq_getD_getElem?, List.getElem?_toArray, List.getElem?_cons_succ, List.getElem?_cons_zero, Option.getD_some] <;> rfl) rfl (Below.refl _ _) hC
      case rest =>
        intro f W2 hC hh
        obtain ⟨h0, h1, h2, h3, h4, h5, -⟩ := hh
        have g0 : f 0 = _ := h0
        have g1 : f 1 = _ := h1
        have g2 : f 2 = _ := h2
        have g3 : f 3 = _ := h3
        have g4 : f 4 = _ := h4
        have g5 : f 5 = _ := h5
        simp only [puts, List.foldr_cons, List.foldr_nil, List.setIfInBounds_toArray, List.set_cons_succ, List.set_cons_zero, g0, g1, g2, g3, g4, g5]
        clear h0 h1 h2 h3 h4 h5 g0 g1 g2 g3 g4 g5
        have hB2 := hB.trans (hC.mono hB.size)
        obtain ⟨b7, o7, hao, hbl7, hcI⟩ := hI7.at w7 (Below.refl _ _) I hlt
        subst hao
        go_wp2_with (fail)
        go_loopw [59] (fun c W => ∃ k : Nat, k ≤ I ∧ c = .int .i64 (k : Int) ∧ Below w7.heap.size w7 W) (fun c _ => I - (intOf c).toNat)
        case atStart => exact ⟨0, Nat.zero_le _, rfl, hB2⟩
        case round =>
          obtain ⟨k, hk, rfl, hB3⟩ := hrel
          by_cases hlt2 : k < I
          · have dlt2 : decide ((k : Int) < I) = true := decide_eq_true (by omega)
            obtain ⟨b8, o8, e8, -, hck⟩ := hI7.at w7 (Below.refl _ _) k (by omega)
            simp only [Option.some.injEq, Addr.mk.injEq, and_true] at e8
            obtain ⟨rfl, rfl⟩ := e8
            obtain ⟨hne, hbf⟩ := steps_ne HST.out hlt2 (by rw [HLl.out]; exact hlt)
            obtain ⟨x, hx⟩ : ∃ x, gi L I = x := ⟨_, rfl⟩
            obtain ⟨y, hy⟩ : ∃ y, gi L k = y := ⟨_, rfl⟩
            rw [hx] at hcI hne hbf
            rw [hy] at hck hne hbf
            have hxy : (x == y) = false := by simpa using hne
            clear hne hx hy
            have hb5s := hb57.trans (hB3.mono hb57.size)
            go_wp2_with (fail)
            refine wp_region_grow mixed (by kernel_rfl) [[], [], [(0, 62), (1, 63)], [(2, 64)], [], [], [(4, 66), (5, 67)], [(6, 68)], [(3, 65), (7, 69)], [(8, 70)], [(9, 71)], [(9, 71)], [(9, 71)], [(11, 73), (12, 74), (9, 71)], [(13, 75), (9, 71)], [(9, 71)], [(9, 71)], [(15, 77), (16, 78), (9, 71)], [(17, 79), (9, 71)], [(10, 72), (14, 76), (18, 80), (9, 71), (9, 71)], [(9, 71), (19, 81)]] [(0, 62), (1, 63), (2, 64), (3, 65), (4, 66), (5, 67), (6, 68), (7, 69), (8, 70), (9, 71), (10, 72), (11, 73), (12, 74), (13, 75), (14, 76), (15, 77), (16, 78), (17, 79), (18, 80), (19, 81), (20, 82)] rfl rfl [Ex ?eq0, Ex ?eq1, Ex ?eq2, Ex ?eq3, Ex ?eq4, Ex ?eq5, Ex ?eq6, Ex ?eq7, Ex ?eq8, Ex ?eq9, Ex ?eq10, Ex ?eq11, Ex ?eq12, Ex ?eq13, Ex ?eq14, Ex ?eq15, Ex ?eq16, Ex ?eq17, Ex ?eq18, Ex (.bool false), Ex ?eq20] ⟨stays_ex _, stays_ex _, stays_ex _, stays_ex _, stays_ex _, stays_ex _, stays_ex _, stays_ex _, stays_ex _, stays_ex _, stays_ex _, stays_ex _, stays_ex _, stays_ex _, stays_ex _, stays_ex _, stays_ex _, stays_ex _, stays_ex _, stays_ex _, stays_ex _, trivial⟩ ?qsteps ?qrest
            case qsteps =>
              refine ⟨fun f W hC hh => ?_, fun f W hC hh => ?_, fun f W hC hh => ?_, fun f W hC hh => ?_, fun f W hC hh => ?_, fun f W hC hh => ?_, fun f W hC hh => ?_, fun f W hC hh => ?_, fun f W hC hh => ?_, fun f W hC hh => ?_, fun f W hC hh => ?_, fun f W hC hh => ?_, fun f W hC hh => ?_, fun f W hC hh => ?_, fun f W hC hh => ?_, fun f W hC hh => ?_, fun f W hC hh => ?_, fun f W hC hh => ?_, fun f W hC hh => ?_, fun f W hC hh => ?_, fun f W hC hh => ?_, trivial⟩
              · -- 0: Op.move (Operand.tmp 6)
                refine tab_plain fun K Q hK => ?_
                simp only [puts, List.foldr_nil]
                go_step
                refine fam_ex hK rfl rfl (by simp only [Act.put, List.setIfInBounds_toArray, List.set_cons_succ, List.set_cons_zero, Array.getD_eq_getD_getElem?, List.getElem?_toArray, List.getElem?_cons_succ, List.getElem?_cons_zero, Option.getD_some] <;> rfl) rfl (Below.refl _ _) hC
              · -- 1: Op.move (Operand.tmp 8)
                refine tab_plain fun K Q hK => ?_
                simp only [puts, List.foldr_nil]
                go_step
                refine fam_ex hK rfl rfl (by simp only [Act.put, List.setIfInBounds_toArray, List.set_cons_succ, List.set_cons_zero, Array.getD_eq_getD_getElem?, List.getElem?_toArray, List.getElem?_cons_succ, List.getElem?_cons_zero, Option.getD_some] <;> rfl) rfl (Below.refl _ _) hC
              · -- 2: Op.indexAddr 31 (Operand.tmp 62) (Operand.tmp 63)
                obtain ⟨h0, h1, -⟩ := hh
                have g0 : f 0 = _ := h0
                have g1 : f 1 = _ := h1
                refine tab_plain fun K Q hK => ?_
                simp only [puts, List.foldr_cons, List.foldr_nil, List.setIfInBounds_toArray, List.set_cons_succ, List.set_cons_zero, g0, g1]
                go_step
                refine fam_ex hK rfl rfl (by simp only [Act.put, List.setIfInBounds_toArray, List.set_cons_succ, List.set_cons_zero, Array.getD_eq_getD_getElem?, List.getElem?_toArray, List.getElem?_cons_succ, List.getElem?_cons_zero, Option.getD_some] <;> rfl) rfl (Below.refl _ _) hC
              · -- 3: Op.load 3 (Operand.tmp 64)
                obtain ⟨h2, -⟩ := hh
                have g2 : f 2 = _ := h2
                refine tab_plain fun K Q hK => ?_
                simp only [puts, List.foldr_cons, List.foldr_nil, List.setIfInBounds_toArray, List.set_cons_succ, List.set_cons_zero, g2]
                have hc3 := ((hB3.trans (hC.mono hB3.size)).cell (p := ⟨b7, o7 + I, none⟩) hbl7).trans hcI
                go_step
                refine fam_ex hK rfl rfl (by simp only [Act.put, List.setIfInBounds_toArray, List.set_cons_succ, List.set_cons_zero, Array.getD_eq_getD_getElem?, List.getElem?_toArray, List.getElem?_cons_succ, List.getElem?_cons_zero, Option.getD_some] <;> rfl) rfl (Below.refl _ _) hC
              · -- 4: Op.move (Operand.tmp 6)
                refine tab_plain fun K Q hK => ?_
                simp only [puts, List.foldr_nil]
                go_step
                refine fam_ex hK rfl rfl (by simp only [Act.put, List.setIfInBounds_toArray, List.set_cons_succ, List.set_cons_zero, Array.getD_eq_getD_getElem?, List.getElem?_toArray, List.getElem?_cons_succ, List.getElem?_cons_zero, Option.getD_some] <;> rfl) rfl (Below.refl _ _) hC
              · -- 5: Op.move (Operand.tmp 9)
                refine tab_plain fun K Q hK => ?_
                simp only [puts, List.foldr_nil]
                go_step
                refine fam_ex hK rfl rfl (by simp only [Act.put, List.setIfInBounds_toArray, List.set_cons_succ, List.set_cons_zero, Array.getD_eq_getD_getElem?, List.getElem?_toArray, List.getElem?_cons_succ, List.getElem?_cons_zero, Option.getD_some] <;> rfl) rfl (Below.refl _ _) hC
              · -- 6: Op.indexAddr 31 (Operand.tmp 66) (Operand.tmp 67)
                obtain ⟨h4, h5, -⟩ := hh
                have g4 : f 4 = _ := h4
                have g5 : f 5 = _ := h5
                refine tab_plain fun K Q hK => ?_
                simp only [puts, List.foldr_cons, List.foldr_nil, List.setIfInBounds_toArray, List.set_cons_succ, List.set_cons_zero, g4, g5]
                go_step
                refine fam_ex hK rfl rfl (by simp only [Act.put, List.setIfInBounds_toArray, List.set_cons_succ, List.set_cons_zero, Array.getD_eq_getD_getElem?, List.getElem?_toArray, List.getElem?_cons_succ, List.getElem?_cons_zero, Option.getD_some] <;> rfl) rfl (Below.refl _ _) hC
              · -- 7: Op.load 3 (Operand.tmp 68)
                obtain ⟨h6, -⟩ := hh
                have g6 : f 6 = _ := h6
                refine tab_plain fun K Q hK => ?_
                simp only [puts, List.foldr_cons, List.foldr_nil, List.setIfInBounds_toArray, List.set_cons_succ, List.set_cons_zero, g6]
                have hc3 := ((hB3.trans (hC.mono hB3.size)).cell (p := ⟨b7, o7 + k, none⟩) hbl7).trans hck
                go_step
                refine fam_ex hK rfl rfl (by simp only [Act.put, List.setIfInBounds_toArray, List.set_cons_succ, List.set_cons_zero, Array.getD_eq_getD_getElem?, List.getElem?_toArray, List.getElem?_cons_succ, List.getElem?_cons_zero, Option.getD_some] <;> rfl) rfl (Below.refl _ _) hC
              · -- 8: Op.binOp BinOp.eql 3 (Operand.tmp 65) (Operand.tmp 69) 3
                obtain ⟨h3, h7, -⟩ := hh
                have g3 : f 3 = _ := h3
                have g7 : f 7 = _ := h7
                refine tab_plain fun K Q hK => ?_
                simp only [puts, List.foldr_cons, List.foldr_nil, List.setIfInBounds_toArray, List.set_cons_succ, List.set_cons_zero, g3, g7]
                go_step
                refine fam_ex hK rfl rfl (by simp only [Act.put, List.setIfInBounds_toArray, List.set_cons_succ, List.set_cons_zero, Array.getD_eq_getD_getElem?, List.getElem?_toArray, List.getElem?_cons_succ, List.getElem?_cons_zero, Option.getD_some] <;> rfl) rfl (Below.refl _ _) hC
              · -- 9: Op.move (Operand.tmp 70)
                obtain ⟨h8, -⟩ := hh
                have g8 : f 8 = _ := h8
                refine tab_plain fun K Q hK => ?_
                simp only [puts, List.foldr_cons, List.foldr_nil, List.setIfInBounds_toArray, List.set_cons_succ, List.set_cons_zero, g8]
                go_step
                refine fam_ex hK rfl rfl (by simp only [Act.put, List.setIfInBounds_toArray, List.set_cons_succ, List.set_cons_zero, Array.getD_eq_getD_getElem?, List.getElem?_toArray, List.getElem?_cons_succ, List.getElem?_cons_zero, Option.getD_some] <;> rfl) rfl (Below.refl _ _) hC
              · -- 10: Op.load 27 (Operand.tmp 5)
                obtain ⟨h9, -⟩ := hh
                have g9 : f 9 = _ := h9
                refine tab_yes g9 fun K Q hK => ?_
                simp only [puts, List.foldr_cons, List.foldr_nil, List.setIfInBounds_toArray, List.set_cons_succ, List.set_cons_zero, g9]
                obtain ⟨⟨r0, r1⟩, o0, o1⟩ := HBO.out W (hb5s.trans (hC.mono hb5s.size))
                go_step
                refine fam_ex hK rfl rfl (by simp only [Act.put, List.setIfInBounds_toArray, List.set_cons_succ, List.set_cons_zero, Array.getD_eq_getD_getElem?, List.getElem?_toArray, List.getElem?_cons_succ, List.getElem?_cons_zero, Option.getD_some] <;> rfl) rfl (Below.refl _ _) hC
              · -- 11: Op.move (Operand.tmp 6)
                obtain ⟨h9, -⟩ := hh
                have g9 : f 9 = _ := h9
                refine tab_yes g9 fun K Q hK => ?_
                simp only [puts, List.foldr_cons, List.foldr_nil, List.setIfInBounds_toArray, List.set_cons_succ, List.set_cons_zero, g9]
                go_step
                refine fam_ex hK rfl rfl (by simp only [Act.put, List.setIfInBounds_toArray, List.set_cons_succ, List.set_cons_zero, Array.getD_eq_getD_getElem?, List.getElem?_toArray, List.getElem?_cons_succ, List.getElem?_cons_zero, Option.getD_some] <;> rfl) rfl (Below.refl _ _) hC
              · -- 12: Op.move (Operand.tmp 8)
                obtain ⟨h9, -⟩ := hh
                have g9 : f 9 = _ := h9
                refine tab_yes g9 fun K Q hK => ?_
                simp only [puts, List.foldr_cons, List.foldr_nil, List.setIfInBounds_toArray, List.set_cons_succ, List.set_cons_zero, g9]
                go_step
                refine fam_ex hK rfl rfl (by simp only [Act.put, List.setIfInBounds_toArray, List.set_cons_succ, List.set_cons_zero, Array.getD_eq_getD_getElem?, List.getElem?_toArray, List.getElem?_cons_succ, List.getElem?_cons_zero, Option.getD_some] <;> rfl) rfl (Below.refl _ _) hC
              · -- 13: Op.indexAddr 31 (Operand.tmp 73) (Operand.tmp 74)
                obtain ⟨h11, h12, h9, -⟩ := hh
                have g11 : f 11 = _ := h11
                have g12 : f 12 = _ := h12
                have g9 : f 9 = _ := h9
                refine tab_yes g9 fun K Q hK => ?_
                simp only [puts, List.foldr_cons, List.foldr_nil, List.setIfInBounds_toArray, List.set_cons_succ, List.set_cons_zero, g11, g12, g9]
                go_step
                refine fam_ex hK rfl rfl (by simp only [Act.put, List.setIfInBounds_toArray, List.set_cons_succ, List.set_cons_zero, Array.getD_eq_getD_getElem?, List.getElem?_toArray, List.getElem?_cons_succ, List.getElem?_cons_zero, Option.getD_some] <;> rfl) rfl (Below.refl _ _) hC
              · -- 14: Op.load 3 (Operand.tmp 75)
                obtain ⟨h13, h9, -⟩ := hh
                have g13 : f 13 = _ := h13
                have g9 : f 9 = _ := h9
                refine tab_yes g9 fun K Q hK => ?_
                simp only [puts, List.foldr_cons, List.foldr_nil, List.setIfInBounds_toArray, List.set_cons_succ, List.set_cons_zero, g13, g9]
                have hc3 := ((hB3.trans (hC.mono hB3.size)).cell (p := ⟨b7, o7 + I, none⟩) hbl7).trans hcI
                go_step
                refine fam_ex hK rfl rfl (by simp only [Act.put, List.setIfInBounds_toArray, List.set_cons_succ, List.set_cons_zero, Array.getD_eq_getD_getElem?, List.getElem?_toArray, List.getElem?_cons_succ, List.getElem?_cons_zero, Option.getD_some] <;> rfl) rfl (Below.refl _ _) hC
              · -- 15: Op.move (Operand.tmp 6)
                obtain ⟨h9, -⟩ := hh
                have g9 : f 9 = _ := h9
                refine tab_yes g9 fun K Q hK => ?_
                simp only [puts, List.foldr_cons, List.foldr_nil, List.setIfInBounds_toArray, List.set_cons_succ, List.set_cons_zero, g9]
                go_step
                refine fam_ex hK rfl rfl (by simp only [Act.put, List.setIfInBounds_toArray, List.set_cons_succ, List.set_cons_zero, Array.getD_eq_getD_getElem?, List.getElem?_toArray, List.getElem?_cons_succ, List.getElem?_cons_zero, Option.getD_some] <;> rfl) rfl (Below.refl _ _) hC
              · -- 16: Op.move (Operand.tmp 9)
                obtain ⟨h9, -⟩ := hh
                have g9 : f 9 = _ := h9
                refine tab_yes g9 fun K Q hK => ?_
                simp only [puts, List.foldr_cons, List.foldr_nil, List.setIfInBounds_toArray, List.set_cons_succ, List.set_cons_zero, g9]
                go_step
                refine fam_ex hK rfl rfl (by simp only [Act.put, List.setIfInBounds_toArray, List.set_cons_succ, List.set_cons_zero, Array.getD_eq_getD_getElem?, List.getElem?_toArray, List.getElem?_cons_succ, List.getElem?_cons_zero, Option.getD_some] <;> rfl) rfl (Below.refl _ _) hC
              · -- 17: Op.indexAddr 31 (Operand.tmp 77) (Operand.tmp 78)
                obtain ⟨h15, h16, h9, -⟩ := hh
                have g15 : f 15 = _ := h15
                have g16 : f 16 = _ := h16
                have g9 : f 9 = _ := h9
                refine tab_yes g9 fun K Q hK => ?_
                simp only [puts, List.foldr_cons, List.foldr_nil, List.setIfInBounds_toArray, List.set_cons_succ, List.set_cons_zero, g15, g16, g9]
                go_step
                refine fam_ex hK rfl rfl (by simp only [Act.put, List.setIfInBounds_toArray, List.set_cons_succ, List.set_cons_zero, Array.getD_eq_getD_getElem?, List.getElem?_toArray, List.getElem?_cons_succ, List.getElem?_cons_zero, Option.getD_some] <;> rfl) rfl (Below.refl _ _) hC
              · -- 18: Op.load 3 (Operand.tmp 79)
                obtain ⟨h17, h9, -⟩ := hh
                have g17 : f 17 = _ := h17
                have g9 : f 9 = _ := h9
                refine tab_yes g9 fun K Q hK => ?_
                simp only [puts, List.foldr_cons, List.foldr_nil, List.setIfInBounds_toArray, List.set_cons_succ, List.set_cons_zero, g17, g9]
                have hc3 := ((hB3.trans (hC.mono hB3.size)).cell (p := ⟨b7, o7 + k, none⟩) hbl7).trans hck
                go_step
                refine fam_ex hK rfl rfl (by simp only [Act.put, List.setIfInBounds_toArray, List.set_cons_succ, List.set_cons_zero, Array.getD_eq_getD_getElem?, List.getElem?_toArray, List.getElem?_cons_succ, List.getElem?_cons_zero, Option.getD_some] <;> rfl) rfl (Below.refl _ _) hC
              · -- 19: Op.call { callee := Callee.value (Operand.func 15), args := #[Operand.tmp 72, Operand.tmp 
                obtain ⟨h10, h14, h18, h9, _, -⟩ := hh
                have g10 : f 10 = _ := h10
                have g14 : f 14 = _ := h14
                have g18 : f 18 = _ := h18
                have g9 : f 9 = _ := h9
                refine tab_yes g9 fun K Q hK => ?_
                simp only [puts, List.foldr_cons, List.foldr_nil, List.setIfInBounds_toArray, List.set_cons_succ, List.set_cons_zero, g10, g14, g18, g9]
                go_step
                go_at_call 15
                refine (HBE.out _ _ W (hb5s.trans (hC.mono hb5s.size))).mono ?_
                rintro e w' ⟨rfl, hb⟩
                rw [hbf]
                exact fam_fin hK rfl rfl hb (hC.trans (hb.mono hC.size))
              · -- 20: Op.pick (Operand.tmp 71) (Operand.const (Value.bool true)) (Operand.tmp 81)
                obtain ⟨h9, h19, -⟩ := hh
                have g9 : f 9 = _ := h9
                have g19 : f 19 = _ := h19
                refine tab_plain fun K Q hK => ?_
                simp only [puts, List.foldr_cons, List.foldr_nil, List.setIfInBounds_toArray, List.set_cons_succ, List.set_cons_zero, g9, g19]
                go_step
                refine fam_ex hK rfl rfl (by simp only [Act.put, List.setIfInBounds_toArray, List.set_cons_succ, List.set_cons_zero, Array.getD_eq_getD_getElem?, List.getElem?_toArray, List.getElem?_cons_succ, List.getElem?_cons_zero, Option.getD_some] <;> rfl) rfl (Below.refl _ _) hC
            case qrest =>
              intro f W2 hC hh
              obtain ⟨h0, h1, h2, h3, h4, h5, h6, h7, h8, h9, h10, h11, h12, h13, h14, h15, h16, h17, h18, h19, h20, -⟩ := hh
              have g0 : f 0 = _ := h0
              have g1 : f 1 = _ := h1
              have g2 : f 2 = _ := h2
              have g3 : f 3 = _ := h3
              have g4 : f 4 = _ := h4
              have g5 : f 5 = _ := h5
              have g6 : f 6 = _ := h6
              have g7 : f 7 = _ := h7
              have g8 : f 8 = _ := h8
              have g9 : f 9 = _ := h9
              have g10 : f 10 = _ := h10
              have g11 : f 11 = _ := h11
              have g12 : f 12 = _ := h12
              have g13 : f 13 = _ := h13
              have g14 : f 14 = _ := h14
              have g15 : f 15 = _ := h15
              have g16 : f 16 = _ := h16
              have g17 : f 17 = _ := h17
              have g18 : f 18 = _ := h18
              have g19 : f 19 = _ := h19
              have g20 : f 20 = _ := h20
              simp only [puts, List.foldr_cons, List.foldr_nil, List.setIfInBounds_toArray, List.set_cons_succ, List.set_cons_zero, g0, g1, g2, g3, g4, g5, g6, g7, g8, g9, g10, g11, g12, g13, g14, g15, g16, g17, g18, g19, g20]
              clear h0 h1 h2 h3 h4 h5 h6 h7 h8 h9 h10 h11 h12 h13 h14 h15 h16 h17 h18 h19 h20 g0 g1 g2 g3 g4 g5 g6 g7 g8 g9 g10 g11 g12 g13 g14 g15 g16 g17 g18 g19 g20
              go_wp2
              go_roundw
              case rel => exact ⟨k + 1, hlt2, by go_num, hB3.trans (hC.mono hB3.size)⟩
              case measure => simp [intOf]; omega
          · have dlt2 : decide ((k : Int) < I) = false := decide_eq_false (by omega)
            go_wp2
            go_roundw
            case rel => exact ⟨I + 1, hlt, by go_num, hB3⟩
            case measure => simp [intOf]; omega
    · have dlt : decide ((I : Int) < N) = false := decide_eq_false (by omega)
      have hb07 := hb05.trans (hb57.mono hb05.size)
      have hb0r := hb05.trans (hb5r.mono hb05.size)
      by_cases h2 : N < 2
      · have d2 : decide ((N : Int) < 2) = true := decide_eq_true (by omega)
        go_wp2
        go_ret
        exact ⟨rfl, hb0r⟩
      have d2 : decide ((N : Int) < 2) = false := decide_eq_false (by omega)
      have hm0 : ((N : Int) - 1 == 0) = false := by simp; omega
      obtain ⟨R, hR, hRN⟩ : ∃ R : Nat, (S : Int) % ((N : Int) - 1) = (R : Int) ∧ R + 1 < N := by
        have h1 := Int.emod_nonneg (S : Int) (show (N : Int) - 1 ≠ 0 by omega)
        have h2 := Int.emod_lt_of_pos (S : Int) (show 0 < (N : Int) - 1 by omega)
        exact ⟨((S : Int) % ((N : Int) - 1)).toNat, by omega, by omega⟩
      have hRN' : R < N := by omega
      obtain ⟨g, rfl, hg1, hg2⟩ := owns_at hrow7 (by omega)
      have hrowr := hrow7.kept_below hB
      obtain ⟨k1, f1⟩ := own_cell hrowr R hRN' HLl.out
      obtain ⟨k2, f2⟩ := own_cell hrowr (R + 1) hRN HLl.out
      have hsw := swap_lin HV.out HST.out (by rw [HLl.out]) (i := R) (by rw [HLl.out]; exact hRN)
      obtain ⟨x, hx⟩ : ∃ x, gi L R = x := ⟨_, rfl⟩
      obtain ⟨y, hy⟩ : ∃ y, gi L (R + 1) = y := ⟨_, rfl⟩
      rw [hx] at k1 hsw
      rw [hy] at k2 hsw
      obtain ⟨bB, hbB⟩ : ∃ bB, beforeB N es x y = bB := ⟨_, rfl⟩
      rw [hbB] at hsw
      have HX := Lib.hid hx
      have HY := Lib.hid hy
      have HBB := Lib.hid hbB
      have HSW := Lib.hid hsw
      clear hx hy hbB hsw
      go_wp2_with (fail)
      refine wp_region_grow mixed (by kernel_rfl) [[], [], [(0, 94), (1, 95)], [(2, 96)], [], [], [(5, 99)], [(4, 98), (6, 100)], [(7, 101)], [(3, 97), (0, 94), (1, 95), (2, 96), (3, 97)], [(8, 102), (9, 11), (0, 94), (1, 95), (2, 96), (3, 97), (4, 98), (5, 99), (6, 100), (7, 101), (8, 102), (9, 11)]] [(0, 94), (1, 95), (2, 96), (3, 97), (4, 98), (5, 99), (6, 100), (7, 101), (8, 102), (9, 11), (10, 12)] rfl rfl [Ex ?er0, Ex ?er1, Ex ?er2, Ex ?er3, Ex ?er4, Ex ?er5, Ex ?er6, Ex ?er7, Ex ?er8, Ex ?er9, Ex ?er10] ⟨stays_ex _, stays_ex _, stays_ex _, stays_ex _, stays_ex _, stays_ex _, stays_ex _, stays_ex _, stays_ex _, stays_ex _, stays_ex _, trivial⟩ ?rsteps ?rrest
      case rsteps =>
        refine ⟨fun f W hC hh => ?_, fun f W hC hh => ?_, fun f W hC hh => ?_, fun f W hC hh => ?_, fun f W hC hh => ?_, fun f W hC hh => ?_, fun f W hC hh => ?_, fun f W hC hh => ?_, fun f W hC hh => ?_, fun f W hC hh => ?_, fun f W hC hh => ?_, trivial⟩
        · -- 0: Op.move (Operand.tmp 6)
          refine tab_plain fun K Q hK => ?_
          simp only [puts, List.foldr_nil]
          go_step
          refine fam_ex hK rfl rfl (by simp only [Act.put, List.setIfInBounds_toArray, List.set_cons_succ, List.set_cons_zero, Array.getD_eq_getD_getElem?, List.getElem?_toArray, List.getElem?_cons_succ, List.getElem?_cons_zero, Option.getD_some] <;> rfl) rfl (Below.refl _ _) hC
        · -- 1: Op.move (Operand.tmp 10)
          refine tab_plain fun K Q hK => ?_
          simp only [puts, List.foldr_nil]
          go_step
          refine fam_ex hK rfl rfl (by simp only [Act.put, List.setIfInBounds_toArray, List.set_cons_succ, List.set_cons_zero, Array.getD_eq_getD_getElem?, List.getElem?_toArray, List.getElem?_cons_succ, List.getElem?_cons_zero, Option.getD_some] <;> rfl) rfl (Below.refl _ _) hC
        · -- 2: Op.indexAddr 31 (Operand.tmp 94) (Operand.tmp 95)
          obtain ⟨h0, h1, -⟩ := hh
          have g0 : f 0 = _ := h0
          have g1 : f 1 = _ := h1
          refine tab_plain fun K Q hK => ?_
          simp only [puts, List.foldr_cons, List.foldr_nil, List.setIfInBounds_toArray, List.set_cons_succ, List.set_cons_zero, g0, g1]
          go_step
          refine fam_ex hK rfl rfl (by simp only [Act.put, List.setIfInBounds_toArray, List.set_cons_succ, List.set_cons_zero, Array.getD_eq_getD_getElem?, List.getElem?_toArray, List.getElem?_cons_succ, List.getElem?_cons_zero, Option.getD_some] <;> rfl) rfl (Below.refl _ _) hC
        · -- 3: Op.load 3 (Operand.tmp 96)
          obtain ⟨h2, -⟩ := hh
          have g2 : f 2 = _ := h2
          refine tab_plain fun K Q hK => ?_
          simp only [puts, List.foldr_cons, List.foldr_nil, List.setIfInBounds_toArray, List.set_cons_succ, List.set_cons_zero, g2]
          have hc3 := (hC.cell (p := ⟨g, R, none⟩) (by have := hB.size; show g < _; omega)).trans k1
          go_step
          refine fam_ex hK rfl rfl (by simp only [Act.put, List.setIfInBounds_toArray, List.set_cons_succ, List.set_cons_zero, Array.getD_eq_getD_getElem?, List.getElem?_toArray, List.getElem?_cons_succ, List.getElem?_cons_zero, Option.getD_some] <;> rfl) rfl (Below.refl _ _) hC
        · -- 4: Op.move (Operand.tmp 6)
          refine tab_plain fun K Q hK => ?_
          simp only [puts, List.foldr_nil]
          go_step
          refine fam_ex hK rfl rfl (by simp only [Act.put, List.setIfInBounds_toArray, List.set_cons_succ, List.set_cons_zero, Array.getD_eq_getD_getElem?, List.getElem?_toArray, List.getElem?_cons_succ, List.getElem?_cons_zero, Option.getD_some] <;> rfl) rfl (Below.refl _ _) hC
        · -- 5: Op.move (Operand.tmp 10)
          refine tab_plain fun K Q hK => ?_
          simp only [puts, List.foldr_nil]
          go_step
          refine fam_ex hK rfl rfl (by simp only [Act.put, List.setIfInBounds_toArray, List.set_cons_succ, List.set_cons_zero, Array.getD_eq_getD_getElem?, List.getElem?_toArray, List.getElem?_cons_succ, List.getElem?_cons_zero, Option.getD_some] <;> rfl) rfl (Below.refl _ _) hC
        · -- 6: Op.binOp BinOp.add 3 (Operand.tmp 99) (Operand.const (Value.int IntKind.i64 1)) 3
          obtain ⟨h5, -⟩ := hh
          have g5 : f 5 = _ := h5
          refine tab_plain fun K Q hK => ?_
          simp only [puts, List.foldr_cons, List.foldr_nil, List.setIfInBounds_toArray, List.set_cons_succ, List.set_cons_zero, g5]
          go_step
          refine fam_ex hK rfl rfl (by simp only [Act.put, List.setIfInBounds_toArray, List.set_cons_succ, List.set_cons_zero, Array.getD_eq_getD_getElem?, List.getElem?_toArray, List.getElem?_cons_succ, List.getElem?_cons_zero, Option.getD_some] <;> rfl) rfl (Below.refl _ _) hC
        · -- 7: Op.indexAddr 31 (Operand.tmp 98) (Operand.tmp 100)
          obtain ⟨h4, h6, -⟩ := hh
          have g4 : f 4 = _ := h4
          have g6 : f 6 = _ := h6
          refine tab_plain fun K Q hK => ?_
          simp only [puts, List.foldr_cons, List.foldr_nil, List.setIfInBounds_toArray, List.set_cons_succ, List.set_cons_zero, g4, g6]
          go_step
          refine fam_ex hK rfl rfl (by simp only [Act.put, List.setIfInBounds_toArray, List.set_cons_succ, List.set_cons_zero, Array.getD_eq_getD_getElem?, List.getElem?_toArray, List.getElem?_cons_succ, List.getElem?_cons_zero, Option.getD_some] <;> rfl) rfl (Below.refl _ _) hC
        · -- 8: Op.load 3 (Operand.tmp 101)
          obtain ⟨h7, -⟩ := hh
          have g7 : f 7 = _ := h7
          refine tab_plain fun K Q hK => ?_
          simp only [puts, List.foldr_cons, List.foldr_nil, List.setIfInBounds_toArray, List.set_cons_succ, List.set_cons_zero, g7]
          have hc3 := (hC.cell (p := ⟨g, R + 1, none⟩) (by have := hB.size; show g < _; omega)).trans k2
          go_step
          refine fam_ex hK rfl rfl (by simp only [Act.put, List.setIfInBounds_toArray, List.set_cons_succ, List.set_cons_zero, Array.getD_eq_getD_getElem?, List.getElem?_toArray, List.getElem?_cons_succ, List.getElem?_cons_zero, Option.getD_some] <;> rfl) rfl (Below.refl _ _) hC
        · -- 9: Op.assign (Operand.tmp 97)
          obtain ⟨h3, h0, h1, h2, _, -⟩ := hh
          have g3 : f 3 = _ := h3
          have g0 : f 0 = _ := h0
          have g1 : f 1 = _ := h1
          have g2 : f 2 = _ := h2
          refine tab_plain fun K Q hK => ?_
          simp only [puts, List.foldr_cons, List.foldr_nil, List.setIfInBounds_toArray, List.set_cons_succ, List.set_cons_zero, g3, g0, g1, g2]
          go_step
          refine fam_ex hK rfl rfl (by simp only [Act.put, List.setIfInBounds_toArray, List.set_cons_succ, List.set_cons_zero, Array.getD_eq_getD_getElem?, List.getElem?_toArray, List.getElem?_cons_succ, List.getElem?_cons_zero, Option.getD_some] <;> rfl) rfl (Below.refl _ _) hC
        · -- 10: Op.assign (Operand.tmp 102)
          obtain ⟨h8, h9, h0, h1, h2, h3, h4, h5, h6, h7, _, _, -⟩ := hh
          have g8 : f 8 = _ := h8
          have g9 : f 9 = _ := h9
          have g0 : f 0 = _ := h0
          have g1 : f 1 = _ := h1
          have g2 : f 2 = _ := h2
          have g3 : f 3 = _ := h3
          have g4 : f 4 = _ := h4
          have g5 : f 5 = _ := h5
          have g6 : f 6 = _ := h6
          have g7 : f 7 = _ := h7
          refine tab_plain fun K Q hK => ?_
          simp only [puts, List.foldr_cons, List.foldr_nil, List.setIfInBounds_toArray, List.set_cons_succ, List.set_cons_zero, g8, g9, g0, g1, g2, g3, g4, g5, g6, g7]
          go_step
          refine fam_ex hK rfl rfl (by simp only [Act.put, List.setIfInBounds_toArray, List.set_cons_succ, List.set_cons_zero, Array.getD_eq_getD_getElem?, List.getElem?_toArray, List.getElem?_cons_succ, List.getElem?_cons_zero, Option.getD_some] <;> rfl) rfl (Below.refl _ _) hC
      case rrest =>
        intro f W2 hC hh
        obtain ⟨h0, h1, h2, h3, h4, h5, h6, h7, h8, h9, h10, -⟩ := hh
        have g0 : f 0 = _ := h0
        have g1 : f 1 = _ := h1
        have g2 : f 2 = _ := h2
        have g3 : f 3 = _ := h3
        have g4 : f 4 = _ := h4
        have g5 : f 5 = _ := h5
        have g6 : f 6 = _ := h6
        have g7 : f 7 = _ := h7
        have g8 : f 8 = _ := h8
        have g9 : f 9 = _ := h9
        have g10 : f 10 = _ := h10
        simp only [puts, List.foldr_cons, List.foldr_nil, List.setIfInBounds_toArray, List.set_cons_succ, List.set_cons_zero, g0, g1, g2, g3, g4, g5, g6, g7, g8, g9, g10]
        clear h0 h1 h2 h3 h4 h5 h6 h7 h8 h9 h10 g0 g1 g2 g3 g4 g5 g6 g7 g8 g9 g10
        have hrow2 := hrowr.kept_below hC
        have hrow3 := own_store (own_store hrow2 R y) (R + 1) x
        obtain ⟨k3, f3⟩ := own_cell hrow2 R hRN' HLl.out
        obtain ⟨k4, f4⟩ := own_cell (own_store hrow2 R y) (R + 1) hRN (by rw [List.length_set]; exact HLl.out)
        have hb5s := hb5r.trans (hC.mono hb5r.size)
        have hb53 := (hb5s.setCell (p := ⟨g, R, none⟩) hg1 (.int .i64 y)).setCell (p := ⟨g, R + 1, none⟩) hg1 (.int .i64 x)
        obtain ⟨w8, hw8⟩ : ∃ w8, (W2.setCell ⟨g, R, none⟩ (.int .i64 y)).setCell ⟨g, R + 1, none⟩ (.int .i64 x) = w8 := ⟨_, rfl⟩
        rw [hw8] at hrow3 hb53
        obtain ⟨hI8, -⟩ := IsInts.of_owns hrow3
        replace hw8 := Lib.hid hw8
        clear k1 f1 k2 f2
        go_wp2_with (fail)
        rw [hw8.out]
        clear hw8 k3 f3 k4 f4
        refine wp_region_grow mixed (by kernel_rfl) [[], [], [(0, 112), (1, 113)], [], [], [], [(3, 115), (4, 116), (5, 117), (2, 114)], [(6, 118)], [(2, 114), (7, 119)], [(8, 120), (6, 118), (0, 112), (1, 113), (2, 114), (3, 115), (4, 116), (5, 117), (6, 118), (7, 119), (8, 120)]] [(0, 112), (1, 113), (2, 114), (3, 115), (4, 116), (5, 117), (6, 118), (7, 119), (8, 120), (9, 4)] rfl rfl [Ex ?es0, Ex ?es1, Ex (.bool (!bB)), Ex ?es3, Ex ?es4, Ex ?es5, Ex (.bool bB), Ex ?es7, Ex ?es8, Ex ?es9] ⟨stays_ex _, stays_ex _, stays_ex _, stays_ex _, stays_ex _, stays_ex _, stays_ex _, stays_ex _, stays_ex _, stays_ex _, trivial⟩ ?ssteps ?srest
        case ssteps =>
          refine ⟨fun f W hC hh => ?_, fun f W hC hh => ?_, fun f W hC hh => ?_, fun f W hC hh => ?_, fun f W hC hh => ?_, fun f W hC hh => ?_, fun f W hC hh => ?_, fun f W hC hh => ?_, fun f W hC hh => ?_, fun f W hC hh => ?_, trivial⟩
          · -- 0: Op.load 27 (Operand.tmp 5)
            refine tab_plain fun K Q hK => ?_
            simp only [puts, List.foldr_nil]
            obtain ⟨⟨r0, r1⟩, o0, o1⟩ := HBO.out W (hb53.trans (hC.mono hb53.size))
            go_step
            refine fam_ex hK rfl rfl (by simp only [Act.put, List.setIfInBounds_toArray, List.set_cons_succ, List.set_cons_zero, Array.getD_eq_getD_getElem?, List.getElem?_toArray, List.getElem?_cons_succ, List.getElem?_cons_zero, Option.getD_some] <;> rfl) rfl (Below.refl _ _) hC
          · -- 1: Op.move (Operand.tmp 6)
            refine tab_plain fun K Q hK => ?_
            simp only [puts, List.foldr_nil]
            go_step
            refine fam_ex hK rfl rfl (by simp only [Act.put, List.setIfInBounds_toArray, List.set_cons_succ, List.set_cons_zero, Array.getD_eq_getD_getElem?, List.getElem?_toArray, List.getElem?_cons_succ, List.getElem?_cons_zero, Option.getD_some] <;> rfl) rfl (Below.refl _ _) hC
          · -- 2: Op.call { callee := Callee.value (Operand.func 22), args := #[Operand.tmp 112, Operand.tmp
            obtain ⟨h0, h1, -⟩ := hh
            have g0 : f 0 = _ := h0
            have g1 : f 1 = _ := h1
            refine tab_plain fun K Q hK => ?_
            simp only [puts, List.foldr_cons, List.foldr_nil, List.setIfInBounds_toArray, List.set_cons_succ, List.set_cons_zero, g0, g1]
            go_step
            go_at_call 22
            refine (isLinear_any _ _ _ _ (he5.later (hb53.trans (hC.mono hb53.size))) (tab_later hT5 (hb53.trans (hC.mono hb53.size))) (hI8.later hC)).mono ?_
            rintro e w' ⟨rfl, hb⟩
            rw [HSW.out]
            exact fam_fin hK rfl rfl hb (hC.trans (hb.mono hC.size))
          · -- 3: Op.load 27 (Operand.tmp 5)
            refine tab_plain fun K Q hK => ?_
            simp only [puts, List.foldr_nil]
            obtain ⟨⟨r0, r1⟩, o0, o1⟩ := HBO.out W (hb53.trans (hC.mono hb53.size))
            go_step
            refine fam_ex hK rfl rfl (by simp only [Act.put, List.setIfInBounds_toArray, List.set_cons_succ, List.set_cons_zero, Array.getD_eq_getD_getElem?, List.getElem?_toArray, List.getElem?_cons_succ, List.getElem?_cons_zero, Option.getD_some] <;> rfl) rfl (Below.refl _ _) hC
          · -- 4: Op.move (Operand.tmp 11)
            refine tab_plain fun K Q hK => ?_
            simp only [puts, List.foldr_nil]
            go_step
            refine fam_ex hK rfl rfl (by simp only [Act.put, List.setIfInBounds_toArray, List.set_cons_succ, List.set_cons_zero, Array.getD_eq_getD_getElem?, List.getElem?_toArray, List.getElem?_cons_succ, List.getElem?_cons_zero, Option.getD_some] <;> rfl) rfl (Below.refl _ _) hC
          · -- 5: Op.move (Operand.tmp 12)
            refine tab_plain fun K Q hK => ?_
            simp only [puts, List.foldr_nil]
            go_step
            refine fam_ex hK rfl rfl (by simp only [Act.put, List.setIfInBounds_toArray, List.set_cons_succ, List.set_cons_zero, Array.getD_eq_getD_getElem?, List.getElem?_toArray, List.getElem?_cons_succ, List.getElem?_cons_zero, Option.getD_some] <;> rfl) rfl (Below.refl _ _) hC
          · -- 6: Op.call { callee := Callee.value (Operand.func 15), args := #[Operand.tmp 115, Operand.tmp
            obtain ⟨h3, h4, h5, h2, -⟩ := hh
            have g3 : f 3 = _ := h3
            have g4 : f 4 = _ := h4
            have g5 : f 5 = _ := h5
            have g2 : f 2 = _ := h2
            refine tab_plain fun K Q hK => ?_
            simp only [puts, List.foldr_cons, List.foldr_nil, List.setIfInBounds_toArray, List.set_cons_succ, List.set_cons_zero, g3, g4, g5, g2]
            go_step
            go_at_call 15
            refine (HBE.out _ _ W (hb53.trans (hC.mono hb53.size))).mono ?_
            rintro e w' ⟨rfl, hb⟩
            rw [HBB.out]
            exact fam_fin hK rfl rfl hb (hC.trans (hb.mono hC.size))
          · -- 7: Op.unOp UnOp.not 4 (Operand.tmp 118)
            obtain ⟨h6, -⟩ := hh
            have g6 : f 6 = _ := h6
            refine tab_plain fun K Q hK => ?_
            simp only [puts, List.foldr_cons, List.foldr_nil, List.setIfInBounds_toArray, List.set_cons_succ, List.set_cons_zero, g6]
            go_step
            refine fam_ex hK rfl rfl (by simp only [Act.put, List.setIfInBounds_toArray, List.set_cons_succ, List.set_cons_zero, Array.getD_eq_getD_getElem?, List.getElem?_toArray, List.getElem?_cons_succ, List.getElem?_cons_zero, Option.getD_some] <;> rfl) rfl (Below.refl _ _) hC
          · -- 8: Op.binOp BinOp.eql 4 (Operand.tmp 114) (Operand.tmp 119) 4
            obtain ⟨h2, h7, -⟩ := hh
            have g2 : f 2 = _ := h2
            have g7 : f 7 = _ := h7
            refine tab_plain fun K Q hK => ?_
            simp only [puts, List.foldr_cons, List.foldr_nil, List.setIfInBounds_toArray, List.set_cons_succ, List.set_cons_zero, g2, g7]
            go_step
            refine fam_ex hK rfl rfl (by simp only [Act.put, List.setIfInBounds_toArray, List.set_cons_succ, List.set_cons_zero, Array.getD_eq_getD_getElem?, List.getElem?_toArray, List.getElem?_cons_succ, List.getElem?_cons_zero, Option.getD_some] <;> rfl) rfl (Below.refl _ _) hC
          · -- 9: Op.assign (Operand.tmp 120)
            obtain ⟨h8, h6, h0, h1, h2, h3, h4, h5, _, h7, _, -⟩ := hh
            have g8 : f 8 = _ := h8
            have g6 : f 6 = _ := h6
            have g0 : f 0 = _ := h0
            have g1 : f 1 = _ := h1
            have g2 : f 2 = _ := h2
            have g3 : f 3 = _ := h3
            have g4 : f 4 = _ := h4
            have g5 : f 5 = _ := h5
            have g7 : f 7 = _ := h7
            refine tab_plain fun K Q hK => ?_
            simp only [puts, List.foldr_cons, List.foldr_nil, List.setIfInBounds_toArray, List.set_cons_succ, List.set_cons_zero, g8, g6, g0, g1, g2, g3, g4, g5, g7]
            go_step
            refine fam_ex hK rfl rfl (by simp only [Act.put, List.setIfInBounds_toArray, List.set_cons_succ, List.set_cons_zero, Array.getD_eq_getD_getElem?, List.getElem?_toArray, List.getElem?_cons_succ, List.getElem?_cons_zero, Option.getD_some] <;> rfl) rfl (Below.refl _ _) hC
        case srest =>
          intro f W4 hC hh
          obtain ⟨h0, h1, h2, h3, h4, h5, h6, h7, h8, h9, -⟩ := hh
          have g0 : f 0 = _ := h0
          have g1 : f 1 = _ := h1
          have g2 : f 2 = _ := h2
          have g3 : f 3 = _ := h3
          have g4 : f 4 = _ := h4
          have g5 : f 5 = _ := h5
          have g6 : f 6 = _ := h6
          have g7 : f 7 = _ := h7
          have g8 : f 8 = _ := h8
          have g9 : f 9 = _ := h9
          simp only [puts, List.foldr_cons, List.foldr_nil, List.setIfInBounds_toArray, List.set_cons_succ, List.set_cons_zero, g0, g1, g2, g3, g4, g5, g6, g7, g8, g9]
          clear h0 h1 h2 h3 h4 h5 h6 h7 h8 h9 g0 g1 g2 g3 g4 g5 g6 g7 g8 g9
          go_wp2
          go_ret
          exact ⟨by cases bB <;> rfl, hb05.trans ((hb53.trans (hC.mono hb53.size)).mono hb05.size)⟩
end Go.Proofs.YtofnbndpoiohhaaDoor
