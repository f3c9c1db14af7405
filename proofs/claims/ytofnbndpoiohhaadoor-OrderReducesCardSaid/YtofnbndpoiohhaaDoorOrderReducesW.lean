/-
  OrderReduces: the walk.
-/
import Derived.Test.YtofnbndpoiohhaaDoorOrdYa
import Derived.Test.YtofnbndpoiohhaaDoorOrdV
import Derived.Test.YtofnbndpoiohhaaDoorOrdK
import Derived.Test.YtofnbndpoiohhaaDoorOrderStrictW
import Derived.Test.YtofnbndpoiohhaaDoorBld
import Derived.OpenShut
set_option linter.unusedSimpArgs false
set_option linter.unusedVariables false
set_option maxHeartbeats 4000000
namespace Go.Proofs.YtofnbndpoiohhaaDoor
open Go.RowKit Go.Shelf Go.ChangeShapes
attribute [local go_sem] Oper.semAt_some

theorem pairs_src' {W : World} {a : Option Addr} {len cap : Nat} {es : List (Int × Int)} (h : IsPairs W a len cap es) :
    (pvs es).length = len * 2 ∧ (∀ ad, a = some ad → ∀ j u, (pvs es)[j]? = some u → W.cell? (ad.add j) = some u) ∧ (a = none → len = 0 ∧ cap = 0) := by
  rcases h with ⟨rfl, rfl, rfl, rfl⟩ | ⟨b, off, rfl, _, _, hz, hc⟩
  · exact ⟨rfl, (fun _ h => (by cases h)), fun _ => ⟨rfl, rfl⟩⟩
  · refine ⟨by rw [pvs_length, hz], fun ad e j u hj => ?_, fun h => (by cases h)⟩
    cases e
    have hl : j < len * 2 := by
      have := (List.getElem?_eq_some_iff.1 hj).1
      rw [pvs_length, hz] at this
      exact this
    obtain ⟨i, hi⟩ : ∃ i, j = i * 2 ∨ j = i * 2 + 1 := ⟨j / 2, by omega⟩
    have hil : i < es.length := by omega
    obtain ⟨p0, p1⟩ := pvs_get es i hil
    rw [addr_add]
    rcases hi with rfl | rfl
    · rw [p0] at hj
      rw [← hj]; exact (hc i (by omega)).1
    · rw [p1] at hj
      rw [← hj, ← Nat.add_assoc]; exact (hc i (by omega)).2
theorem IsPairs.get {W : World} {b off len cap : Nat} {es : List (Int × Int)} (h : IsPairs W (some ⟨b, off, none⟩) len cap es) (i : Nat) (hi : i < len) : W.cell? ⟨b, off + i * 2, none⟩ = some (.int .i64 (gp es i).1) ∧ W.cell? ⟨b, off + i * 2 + 1, none⟩ = some (.int .i64 (gp es i).2) := by
  rcases h with ⟨h, _⟩ | ⟨b', off', e, _, _, _, hc⟩
  · cases h
  · injection e with e; injection e with e1 e2; subst e1; subst e2
    exact hc i hi
theorem IsPairs.part {W : World} {b off len cap : Nat} {es : List (Int × Int)} (h : IsPairs W (some ⟨b, off, none⟩) len cap es) (l r c' : Nat) (hlr : l ≤ r) (hr : r ≤ len) (hc : r - l ≤ c') (hcm : c' ≤ maxLen) (off' : Nat) (ho : l < r → off' = off + l * 2) : IsPairs W (some ⟨b, off', none⟩) (r - l) c' ((es.drop l).take (r - l)) := by
  have hlen := h.length
  refine .inr ⟨b, off', rfl, hc, hcm, by simp; omega, fun i hi => ?_⟩
  have hg : gp ((es.drop l).take (r - l)) i = gp es (l + i) := by simp [gp, List.getD, hi]
  rw [hg, ho (by omega), show off + l * 2 + i * 2 = off + (l + i) * 2 by omega]
  exact h.get (l + i) (by omega)

theorem orderReduces_walk (n : Int) (a : Option Addr) (len cap : Nat) (es : List (Int × Int)) (w : World) (he : IsPairs w a len cap es) (hn : (Lit.int .i64 n).wf = true) (hT : TabAt 0 Lib.deBruijn64tab w) :
    Calls Tryd.prog 9 #[.agg #[.int .i64 n, .slice a len cap]] w fun e w' => e = .returned (.bool true) ∧ Below w.heap.size w w' := by
  clear hn
  obtain ⟨hb2, hs2, hRO⟩ := boxRO n a len cap w
  obtain ⟨W2, hW2⟩ : ∃ W2, (w.alloc (.cells #[.int .i64 n, .slice a len cap] 24)).alloc (.cells #[.int .i64 n, .slice a len cap] 27) = W2 := ⟨_, rfl⟩
  rw [hW2] at hb2 hs2 hRO
  have he2 := he.later hb2
  have hT2 := tab_later hT hb2
  have hcap : len ≤ maxLen := by
    rcases he with ⟨_, h, _⟩ | ⟨_, _, _, h, h', _⟩
    · rw [h]; decide
    · omega
  unfold maxLen at hcap
  have HW := Lib.hid hW2
  rw [← hs2] at hRO
  obtain ⟨⟨r0, r1⟩, o0, o1⟩ := hRO _ (Below.refl _ _)
  have HRO := Lib.hid hRO
  clear hW2 hRO
  go_enter Tryd.func9, Tryd.ntmps9
  go_wp2_with (fail)
  rw [HW.out]
  go_at_call 11
  refine (awake_any _ hT2).mono ?_
  rintro e w3 ⟨rfl, hb3⟩
  clear r0 r1 o0 o1
  obtain ⟨⟨r0, r1⟩, o0, o1⟩ := HRO.out _ hb3
  go_wp2_with (fail)
  go_at_call 12
  refine (few_any n a len cap w3 (by omega)).mono ?_
  rintro e w4 ⟨rfl, hb4⟩
  have hb24 := hb3.trans (hb4.mono hb3.size)
  have hT4 := tab_later hT2 hb24
  have hb04 := hb2.trans (hb24.mono hb2.size)
  clear r0 r1 o0 o1
  obtain ⟨⟨r0, r1⟩, o0, o1⟩ := HRO.out _ hb24
  cases hf : decide (n ≤ 12 ∧ len ≤ 80) with
  | false =>
    go_wp2_with (fail)
    go_at_call 11
    refine (awake_any _ hT4).mono ?_
    rintro e w5 ⟨rfl, hb5⟩
    go_wp2
    go_ret
    exact ⟨rfl, hb04.trans (hb5.mono hb04.size)⟩
  | true =>
  have hf' := of_decide_eq_true hf
  clear hf
  go_wp2_with (fail)
  go_at_call 13
  refine (valid_any (he2.later hb24) hT4).mono ?_
  rintro e w5 ⟨rfl, hb5⟩
  have hb25 := hb24.trans (hb5.mono hb24.size)
  have hb05 := hb2.trans (hb25.mono hb2.size)
  have hT5 := tab_later hT2 hb25
  clear r0 r1 o0 o1
  obtain ⟨⟨r0, r1⟩, o0, o1⟩ := HRO.out _ hb25
  by_cases hv : ValidO n es
  rotate_left
  · rw [validB_no hv]
    go_wp2_with (fail)
    go_at_call 11
    refine (awake_any _ hT5).mono ?_
    rintro e w6 ⟨rfl, hb6⟩
    go_wp2
    go_ret
    exact ⟨rfl, hb05.trans (hb6.mono hb05.size)⟩
  rw [validB_yes hv]
  obtain ⟨N, rfl⟩ := Int.eq_ofNat_of_zero_le hv.1.1
  have hN12 : N ≤ 12 := by omega
  have hl80 := hf'.2
  have he5 := he2.later hb25
  have HV := Lib.hid hv
  have hBO : ∀ W, Below w5.heap.size w5 W → (W.cell? ⟨w.heap.size, 0, none⟩ = some (.int .i64 (N : Int)) ∧ W.cell? ⟨w.heap.size, 1, none⟩ = some (.slice a len cap)) ∧ W.cell? ⟨w.heap.size + 1, 0, none⟩ = some (.int .i64 (N : Int)) ∧ W.cell? ⟨w.heap.size + 1, 1, none⟩ = some (.slice a len cap) :=
    fun W h => HRO.out W (hb25.trans (h.mono hb25.size))
  have HBO := Lib.hid hBO
  have hbe : ∀ (x y : Int) W, Below w5.heap.size w5 W → Calls Tryd.prog 15 #[.agg #[.int .i64 (N : Int), .slice a len cap], .int .i64 x, .int .i64 y] W fun e w' => e = .returned (.bool (beforeB N es x y)) ∧ Below W.heap.size W w' :=
    fun x y W h => before_any x y (he5.later h) (tab_later hT5 h)
  have HBE := Lib.hid hbe
  clear hf' hbe hBO hv
  go_wp2_with (fail)
  go_at_call 28
  refine (reduce_yes he5 hT5 HV.out).mono ?_
  rintro e w6 ⟨ao, co, rfl, hrow, hb6⟩
  rw [Int.toNat_natCast] at hrow ⊢
  have hvq := red_valid HV.out
  have hbq := red_before HV.out
  have hlq := fun i h => red_least HV.out (i := i) h N
  have hlen : (redE es N).length ≤ 144 := Nat.le_trans (redTo_length (es := es) (N := N) N) (Nat.mul_le_mul hN12 hN12)
  obtain ⟨hI6, -⟩ := IsPairs.of_owns hrow
  obtain ⟨qs, hqs⟩ : ∃ qs, redE es N = qs := ⟨_, rfl⟩
  rw [hqs] at hvq hbq hlq hlen hI6 ⊢
  obtain ⟨k, hk⟩ : ∃ k, qs.length = k := ⟨_, rfl⟩
  rw [hk] at hlq hlen hI6 ⊢
  have HVQ := Lib.hid hvq
  have HBQ := Lib.hid hbq
  have HLQ := Lib.hid hlq
  have HK := Lib.hid hk
  clear hrow hvq hbq hlq hqs hk r0 r1 o0 o1
  go_wp2_with (show wpList _ _ _ (⟨_, .store 27 _ _, _, _, _, _⟩ :: _) _ _; refine store_box iOrd (u := .int .i64 N) (v := .slice ao k co) rfl _ _ rfl rfl rfl rfl rfl rfl ?_; intro w7 hs7 hb7 hQ7; replace hs7 := Lib.hid hs7; obtain ⟨⟨q0, -⟩, q1, -⟩ := hQ7.cells)
  have hb57 := hb6.trans (hb7.mono hb6.size)
  go_at_call 13
  refine (valid_any (hI6.later hb7) (tab_later hT5 hb57)).mono ?_
  rintro e w8 ⟨rfl, hb8⟩
  rw [validB_yes HVQ.out]
  have hb58 := hb57.trans (hb8.mono hb57.size)
  have hb08 := hb05.trans (hb58.mono hb05.size)
  have hQ8 := hQ7.later hb8
  have hI8 := (hI6.later hb7).later hb8
  have hT8 := tab_later hT5 hb58
  have HB : Hid (∀ W, Below w8.heap.size w8 W → ((W.cell? ⟨w.heap.size, 0, none⟩ = some (.int .i64 (N : Int)) ∧ W.cell? ⟨w.heap.size, 1, none⟩ = some (.slice a len cap)) ∧ W.cell? ⟨w.heap.size + 1, 0, none⟩ = some (.int .i64 (N : Int)) ∧ W.cell? ⟨w.heap.size + 1, 1, none⟩ = some (.slice a len cap)) ∧ (W.cell? ⟨w6.heap.size, 0, none⟩ = some (.int .i64 (N : Int)) ∧ W.cell? ⟨w6.heap.size, 1, none⟩ = some (.slice ao k co)) ∧ IsPairs W ao k co qs ∧ IsPairs W a len cap es ∧ TabAt 0 Lib.deBruijn64tab W) := Lib.hid (fun W h => by
    obtain ⟨⟨g0, -⟩, g1, -⟩ := (hQ8.later h).cells
    exact ⟨HBO.out W (hb58.trans (h.mono hb58.size)), ⟨g0, g1⟩, hI8.later h, he5.later (hb58.trans (h.mono hb58.size)), tab_later hT8 h⟩)
  clear q0 q1 hQ7 hQ8 hI6 hI8 hT8 hb57 hb6 hb7 hb8
  obtain ⟨⟨⟨r0, r1⟩, o0, o1⟩, ⟨q0, q1⟩, -⟩ := HB.out w8 (Below.refl _ _)
  go_wp2_with (fail)
  clear q0 q1 r0 r1 o0 o1
  go_loopw [38] (fun c W => ∃ i : Nat, i ≤ N ∧ c = .int .i64 (i : Int) ∧ Below w8.heap.size w8 W) (fun c _ => N - (intOf c).toNat)
  case atStart => exact ⟨0, Nat.zero_le _, rfl, Below.refl _ _⟩
  case round =>
    obtain ⟨i, hi, rfl, hB⟩ := hrel
    obtain ⟨⟨⟨r0, r1⟩, o0, o1⟩, ⟨q0, q1⟩, -⟩ := HB.out wr hB
    rcases Nat.lt_or_ge i N with hlt | hge
    · have t1 : decide ((i : Int) < N) = true := decide_eq_true (by omega)
      go_wp2_with (fail)
      clear q0 q1 r0 r1 o0 o1
      go_loopw [43] (fun c W => ∃ j : Nat, j ≤ N ∧ c = .int .i64 (j : Int) ∧ Below w8.heap.size w8 W) (fun c _ => N - (intOf c).toNat)
      case atStart => exact ⟨0, Nat.zero_le _, rfl, hB⟩
      case round =>
        clear hB
        obtain ⟨j, hj, rfl, hB⟩ := hrel
        rcases Nat.lt_or_ge j N with hjl | hjg
        · have t2 : decide ((j : Int) < N) = true := decide_eq_true (by omega)
          obtain ⟨b, hb⟩ : ∃ b, beforeB N es i j = b := ⟨_, rfl⟩
          have hbq := HBQ.out i j
          rw [hb] at hbq
          have HB1 := Lib.hid hb
          have HB2 := Lib.hid hbq
          have d1 : (b != b) = false := bne_self_eq_false' b
          have HC : Hid (∀ W, Below wr.heap.size wr W → Below w8.heap.size w8 W) := Lib.hid (fun W h => hB.trans (h.mono hB.size))
          clear hb hbq
          go_wp2_with (fail)
          refine wp_region_grow mixed (by kernel_rfl) [[], [], [], [(0, 46), (1, 47), (2, 48)], [], [], [], [(4, 50), (5, 51), (6, 52), (3, 49)], [(3, 49), (7, 53)]] [(0, 46), (1, 47), (2, 48), (3, 49), (4, 50), (5, 51), (6, 52), (7, 53), (8, 54)] rfl rfl [Ex ?eu0, Ex ?eu1, Ex ?eu2, Ex (.bool b), Ex ?eu4, Ex ?eu5, Ex ?eu6, Ex (.bool b), Ex (.bool false)] ⟨stays_ex _, stays_ex _, stays_ex _, stays_ex _, stays_ex _, stays_ex _, stays_ex _, stays_ex _, stays_ex _, trivial⟩ ?usteps ?urest
          case usteps =>
            refine ⟨fun f W hC hh => ?_, fun f W hC hh => ?_, fun f W hC hh => ?_, fun f W hC hh => ?_, fun f W hC hh => ?_, fun f W hC hh => ?_, fun f W hC hh => ?_, fun f W hC hh => ?_, fun f W hC hh => ?_, trivial⟩
            · -- 0: Op.load 27 (Operand.tmp 3)
              refine tab_plain fun K Q hK => ?_
              simp only [puts, List.foldr_nil]
              obtain ⟨⟨⟨r0, r1⟩, o0, o1⟩, ⟨q0, q1⟩, -⟩ := HB.out W (HC.out W hC)
              go_step
              refine fam_ex hK rfl rfl (by simp only [Act.put, List.setIfInBounds_toArray, List.set_cons_succ, List.set_cons_zero, Array.getD_eq_getD_getElem?, List.getElem?_toArray, List.getElem?_cons_succ, List.getElem?_cons_zero, Option.getD_some] <;> rfl) rfl (Below.refl _ _) hC
            · -- 1: Op.move (Operand.tmp 6)
              refine tab_plain fun K Q hK => ?_
              simp only [puts, List.foldr_nil]
              go_step
              refine fam_ex hK rfl rfl (by simp only [Act.put, List.setIfInBounds_toArray, List.set_cons_succ, List.set_cons_zero, Array.getD_eq_getD_getElem?, List.getElem?_toArray, List.getElem?_cons_succ, List.getElem?_cons_zero, Option.getD_some] <;> rfl) rfl (Below.refl _ _) hC
            · -- 2: Op.move (Operand.tmp 7)
              refine tab_plain fun K Q hK => ?_
              simp only [puts, List.foldr_nil]
              go_step
              refine fam_ex hK rfl rfl (by simp only [Act.put, List.setIfInBounds_toArray, List.set_cons_succ, List.set_cons_zero, Array.getD_eq_getD_getElem?, List.getElem?_toArray, List.getElem?_cons_succ, List.getElem?_cons_zero, Option.getD_some] <;> rfl) rfl (Below.refl _ _) hC
            · -- 3: Op.call { callee := Callee.value (Operand.func 15), args := #[Operand.tmp 46, Operand.tmp 
              obtain ⟨h0, h1, h2, -⟩ := hh
              have g0 : f 0 = _ := h0
              have g1 : f 1 = _ := h1
              have g2 : f 2 = _ := h2
              refine tab_plain fun K Q hK => ?_
              simp only [puts, List.foldr_cons, List.foldr_nil, List.setIfInBounds_toArray, List.set_cons_succ, List.set_cons_zero, g0, g1, g2]
              obtain ⟨-, -, hIq, hIe, hTW⟩ := HB.out W (HC.out W hC)
              go_step
              go_at_call 15
              refine (before_any (i : Int) (j : Int) hIe hTW).mono ?_
              rintro e w' ⟨rfl, hb⟩
              rw [HB1.out]
              exact fam_fin hK rfl rfl hb (hC.trans (hb.mono hC.size))
            · -- 4: Op.load 27 (Operand.tmp 4)
              refine tab_plain fun K Q hK => ?_
              simp only [puts, List.foldr_nil]
              obtain ⟨⟨⟨r0, r1⟩, o0, o1⟩, ⟨q0, q1⟩, -⟩ := HB.out W (HC.out W hC)
              go_step
              refine fam_ex hK rfl rfl (by simp only [Act.put, List.setIfInBounds_toArray, List.set_cons_succ, List.set_cons_zero, Array.getD_eq_getD_getElem?, List.getElem?_toArray, List.getElem?_cons_succ, List.getElem?_cons_zero, Option.getD_some] <;> rfl) rfl (Below.refl _ _) hC
            · -- 5: Op.move (Operand.tmp 6)
              refine tab_plain fun K Q hK => ?_
              simp only [puts, List.foldr_nil]
              go_step
              refine fam_ex hK rfl rfl (by simp only [Act.put, List.setIfInBounds_toArray, List.set_cons_succ, List.set_cons_zero, Array.getD_eq_getD_getElem?, List.getElem?_toArray, List.getElem?_cons_succ, List.getElem?_cons_zero, Option.getD_some] <;> rfl) rfl (Below.refl _ _) hC
            · -- 6: Op.move (Operand.tmp 7)
              refine tab_plain fun K Q hK => ?_
              simp only [puts, List.foldr_nil]
              go_step
              refine fam_ex hK rfl rfl (by simp only [Act.put, List.setIfInBounds_toArray, List.set_cons_succ, List.set_cons_zero, Array.getD_eq_getD_getElem?, List.getElem?_toArray, List.getElem?_cons_succ, List.getElem?_cons_zero, Option.getD_some] <;> rfl) rfl (Below.refl _ _) hC
            · -- 7: Op.call { callee := Callee.value (Operand.func 15), args := #[Operand.tmp 50, Operand.tmp 
              obtain ⟨h4, h5, h6, h3, -⟩ := hh
              have g4 : f 4 = _ := h4
              have g5 : f 5 = _ := h5
              have g6 : f 6 = _ := h6
              have g3 : f 3 = _ := h3
              refine tab_plain fun K Q hK => ?_
              simp only [puts, List.foldr_cons, List.foldr_nil, List.setIfInBounds_toArray, List.set_cons_succ, List.set_cons_zero, g4, g5, g6, g3]
              obtain ⟨-, -, hIq, hIe, hTW⟩ := HB.out W (HC.out W hC)
              go_step
              go_at_call 15
              refine (before_any (i : Int) (j : Int) hIq hTW).mono ?_
              rintro e w' ⟨rfl, hb⟩
              rw [HB2.out]
              exact fam_fin hK rfl rfl hb (hC.trans (hb.mono hC.size))
            · -- 8: Op.binOp BinOp.neq 4 (Operand.tmp 49) (Operand.tmp 53) 4
              obtain ⟨h3, h7, -⟩ := hh
              have g3 : f 3 = _ := h3
              have g7 : f 7 = _ := h7
              refine tab_plain fun K Q hK => ?_
              simp only [puts, List.foldr_cons, List.foldr_nil, List.setIfInBounds_toArray, List.set_cons_succ, List.set_cons_zero, g3, g7]
              go_step
              refine fam_ex hK rfl rfl (by simp only [Act.put, List.setIfInBounds_toArray, List.set_cons_succ, List.set_cons_zero, Array.getD_eq_getD_getElem?, List.getElem?_toArray, List.getElem?_cons_succ, List.getElem?_cons_zero, Option.getD_some] <;> rfl) rfl (Below.refl _ _) hC
          case urest =>
            intro f WA hC hh
            obtain ⟨h0, h1, h2, h3, h4, h5, h6, h7, h8, -⟩ := hh
            have g0 : f 0 = _ := h0
            have g1 : f 1 = _ := h1
            have g2 : f 2 = _ := h2
            have g3 : f 3 = _ := h3
            have g4 : f 4 = _ := h4
            have g5 : f 5 = _ := h5
            have g6 : f 6 = _ := h6
            have g7 : f 7 = _ := h7
            have g8 : f 8 = _ := h8
            simp only [puts, List.foldr_cons, List.foldr_nil, List.setIfInBounds_toArray, List.set_cons_succ, List.set_cons_zero, g0, g1, g2, g3, g4, g5, g6, g7, g8]
            clear h0 h1 h2 h3 h4 h5 h6 h7 h8 g0 g1 g2 g3 g4 g5 g6 g7 g8
            have hBA := HC.out WA hC
            clear hB hC HC
            go_wp2
            go_roundw
            case rel => exact ⟨j + 1, hjl, by go_num, hBA⟩
            case measure => simp [intOf]; omega
        · obtain rfl : N = j := by omega
          have t2 : decide ((N : Int) < N) = false := decide_eq_false (by omega)
          go_wp2_with (fail)
          go_roundw
          case rel => exact ⟨i + 1, hlt, by go_num, hB⟩
          case measure => simp [intOf]; omega
    · obtain rfl : N = i := by omega
      have t1 : decide ((N : Int) < N) = false := decide_eq_false (by omega)
      go_wp2_with (fail)
      clear q0 q1 r0 r1 o0 o1
      go_loopw [60] (fun c W => ∃ i : Nat, i ≤ k ∧ c = .int .i64 (i : Int) ∧ Below w8.heap.size w8 W) (fun c _ => k - (intOf c).toNat)
      case atStart => exact ⟨0, Nat.zero_le _, rfl, hB⟩
      case round =>
        clear hB
        obtain ⟨i, hi, rfl, hB⟩ := hrel
        rcases Nat.lt_or_ge i k with hlt | hge
        · have t1 : decide ((i : Int) < k) = true := decide_eq_true (by omega)
          obtain ⟨-, -, hIr, -, -⟩ := HB.out wr hB
          obtain ⟨bf, of, rfl, -, -⟩ := hIr.at wr (Below.refl _ _) i hlt
          have HC : Hid (∀ W, Below wr.heap.size wr W → (W.cell? ⟨w6.heap.size, 0, none⟩ = some (.int .i64 (N : Int)) ∧ W.cell? ⟨w6.heap.size, 1, none⟩ = some (.slice (some ⟨bf, of, none⟩) k co)) ∧ IsPairs W (some ⟨bf, of, none⟩) k co qs ∧ Below w8.heap.size w8 W) := Lib.hid (fun W h => by
            have hW := hB.trans (h.mono hB.size)
            obtain ⟨-, h1, h2, -, -⟩ := HB.out W hW
            exact ⟨h1, h2, hW⟩)
          have hcap : k ≤ co ∧ co ≤ 9223372036854775807 := by
            rcases hIr with ⟨h, _⟩ | ⟨_, _, _, h, h', _⟩
            · cases h
            · exact ⟨h, h'⟩
          clear hIr
          obtain ⟨o2, had, ho2⟩ : ∃ o2, (if co = i + 1 then (some ⟨bf, of, none⟩ : Option Addr) else some ⟨bf, of + (i + 1) * 2, none⟩) = some ⟨bf, o2, none⟩ ∧ (i + 1 < k → o2 = of + (i + 1) * 2) := by
            by_cases h : co = i + 1
            · exact ⟨of, by rw [if_pos h], fun hh => by omega⟩
            · exact ⟨_, by rw [if_neg h], fun _ => rfl⟩
          have HO2 := Lib.hid ho2
          clear ho2
          go_wp2_with (fail)
          obtain ⟨S, hSd⟩ : ∃ S : (Nat → Bool) → (Nat → Value) → World → Prop, S = fun L f W => Bld wr 39 2 W (if L 13 = true then f 13 else if L 7 = true then f 7 else if L 2 = true then f 2 else undef) (if L 13 = true then i + (k - (i + 1)) else if L 7 = true then i else 0) (if L 13 = true then pvs (qs.take i ++ qs.drop (i + 1)) else if L 7 = true then pvs (qs.take i) else []) undef #[] (if L 15 = true then f 15 else undef) (if L 16 = true then #[.int .i64 (N : Int), f 13] else #[.int .i64 0, .slice none 0 0]) ∧ (L 14 = true → f 14 = .agg #[.int .i64 (N : Int), f 13]) := ⟨_, rfl⟩
          refine wp_region_st mixed (by kernel_rfl) [[], [(0, 63)], [], [], [(3, 66)], [], [(4, 67), (5, 68)], [(2, 65), (6, 69)], [], [(8, 71)], [], [(10, 73)], [(9, 72), (11, 74)], [(7, 70), (12, 75), (7, 70)], [(1, 64), (13, 76)], [], [(15, 9), (14, 77), (13, 76), (0, 63), (1, 64), (2, 65), (3, 66), (4, 67), (5, 68), (6, 69), (7, 70), (8, 71), (9, 72), (10, 73), (11, 74), (12, 75), (13, 76), (14, 77), (15, 9)]] [(0, 63), (1, 64), (2, 65), (3, 66), (4, 67), (5, 68), (6, 69), (7, 70), (8, 71), (9, 72), (10, 73), (11, 74), (12, 75), (13, 76), (14, 77), (15, 9)] rfl rfl [EV ?ev0, EV ?ev1, fun v => ∃ b, v = .slice (some ⟨b, 0, none⟩) 0 0, EV ?ev3, EV ?ev4, EV ?ev5, EV (.slice (some ⟨bf, of, none⟩) i co), fun v => ∃ a c, v = .slice a i c, EV ?ev8, EV ?ev9, EV ?ev10, EV ?ev11, EV (.slice (some ⟨bf, o2, none⟩) (k - (i + 1)) (co - (i + 1))), fun v => ∃ a c, v = .slice a (i + (k - (i + 1))) c, fun v => ∃ a c, v = .agg #[.int .i64 (N : Int), .slice a (i + (k - (i + 1))) c], fun v => ∃ d, v = .pointer (some ⟨d, 0, none⟩), fun _ => True] S ?vstart ?vsteps ?vrest
          case vstart =>
            intro f
            rw [hSd]
            exact ⟨Bld.start wr _ _ _ _, fun h => by cases h⟩
          case vsteps =>
            refine ⟨fun L f W hi hd hdn hh hS => ?_, fun L f W hi hd hdn hh hS => ?_, fun L f W hi hd hdn hh hS => ?_, fun L f W hi hd hdn hh hS => ?_, fun L f W hi hd hdn hh hS => ?_, fun L f W hi hd hdn hh hS => ?_, fun L f W hi hd hdn hh hS => ?_, fun L f W hi hd hdn hh hS => ?_, fun L f W hi hd hdn hh hS => ?_, fun L f W hi hd hdn hh hS => ?_, fun L f W hi hd hdn hh hS => ?_, fun L f W hi hd hdn hh hS => ?_, fun L f W hi hd hdn hh hS => ?_, fun L f W hi hd hdn hh hS => ?_, fun L f W hi hd hdn hh hS => ?_, fun L f W hi hd hdn hh hS => ?_, fun L f W hi hd hdn hh hS => ?_, trivial⟩
            · -- 0: Op.fieldAddr 27 (Operand.tmp 4) 0
              unfold stStep
              rw [if_pos (by simp [Region.wanted])]
              intro K Q hK
              simp only [puts, List.foldr_nil]
              go_step
              refine st_ex hK rfl rfl (by simp only [Act.put, List.setIfInBounds_toArray, List.set_cons_succ, List.set_cons_zero, Array.getD_eq_getD_getElem?, List.getElem?_toArray, List.getElem?_cons_succ, List.getElem?_cons_zero, Option.getD_some] <;> rfl) rfl (by rw [hSd] at hS ⊢; exact hS)
            · -- 1: Op.load 3 (Operand.tmp 63)
              obtain ⟨h0, -⟩ := hh
              have g0 : f 0 = _ := h0
              unfold stStep
              rw [if_pos (by simp [Region.wanted])]
              intro K Q hK
              simp only [puts, List.foldr_cons, List.foldr_nil, List.setIfInBounds_toArray, List.set_cons_succ, List.set_cons_zero, g0]
              have hS' := hS
              rw [hSd] at hS'
              obtain ⟨⟨q0, q1⟩, -⟩ := HC.out W hS'.1.bel
              go_step
              refine st_ex hK rfl rfl (by simp only [Act.put, List.setIfInBounds_toArray, List.set_cons_succ, List.set_cons_zero, Array.getD_eq_getD_getElem?, List.getElem?_toArray, List.getElem?_cons_succ, List.getElem?_cons_zero, Option.getD_some] <;> rfl) rfl (by rw [hSd] at hS ⊢; exact hS)
            · -- 2: Op.buildSlice 22 0 #[]
              have l7 : L 7 = false := Bool.eq_false_iff.2 fun h => by have q := hdn 7 _ h rfl 2 (by decide); rw [show L 2 = false from hi] at q; cases q
              have l13 : L 13 = false := Bool.eq_false_iff.2 fun h => by have q := hdn 13 _ h rfl 7 (by decide); rw [show L 7 = false from l7] at q; cases q
              unfold stStep
              rw [if_pos (by simp [Region.wanted])]
              intro K Q hK
              simp only [puts, List.foldr_nil]
              rw [hSd] at hS hK
              have l2 : L 2 = false := hi
              try simp only [stage, l7, l13, l2, if_true, if_false, Bool.false_eq_true] at hS
              try simp only [l2, l7, l13, if_false, Bool.false_eq_true] at hS
              obtain ⟨hS, h9⟩ := hS
              go_step
              refine hK.out _ _ rfl ⟨_, rfl⟩ ?_
              have q := hS.lit
              simp only [l7, l13, Bool.false_eq_true, ↓reduceIte, Nat.reduceEqDiff]
              exact ⟨q, h9⟩
            · -- 3: Op.fieldAddr 27 (Operand.tmp 4) 1
              unfold stStep
              rw [if_pos (by simp [Region.wanted])]
              intro K Q hK
              simp only [puts, List.foldr_nil]
              go_step
              refine st_ex hK rfl rfl (by simp only [Act.put, List.setIfInBounds_toArray, List.set_cons_succ, List.set_cons_zero, Array.getD_eq_getD_getElem?, List.getElem?_toArray, List.getElem?_cons_succ, List.getElem?_cons_zero, Option.getD_some] <;> rfl) rfl (by rw [hSd] at hS ⊢; exact hS)
            · -- 4: Op.load 22 (Operand.tmp 66)
              obtain ⟨h3, -⟩ := hh
              have g3 : f 3 = _ := h3
              unfold stStep
              rw [if_pos (by simp [Region.wanted])]
              intro K Q hK
              simp only [puts, List.foldr_cons, List.foldr_nil, List.setIfInBounds_toArray, List.set_cons_succ, List.set_cons_zero, g3]
              have hS' := hS
              rw [hSd] at hS'
              obtain ⟨⟨q0, q1⟩, -⟩ := HC.out W hS'.1.bel
              go_step
              refine st_ex hK rfl rfl (by simp only [Act.put, List.setIfInBounds_toArray, List.set_cons_succ, List.set_cons_zero, Array.getD_eq_getD_getElem?, List.getElem?_toArray, List.getElem?_cons_succ, List.getElem?_cons_zero, Option.getD_some] <;> rfl) rfl (by rw [hSd] at hS ⊢; exact hS)
            · -- 5: Op.move (Operand.tmp 8)
              unfold stStep
              rw [if_pos (by simp [Region.wanted])]
              intro K Q hK
              simp only [puts, List.foldr_nil]
              go_step
              refine st_ex hK rfl rfl (by simp only [Act.put, List.setIfInBounds_toArray, List.set_cons_succ, List.set_cons_zero, Array.getD_eq_getD_getElem?, List.getElem?_toArray, List.getElem?_cons_succ, List.getElem?_cons_zero, Option.getD_some] <;> rfl) rfl (by rw [hSd] at hS ⊢; exact hS)
            · -- 6: Op.slice 22 (Operand.tmp 67) none (some (Operand.tmp 68)) none
              obtain ⟨h4, h5, -⟩ := hh
              have g4 : f 4 = _ := h4
              have g5 : f 5 = _ := h5
              unfold stStep
              rw [if_pos (by simp [Region.wanted])]
              intro K Q hK
              simp only [puts, List.foldr_cons, List.foldr_nil, List.setIfInBounds_toArray, List.set_cons_succ, List.set_cons_zero, g4, g5]
              go_step
              refine st_ex hK rfl rfl (by simp only [Act.put, List.setIfInBounds_toArray, List.set_cons_succ, List.set_cons_zero, Array.getD_eq_getD_getElem?, List.getElem?_toArray, List.getElem?_cons_succ, List.getElem?_cons_zero, Option.getD_some] <;> rfl) rfl (by rw [hSd] at hS ⊢; exact hS)
            · -- 7: Op.call { callee := Callee.builtin Builtin.append, args := #[Operand.tmp 65, Operand.tmp 6
              obtain ⟨h2, h6, -⟩ := hh
              obtain ⟨b2, (g2 : f 2 = _)⟩ := h2
              have g6 : f 6 = _ := h6
              have l2 : L 2 = true := hd 2 (by decide)
              have l13 : L 13 = false := Bool.eq_false_iff.2 fun h => by have q := hdn 13 _ h rfl 7 (by decide); rw [show L 7 = false from hi] at q; cases q
              unfold stStep
              rw [if_pos (by simp [Region.wanted])]
              intro K Q hK
              simp only [puts, List.foldr_cons, List.foldr_nil, List.setIfInBounds_toArray, List.set_cons_succ, List.set_cons_zero, g2, g6]
              rw [hSd] at hS hK
              have l7 : L 7 = false := hi
              try simp only [stage, l13, l7, l2, if_true, if_false, Bool.false_eq_true] at hS
              simp only [l2, l7, l13, if_false, if_true, Bool.false_eq_true, g2] at hS
              obtain ⟨hS, h9⟩ := hS
              have hown := hS.own.resolve_left (by intro h; cases h)
              obtain ⟨-, hIW, -⟩ := HC.out W hS.bel
              have hp := hIW.part 0 i co (Nat.zero_le _) (by omega) (by omega) hcap.2 of (fun _ => by omega)
              rw [Nat.sub_zero, List.drop_zero] at hp
              refine wp_app_blk elPair _ _ rfl rfl hown rfl (pairs_src' hp) (pvs_one _) (by omega) hS.bel.size ?_
              intro a' c' w' ho hg hbw hblk
              simp only [Nat.zero_add, List.nil_append] at ho hblk ⊢
              refine hK.out _ _ rfl ⟨a', c', rfl⟩ ?_
              have q := hS.app ho hg hbw hblk
              simp only [l13, Bool.false_eq_true, ↓reduceIte, Nat.reduceEqDiff]
              exact ⟨q, h9⟩
            · -- 8: Op.fieldAddr 27 (Operand.tmp 4) 1
              unfold stStep
              rw [if_pos (by simp [Region.wanted])]
              intro K Q hK
              simp only [puts, List.foldr_nil]
              go_step
              refine st_ex hK rfl rfl (by simp only [Act.put, List.setIfInBounds_toArray, List.set_cons_succ, List.set_cons_zero, Array.getD_eq_getD_getElem?, List.getElem?_toArray, List.getElem?_cons_succ, List.getElem?_cons_zero, Option.getD_some] <;> rfl) rfl (by rw [hSd] at hS ⊢; exact hS)
            · -- 9: Op.load 22 (Operand.tmp 71)
              obtain ⟨h8, -⟩ := hh
              have g8 : f 8 = _ := h8
              unfold stStep
              rw [if_pos (by simp [Region.wanted])]
              intro K Q hK
              simp only [puts, List.foldr_cons, List.foldr_nil, List.setIfInBounds_toArray, List.set_cons_succ, List.set_cons_zero, g8]
              have hS' := hS
              rw [hSd] at hS'
              obtain ⟨⟨q0, q1⟩, -⟩ := HC.out W hS'.1.bel
              go_step
              refine st_ex hK rfl rfl (by simp only [Act.put, List.setIfInBounds_toArray, List.set_cons_succ, List.set_cons_zero, Array.getD_eq_getD_getElem?, List.getElem?_toArray, List.getElem?_cons_succ, List.getElem?_cons_zero, Option.getD_some] <;> rfl) rfl (by rw [hSd] at hS ⊢; exact hS)
            · -- 10: Op.move (Operand.tmp 8)
              unfold stStep
              rw [if_pos (by simp [Region.wanted])]
              intro K Q hK
              simp only [puts, List.foldr_nil]
              go_step
              refine st_ex hK rfl rfl (by simp only [Act.put, List.setIfInBounds_toArray, List.set_cons_succ, List.set_cons_zero, Array.getD_eq_getD_getElem?, List.getElem?_toArray, List.getElem?_cons_succ, List.getElem?_cons_zero, Option.getD_some] <;> rfl) rfl (by rw [hSd] at hS ⊢; exact hS)
            · -- 11: Op.binOp BinOp.add 3 (Operand.tmp 73) (Operand.const (Value.int IntKind.i64 1)) 3
              obtain ⟨h10, -⟩ := hh
              have g10 : f 10 = _ := h10
              unfold stStep
              rw [if_pos (by simp [Region.wanted])]
              intro K Q hK
              simp only [puts, List.foldr_cons, List.foldr_nil, List.setIfInBounds_toArray, List.set_cons_succ, List.set_cons_zero, g10]
              go_step
              refine st_ex hK rfl rfl (by simp only [Act.put, List.setIfInBounds_toArray, List.set_cons_succ, List.set_cons_zero, Array.getD_eq_getD_getElem?, List.getElem?_toArray, List.getElem?_cons_succ, List.getElem?_cons_zero, Option.getD_some] <;> rfl) rfl (by rw [hSd] at hS ⊢; exact hS)
            · -- 12: Op.slice 22 (Operand.tmp 72) (some (Operand.tmp 74)) none none
              obtain ⟨h9, h11, -⟩ := hh
              have g9 : f 9 = _ := h9
              have g11 : f 11 = _ := h11
              unfold stStep
              rw [if_pos (by simp [Region.wanted])]
              intro K Q hK
              simp only [puts, List.foldr_cons, List.foldr_nil, List.setIfInBounds_toArray, List.set_cons_succ, List.set_cons_zero, g9, g11]
              go_step
              refine st_ex hK rfl rfl (by simp only [Act.put, List.setIfInBounds_toArray, List.set_cons_succ, List.set_cons_zero, Array.getD_eq_getD_getElem?, List.getElem?_toArray, List.getElem?_cons_succ, List.getElem?_cons_zero, Option.getD_some] <;> rfl) rfl (by rw [hSd] at hS ⊢; exact hS)
            · -- 13: Op.call { callee := Callee.builtin Builtin.append, args := #[Operand.tmp 70, Operand.tmp 7
              obtain ⟨h7, h12, _, -⟩ := hh
              obtain ⟨a7, c7, (g7 : f 7 = _)⟩ := h7
              have g12 : f 12 = _ := h12
              have l7 : L 7 = true := hd 7 (by decide)
              have l16 : L 16 = false := Bool.eq_false_iff.2 fun h => by have q := hdn 16 _ h rfl 13 (by decide); rw [show L 13 = false from hi] at q; cases q
              have l14 : L 14 = false := Bool.eq_false_iff.2 fun h => by have q := hdn 14 _ h rfl 13 (by decide); rw [show L 13 = false from hi] at q; cases q
              unfold stStep
              rw [if_pos (by simp [Region.wanted])]
              intro K Q hK
              simp only [puts, List.foldr_cons, List.foldr_nil, List.setIfInBounds_toArray, List.set_cons_succ, List.set_cons_zero, g7, g12]
              rw [hSd] at hS hK
              have l13 : L 13 = false := hi
              try simp only [stage, l16, l14, l13, l7, if_true, if_false, Bool.false_eq_true] at hS
              simp only [l7, l13, l16, if_false, if_true, Bool.false_eq_true, g7] at hS
              obtain ⟨hS, h9⟩ := hS
              have hown := hS.own.resolve_left (by intro h; cases h)
              obtain ⟨-, hIW, -⟩ := HC.out W hS.bel
              have hp := hIW.part (i + 1) k (co - (i + 1)) (by omega) (Nat.le_refl _) (by omega) (by unfold maxLen; omega) o2 HO2.out
              rw [List.take_of_length_le (by rw [List.length_drop, HK.out]; omega)] at hp
              refine wp_app_blk elPair _ _ rfl rfl hown rfl (pairs_src' hp) (pvs_one _) (by omega) hS.bel.size ?_
              intro a' c' w' ho hg hbw hblk
              rw [← pvs_append] at ho
              refine hK.out _ _ rfl ⟨a', c', rfl⟩ ?_
              have q := hS.app ho hg hbw hblk
              simp only [l16, Bool.false_eq_true, ↓reduceIte, Nat.reduceEqDiff]
              exact ⟨q, fun h => by rw [l14] at h; cases h⟩
            · -- 14: Op.build 27 #[(0, Operand.tmp 64), (1, Operand.tmp 76)]
              obtain ⟨h1, h13, -⟩ := hh
              have g1 : f 1 = _ := h1
              obtain ⟨a13, c13, (g13 : f 13 = _)⟩ := h13
              have l13 : L 13 = true := hd 13 (by decide)
              unfold stStep
              rw [if_pos (by simp [Region.wanted])]
              intro K Q hK
              simp only [puts, List.foldr_cons, List.foldr_nil, List.setIfInBounds_toArray, List.set_cons_succ, List.set_cons_zero, g1, g13]
              rw [hSd] at hS hK
              have l14 : L 14 = false := hi
              try simp only [stage, l14, l13, if_true, if_false, Bool.false_eq_true] at hS
              obtain ⟨hS, -⟩ := hS
              go_step
              refine hK.out _ _ rfl ⟨_, _, rfl⟩ ?_
              simp only [l13, ↓reduceIte, Nat.reduceEqDiff]
              exact ⟨hS, fun _ => by rw [g13]; rfl⟩
            · -- 15: Op.alloc 27
              have l16 : L 16 = false := Bool.eq_false_iff.2 fun h => by have q := hdn 16 _ h rfl 15 (by decide); rw [show L 15 = false from hi] at q; cases q
              unfold stStep
              rw [if_pos (by simp [Region.wanted])]
              intro K Q hK
              simp only [puts, List.foldr_nil]
              rw [hSd] at hS hK
              have l15 : L 15 = false := hi
              try simp only [stage, l16, l15, if_true, if_false, Bool.false_eq_true] at hS
              try simp only [l15, l16, if_false, Bool.false_eq_true] at hS
              obtain ⟨hS, h9⟩ := hS
              go_step
              refine hK.out _ _ rfl ⟨_, rfl⟩ ?_
              have q := hS.newbox 27
              simp only [l16, Bool.false_eq_true, ↓reduceIte, Nat.reduceEqDiff]
              exact ⟨q, h9⟩
            · -- 16: Op.store 27 (Operand.tmp 9) (Operand.tmp 77)
              obtain ⟨h15, h14, h13, h0, h1, h2, h3, h4, h5, h6, h7, h8, h9, h10, h11, h12, _, _, _, -⟩ := hh
              obtain ⟨d15, (g15 : f 15 = _)⟩ := h15
              obtain ⟨a14, c14, (g14 : f 14 = _)⟩ := h14
              obtain ⟨a13, c13, (g13 : f 13 = _)⟩ := h13
              have g0 : f 0 = _ := h0
              have g1 : f 1 = _ := h1
              obtain ⟨b2, (g2 : f 2 = _)⟩ := h2
              have g3 : f 3 = _ := h3
              have g4 : f 4 = _ := h4
              have g5 : f 5 = _ := h5
              have g6 : f 6 = _ := h6
              obtain ⟨a7, c7, (g7 : f 7 = _)⟩ := h7
              have g8 : f 8 = _ := h8
              have g9 : f 9 = _ := h9
              have g10 : f 10 = _ := h10
              have g11 : f 11 = _ := h11
              have g12 : f 12 = _ := h12
              have l13 : L 13 = true := hd 13 (by decide)
              have l14 : L 14 = true := hd 14 (by decide)
              have l15 : L 15 = true := hd 15 (by decide)
              unfold stStep
              rw [if_pos (by simp [Region.wanted])]
              intro K Q hK
              simp only [puts, List.foldr_cons, List.foldr_nil, List.setIfInBounds_toArray, List.set_cons_succ, List.set_cons_zero, g15, g14, g13, g0, g1, g2, g3, g4, g5, g6, g7, g8, g9, g10, g11, g12]
              rw [hSd] at hS hK
              have l16 : L 16 = false := hi
              try simp only [stage, l16, l13, l14, l15, if_true, if_false, Bool.false_eq_true] at hS
              simp only [l13, l14, l15, l16, if_false, if_true, Bool.false_eq_true, g13, g15] at hS
              obtain ⟨hS, h9⟩ := hS
              have e := h9 trivial
              rw [g14] at e
              obtain ⟨rfl, rfl⟩ : a13 = a14 ∧ c13 = c14 := by simpa using e.symm
              obtain ⟨-, hbx, -, -⟩ := hS.box _ rfl
              obtain ⟨q0, f0⟩ := hbx.cell 0
              obtain ⟨q1, f1⟩ := hbx.cell 1
              have q0 : W.cell? _ = some (.int .i64 0) := q0
              have q1 : W.cell? _ = some (.slice none 0 0) := q1
              go_step
              refine hK.out _ _ rfl trivial ?_
              have q := hS.fill (.int .i64 (N : Int)) (.slice a13 (i + (k - (i + 1))) c13)
              simp only [l13, l15, ↓reduceIte, Nat.reduceEqDiff, g13, g15]
              exact ⟨q, fun _ => by rw [g14]⟩
          case vrest =>
            intro L f WA hL hh hS
            rw [hSd] at hS
            clear hSd
            have l2 : L 2 = true := hL 2 (by decide)
            have l7 : L 7 = true := hL 7 (by decide)
            have l13 : L 13 = true := hL 13 (by decide)
            have l15 : L 15 = true := hL 15 (by decide)
            have l16 : L 16 = true := hL 16 (by decide)
            simp only [stage, l2, l7, l13, l15, l16, if_true] at hS
            clear hL l2 l7 l13 l15 l16
            obtain ⟨h0, h1, h2, h3, h4, h5, h6, h7, h8, h9, h10, h11, h12, h13, h14, h15, -⟩ := hh
            have g0 : f 0 = _ := h0
            have g1 : f 1 = _ := h1
            obtain ⟨b2, (g2 : f 2 = _)⟩ := h2
            have g3 : f 3 = _ := h3
            have g4 : f 4 = _ := h4
            have g5 : f 5 = _ := h5
            have g6 : f 6 = _ := h6
            obtain ⟨a7, c7, (g7 : f 7 = _)⟩ := h7
            have g8 : f 8 = _ := h8
            have g9 : f 9 = _ := h9
            have g10 : f 10 = _ := h10
            have g11 : f 11 = _ := h11
            have g12 : f 12 = _ := h12
            obtain ⟨a13, c13, (g13 : f 13 = _)⟩ := h13
            obtain ⟨a14, c14, (g14 : f 14 = _)⟩ := h14
            obtain ⟨d15, (g15 : f 15 = _)⟩ := h15
            simp only [puts, List.foldr_cons, List.foldr_nil, List.setIfInBounds_toArray, List.set_cons_succ, List.set_cons_zero, g0, g1, g2, g3, g4, g5, g6, g7, g8, g9, g10, g11, g12, g13, g14, g15]
            clear h0 h1 h3 h4 h5 h6 h8 h9 h10 h11 h12 g0 g1 g3 g4 g5 g6 g8 g9 g10 g11 g12
            simp only [g13, g15] at hS
            obtain ⟨hS, -⟩ := hS
            obtain ⟨-, hbx, -, -⟩ := hS.box _ rfl
            have hown := hS.own.resolve_left (by intro h; cases h)
            have hl : (qs.take i ++ qs.drop (i + 1)).length = i + (k - (i + 1)) := by rw [List.length_append, List.length_take, List.length_drop, HK.out]; omega
            rw [← hl] at hown
            obtain ⟨hI, -⟩ := IsPairs.of_owns (ps := qs.take i ++ qs.drop (i + 1)) hown
            rw [hl] at hI
            have hrA := hS.bel
            obtain ⟨x, hx⟩ : ∃ x, (gp qs i).1 = x := ⟨_, rfl⟩
            obtain ⟨y, hy⟩ : ∃ y, (gp qs i).2 = y := ⟨_, rfl⟩
            have hle := HLQ.out i hlt
            rw [hx, hy] at hle
            have HLE := Lib.hid hle
            have HZ : Hid (∀ W, Below WA.heap.size WA W → (W.cell? ⟨d15, 0, none⟩ = some (.int .i64 (N : Int)) ∧ W.cell? ⟨d15, 1, none⟩ = some (.slice a13 (i + (k - (i + 1))) c13)) ∧ (W.cell? ⟨w6.heap.size, 0, none⟩ = some (.int .i64 (N : Int)) ∧ W.cell? ⟨w6.heap.size, 1, none⟩ = some (.slice (some ⟨bf, of, none⟩) k co)) ∧ (W.cell? ⟨bf, of + i * 2, none⟩ = some (.int .i64 x) ∧ W.cell? ⟨bf, of + i * 2 + 1, none⟩ = some (.int .i64 y)) ∧ IsPairs W a13 (i + (k - (i + 1))) c13 (qs.take i ++ qs.drop (i + 1)) ∧ Below w8.heap.size w8 W) := Lib.hid (fun W h => by
              obtain ⟨T, hbx⟩ := hbx
              have hb2 : BlkAt W d15 #[.int .i64 (N : Int), .slice a13 (i + (k - (i + 1))) c13] := ⟨T, by rw [h.block d15 (Array.getElem?_eq_some_iff.1 hbx).1]; exact hbx⟩
              obtain ⟨h1, h2, h3⟩ := HC.out W (hrA.trans (h.mono hrA.size))
              have hg := h2.get i hlt
              rw [hx, hy] at hg
              exact ⟨⟨(hb2.cell 0).1, (hb2.cell 1).1⟩, h1, hg, hI.later h, h3⟩)
            clear hS hbx hown hl hI hx hy hle hB
            go_wp2_with (fail)
            refine wp_region_grow mixed (by kernel_rfl) [[], [], [(1, 79)], [], [(2, 80), (3, 81)], [(4, 82)], [(5, 83)], [], [(7, 85)], [], [(8, 86), (9, 87)], [(10, 88)], [(11, 89)], [(0, 78), (6, 84), (12, 90)]] [(0, 78), (1, 79), (2, 80), (3, 81), (4, 82), (5, 83), (6, 84), (7, 85), (8, 86), (9, 87), (10, 88), (11, 89), (12, 90), (13, 91)] rfl rfl [Ex ?ez0, Ex ?ez1, Ex ?ez2, Ex ?ez3, Ex ?ez4, Ex ?ez5, Ex ?ez6, Ex ?ez7, Ex ?ez8, Ex ?ez9, Ex ?ez10, Ex ?ez11, Ex ?ez12, Ex (.bool false)] ⟨stays_ex _, stays_ex _, stays_ex _, stays_ex _, stays_ex _, stays_ex _, stays_ex _, stays_ex _, stays_ex _, stays_ex _, stays_ex _, stays_ex _, stays_ex _, stays_ex _, trivial⟩ ?zsteps ?zrest
            case zsteps =>
              refine ⟨fun f W hC hh => ?_, fun f W hC hh => ?_, fun f W hC hh => ?_, fun f W hC hh => ?_, fun f W hC hh => ?_, fun f W hC hh => ?_, fun f W hC hh => ?_, fun f W hC hh => ?_, fun f W hC hh => ?_, fun f W hC hh => ?_, fun f W hC hh => ?_, fun f W hC hh => ?_, fun f W hC hh => ?_, fun f W hC hh => ?_, trivial⟩
              · -- 0: Op.load 27 (Operand.tmp 9)
                refine tab_plain fun K Q hK => ?_
                simp only [puts, List.foldr_nil]
                obtain ⟨⟨q0, q1⟩, -⟩ := HZ.out W hC
                go_step
                refine fam_ex hK rfl rfl (by simp only [Act.put, List.setIfInBounds_toArray, List.set_cons_succ, List.set_cons_zero, Array.getD_eq_getD_getElem?, List.getElem?_toArray, List.getElem?_cons_succ, List.getElem?_cons_zero, Option.getD_some] <;> rfl) rfl (Below.refl _ _) hC
              · -- 1: Op.fieldAddr 27 (Operand.tmp 4) 1
                refine tab_plain fun K Q hK => ?_
                simp only [puts, List.foldr_nil]
                go_step
                refine fam_ex hK rfl rfl (by simp only [Act.put, List.setIfInBounds_toArray, List.set_cons_succ, List.set_cons_zero, Array.getD_eq_getD_getElem?, List.getElem?_toArray, List.getElem?_cons_succ, List.getElem?_cons_zero, Option.getD_some] <;> rfl) rfl (Below.refl _ _) hC
              · -- 2: Op.load 22 (Operand.tmp 79)
                obtain ⟨h1, -⟩ := hh
                have g1 : f 1 = _ := h1
                refine tab_plain fun K Q hK => ?_
                simp only [puts, List.foldr_cons, List.foldr_nil, List.setIfInBounds_toArray, List.set_cons_succ, List.set_cons_zero, g1]
                obtain ⟨-, ⟨q0, q1⟩, -⟩ := HZ.out W hC
                go_step
                refine fam_ex hK rfl rfl (by simp only [Act.put, List.setIfInBounds_toArray, List.set_cons_succ, List.set_cons_zero, Array.getD_eq_getD_getElem?, List.getElem?_toArray, List.getElem?_cons_succ, List.getElem?_cons_zero, Option.getD_some] <;> rfl) rfl (Below.refl _ _) hC
              · -- 3: Op.move (Operand.tmp 8)
                refine tab_plain fun K Q hK => ?_
                simp only [puts, List.foldr_nil]
                go_step
                refine fam_ex hK rfl rfl (by simp only [Act.put, List.setIfInBounds_toArray, List.set_cons_succ, List.set_cons_zero, Array.getD_eq_getD_getElem?, List.getElem?_toArray, List.getElem?_cons_succ, List.getElem?_cons_zero, Option.getD_some] <;> rfl) rfl (Below.refl _ _) hC
              · -- 4: Op.indexAddr 22 (Operand.tmp 80) (Operand.tmp 81)
                obtain ⟨h2, h3, -⟩ := hh
                have g2 : f 2 = _ := h2
                have g3 : f 3 = _ := h3
                refine tab_plain fun K Q hK => ?_
                simp only [puts, List.foldr_cons, List.foldr_nil, List.setIfInBounds_toArray, List.set_cons_succ, List.set_cons_zero, g2, g3]
                go_step
                refine fam_ex hK rfl rfl (by simp only [Act.put, List.setIfInBounds_toArray, List.set_cons_succ, List.set_cons_zero, Array.getD_eq_getD_getElem?, List.getElem?_toArray, List.getElem?_cons_succ, List.getElem?_cons_zero, Option.getD_some] <;> rfl) rfl (Below.refl _ _) hC
              · -- 5: Op.indexAddr 39 (Operand.tmp 82) (Operand.const (Value.int IntKind.i64 0))
                obtain ⟨h4, -⟩ := hh
                have g4 : f 4 = _ := h4
                refine tab_plain fun K Q hK => ?_
                simp only [puts, List.foldr_cons, List.foldr_nil, List.setIfInBounds_toArray, List.set_cons_succ, List.set_cons_zero, g4]
                go_step
                refine fam_ex hK rfl rfl (by simp only [Act.put, List.setIfInBounds_toArray, List.set_cons_succ, List.set_cons_zero, Array.getD_eq_getD_getElem?, List.getElem?_toArray, List.getElem?_cons_succ, List.getElem?_cons_zero, Option.getD_some] <;> rfl) rfl (Below.refl _ _) hC
              · -- 6: Op.load 3 (Operand.tmp 83)
                obtain ⟨h5, -⟩ := hh
                have g5 : f 5 = _ := h5
                refine tab_plain fun K Q hK => ?_
                simp only [puts, List.foldr_cons, List.foldr_nil, List.setIfInBounds_toArray, List.set_cons_succ, List.set_cons_zero, g5]
                obtain ⟨-, -, ⟨q0, q1⟩, -⟩ := HZ.out W hC
                go_step
                refine fam_ex hK rfl rfl (by simp only [Act.put, List.setIfInBounds_toArray, List.set_cons_succ, List.set_cons_zero, Array.getD_eq_getD_getElem?, List.getElem?_toArray, List.getElem?_cons_succ, List.getElem?_cons_zero, Option.getD_some] <;> rfl) rfl (Below.refl _ _) hC
              · -- 7: Op.fieldAddr 27 (Operand.tmp 4) 1
                refine tab_plain fun K Q hK => ?_
                simp only [puts, List.foldr_nil]
                go_step
                refine fam_ex hK rfl rfl (by simp only [Act.put, List.setIfInBounds_toArray, List.set_cons_succ, List.set_cons_zero, Array.getD_eq_getD_getElem?, List.getElem?_toArray, List.getElem?_cons_succ, List.getElem?_cons_zero, Option.getD_some] <;> rfl) rfl (Below.refl _ _) hC
              · -- 8: Op.load 22 (Operand.tmp 85)
                obtain ⟨h7, -⟩ := hh
                have g7 : f 7 = _ := h7
                refine tab_plain fun K Q hK => ?_
                simp only [puts, List.foldr_cons, List.foldr_nil, List.setIfInBounds_toArray, List.set_cons_succ, List.set_cons_zero, g7]
                obtain ⟨-, ⟨q0, q1⟩, -⟩ := HZ.out W hC
                go_step
                refine fam_ex hK rfl rfl (by simp only [Act.put, List.setIfInBounds_toArray, List.set_cons_succ, List.set_cons_zero, Array.getD_eq_getD_getElem?, List.getElem?_toArray, List.getElem?_cons_succ, List.getElem?_cons_zero, Option.getD_some] <;> rfl) rfl (Below.refl _ _) hC
              · -- 9: Op.move (Operand.tmp 8)
                refine tab_plain fun K Q hK => ?_
                simp only [puts, List.foldr_nil]
                go_step
                refine fam_ex hK rfl rfl (by simp only [Act.put, List.setIfInBounds_toArray, List.set_cons_succ, List.set_cons_zero, Array.getD_eq_getD_getElem?, List.getElem?_toArray, List.getElem?_cons_succ, List.getElem?_cons_zero, Option.getD_some] <;> rfl) rfl (Below.refl _ _) hC
              · -- 10: Op.indexAddr 22 (Operand.tmp 86) (Operand.tmp 87)
                obtain ⟨h8, h9, -⟩ := hh
                have g8 : f 8 = _ := h8
                have g9 : f 9 = _ := h9
                refine tab_plain fun K Q hK => ?_
                simp only [puts, List.foldr_cons, List.foldr_nil, List.setIfInBounds_toArray, List.set_cons_succ, List.set_cons_zero, g8, g9]
                go_step
                refine fam_ex hK rfl rfl (by simp only [Act.put, List.setIfInBounds_toArray, List.set_cons_succ, List.set_cons_zero, Array.getD_eq_getD_getElem?, List.getElem?_toArray, List.getElem?_cons_succ, List.getElem?_cons_zero, Option.getD_some] <;> rfl) rfl (Below.refl _ _) hC
              · -- 11: Op.indexAddr 39 (Operand.tmp 88) (Operand.const (Value.int IntKind.i64 1))
                obtain ⟨h10, -⟩ := hh
                have g10 : f 10 = _ := h10
                refine tab_plain fun K Q hK => ?_
                simp only [puts, List.foldr_cons, List.foldr_nil, List.setIfInBounds_toArray, List.set_cons_succ, List.set_cons_zero, g10]
                go_step
                refine fam_ex hK rfl rfl (by simp only [Act.put, List.setIfInBounds_toArray, List.set_cons_succ, List.set_cons_zero, Array.getD_eq_getD_getElem?, List.getElem?_toArray, List.getElem?_cons_succ, List.getElem?_cons_zero, Option.getD_some] <;> rfl) rfl (Below.refl _ _) hC
              · -- 12: Op.load 3 (Operand.tmp 89)
                obtain ⟨h11, -⟩ := hh
                have g11 : f 11 = _ := h11
                refine tab_plain fun K Q hK => ?_
                simp only [puts, List.foldr_cons, List.foldr_nil, List.setIfInBounds_toArray, List.set_cons_succ, List.set_cons_zero, g11]
                obtain ⟨-, -, ⟨q0, q1⟩, -⟩ := HZ.out W hC
                go_step
                refine fam_ex hK rfl rfl (by simp only [Act.put, List.setIfInBounds_toArray, List.set_cons_succ, List.set_cons_zero, Array.getD_eq_getD_getElem?, List.getElem?_toArray, List.getElem?_cons_succ, List.getElem?_cons_zero, Option.getD_some] <;> rfl) rfl (Below.refl _ _) hC
              · -- 13: Op.call { callee := Callee.value (Operand.func 15), args := #[Operand.tmp 78, Operand.tmp 
                obtain ⟨h0, h6, h12, -⟩ := hh
                have g0 : f 0 = _ := h0
                have g6 : f 6 = _ := h6
                have g12 : f 12 = _ := h12
                refine tab_plain fun K Q hK => ?_
                simp only [puts, List.foldr_cons, List.foldr_nil, List.setIfInBounds_toArray, List.set_cons_succ, List.set_cons_zero, g0, g6, g12]
                obtain ⟨-, -, -, hI, h8⟩ := HZ.out W hC
                obtain ⟨-, -, -, -, hTW⟩ := HB.out W h8
                go_step
                go_at_call 15
                refine (before_any x y hI hTW).mono ?_
                rintro e w' ⟨rfl, hb⟩
                rw [HLE.out]
                exact fam_fin hK rfl rfl hb (hC.trans (hb.mono hC.size))
            case zrest =>
              intro f WB hC hh
              obtain ⟨h0, h1, h2, h3, h4, h5, h6, h7, h8, h9, h10, h11, h12, h13, -⟩ := hh
              have g0 : f 0 = _ := h0
              have g1 : f 1 = _ := h1
              have g2 : f 2 = _ := h2
              have g3 : f 3 = _ := h3
              have g4 : f 4 = _ := h4
              have g5 : f 5 = _ := h5
              have g6 : f 6 = _ := h6
              have g7 : f 7 = _ := h7
              have g8 : f 8 = _ := h8
              have g9 : f 9 = _ := h9
              have g10 : f 10 = _ := h10
              have g11 : f 11 = _ := h11
              have g12 : f 12 = _ := h12
              have g13 : f 13 = _ := h13
              simp only [puts, List.foldr_cons, List.foldr_nil, List.setIfInBounds_toArray, List.set_cons_succ, List.set_cons_zero, g0, g1, g2, g3, g4, g5, g6, g7, g8, g9, g10, g11, g12, g13]
              clear h0 h1 h2 h3 h4 h5 h6 h7 h8 h9 h10 h11 h12 h13 g0 g1 g2 g3 g4 g5 g6 g7 g8 g9 g10 g11 g12 g13
              obtain ⟨-, -, -, -, hB⟩ := HZ.out WB hC
              clear hrA hC
              go_wp2
              go_roundw
              case rel => exact ⟨i + 1, hlt, by go_num, hB⟩
              case measure => simp [intOf]; omega
        · obtain rfl : k = i := by omega
          have t1 : decide ((k : Int) < k) = false := decide_eq_false (by omega)
          go_wp2
          go_ret
          exact ⟨rfl, hb08.trans (hB.mono hb08.size)⟩
end Go.Proofs.YtofnbndpoiohhaaDoor
