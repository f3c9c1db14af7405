/-
  WalRoundTrip: the walk.
-/
import Derived.Test.YtpmhnmkpmkeadaaWalK
set_option linter.unusedSimpArgs false
set_option linter.unusedVariables false
set_option maxHeartbeats 8000000
namespace Go.Proofs.Ytpmhnmkpmkeadaa
open Go.RowKit

theorem fewL_yes {rs : List (List Int)} (h : fewL rs = true) (hb : ∀ r ∈ rs, Bytes r) : Ok100 rs ∧ rs.length ≤ 12 := by
  unfold fewL at h
  rw [Bool.and_eq_true, List.all_eq_true] at h
  exact ⟨fun r hr => ⟨hb r hr, of_decide_eq_true (h.1 r hr)⟩, of_decide_eq_true h.2⟩

set_option maxRecDepth 20000 in
theorem walRoundTrip_walk (a : Option Addr) (len cap : Nat) (rs : List (List Int)) (w : World) (hs : IsRecs w a len cap rs) (hb : ∀ r ∈ rs, Bytes r) :
    Calls Try.prog 4 #[.slice a len cap] w fun e w' => e = .returned (.bool true) ∧ Below w.heap.size w w' := by
  have hcap := hs.cap
  unfold maxLen at hcap
  have HL := Lib.hid hs.1
  go_enter Try.func4, Try.ntmps4
  go_wp2_with (fail)
  go_at_call 10
  refine (awake_any w).mono ?_
  rintro e w1 ⟨rfl, hb1⟩
  have hs1 := hs.later hb1
  cases hfew : fewL rs with
  | false =>
    go_wp2_with (go_at_call 14; refine (Few_any _ _ _ _ _ hs1).mono ?_; rintro e w' ⟨rfl, rfl⟩; rw [hfew])
    go_ret
    exact ⟨rfl, hb1⟩
  | true =>
  obtain ⟨hok, h12⟩ := fewL_yes hfew hb
  rw [hs.1] at h12
  go_wp2_with (go_at_call 14; refine (Few_any _ _ _ _ _ hs1).mono ?_; rintro e w' ⟨rfl, rfl⟩; rw [hfew])
  obtain ⟨b3, hb3⟩ : ∃ b3, w1.heap.size = b3 := ⟨_, rfl⟩
  obtain ⟨W0, hW0⟩ : ∃ W0, w1.alloc (.cells #[.slice none 0 0, .int .i64 0] 26) = W0 := ⟨_, rfl⟩
  have hbA : Below w.heap.size w W0 := by rw [← hW0]; exact hb1.alloc hb1.size _
  have hz0 : W0.heap.size = b3 + 1 := by rw [← hW0, ← hb3]; simp
  have hbl : Box2 W0 b3 (.slice none 0 0) (.int .i64 0) := by rw [← hW0, ← hb3]; exact Box2.new _ _ _ _
  have hwb3 : w.heap.size ≤ b3 := by rw [← hb3]; exact hb1.size
  simp only [hb3]
  try rw [hW0]
  clear hW0 hb3
  go_loopw [4] (fun i W => ∃ (k : Nat) (fa : Option Addr) (fc : Nat), k ≤ len ∧ i = .int .i64 (k : Int) ∧ Below w.heap.size w W ∧ b3 + 1 ≤ W.heap.size ∧
    Box2 W b3 (.slice fa (32 * (allP (rs.take k)).length) fc) (.int .i64 0) ∧
    W.ownsRow (b3 + 1) 5 1 (.slice fa (32 * (allP (rs.take k)).length) fc) (32 * (allP (rs.take k)).length) (ivs .u8 (encP basis (allP (rs.take k))))) (fun i _ => len - (intOf i).toNat)
  case atStart => exact ⟨0, none, 0, Nat.zero_le _, rfl, hbA, Nat.le_of_eq hz0.symm, hbl, World.ownsRow_nil _ _ _ _⟩
  case round =>
    obtain ⟨k, fa, fc, hk, rfl, hB, hsz, hX, ho⟩ := hrel
    obtain ⟨fl, hfl⟩ : ∃ fl, 32 * (allP (rs.take k)).length = fl := ⟨_, rfl⟩
    have hfl5 : fl ≤ 32 * (5 * 12) := by
      have := (hok.take k).cnt
      rw [List.length_take] at this
      omega
    obtain ⟨P, hP⟩ : ∃ P, allP (rs.take k) = P := ⟨_, rfl⟩
    have hPo : ∀ x ∈ P, OkP x := by rw [← hP]; exact allP_ok (hok.okR.take k)
    rw [hfl] at hX ho
    rw [hP] at ho
    obtain ⟨q0, q1, q2, q3⟩ := hX.cells
    by_cases hlt : k < len
    · have dlt : decide ((k : Int) < len) = true := decide_eq_true (by omega)
      obtain ⟨b, off, ai, ci, rfl, hbl', hcell, hrow⟩ := hs.at w (Below.refl _ _) k hlt
      obtain ⟨r, hr⟩ : ∃ r, gl rs k = r := ⟨_, rfl⟩
      have hrok := hok _ (gl_mem rs k (by rw [HL.out]; exact hlt))
      rw [hr] at hcell hrow hrok
      have hrb := hrok.1
      have hr100 := hrok.2
      have hPn : allP (rs.take (k + 1)) = P ++ partsL r := by rw [take_succ_gl rs k (by rw [HL.out]; exact hlt), allP_append, allP_one, hP, hr]
      obtain ⟨lr, hlr⟩ : ∃ lr, r.length = lr := ⟨_, rfl⟩
      rw [hlr] at hcell hrow hr100
      have HPn := Lib.hid hPn
      clear hPn
      obtain ⟨nl, hnl⟩ : ∃ nl, fl + 32 * cellsN lr = nl := ⟨_, rfl⟩
      have hcp := cellsN_pos lr
      have hc5 : cellsN lr ≤ 5 := by unfold cellsN; split <;> omega
      go_wp2
      obtain ⟨S, hSd⟩ : ∃ S : (Nat → Bool) → (Nat → Value) → World → Prop, S = fun L f W' => ((Below w.heap.size w W') ∧ Box2 W' (b3) (.slice fa fl fc) (.int .i64 0) ∧ (W'.ownsRow (b3 + 1) 5 1 (.slice fa fl fc) fl (ivs .u8 (encP basis P)) ∧ b3 + 1 ≤ W'.heap.size) ∧ (stage L f W' (fun _ => True) [(10, fun f W' => ∃ a c g, f 9 = .pointer (some ⟨g, 0, none⟩) ∧ b3 + 1 ≤ g ∧ Box2 W' g (.slice a nl c) (.int .i64 0) ∧ W'.ownsRow (b3 + 1) 5 1 (.slice a nl c) nl (ivs .u8 (encP basis (P ++ partsL r)))), (7, fun f W' => ∃ a c, f 7 = .agg #[.slice a nl c, .int .i64 0] ∧ W'.ownsRow (b3 + 1) 5 1 (.slice a nl c) nl (ivs .u8 (encP basis (P ++ partsL r)))), (6, fun f W' => ∃ a c, f 6 = .tuple #[.agg #[.slice a nl c, .int .i64 0], .int .i64 0] ∧ W'.ownsRow (b3 + 1) 5 1 (.slice a nl c) nl (ivs .u8 (encP basis (P ++ partsL r)))), (5, fun f W' => ∃ a c, f 5 = .tuple #[.agg #[.slice a nl c, .int .i64 0], .int .i64 0] ∧ W'.ownsRow (b3 + 1) 5 1 (.slice a nl c) nl (ivs .u8 (encP basis (P ++ partsL r))))]) ∧ (stage L f W' (fun _ => True) [(10, fun _ _ => True), (9, fun f W' => ∃ g, f 9 = .pointer (some ⟨g, 0, none⟩) ∧ b3 + 1 ≤ g ∧ W'.heap[g]? = some (.cells #[.slice none 0 0, .int .i64 0] 26 (0, 0)))])) := ⟨_, rfl⟩
      refine wp_region_st mixed (by kernel_rfl) [[], [], [], [(1, 23), (2, 24)], [(3, 25)], [(0, 22), (4, 26)], [(5, 27)], [(6, 21)], [(6, 21)], [], [(9, 5), (7, 28), (5, 27), (0, 22), (1, 23), (2, 24), (3, 25), (4, 26), (5, 27), (6, 21), (7, 28), (9, 5)], [(8, 29), (0, 22), (1, 23), (2, 24), (3, 25), (4, 26), (5, 27), (6, 21), (7, 28), (8, 29), (9, 5)]] [(0, 22), (1, 23), (2, 24), (3, 25), (4, 26), (5, 27), (6, 21), (7, 28), (8, 29), (9, 5), (11, 6)] rfl rfl [EV ?e0, EV ?e1, EV ?e2, EV ?e3, EV ?e4, fun v => ∃ a c, v = .tuple #[.agg #[.slice a nl c, .int .i64 0], .int .i64 0], fun v => ∃ a c, v = .tuple #[.agg #[.slice a nl c, .int .i64 0], .int .i64 0], fun v => ∃ a c, v = .agg #[.slice a nl c, .int .i64 0], EV ?e8, fun v => ∃ g, v = .pointer (some ⟨g, 0, none⟩), fun _ => True, EV ?e11] S ?start ?steps ?rest
      case start =>
        intro f
        rw [hSd]
        exact ⟨hB.drew, hX, ⟨ho, hsz⟩, trivial, trivial⟩
      case steps =>
        refine ⟨fun L f W hi hd hdn hh hS => ?_, fun L f W hi hd hdn hh hS => ?_, fun L f W hi hd hdn hh hS => ?_, fun L f W hi hd hdn hh hS => ?_, fun L f W hi hd hdn hh hS => ?_, fun L f W hi hd hdn hh hS => ?_, fun L f W hi hd hdn hh hS => ?_, fun L f W hi hd hdn hh hS => ?_, fun L f W hi hd hdn hh hS => ?_, fun L f W hi hd hdn hh hS => ?_, fun L f W hi hd hdn hh hS => ?_, fun L f W hi hd hdn hh hS => ?_, trivial⟩
        · -- 0: Op.load 26 (Operand.tmp 3)
          unfold stStep
          rw [if_pos (by simp [Region.wanted])]
          intro K Q hK
          simp only [puts, List.foldr_nil]
          have hS' := hS
          rw [hSd] at hS'
          obtain ⟨q0, q1, -, -⟩ := hS'.2.1.cells
          go_step
          refine st_ex hK rfl rfl (by simp only [Act.put, List.setIfInBounds_toArray, List.set_cons_succ, List.set_cons_zero, Array.getD_eq_getD_getElem?, List.getElem?_toArray, List.getElem?_cons_succ, List.getElem?_cons_zero, Option.getD_some] <;> rfl) rfl (by rw [hSd] at hS ⊢; exact hS)
        · -- 1: Op.move (Operand.tmp 0)
          unfold stStep
          rw [if_pos (by simp [Region.wanted])]
          intro K Q hK
          simp only [puts, List.foldr_nil]
          go_step
          refine st_ex hK rfl rfl (by simp only [Act.put, List.setIfInBounds_toArray, List.set_cons_succ, List.set_cons_zero, Array.getD_eq_getD_getElem?, List.getElem?_toArray, List.getElem?_cons_succ, List.getElem?_cons_zero, Option.getD_some] <;> rfl) rfl (by rw [hSd] at hS ⊢; exact hS)
        · -- 2: Op.move (Operand.tmp 4)
          unfold stStep
          rw [if_pos (by simp [Region.wanted])]
          intro K Q hK
          simp only [puts, List.foldr_nil]
          go_step
          refine st_ex hK rfl rfl (by simp only [Act.put, List.setIfInBounds_toArray, List.set_cons_succ, List.set_cons_zero, Array.getD_eq_getD_getElem?, List.getElem?_toArray, List.getElem?_cons_succ, List.getElem?_cons_zero, Option.getD_some] <;> rfl) rfl (by rw [hSd] at hS ⊢; exact hS)
        · -- 3: Op.indexAddr 30 (Operand.tmp 23) (Operand.tmp 24)
          obtain ⟨h1, h2, -⟩ := hh
          have g1 : f 1 = _ := h1
          have g2 : f 2 = _ := h2
          unfold stStep
          rw [if_pos (by simp [Region.wanted])]
          intro K Q hK
          simp only [puts, List.foldr_cons, List.foldr_nil, List.setIfInBounds_toArray, List.set_cons_succ, List.set_cons_zero, g1, g2]
          go_step
          refine st_ex hK rfl rfl (by simp only [Act.put, List.setIfInBounds_toArray, List.set_cons_succ, List.set_cons_zero, Array.getD_eq_getD_getElem?, List.getElem?_toArray, List.getElem?_cons_succ, List.getElem?_cons_zero, Option.getD_some] <;> rfl) rfl (by rw [hSd] at hS ⊢; exact hS)
        · -- 4: Op.load 24 (Operand.tmp 25)
          obtain ⟨h3, -⟩ := hh
          have g3 : f 3 = _ := h3
          unfold stStep
          rw [if_pos (by simp [Region.wanted])]
          intro K Q hK
          simp only [puts, List.foldr_cons, List.foldr_nil, List.setIfInBounds_toArray, List.set_cons_succ, List.set_cons_zero, g3]
          have hS' := hS
          rw [hSd] at hS'
          have hc4 := (hS'.1.cell (p := ⟨b, off + k, none⟩) hbl').trans hcell
          go_step
          refine st_ex hK rfl rfl (by simp only [Act.put, List.setIfInBounds_toArray, List.set_cons_succ, List.set_cons_zero, Array.getD_eq_getD_getElem?, List.getElem?_toArray, List.getElem?_cons_succ, List.getElem?_cons_zero, Option.getD_some] <;> rfl) rfl (by rw [hSd] at hS ⊢; exact hS)
        · -- 5: Op.call { callee := Callee.value (Operand.func 11), args := #[Operand.tmp 22, Operand.tmp 
          obtain ⟨h0, h4, -⟩ := hh
          have g0 : f 0 = _ := h0
          have g4 : f 4 = _ := h4
          have l6 : L 6 = false := Bool.eq_false_iff.2 fun h => by have q := hdn 6 _ h rfl 5 (by decide); rw [show L 5 = false from hi] at q; cases q
          have l7 : L 7 = false := Bool.eq_false_iff.2 fun h => by have q := hdn 7 _ h rfl 6 (by decide); rw [show L 6 = false from l6] at q; cases q
          have l10 : L 10 = false := Bool.eq_false_iff.2 fun h => by have q := hdn 10 _ h rfl 7 (by decide); rw [show L 7 = false from l7] at q; cases q
          unfold stStep
          rw [if_pos (by simp [Region.wanted])]
          intro K Q hK
          simp only [puts, List.foldr_cons, List.foldr_nil, List.setIfInBounds_toArray, List.set_cons_succ, List.set_cons_zero, g0, g4]
          rw [hSd] at hS hK
          have l5 : L 5 = false := hi
          simp only [stage, l6, l7, l10, l5, if_true, if_false, Bool.false_eq_true] at hS
          obtain ⟨hB, hX, ⟨ho, hsz⟩, hst1, hst2⟩ := hS
          go_step
          go_at_call 11
          refine (append_any _ _ _ _ _ _ _ _ _ _ (IsInts.of_owns ho).1 hPo (hrow.later hB) hrb (by omega) (by omega)).mono ?_
          rintro e w' ⟨⟨a', n', c', rfl, hown', hn'⟩, hb'⟩
          rw [hnl] at hn'
          subst hn'
          refine hK.out _ _ rfl ⟨_, _, rfl⟩ ?_
          refine ⟨hB.trans (hb'.mono hB.size), hX.later hb', ⟨ho.kept_below hb', Nat.le_trans hsz hb'.size⟩, ?_, ?_⟩
          · simp only [stage, l6, l7, l10]
            exact ⟨_, _, rfl, hown'.from_mono hsz⟩
          · by_cases h9 : L 9 = true
            · simp only [stage, l10, h9] at hst2 ⊢
              obtain ⟨g, e1, e2, e3⟩ := hst2
              exact ⟨g, e1, e2, (hb'.block g (Array.getElem?_eq_some_iff.1 e3).1).trans e3⟩
            · rw [Bool.not_eq_true] at h9
              simp only [stage, l10, h9]
              trivial
        · -- 6: Op.move (Operand.tmp 27)
          obtain ⟨h5, -⟩ := hh
          obtain ⟨a5, c5, g5⟩ := h5
          have l5 : L 5 = true := hd 5 (by decide)
          have l7 : L 7 = false := Bool.eq_false_iff.2 fun h => by have q := hdn 7 _ h rfl 6 (by decide); rw [show L 6 = false from hi] at q; cases q
          have l10 : L 10 = false := Bool.eq_false_iff.2 fun h => by have q := hdn 10 _ h rfl 7 (by decide); rw [show L 7 = false from l7] at q; cases q
          unfold stStep
          rw [if_pos (by simp [Region.wanted])]
          intro K Q hK
          simp only [puts, List.foldr_cons, List.foldr_nil, List.setIfInBounds_toArray, List.set_cons_succ, List.set_cons_zero, g5]
          rw [hSd] at hS hK
          have l6 : L 6 = false := hi
          simp only [stage, l7, l10, l6, l5, if_true, if_false, Bool.false_eq_true] at hS
          obtain ⟨hB, hX, ho, hst1, hst2⟩ := hS
          go_step
          refine hK.out _ _ rfl ⟨_, _, rfl⟩ ?_
          refine ⟨hB, hX, ho, ?_, ?_⟩
          · simp only [stage, l5, l6, l7, l10] at hst1 ⊢
            obtain ⟨a, c, e1, e2⟩ := hst1
            refine ⟨a, c, ?_, e2⟩
            have e5 : f 5 = _ := g5
            rw [e5] at e1
            rw [← e1]
            rfl
          · by_cases h9 : L 9 = true
            · simp only [stage, l10, h9] at hst2 ⊢
              obtain ⟨g, e1, e2, e3⟩ := hst2
              exact ⟨g, e1, e2, e3⟩
            · rw [Bool.not_eq_true] at h9
              simp only [stage, l10, h9]
              trivial
        · -- 7: Op.extract (Operand.tmp 21) 0
          obtain ⟨h6, -⟩ := hh
          obtain ⟨a6, c6, g6⟩ := h6
          have l6 : L 6 = true := hd 6 (by decide)
          have l10 : L 10 = false := Bool.eq_false_iff.2 fun h => by have q := hdn 10 _ h rfl 7 (by decide); rw [show L 7 = false from hi] at q; cases q
          unfold stStep
          rw [if_pos (by simp [Region.wanted])]
          intro K Q hK
          simp only [puts, List.foldr_cons, List.foldr_nil, List.setIfInBounds_toArray, List.set_cons_succ, List.set_cons_zero, g6]
          rw [hSd] at hS hK
          have l7 : L 7 = false := hi
          simp only [stage, l10, l7, l6, if_true, if_false, Bool.false_eq_true] at hS
          obtain ⟨hB, hX, ho, hst1, hst2⟩ := hS
          go_step
          refine hK.out _ _ rfl ⟨_, _, rfl⟩ ?_
          refine ⟨hB, hX, ho, ?_, ?_⟩
          · simp only [stage, l6, l7, l10] at hst1 ⊢
            obtain ⟨a, c, e1, e2⟩ := hst1
            refine ⟨a, c, ?_, e2⟩
            have e6 : f 6 = _ := g6
            rw [e6] at e1
            simp only [Value.tuple.injEq, Array.mk.injEq, List.cons.injEq, Value.agg.injEq, Value.slice.injEq, and_true, true_and] at e1
            obtain ⟨rfl, rfl⟩ := e1
            rfl
          · by_cases h9 : L 9 = true
            · simp only [stage, l10, h9] at hst2 ⊢
              obtain ⟨g, e1, e2, e3⟩ := hst2
              exact ⟨g, e1, e2, e3⟩
            · rw [Bool.not_eq_true] at h9
              simp only [stage, l10, h9]
              trivial
        · -- 8: Op.extract (Operand.tmp 21) 1
          obtain ⟨h6, -⟩ := hh
          obtain ⟨a6, c6, g6⟩ := h6
          unfold stStep
          rw [if_pos (by simp [Region.wanted])]
          intro K Q hK
          simp only [puts, List.foldr_cons, List.foldr_nil, List.setIfInBounds_toArray, List.set_cons_succ, List.set_cons_zero, g6]
          go_step
          refine st_ex hK rfl rfl (by simp only [Act.put, List.setIfInBounds_toArray, List.set_cons_succ, List.set_cons_zero, Array.getD_eq_getD_getElem?, List.getElem?_toArray, List.getElem?_cons_succ, List.getElem?_cons_zero, Option.getD_some] <;> rfl) rfl (by rw [hSd] at hS ⊢; exact hS)
        · -- 9: Op.alloc 26
          have l10 : L 10 = false := Bool.eq_false_iff.2 fun h => by have q := hdn 10 _ h rfl 9 (by decide); rw [show L 9 = false from hi] at q; cases q
          unfold stStep
          rw [if_pos (by simp [Region.wanted])]
          intro K Q hK
          simp only [puts, List.foldr_nil]
          rw [hSd] at hS hK
          have l9 : L 9 = false := hi
          simp only [stage, l10, l9, if_true, if_false, Bool.false_eq_true] at hS
          obtain ⟨hB, hX, ⟨ho, hsz⟩, hst1, hst2⟩ := hS
          go_step
          have hb' : Below W.heap.size W (W.alloc (.cells #[.slice none 0 0, .int .i64 0] 26)) := (Below.refl _ _).alloc (Nat.le_refl _) _
          refine hK.out _ _ rfl ⟨_, rfl⟩ ?_
          refine ⟨hB.trans (hb'.mono hB.size), hX.later hb', ⟨ho.kept_below hb', Nat.le_trans hsz hb'.size⟩, ?_, ?_⟩
          · by_cases h7 : L 7 = true
            · simp only [stage, l10, h7] at hst1 ⊢
              obtain ⟨a, c, e1, e2⟩ := hst1
              exact ⟨a, c, e1, e2.kept_below hb'⟩
            · rw [Bool.not_eq_true] at h7
              by_cases h6 : L 6 = true
              · simp only [stage, l10, h7, h6] at hst1 ⊢
                obtain ⟨a, c, e1, e2⟩ := hst1
                exact ⟨a, c, e1, e2.kept_below hb'⟩
              · rw [Bool.not_eq_true] at h6
                by_cases h5 : L 5 = true
                · simp only [stage, l10, h7, h6, h5] at hst1 ⊢
                  obtain ⟨a, c, e1, e2⟩ := hst1
                  exact ⟨a, c, e1, e2.kept_below hb'⟩
                · rw [Bool.not_eq_true] at h5
                  simp only [stage, l10, h7, h6, h5]
                  trivial
          · simp only [stage, l10]
            exact ⟨_, rfl, hsz, heap_alloc_new W _⟩
        · -- 10: Op.store 26 (Operand.tmp 5) (Operand.tmp 28)
          obtain ⟨h9, h7, h5, h0, h1, h2, h3, h4, _, h6, _, _, -⟩ := hh
          obtain ⟨q9, g9⟩ := h9
          obtain ⟨a7, c7, g7⟩ := h7
          obtain ⟨a5, c5, g5⟩ := h5
          have g0 : f 0 = _ := h0
          have g1 : f 1 = _ := h1
          have g2 : f 2 = _ := h2
          have g3 : f 3 = _ := h3
          have g4 : f 4 = _ := h4
          obtain ⟨a6, c6, g6⟩ := h6
          have l7 : L 7 = true := hd 7 (by decide)
          have l9 : L 9 = true := hd 9 (by decide)
          unfold stStep
          rw [if_pos (by simp [Region.wanted])]
          intro K Q hK
          simp only [puts, List.foldr_cons, List.foldr_nil, List.setIfInBounds_toArray, List.set_cons_succ, List.set_cons_zero, g9, g7, g5, g0, g1, g2, g3, g4, g6]
          rw [hSd] at hS hK
          have l10 : L 10 = false := hi
          simp only [stage, l10, l7, l9, if_true, if_false, Bool.false_eq_true] at hS
          obtain ⟨hB, hX, ⟨ho, hsz⟩, hst1, hst2⟩ := hS
          obtain ⟨a, c, e1, e2⟩ := hst1
          obtain ⟨g, e3, e4, e5⟩ := hst2
          have e7 : f 7 = _ := g7
          have e9 : f 9 = _ := g9
          rw [e7] at e1
          rw [e9] at e3
          simp only [Value.agg.injEq, Array.mk.injEq, List.cons.injEq, Value.slice.injEq, and_true, true_and] at e1
          obtain ⟨rfl, rfl⟩ := e1
          simp only [Value.pointer.injEq, Option.some.injEq, Addr.mk.injEq, and_true] at e3
          subst e3
          have e5b : Box2 W q9 (.slice none 0 0) (.int .i64 0) := ⟨_, e5⟩
          obtain ⟨q0, q1, q2, q3⟩ := e5b.cells
          go_step
          refine hK.out _ _ rfl trivial ?_
          have k1 := owns_set2 ho e5 (by decide) (.slice a7 nl c7) (.int .i64 0)
          have k2 := owns_set2 e2 e5 (by decide) (.slice a7 nl c7) (.int .i64 0)
          refine ⟨(hB.setCell (p := ⟨q9, 0, none⟩) (by show _ ≤ q9; omega) _).setCell (p := ⟨q9, 1, none⟩) (by show _ ≤ q9; omega) _, (hX.other _ (by show _ ≠ q9; omega) _).other _ (by show _ ≠ q9; omega) _, ⟨k1, by rw [World.size_setCell, World.size_setCell]; exact hsz⟩, ?_, trivial⟩
          show ∃ a c g', f 9 = .pointer (some ⟨g', 0, none⟩) ∧ b3 + 1 ≤ g' ∧ Box2 _ g' (.slice a nl c) (.int .i64 0) ∧ World.ownsRow _ (b3 + 1) _ _ (.slice a nl c) nl _
          exact ⟨_, _, q9, e9, e4, e5b.store _ _, k2⟩
        · -- 11: Op.assign (Operand.tmp 29)
          obtain ⟨h8, h0, h1, h2, h3, h4, h5, h6, h7, _, h9, -⟩ := hh
          have g8 : f 8 = _ := h8
          have g0 : f 0 = _ := h0
          have g1 : f 1 = _ := h1
          have g2 : f 2 = _ := h2
          have g3 : f 3 = _ := h3
          have g4 : f 4 = _ := h4
          obtain ⟨a5, c5, g5⟩ := h5
          obtain ⟨a6, c6, g6⟩ := h6
          obtain ⟨a7, c7, g7⟩ := h7
          obtain ⟨q9, g9⟩ := h9
          unfold stStep
          rw [if_pos (by simp [Region.wanted])]
          intro K Q hK
          simp only [puts, List.foldr_cons, List.foldr_nil, List.setIfInBounds_toArray, List.set_cons_succ, List.set_cons_zero, g8, g0, g1, g2, g3, g4, g5, g6, g7, g9]
          go_step
          refine st_ex hK rfl rfl (by simp only [Act.put, List.setIfInBounds_toArray, List.set_cons_succ, List.set_cons_zero, Array.getD_eq_getD_getElem?, List.getElem?_toArray, List.getElem?_cons_succ, List.getElem?_cons_zero, Option.getD_some] <;> rfl) rfl (by rw [hSd] at hS ⊢; exact hS)
      case rest =>
        intro L f W2 hL hh hS
        rw [hSd] at hS
        clear hSd
        have l10 : L 10 = true := hL 10 (by decide)
        simp only [stage, l10, if_true] at hS
        clear hL l10
        obtain ⟨h0, h1, h2, h3, h4, h5, h6, h7, h8, h9, h11, -⟩ := hh
        have g0 : f 0 = _ := h0
        have g1 : f 1 = _ := h1
        have g2 : f 2 = _ := h2
        have g3 : f 3 = _ := h3
        have g4 : f 4 = _ := h4
        obtain ⟨a5, c5, g5⟩ := h5
        obtain ⟨a6, c6, g6⟩ := h6
        obtain ⟨a7, c7, g7⟩ := h7
        have g8 : f 8 = _ := h8
        obtain ⟨q9, g9⟩ := h9
        have g11 : f 11 = _ := h11
        simp only [puts, List.foldr_cons, List.foldr_nil, List.setIfInBounds_toArray, List.set_cons_succ, List.set_cons_zero, g0, g1, g2, g3, g4, g5, g6, g7, g8, g9, g11]
        clear h0 h1 h2 h3 h4 h8 h11 g0 g1 g2 g3 g4 g8 g11
        obtain ⟨hB, hX, ⟨ho, hsz⟩, hst1, hst2⟩ := hS
        obtain ⟨a2, c2, g, e3, e4, hG, hrow2⟩ := hst1
        have e9 : f 9 = _ := g9
        rw [e3] at e9
        simp only [Value.pointer.injEq, Option.some.injEq, Addr.mk.injEq, and_true] at e9
        subst e9
        have dnl : decide (nl ≤ fl) = false := decide_eq_false (by omega)
        obtain ⟨zs, hzs⟩ : ∃ zs, encP basis P = zs := ⟨_, rfl⟩
        obtain ⟨ys, hys⟩ : ∃ ys, encP basis (P ++ partsL r) = ys := ⟨_, rfl⟩
        have hzl : zs.length = fl := by rw [← hzs, encP_length hPo, ← hfl, hP]
        have hyt : ys.take fl = zs := by rw [← hys, encP_append, hzs, ← hzl, List.take_left]
        rw [hzs] at ho
        rw [hys] at hrow2
        have hI1 := (IsInts.of_owns ho).1
        have hI2 := (IsInts.of_owns hrow2).1
        have hI3 : IsInts .u8 W2 a2 fl c2 zs := by
          have := hI2.slice 0 fl c2 (Nat.zero_le _) (by omega) (by have := hI2.cap; omega) (Nat.le_refl _) (a' := a2) (fun h => (by cases a2 with | none => rfl | some x => simp [Addr.add])) (fun _ => rfl)
          simpa [hyt] using this
        have hc2 := hI2.cap
        unfold maxLen at hc2
        go_wp2_with (fail)
        refine wp_region_grow mixed (by kernel_rfl) [[], [(0, 30)], [(1, 31)], [(2, 32)], [(3, 33), (2, 32)], [(4, 34), (2, 32)], [(2, 32)], [(6, 36), (2, 32)], [(7, 37), (2, 32)], [(5, 35), (8, 38), (2, 32)], [(2, 32), (9, 39)], [(10, 40), (2, 32)], [(11, 41)], [(12, 42), (11, 41)], [(11, 41)], [(14, 44), (11, 41)], [(15, 45), (11, 41)], [(13, 43), (16, 46), (11, 41)], [(17, 47), (11, 41)], [(11, 41)], [(19, 49), (11, 41)], [(20, 50), (11, 41)], [(18, 48), (21, 51), (11, 41)], [(11, 41), (22, 52)], [(23, 53), (11, 41)], [(24, 54)], [(25, 55), (24, 54)], [(24, 54)], [(27, 57), (24, 54)], [(26, 56), (28, 58), (24, 54)], [(24, 54), (29, 59)]] [(0, 30), (1, 31), (2, 32), (3, 33), (4, 34), (5, 35), (6, 36), (7, 37), (8, 38), (9, 39), (10, 40), (11, 41), (12, 42), (13, 43), (14, 44), (15, 45), (16, 46), (17, 47), (18, 48), (19, 49), (20, 50), (21, 51), (22, 52), (23, 53), (24, 54), (25, 55), (26, 56), (27, 57), (28, 58), (29, 59), (30, 60)] rfl rfl [Ex ?ey0, Ex ?ey1, Ex ?ey2, Ex ?ey3, Ex ?ey4, Ex ?ey5, Ex ?ey6, Ex ?ey7, Ex ?ey8, Ex ?ey9, Ex ?ey10, Ex ?ey11, Ex ?ey12, Ex ?ey13, Ex ?ey14, Ex ?ey15, Ex ?ey16, Ex ?ey17, Ex ?ey18, Ex ?ey19, Ex ?ey20, Ex ?ey21, Ex ?ey22, Ex ?ey23, Ex ?ey24, Ex ?ey25, Ex ?ey26, Ex ?ey27, Ex ?ey28, Ex ?ey29, Ex ?ey30] ⟨stays_ex _, stays_ex _, stays_ex _, stays_ex _, stays_ex _, stays_ex _, stays_ex _, stays_ex _, stays_ex _, stays_ex _, stays_ex _, stays_ex _, stays_ex _, stays_ex _, stays_ex _, stays_ex _, stays_ex _, stays_ex _, stays_ex _, stays_ex _, stays_ex _, stays_ex _, stays_ex _, stays_ex _, stays_ex _, stays_ex _, stays_ex _, stays_ex _, stays_ex _, stays_ex _, stays_ex _, trivial⟩ ?ysteps ?yrest
        case ysteps =>
          refine ⟨fun f W hC hh => ?_, fun f W hC hh => ?_, fun f W hC hh => ?_, fun f W hC hh => ?_, fun f W hC hh => ?_, fun f W hC hh => ?_, fun f W hC hh => ?_, fun f W hC hh => ?_, fun f W hC hh => ?_, fun f W hC hh => ?_, fun f W hC hh => ?_, fun f W hC hh => ?_, fun f W hC hh => ?_, fun f W hC hh => ?_, fun f W hC hh => ?_, fun f W hC hh => ?_, fun f W hC hh => ?_, fun f W hC hh => ?_, fun f W hC hh => ?_, fun f W hC hh => ?_, fun f W hC hh => ?_, fun f W hC hh => ?_, fun f W hC hh => ?_, fun f W hC hh => ?_, fun f W hC hh => ?_, fun f W hC hh => ?_, fun f W hC hh => ?_, fun f W hC hh => ?_, fun f W hC hh => ?_, fun f W hC hh => ?_, fun f W hC hh => ?_, trivial⟩
          · -- 0: Op.move (Operand.tmp 6)
            refine tab_plain fun K Q hK => ?_
            simp only [puts, List.foldr_nil]
            go_step
            refine fam_ex hK rfl rfl (by simp only [Act.put, List.setIfInBounds_toArray, List.set_cons_succ, List.set_cons_zero, Array.getD_eq_getD_getElem?, List.getElem?_toArray, List.getElem?_cons_succ, List.getElem?_cons_zero, Option.getD_some] <;> rfl) rfl (Below.refl _ _) hC
          · -- 1: Op.binOp BinOp.neq 27 (Operand.tmp 30) (Operand.const (Value.int IntKind.i64 0)) 27
            obtain ⟨h0, -⟩ := hh
            have g0 : f 0 = _ := h0
            refine tab_plain fun K Q hK => ?_
            simp only [puts, List.foldr_cons, List.foldr_nil, List.setIfInBounds_toArray, List.set_cons_succ, List.set_cons_zero, g0]
            go_step
            refine fam_ex hK rfl rfl (by simp only [Act.put, List.setIfInBounds_toArray, List.set_cons_succ, List.set_cons_zero, Array.getD_eq_getD_getElem?, List.getElem?_toArray, List.getElem?_cons_succ, List.getElem?_cons_zero, Option.getD_some] <;> rfl) rfl (Below.refl _ _) hC
          · -- 2: Op.move (Operand.tmp 31)
            obtain ⟨h1, -⟩ := hh
            have g1 : f 1 = _ := h1
            refine tab_plain fun K Q hK => ?_
            simp only [puts, List.foldr_cons, List.foldr_nil, List.setIfInBounds_toArray, List.set_cons_succ, List.set_cons_zero, g1]
            go_step
            refine fam_ex hK rfl rfl (by simp only [Act.put, List.setIfInBounds_toArray, List.set_cons_succ, List.set_cons_zero, Array.getD_eq_getD_getElem?, List.getElem?_toArray, List.getElem?_cons_succ, List.getElem?_cons_zero, Option.getD_some] <;> rfl) rfl (Below.refl _ _) hC
          · -- 3: Op.fieldAddr 26 (Operand.tmp 5) 0
            obtain ⟨h2, -⟩ := hh
            have g2 : f 2 = _ := h2
            refine tab_yes g2 fun K Q hK => ?_
            simp only [puts, List.foldr_cons, List.foldr_nil, List.setIfInBounds_toArray, List.set_cons_succ, List.set_cons_zero, g2]
            go_step
            refine fam_ex hK rfl rfl (by simp only [Act.put, List.setIfInBounds_toArray, List.set_cons_succ, List.set_cons_zero, Array.getD_eq_getD_getElem?, List.getElem?_toArray, List.getElem?_cons_succ, List.getElem?_cons_zero, Option.getD_some] <;> rfl) rfl (Below.refl _ _) hC
          · -- 4: Op.load 24 (Operand.tmp 33)
            obtain ⟨h3, h2, -⟩ := hh
            have g3 : f 3 = _ := h3
            have g2 : f 2 = _ := h2
            refine tab_yes g2 fun K Q hK => ?_
            simp only [puts, List.foldr_cons, List.foldr_nil, List.setIfInBounds_toArray, List.set_cons_succ, List.set_cons_zero, g3, g2]
            obtain ⟨q0, q1, -, -⟩ := (hG.later hC).cells
            go_step
            refine fam_ex hK rfl rfl (by simp only [Act.put, List.setIfInBounds_toArray, List.set_cons_succ, List.set_cons_zero, Array.getD_eq_getD_getElem?, List.getElem?_toArray, List.getElem?_cons_succ, List.getElem?_cons_zero, Option.getD_some] <;> rfl) rfl (Below.refl _ _) hC
          · -- 5: Op.call { callee := Callee.builtin Builtin.len, args := #[Operand.tmp 34], argTypes := #[2
            obtain ⟨h4, h2, -⟩ := hh
            have g4 : f 4 = _ := h4
            have g2 : f 2 = _ := h2
            refine tab_yes g2 fun K Q hK => ?_
            simp only [puts, List.foldr_cons, List.foldr_nil, List.setIfInBounds_toArray, List.set_cons_succ, List.set_cons_zero, g4, g2]
            go_step
            refine fam_ex hK rfl rfl (by simp only [Act.put, List.setIfInBounds_toArray, List.set_cons_succ, List.set_cons_zero, Array.getD_eq_getD_getElem?, List.getElem?_toArray, List.getElem?_cons_succ, List.getElem?_cons_zero, Option.getD_some] <;> rfl) rfl (Below.refl _ _) hC
          · -- 6: Op.fieldAddr 26 (Operand.tmp 3) 0
            obtain ⟨h2, -⟩ := hh
            have g2 : f 2 = _ := h2
            refine tab_yes g2 fun K Q hK => ?_
            simp only [puts, List.foldr_cons, List.foldr_nil, List.setIfInBounds_toArray, List.set_cons_succ, List.set_cons_zero, g2]
            go_step
            refine fam_ex hK rfl rfl (by simp only [Act.put, List.setIfInBounds_toArray, List.set_cons_succ, List.set_cons_zero, Array.getD_eq_getD_getElem?, List.getElem?_toArray, List.getElem?_cons_succ, List.getElem?_cons_zero, Option.getD_some] <;> rfl) rfl (Below.refl _ _) hC
          · -- 7: Op.load 24 (Operand.tmp 36)
            obtain ⟨h6, h2, -⟩ := hh
            have g6 : f 6 = _ := h6
            have g2 : f 2 = _ := h2
            refine tab_yes g2 fun K Q hK => ?_
            simp only [puts, List.foldr_cons, List.foldr_nil, List.setIfInBounds_toArray, List.set_cons_succ, List.set_cons_zero, g6, g2]
            obtain ⟨q0, q1, -, -⟩ := (hX.later hC).cells
            go_step
            refine fam_ex hK rfl rfl (by simp only [Act.put, List.setIfInBounds_toArray, List.set_cons_succ, List.set_cons_zero, Array.getD_eq_getD_getElem?, List.getElem?_toArray, List.getElem?_cons_succ, List.getElem?_cons_zero, Option.getD_some] <;> rfl) rfl (Below.refl _ _) hC
          · -- 8: Op.call { callee := Callee.builtin Builtin.len, args := #[Operand.tmp 37], argTypes := #[2
            obtain ⟨h7, h2, -⟩ := hh
            have g7 : f 7 = _ := h7
            have g2 : f 2 = _ := h2
            refine tab_yes g2 fun K Q hK => ?_
            simp only [puts, List.foldr_cons, List.foldr_nil, List.setIfInBounds_toArray, List.set_cons_succ, List.set_cons_zero, g7, g2]
            go_step
            refine fam_ex hK rfl rfl (by simp only [Act.put, List.setIfInBounds_toArray, List.set_cons_succ, List.set_cons_zero, Array.getD_eq_getD_getElem?, List.getElem?_toArray, List.getElem?_cons_succ, List.getElem?_cons_zero, Option.getD_some] <;> rfl) rfl (Below.refl _ _) hC
          · -- 9: Op.binOp BinOp.leq 3 (Operand.tmp 35) (Operand.tmp 38) 3
            obtain ⟨h5, h8, h2, -⟩ := hh
            have g5 : f 5 = _ := h5
            have g8 : f 8 = _ := h8
            have g2 : f 2 = _ := h2
            refine tab_yes g2 fun K Q hK => ?_
            simp only [puts, List.foldr_cons, List.foldr_nil, List.setIfInBounds_toArray, List.set_cons_succ, List.set_cons_zero, g5, g8, g2]
            go_step
            refine fam_ex hK rfl rfl (by simp only [Act.put, List.setIfInBounds_toArray, List.set_cons_succ, List.set_cons_zero, Array.getD_eq_getD_getElem?, List.getElem?_toArray, List.getElem?_cons_succ, List.getElem?_cons_zero, Option.getD_some] <;> rfl) rfl (Below.refl _ _) hC
          · -- 10: Op.pick (Operand.tmp 32) (Operand.const (Value.bool true)) (Operand.tmp 39)
            obtain ⟨h2, h9, -⟩ := hh
            have g2 : f 2 = _ := h2
            have g9 : f 9 = _ := h9
            refine tab_plain fun K Q hK => ?_
            simp only [puts, List.foldr_cons, List.foldr_nil, List.setIfInBounds_toArray, List.set_cons_succ, List.set_cons_zero, g2, g9]
            go_step
            refine fam_ex hK rfl rfl (by simp only [Act.put, List.setIfInBounds_toArray, List.set_cons_succ, List.set_cons_zero, Array.getD_eq_getD_getElem?, List.getElem?_toArray, List.getElem?_cons_succ, List.getElem?_cons_zero, Option.getD_some] <;> rfl) rfl (Below.refl _ _) hC
          · -- 11: Op.move (Operand.tmp 40)
            obtain ⟨h10, h2, -⟩ := hh
            have g10 : f 10 = _ := h10
            have g2 : f 2 = _ := h2
            refine tab_plain fun K Q hK => ?_
            simp only [puts, List.foldr_cons, List.foldr_nil, List.setIfInBounds_toArray, List.set_cons_succ, List.set_cons_zero, g10, g2]
            go_step
            refine fam_ex hK rfl rfl (by simp only [Act.put, List.setIfInBounds_toArray, List.set_cons_succ, List.set_cons_zero, Array.getD_eq_getD_getElem?, List.getElem?_toArray, List.getElem?_cons_succ, List.getElem?_cons_zero, Option.getD_some] <;> rfl) rfl (Below.refl _ _) hC
          · -- 12: Op.fieldAddr 26 (Operand.tmp 5) 0
            obtain ⟨h11, -⟩ := hh
            have g11 : f 11 = _ := h11
            refine tab_yes g11 fun K Q hK => ?_
            simp only [puts, List.foldr_cons, List.foldr_nil, List.setIfInBounds_toArray, List.set_cons_succ, List.set_cons_zero, g11]
            go_step
            refine fam_ex hK rfl rfl (by simp only [Act.put, List.setIfInBounds_toArray, List.set_cons_succ, List.set_cons_zero, Array.getD_eq_getD_getElem?, List.getElem?_toArray, List.getElem?_cons_succ, List.getElem?_cons_zero, Option.getD_some] <;> rfl) rfl (Below.refl _ _) hC
          · -- 13: Op.load 24 (Operand.tmp 42)
            obtain ⟨h12, h11, -⟩ := hh
            have g12 : f 12 = _ := h12
            have g11 : f 11 = _ := h11
            refine tab_yes g11 fun K Q hK => ?_
            simp only [puts, List.foldr_cons, List.foldr_nil, List.setIfInBounds_toArray, List.set_cons_succ, List.set_cons_zero, g12, g11]
            obtain ⟨q0, q1, -, -⟩ := (hG.later hC).cells
            go_step
            refine fam_ex hK rfl rfl (by simp only [Act.put, List.setIfInBounds_toArray, List.set_cons_succ, List.set_cons_zero, Array.getD_eq_getD_getElem?, List.getElem?_toArray, List.getElem?_cons_succ, List.getElem?_cons_zero, Option.getD_some] <;> rfl) rfl (Below.refl _ _) hC
          · -- 14: Op.fieldAddr 26 (Operand.tmp 3) 0
            obtain ⟨h11, -⟩ := hh
            have g11 : f 11 = _ := h11
            refine tab_yes g11 fun K Q hK => ?_
            simp only [puts, List.foldr_cons, List.foldr_nil, List.setIfInBounds_toArray, List.set_cons_succ, List.set_cons_zero, g11]
            go_step
            refine fam_ex hK rfl rfl (by simp only [Act.put, List.setIfInBounds_toArray, List.set_cons_succ, List.set_cons_zero, Array.getD_eq_getD_getElem?, List.getElem?_toArray, List.getElem?_cons_succ, List.getElem?_cons_zero, Option.getD_some] <;> rfl) rfl (Below.refl _ _) hC
          · -- 15: Op.load 24 (Operand.tmp 44)
            obtain ⟨h14, h11, -⟩ := hh
            have g14 : f 14 = _ := h14
            have g11 : f 11 = _ := h11
            refine tab_yes g11 fun K Q hK => ?_
            simp only [puts, List.foldr_cons, List.foldr_nil, List.setIfInBounds_toArray, List.set_cons_succ, List.set_cons_zero, g14, g11]
            obtain ⟨q0, q1, -, -⟩ := (hX.later hC).cells
            go_step
            refine fam_ex hK rfl rfl (by simp only [Act.put, List.setIfInBounds_toArray, List.set_cons_succ, List.set_cons_zero, Array.getD_eq_getD_getElem?, List.getElem?_toArray, List.getElem?_cons_succ, List.getElem?_cons_zero, Option.getD_some] <;> rfl) rfl (Below.refl _ _) hC
          · -- 16: Op.call { callee := Callee.builtin Builtin.len, args := #[Operand.tmp 45], argTypes := #[2
            obtain ⟨h15, h11, -⟩ := hh
            have g15 : f 15 = _ := h15
            have g11 : f 11 = _ := h11
            refine tab_yes g11 fun K Q hK => ?_
            simp only [puts, List.foldr_cons, List.foldr_nil, List.setIfInBounds_toArray, List.set_cons_succ, List.set_cons_zero, g15, g11]
            go_step
            refine fam_ex hK rfl rfl (by simp only [Act.put, List.setIfInBounds_toArray, List.set_cons_succ, List.set_cons_zero, Array.getD_eq_getD_getElem?, List.getElem?_toArray, List.getElem?_cons_succ, List.getElem?_cons_zero, Option.getD_some] <;> rfl) rfl (Below.refl _ _) hC
          · -- 17: Op.slice 24 (Operand.tmp 43) none (some (Operand.tmp 46)) none
            obtain ⟨h13, h16, h11, -⟩ := hh
            have g13 : f 13 = _ := h13
            have g16 : f 16 = _ := h16
            have g11 : f 11 = _ := h11
            refine tab_yes g11 fun K Q hK => ?_
            simp only [puts, List.foldr_cons, List.foldr_nil, List.setIfInBounds_toArray, List.set_cons_succ, List.set_cons_zero, g13, g16, g11]
            go_step
            refine fam_ex hK rfl rfl (by simp only [Act.put, List.setIfInBounds_toArray, List.set_cons_succ, List.set_cons_zero, Array.getD_eq_getD_getElem?, List.getElem?_toArray, List.getElem?_cons_succ, List.getElem?_cons_zero, Option.getD_some] <;> rfl) rfl (Below.refl _ _) hC
          · -- 18: Op.convert 24 9 (Operand.tmp 47)
            obtain ⟨h17, h11, -⟩ := hh
            have g17 : f 17 = _ := h17
            have g11 : f 11 = _ := h11
            refine tab_yes g11 fun K Q hK => ?_
            simp only [puts, List.foldr_cons, List.foldr_nil, List.setIfInBounds_toArray, List.set_cons_succ, List.set_cons_zero, g17, g11]
            have h1 := run_toString W 24 9 5 Try.underlying24 Try.underlying5 Try.underlying9 a2 fl c2 zs (hI3.later hC)
            go_step
            refine fam_ex hK rfl rfl (by simp only [Act.put, List.setIfInBounds_toArray, List.set_cons_succ, List.set_cons_zero, Array.getD_eq_getD_getElem?, List.getElem?_toArray, List.getElem?_cons_succ, List.getElem?_cons_zero, Option.getD_some] <;> rfl) rfl (Below.refl _ _) hC
          · -- 19: Op.fieldAddr 26 (Operand.tmp 3) 0
            obtain ⟨h11, -⟩ := hh
            have g11 : f 11 = _ := h11
            refine tab_yes g11 fun K Q hK => ?_
            simp only [puts, List.foldr_cons, List.foldr_nil, List.setIfInBounds_toArray, List.set_cons_succ, List.set_cons_zero, g11]
            go_step
            refine fam_ex hK rfl rfl (by simp only [Act.put, List.setIfInBounds_toArray, List.set_cons_succ, List.set_cons_zero, Array.getD_eq_getD_getElem?, List.getElem?_toArray, List.getElem?_cons_succ, List.getElem?_cons_zero, Option.getD_some] <;> rfl) rfl (Below.refl _ _) hC
          · -- 20: Op.load 24 (Operand.tmp 49)
            obtain ⟨h19, h11, -⟩ := hh
            have g19 : f 19 = _ := h19
            have g11 : f 11 = _ := h11
            refine tab_yes g11 fun K Q hK => ?_
            simp only [puts, List.foldr_cons, List.foldr_nil, List.setIfInBounds_toArray, List.set_cons_succ, List.set_cons_zero, g19, g11]
            obtain ⟨q0, q1, -, -⟩ := (hX.later hC).cells
            go_step
            refine fam_ex hK rfl rfl (by simp only [Act.put, List.setIfInBounds_toArray, List.set_cons_succ, List.set_cons_zero, Array.getD_eq_getD_getElem?, List.getElem?_toArray, List.getElem?_cons_succ, List.getElem?_cons_zero, Option.getD_some] <;> rfl) rfl (Below.refl _ _) hC
          · -- 21: Op.convert 24 9 (Operand.tmp 50)
            obtain ⟨h20, h11, -⟩ := hh
            have g20 : f 20 = _ := h20
            have g11 : f 11 = _ := h11
            refine tab_yes g11 fun K Q hK => ?_
            simp only [puts, List.foldr_cons, List.foldr_nil, List.setIfInBounds_toArray, List.set_cons_succ, List.set_cons_zero, g20, g11]
            have h1 := run_toString W 24 9 5 Try.underlying24 Try.underlying5 Try.underlying9 fa fl fc zs (hI1.later hC)
            go_step
            refine fam_ex hK rfl rfl (by simp only [Act.put, List.setIfInBounds_toArray, List.set_cons_succ, List.set_cons_zero, Array.getD_eq_getD_getElem?, List.getElem?_toArray, List.getElem?_cons_succ, List.getElem?_cons_zero, Option.getD_some] <;> rfl) rfl (Below.refl _ _) hC
          · -- 22: Op.binOp BinOp.neq 9 (Operand.tmp 48) (Operand.tmp 51) 9
            obtain ⟨h18, h21, h11, -⟩ := hh
            have g18 : f 18 = _ := h18
            have g21 : f 21 = _ := h21
            have g11 : f 11 = _ := h11
            refine tab_yes g11 fun K Q hK => ?_
            simp only [puts, List.foldr_cons, List.foldr_nil, List.setIfInBounds_toArray, List.set_cons_succ, List.set_cons_zero, g18, g21, g11]
            go_step
            refine fam_ex hK rfl rfl (by simp only [Act.put, List.setIfInBounds_toArray, List.set_cons_succ, List.set_cons_zero, Array.getD_eq_getD_getElem?, List.getElem?_toArray, List.getElem?_cons_succ, List.getElem?_cons_zero, Option.getD_some] <;> rfl) rfl (Below.refl _ _) hC
          · -- 23: Op.pick (Operand.tmp 41) (Operand.const (Value.bool true)) (Operand.tmp 52)
            obtain ⟨h11, h22, -⟩ := hh
            have g11 : f 11 = _ := h11
            have g22 : f 22 = _ := h22
            refine tab_plain fun K Q hK => ?_
            simp only [puts, List.foldr_cons, List.foldr_nil, List.setIfInBounds_toArray, List.set_cons_succ, List.set_cons_zero, g11, g22]
            go_step
            refine fam_ex hK rfl rfl (by simp only [Act.put, List.setIfInBounds_toArray, List.set_cons_succ, List.set_cons_zero, Array.getD_eq_getD_getElem?, List.getElem?_toArray, List.getElem?_cons_succ, List.getElem?_cons_zero, Option.getD_some] <;> rfl) rfl (Below.refl _ _) hC
          · -- 24: Op.move (Operand.tmp 53)
            obtain ⟨h23, h11, -⟩ := hh
            have g23 : f 23 = _ := h23
            have g11 : f 11 = _ := h11
            refine tab_plain fun K Q hK => ?_
            simp only [puts, List.foldr_cons, List.foldr_nil, List.setIfInBounds_toArray, List.set_cons_succ, List.set_cons_zero, g23, g11]
            go_step
            refine fam_ex hK rfl rfl (by simp only [Act.put, List.setIfInBounds_toArray, List.set_cons_succ, List.set_cons_zero, Array.getD_eq_getD_getElem?, List.getElem?_toArray, List.getElem?_cons_succ, List.getElem?_cons_zero, Option.getD_some] <;> rfl) rfl (Below.refl _ _) hC
          · -- 25: Op.fieldAddr 26 (Operand.tmp 5) 1
            obtain ⟨h24, -⟩ := hh
            have g24 : f 24 = _ := h24
            refine tab_yes g24 fun K Q hK => ?_
            simp only [puts, List.foldr_cons, List.foldr_nil, List.setIfInBounds_toArray, List.set_cons_succ, List.set_cons_zero, g24]
            go_step
            refine fam_ex hK rfl rfl (by simp only [Act.put, List.setIfInBounds_toArray, List.set_cons_succ, List.set_cons_zero, Array.getD_eq_getD_getElem?, List.getElem?_toArray, List.getElem?_cons_succ, List.getElem?_cons_zero, Option.getD_some] <;> rfl) rfl (Below.refl _ _) hC
          · -- 26: Op.load 3 (Operand.tmp 55)
            obtain ⟨h25, h24, -⟩ := hh
            have g25 : f 25 = _ := h25
            have g24 : f 24 = _ := h24
            refine tab_yes g24 fun K Q hK => ?_
            simp only [puts, List.foldr_cons, List.foldr_nil, List.setIfInBounds_toArray, List.set_cons_succ, List.set_cons_zero, g25, g24]
            obtain ⟨q0, q1, -, -⟩ := (hG.later hC).cells
            go_step
            refine fam_ex hK rfl rfl (by simp only [Act.put, List.setIfInBounds_toArray, List.set_cons_succ, List.set_cons_zero, Array.getD_eq_getD_getElem?, List.getElem?_toArray, List.getElem?_cons_succ, List.getElem?_cons_zero, Option.getD_some] <;> rfl) rfl (Below.refl _ _) hC
          · -- 27: Op.fieldAddr 26 (Operand.tmp 3) 1
            obtain ⟨h24, -⟩ := hh
            have g24 : f 24 = _ := h24
            refine tab_yes g24 fun K Q hK => ?_
            simp only [puts, List.foldr_cons, List.foldr_nil, List.setIfInBounds_toArray, List.set_cons_succ, List.set_cons_zero, g24]
            go_step
            refine fam_ex hK rfl rfl (by simp only [Act.put, List.setIfInBounds_toArray, List.set_cons_succ, List.set_cons_zero, Array.getD_eq_getD_getElem?, List.getElem?_toArray, List.getElem?_cons_succ, List.getElem?_cons_zero, Option.getD_some] <;> rfl) rfl (Below.refl _ _) hC
          · -- 28: Op.load 3 (Operand.tmp 57)
            obtain ⟨h27, h24, -⟩ := hh
            have g27 : f 27 = _ := h27
            have g24 : f 24 = _ := h24
            refine tab_yes g24 fun K Q hK => ?_
            simp only [puts, List.foldr_cons, List.foldr_nil, List.setIfInBounds_toArray, List.set_cons_succ, List.set_cons_zero, g27, g24]
            obtain ⟨q0, q1, -, -⟩ := (hX.later hC).cells
            go_step
            refine fam_ex hK rfl rfl (by simp only [Act.put, List.setIfInBounds_toArray, List.set_cons_succ, List.set_cons_zero, Array.getD_eq_getD_getElem?, List.getElem?_toArray, List.getElem?_cons_succ, List.getElem?_cons_zero, Option.getD_some] <;> rfl) rfl (Below.refl _ _) hC
          · -- 29: Op.binOp BinOp.neq 3 (Operand.tmp 56) (Operand.tmp 58) 3
            obtain ⟨h26, h28, h24, -⟩ := hh
            have g26 : f 26 = _ := h26
            have g28 : f 28 = _ := h28
            have g24 : f 24 = _ := h24
            refine tab_yes g24 fun K Q hK => ?_
            simp only [puts, List.foldr_cons, List.foldr_nil, List.setIfInBounds_toArray, List.set_cons_succ, List.set_cons_zero, g26, g28, g24]
            go_step
            refine fam_ex hK rfl rfl (by simp only [Act.put, List.setIfInBounds_toArray, List.set_cons_succ, List.set_cons_zero, Array.getD_eq_getD_getElem?, List.getElem?_toArray, List.getElem?_cons_succ, List.getElem?_cons_zero, Option.getD_some] <;> rfl) rfl (Below.refl _ _) hC
          · -- 30: Op.pick (Operand.tmp 54) (Operand.const (Value.bool true)) (Operand.tmp 59)
            obtain ⟨h24, h29, -⟩ := hh
            have g24 : f 24 = _ := h24
            have g29 : f 29 = _ := h29
            refine tab_plain fun K Q hK => ?_
            simp only [puts, List.foldr_cons, List.foldr_nil, List.setIfInBounds_toArray, List.set_cons_succ, List.set_cons_zero, g24, g29]
            go_step
            refine fam_ex hK rfl rfl (by simp only [Act.put, List.setIfInBounds_toArray, List.set_cons_succ, List.set_cons_zero, Array.getD_eq_getD_getElem?, List.getElem?_toArray, List.getElem?_cons_succ, List.getElem?_cons_zero, Option.getD_some] <;> rfl) rfl (Below.refl _ _) hC
        case yrest =>
          intro f W2 hC hh
          obtain ⟨h0, h1, h2, h3, h4, h5, h6, h7, h8, h9, h10, h11, h12, h13, h14, h15, h16, h17, h18, h19, h20, h21, h22, h23, h24, h25, h26, h27, h28, h29, h30, -⟩ := hh
          have g0 : f 0 = _ := h0
          have g1 : f 1 = _ := h1
          have g2 : f 2 = _ := h2
          have g3 : f 3 = _ := h3
          have g4 : f 4 = _ := h4
          have g5 : f 5 = _ := h5
          have g6 : f 6 = _ := h6
          have g7 : f 7 = _ := h7
          have g8 : f 8 = _ := h8
          have g9 : f 9 = _ := h9
          have g10 : f 10 = _ := h10
          have g11 : f 11 = _ := h11
          have g12 : f 12 = _ := h12
          have g13 : f 13 = _ := h13
          have g14 : f 14 = _ := h14
          have g15 : f 15 = _ := h15
          have g16 : f 16 = _ := h16
          have g17 : f 17 = _ := h17
          have g18 : f 18 = _ := h18
          have g19 : f 19 = _ := h19
          have g20 : f 20 = _ := h20
          have g21 : f 21 = _ := h21
          have g22 : f 22 = _ := h22
          have g23 : f 23 = _ := h23
          have g24 : f 24 = _ := h24
          have g25 : f 25 = _ := h25
          have g26 : f 26 = _ := h26
          have g27 : f 27 = _ := h27
          have g28 : f 28 = _ := h28
          have g29 : f 29 = _ := h29
          have g30 : f 30 = _ := h30
          simp only [puts, List.foldr_cons, List.foldr_nil, List.setIfInBounds_toArray, List.set_cons_succ, List.set_cons_zero, g0, g1, g2, g3, g4, g5, g6, g7, g8, g9, g10, g11, g12, g13, g14, g15, g16, g17, g18, g19, g20, g21, g22, g23, g24, g25, g26, g27, g28, g29, g30]
          clear h0 h1 h2 h3 h4 h5 h6 h7 h8 h9 h10 h11 h12 h13 h14 h15 h16 h17 h18 h19 h20 h21 h22 h23 h24 h25 h26 h27 h28 h29 h30 g0 g1 g2 g3 g4 g5 g6 g7 g8 g9 g10 g11 g12 g13 g14 g15 g16 g17 g18 g19 g20 g21 g22 g23 g24 g25 g26 g27 g28 g29 g30
          have hG3 := hG.later hC
          have hX3 := hX.later hC
          have hrow3 := hrow2.kept_below hC
          have hB3 := hB.trans (hC.mono hB.size)
          have hsz3 : b3 + 1 ≤ W2.heap.size := Nat.le_trans hsz hC.size
          clear hG hX hrow2 hB hsz hI1 hI2 hI3 ho hrow hcell
          obtain ⟨z0, z1, -, -⟩ := hG3.cells
          obtain ⟨v0, v1, v2, v3⟩ := hX3.cells
          obtain ⟨W4, hW4⟩ : ∃ W4, (W2.setCell ⟨b3, 0, none⟩ (.slice a2 nl c2)).setCell ⟨b3, 1, none⟩ (.int .i64 0) = W4 := ⟨_, rfl⟩
          have hX4 : Box2 W4 b3 (.slice a2 nl c2) (.int .i64 0) := by rw [← hW4]; exact hX3.store _ _
          have hrow4 : W4.ownsRow (b3 + 1) 5 1 (.slice a2 nl c2) nl (ivs .u8 ys) := by
            rw [← hW4]
            exact ownsRow_setCell_below (ownsRow_setCell_below hrow3 (by show b3 < _; omega) _) (by show b3 < _; omega) _
          have hB4 : Below w.heap.size w W4 := by
            rw [← hW4]
            exact (hB3.setCell (p := ⟨b3, 0, none⟩) hwb3 _).setCell (p := ⟨b3, 1, none⟩) hwb3 _
          have hsz4 : b3 + 1 ≤ W4.heap.size := by rw [← hW4, World.size_setCell, World.size_setCell]; exact hsz3
          have hyb : Bytes ys := by rw [← hys]; exact encP_bytes basis_bd.1 basis_bd.2 (fun x hx => (List.mem_append.1 hx).elim (hPo x) (partsL_ok hrb x))
          obtain ⟨x0, x1, -, -⟩ := hX4.cells
          go_wp2_with (fail)
          try rw [hW4]
          clear hW4 hG3 hX3 hrow3 hB3 hsz3 z0 z1 v0 v1 v2 v3
          refine (Read_any _ _ _ _ _ (IsInts.of_owns hrow4).1 hyb (by omega)).mono ?_
          rintro e w5 ⟨k', e', rv, ev, rfl, hR, hS5, hb5⟩
          have hrd := read_all (hok.okR.take (k + 1)) (b := ys) (by rw [HPn.out]; exact hys.symm)
          have hall := stP_all (rs.take (k + 1))
          rw [← hrd.2] at hall
          have huq := hR.uniq hrd.1
          rw [← huq.1] at hall
          obtain ⟨hk', rfl⟩ := huq
          have hnl2 : 32 * (allP (rs.take (k + 1))).length = nl := by rw [HPn.out, List.length_append, partsL_length, hlr, ← hnl, ← hfl, hP]; omega
          have hlast : lastD (stB ys k').ends = (nl : Int) := by have h1 := hall.2.2; have h2 := hnl2; rw [← hk'] at h2; omega
          obtain ⟨ar, cr, hrv, hrec⟩ := hS5.recs
          subst hrv
          have hrs := hall.1
          rw [hrs, hlast]
          rw [hrs] at hrec
          have hlk : (rs.take (k + 1)).length = k + 1 := by rw [List.length_take, HL.out]; omega
          rw [hlk] at hrec ⊢
          have hB5 := hB4.trans (hb5.mono hB4.size)
          have hs5 := (hs.later hB5).slice (k + 1) (by omega)
          obtain ⟨x0, x1, -, -⟩ := (hX4.later hb5).cells
          have hbt : ∀ r ∈ rs.take (k + 1), Bytes r := fun r hr => hb r (List.mem_of_mem_take hr)
          have hsa := SameAll_any _ _ _ _ _ _ _ _ _ hrec hs5 hbt hbt
          rw [decide_eq_true rfl] at hsa
          have Hnl2 := Lib.hid hnl2
          have Hys := Lib.hid hys
          clear hR hS5 hrec hall hrd hrs hlast hnl2 hk' hlk hys hzs hyt hfl hP hnl hbt
          go_wp2_with (go_at_call 15; refine hsa.mono ?_; rintro e w6 ⟨rfl, hb6⟩)
          go_roundw
          case rel => exact ⟨k + 1, a2, c2, hlt, by go_num, hB5.trans (hb6.mono hB5.size), Nat.le_trans hsz4 (Nat.le_trans hb5.size hb6.size), by rw [Hnl2.out]; exact (hX4.later hb5).later hb6, by rw [Hnl2.out, HPn.out, Hys.out]; exact (hrow4.kept_below hb5).kept_below hb6⟩
          case measure => simp [intOf]; omega
    · obtain rfl : k = len := by omega
      have dlt : decide ((k : Int) < k) = false := decide_eq_false (by omega)
      go_wp2
      go_ret
      exact ⟨rfl, hB⟩
end Go.Proofs.Ytpmhnmkpmkeadaa
