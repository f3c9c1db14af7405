/-
  The walk of the statements' awake.
-/
import Derived.Test.YtpmhnmkpmkeadaaWalI
set_option linter.unusedSimpArgs false
set_option linter.unusedVariables false
set_option maxHeartbeats 4000000
namespace Go.Proofs.Ytpmhnmkpmkeadaa
open Go.RowKit

def zerosL (n : Nat) : List Int := List.replicate n 0
theorem zerosL_bytes (n : Nat) : Bytes (zerosL n) := fun z hz => by
  have := List.eq_of_mem_replicate hz
  subst this
  decide
theorem zerosL_len (n : Nat) : (zerosL n).length = n := List.length_replicate
theorem cells_partsL (n : Nat) : (partsL (zerosL n)).length = cellsN n := by rw [partsL_length, zerosL_len]

theorem mk23 (w : World) : (Instr.makeSlice 24 (.int .i64 23) (.int .i64 23)).run Try.prog w = .ok (.slice (some ⟨w.heap.size, 0, none⟩) 23 23) (w.alloc (.cells #[.int .u8 0, .int .u8 0, .int .u8 0, .int .u8 0, .int .u8 0, .int .u8 0, .int .u8 0, .int .u8 0, .int .u8 0, .int .u8 0, .int .u8 0, .int .u8 0, .int .u8 0, .int .u8 0, .int .u8 0, .int .u8 0, .int .u8 0, .int .u8 0, .int .u8 0, .int .u8 0, .int .u8 0, .int .u8 0, .int .u8 0] 5)) := by kernel_rfl
theorem mk22 (w : World) : (Instr.makeSlice 24 (.int .i64 22) (.int .i64 22)).run Try.prog w = .ok (.slice (some ⟨w.heap.size, 0, none⟩) 22 22) (w.alloc (.cells #[.int .u8 0, .int .u8 0, .int .u8 0, .int .u8 0, .int .u8 0, .int .u8 0, .int .u8 0, .int .u8 0, .int .u8 0, .int .u8 0, .int .u8 0, .int .u8 0, .int .u8 0, .int .u8 0, .int .u8 0, .int .u8 0, .int .u8 0, .int .u8 0, .int .u8 0, .int .u8 0, .int .u8 0, .int .u8 0] 5)) := by kernel_rfl

theorem awake_math {Z : List Int} (hZ : Bytes Z) (hl : Z.length = 23) {k : Nat} {e : Int} (h : ReadIs ((encP basis (partsL Z ++ partsL Z)).take 100) k e) : (stB ((encP basis (partsL Z ++ partsL Z)).take 100) k).recs = [Z] := by
  have hok : OkR [Z, Z] := by
    intro r hr
    simp only [List.mem_cons, List.not_mem_nil, or_false, or_self] at hr
    subst hr
    exact ⟨hZ, by omega⟩
  have ha : allP [Z, Z] = partsL Z ++ partsL Z := by simp [allP]
  have hc : (partsL Z).length = 2 := by rw [partsL_length, hl]; rfl
  obtain ⟨e', n, h1, h2, h3, -, -, h6, h7, -⟩ := read_part hok (b := (encP basis (allP [Z, Z])).take 100) (L := 100) (by rw [ha, List.length_append, hc]; decide) rfl
  rw [ha] at h1 h3
  obtain ⟨rfl, -⟩ := h.uniq h1
  rw [h3]
  simp only [List.length_cons, List.length_nil] at h2 h7
  have hn : n = 0 ∨ n = 1 ∨ n = 2 := by omega
  rcases hn with rfl | rfl | rfl
  · have := h7 (by omega)
    simp [allP, hc] at this
  · rfl
  · simp [allP, hc] at h6

theorem awake_any (w : World) : Calls Try.prog 10 #[] w fun e w' => e = .returned (.bool true) ∧ Below w.heap.size w w' := by
  obtain ⟨Z, hZ⟩ : ∃ Z, zerosL 23 = Z := ⟨_, rfl⟩
  have hZb : Bytes Z := by rw [← hZ]; exact zerosL_bytes _
  have hZl : Z.length = 23 := by rw [← hZ]; exact zerosL_len _
  have hZr : (ivs .u8 (List.replicate 23 0)) = ivs .u8 Z := by rw [← hZ]; rfl
  go_enter Try.func10, Try.ntmps10
  go_wp2_with (first | (refine make_ints elU8 rfl _ _ rfl (B := w.heap.size) (n := 23) rfl rfl rfl rfl (by decide) (Nat.le_refl _) ?_; rw [hZr]; intro w1 hz1 hb1 hs1) | (go_at_call 11; refine (append_any none 0 0 0 [] _ 23 23 Z _ (.inl ⟨rfl, rfl, rfl, rfl⟩) (fun x hx => by cases hx) (.inl (IsInts.of_owns hz1).1) hZb (by decide) (by decide)).mono ?_; rintro e w2 ⟨⟨a2, n2, c2, rfl, ho2, hn2⟩, hb2⟩; have e2 : n2 = 64 := hn2.trans (by decide); clear hn2; subst e2))
  rw [List.nil_append] at ho2
  obtain ⟨P1, hP1⟩ : ∃ P1, partsL Z = P1 := ⟨_, rfl⟩
  have hP1o : ∀ x ∈ P1, OkP x := by rw [← hP1]; exact partsL_ok hZb
  rw [hP1] at ho2
  have hb02 : Below w.heap.size w w2 := hb1.trans (hb2.mono hb1.size)
  obtain ⟨W1, hW1⟩ : ∃ W1, w2.alloc (.cells #[.slice a2 64 c2, .int .i64 0] 26) = W1 := ⟨_, rfl⟩
  have hX1 : Box2 W1 w2.heap.size (.slice a2 64 c2) (.int .i64 0) := by rw [← hW1]; exact Box2.new _ _ _ _
  have hbW : Below w2.heap.size w2 W1 := by rw [← hW1]; exact (Below.refl _ _).alloc (Nat.le_refl _) _
  have hsW : W1.heap.size = w2.heap.size + 1 := by rw [← hW1]; simp
  have ho1 := ho2.kept_below hbW
  obtain ⟨q0, q1, q2, q3⟩ := hX1.cells
  rw [hW1]
  clear hW1
  obtain ⟨S, hSd⟩ : ∃ S : (Nat → Bool) → (Nat → Value) → World → Prop, S = fun L f W' => ((Below w2.heap.size W1 W' ∧ w2.heap.size + 1 ≤ W'.heap.size) ∧ (stage L f W' (fun W' => Box2 W' w2.heap.size (.slice a2 64 c2) (.int .i64 0)) [(6, fun f W' => ∃ a c, Box2 W' w2.heap.size (.slice a 128 c) (.int .i64 0) ∧ W'.ownsRow (w2.heap.size + 1) 5 1 (.slice a 128 c) 128 (ivs .u8 (encP basis (P1 ++ P1)))), (4, fun f W' => Box2 W' w2.heap.size (.slice a2 64 c2) (.int .i64 0) ∧ ∃ a c, f 4 = .agg #[.slice a 128 c, .int .i64 0] ∧ W'.ownsRow (w2.heap.size + 1) 5 1 (.slice a 128 c) 128 (ivs .u8 (encP basis (P1 ++ P1)))), (3, fun f W' => Box2 W' w2.heap.size (.slice a2 64 c2) (.int .i64 0) ∧ ∃ a c, f 3 = .tuple #[.agg #[.slice a 128 c, .int .i64 0], .int .i64 0] ∧ W'.ownsRow (w2.heap.size + 1) 5 1 (.slice a 128 c) 128 (ivs .u8 (encP basis (P1 ++ P1)))), (2, fun f W' => Box2 W' w2.heap.size (.slice a2 64 c2) (.int .i64 0) ∧ ∃ a c, f 2 = .tuple #[.agg #[.slice a 128 c, .int .i64 0], .int .i64 0] ∧ W'.ownsRow (w2.heap.size + 1) 5 1 (.slice a 128 c) 128 (ivs .u8 (encP basis (P1 ++ P1))))]) ∧ (stage L f W' (fun _ => True) [(2, fun _ _ => True), (1, fun f W' => ∃ g, f 1 = .slice (some ⟨g, 0, none⟩) 23 23 ∧ IsInts .u8 W' (some ⟨g, 0, none⟩) 23 23 Z)])) := ⟨_, rfl⟩
  refine wp_region_st mixed (by kernel_rfl) [[], [], [(0, 13), (1, 14)], [(2, 15)], [(3, 12)], [(3, 12)], [(4, 16), (2, 15), (0, 13), (1, 14), (2, 15), (3, 12), (4, 16)], [(5, 17), (0, 13), (1, 14), (2, 15), (3, 12), (4, 16), (5, 17)]] [(0, 13), (1, 14), (2, 15), (3, 12), (4, 16), (5, 17), (7, 3)] rfl rfl [EV ?e0, fun v => ∃ g, v = .slice (some ⟨g, 0, none⟩) 23 23, fun v => ∃ a c, v = .tuple #[.agg #[.slice a 128 c, .int .i64 0], .int .i64 0], fun v => ∃ a c, v = .tuple #[.agg #[.slice a 128 c, .int .i64 0], .int .i64 0], fun v => ∃ a c, v = .agg #[.slice a 128 c, .int .i64 0], EV ?e5, fun _ => True, EV ?e7] S ?start ?steps ?rest
  case start =>
    intro f
    rw [hSd]
    exact ⟨⟨(Below.refl _ _).drew, by show _ ≤ W1.heap.size; omega⟩, hX1, trivial⟩
  case steps =>
    refine ⟨fun L f W hi hd hdn hh hS => ?_, fun L f W hi hd hdn hh hS => ?_, fun L f W hi hd hdn hh hS => ?_, fun L f W hi hd hdn hh hS => ?_, fun L f W hi hd hdn hh hS => ?_, fun L f W hi hd hdn hh hS => ?_, fun L f W hi hd hdn hh hS => ?_, fun L f W hi hd hdn hh hS => ?_, trivial⟩
    · -- 0: Op.load 26 (Operand.tmp 1)
      have l2 : L 2 = false := Bool.eq_false_iff.2 fun h => by have q := hdn 2 _ h rfl 0 (by decide); rw [show L 0 = false from hi] at q; cases q
      have l3 : L 3 = false := Bool.eq_false_iff.2 fun h => by have q := hdn 3 _ h rfl 2 (by decide); rw [show L 2 = false from l2] at q; cases q
      have l4 : L 4 = false := Bool.eq_false_iff.2 fun h => by have q := hdn 4 _ h rfl 3 (by decide); rw [show L 3 = false from l3] at q; cases q
      have l6 : L 6 = false := Bool.eq_false_iff.2 fun h => by have q := hdn 6 _ h rfl 4 (by decide); rw [show L 4 = false from l4] at q; cases q
      unfold stStep
      rw [if_pos (by simp [Region.wanted])]
      intro K Q hK
      simp only [puts, List.foldr_nil]
      have hS' := hS
      rw [hSd] at hS'
      simp only [stage, l2, l3, l4, l6, if_false, Bool.false_eq_true] at hS'
      obtain ⟨q0, q1, -, -⟩ := hS'.2.1.cells
      go_step
      refine st_ex hK rfl rfl (by simp only [Act.put, List.setIfInBounds_toArray, List.set_cons_succ, List.set_cons_zero, Array.getD_eq_getD_getElem?, List.getElem?_toArray, List.getElem?_cons_succ, List.getElem?_cons_zero, Option.getD_some] <;> rfl) rfl (by rw [hSd] at hS ⊢; exact hS)
    · -- 1: Op.makeSlice 24 (Operand.const (Value.int IntKind.i64 23)) (Operand.const (Value.int IntKi
      have l2 : L 2 = false := Bool.eq_false_iff.2 fun h => by have q := hdn 2 _ h rfl 1 (by decide); rw [show L 1 = false from hi] at q; cases q
      have l3 : L 3 = false := Bool.eq_false_iff.2 fun h => by have q := hdn 3 _ h rfl 2 (by decide); rw [show L 2 = false from l2] at q; cases q
      have l4 : L 4 = false := Bool.eq_false_iff.2 fun h => by have q := hdn 4 _ h rfl 3 (by decide); rw [show L 3 = false from l3] at q; cases q
      have l6 : L 6 = false := Bool.eq_false_iff.2 fun h => by have q := hdn 6 _ h rfl 4 (by decide); rw [show L 4 = false from l4] at q; cases q
      unfold stStep
      rw [if_pos (by simp [Region.wanted])]
      intro K Q hK
      simp only [puts, List.foldr_nil]
      rw [hSd] at hS hK
      have l1 : L 1 = false := hi
      simp only [stage, l2, l3, l4, l6, l1, if_true, if_false, Bool.false_eq_true] at hS
      obtain ⟨⟨hC, hC2⟩, hst1, hst2⟩ := hS
      have hmk := mk23
      have hz3 : IsInts .u8 (W.alloc (.cells #[.int .u8 0, .int .u8 0, .int .u8 0, .int .u8 0, .int .u8 0, .int .u8 0, .int .u8 0, .int .u8 0, .int .u8 0, .int .u8 0, .int .u8 0, .int .u8 0, .int .u8 0, .int .u8 0, .int .u8 0, .int .u8 0, .int .u8 0, .int .u8 0, .int .u8 0, .int .u8 0, .int .u8 0, .int .u8 0, .int .u8 0] 5)) (some ⟨W.heap.size, 0, none⟩) 23 23 Z := by rw [← hZ]; exact new_ints .u8 W 5 (zerosL 23) 23 rfl (by decide)
      have hb' : Below W.heap.size W (W.alloc (.cells #[.int .u8 0, .int .u8 0, .int .u8 0, .int .u8 0, .int .u8 0, .int .u8 0, .int .u8 0, .int .u8 0, .int .u8 0, .int .u8 0, .int .u8 0, .int .u8 0, .int .u8 0, .int .u8 0, .int .u8 0, .int .u8 0, .int .u8 0, .int .u8 0, .int .u8 0, .int .u8 0, .int .u8 0, .int .u8 0, .int .u8 0] 5)) := (Below.refl _ _).alloc (Nat.le_refl _) _
      go_step
      refine hK.out _ _ rfl ⟨_, rfl⟩ ?_
      simp only [stage, l2, l3, l4, l6] at hst1 ⊢
      exact ⟨⟨hC.trans (hb'.mono (by omega)), by have := hb'.size; omega⟩, hst1.later hb', _, rfl, hz3⟩
    · -- 2: Op.call { callee := Callee.value (Operand.func 11), args := #[Operand.tmp 13, Operand.tmp 
      obtain ⟨h0, h1, -⟩ := hh
      have g0 : f 0 = _ := h0
      obtain ⟨q1, g1⟩ := h1
      have l1 : L 1 = true := hd 1 (by decide)
      have l3 : L 3 = false := Bool.eq_false_iff.2 fun h => by have q := hdn 3 _ h rfl 2 (by decide); rw [show L 2 = false from hi] at q; cases q
      have l4 : L 4 = false := Bool.eq_false_iff.2 fun h => by have q := hdn 4 _ h rfl 3 (by decide); rw [show L 3 = false from l3] at q; cases q
      have l6 : L 6 = false := Bool.eq_false_iff.2 fun h => by have q := hdn 6 _ h rfl 4 (by decide); rw [show L 4 = false from l4] at q; cases q
      unfold stStep
      rw [if_pos (by simp [Region.wanted])]
      intro K Q hK
      simp only [puts, List.foldr_cons, List.foldr_nil, List.setIfInBounds_toArray, List.set_cons_succ, List.set_cons_zero, g0, g1]
      rw [hSd] at hS hK
      have l2 : L 2 = false := hi
      simp only [stage, l3, l4, l6, l2, l1, if_true, if_false, Bool.false_eq_true] at hS
      obtain ⟨⟨hC, hC2⟩, hst1, hst2⟩ := hS
      obtain ⟨g, e1, hz⟩ := hst2
      have e1' : f 1 = _ := g1
      rw [e1'] at e1
      simp only [Value.slice.injEq, Option.some.injEq, Addr.mk.injEq, and_true] at e1
      subst e1
      have hap := append_any a2 64 c2 0 P1 (some ⟨q1, 0, none⟩) 23 23 Z _ (IsInts.of_owns (ho2.kept_below (hbW.trans hC))).1 hP1o (.inl hz) hZb (by decide) (by decide)
      go_step
      go_at_call 11
      refine hap.mono ?_
      rintro e w' ⟨⟨a', n', c', rfl, hown', hn'⟩, hb'⟩
      have hn2 : n' = 128 := hn'.trans (by decide)
      clear hn'
      subst hn2
      rw [hP1] at hown'
      refine hK.out _ _ rfl ⟨_, _, rfl⟩ ?_
      simp only [stage, l3, l4, l6]
      exact ⟨⟨hC.trans (hb'.mono (by omega)), Nat.le_trans hC2 hb'.size⟩, ⟨hst1.later hb', _, _, rfl, hown'.from_mono hC2⟩, trivial⟩
    · -- 3: Op.move (Operand.tmp 15)
      obtain ⟨h2, -⟩ := hh
      obtain ⟨xa2, xc2, g2⟩ := h2
      have l2 : L 2 = true := hd 2 (by decide)
      have l4 : L 4 = false := Bool.eq_false_iff.2 fun h => by have q := hdn 4 _ h rfl 3 (by decide); rw [show L 3 = false from hi] at q; cases q
      have l6 : L 6 = false := Bool.eq_false_iff.2 fun h => by have q := hdn 6 _ h rfl 4 (by decide); rw [show L 4 = false from l4] at q; cases q
      unfold stStep
      rw [if_pos (by simp [Region.wanted])]
      intro K Q hK
      simp only [puts, List.foldr_cons, List.foldr_nil, List.setIfInBounds_toArray, List.set_cons_succ, List.set_cons_zero, g2]
      rw [hSd] at hS hK
      have l3 : L 3 = false := hi
      simp only [stage, l4, l6, l3, l2, if_true, if_false, Bool.false_eq_true] at hS
      obtain ⟨hC, hst1, hst2⟩ := hS
      go_step
      refine hK.out _ _ rfl ⟨_, _, rfl⟩ ?_
      simp only [stage, l2, l3, l4, l6] at hst1 ⊢
      obtain ⟨hb, a, c, e1, e2⟩ := hst1
      refine ⟨hC, ⟨hb, a, c, ?_, e2⟩, trivial⟩
      have e5 : f 2 = _ := g2
      rw [e5] at e1
      rw [← e1]
      rfl
    · -- 4: Op.extract (Operand.tmp 12) 0
      obtain ⟨h3, -⟩ := hh
      obtain ⟨xa3, xc3, g3⟩ := h3
      have l3 : L 3 = true := hd 3 (by decide)
      have l6 : L 6 = false := Bool.eq_false_iff.2 fun h => by have q := hdn 6 _ h rfl 4 (by decide); rw [show L 4 = false from hi] at q; cases q
      unfold stStep
      rw [if_pos (by simp [Region.wanted])]
      intro K Q hK
      simp only [puts, List.foldr_cons, List.foldr_nil, List.setIfInBounds_toArray, List.set_cons_succ, List.set_cons_zero, g3]
      rw [hSd] at hS hK
      have l4 : L 4 = false := hi
      simp only [stage, l6, l4, l3, if_true, if_false, Bool.false_eq_true] at hS
      obtain ⟨hC, hst1, hst2⟩ := hS
      go_step
      refine hK.out _ _ rfl ⟨_, _, rfl⟩ ?_
      refine ⟨hC, ?_, ?_⟩
      · simp only [stage, l3, l4, l6] at hst1 ⊢
        obtain ⟨hb, a, c, e1, e2⟩ := hst1
        refine ⟨hb, a, c, ?_, e2⟩
        have e5 : f 3 = _ := g3
        rw [e5] at e1
        simp only [Value.tuple.injEq, Array.mk.injEq, List.cons.injEq, Value.agg.injEq, Value.slice.injEq, and_true, true_and] at e1
        obtain ⟨rfl, rfl⟩ := e1
        rfl
      · exact hst2
    · -- 5: Op.extract (Operand.tmp 12) 1
      obtain ⟨h3, -⟩ := hh
      obtain ⟨xa3, xc3, g3⟩ := h3
      unfold stStep
      rw [if_pos (by simp [Region.wanted])]
      intro K Q hK
      simp only [puts, List.foldr_cons, List.foldr_nil, List.setIfInBounds_toArray, List.set_cons_succ, List.set_cons_zero, g3]
      go_step
      refine st_ex hK rfl rfl (by simp only [Act.put, List.setIfInBounds_toArray, List.set_cons_succ, List.set_cons_zero, Array.getD_eq_getD_getElem?, List.getElem?_toArray, List.getElem?_cons_succ, List.getElem?_cons_zero, Option.getD_some] <;> rfl) rfl (by rw [hSd] at hS ⊢; exact hS)
    · -- 6: Op.store 26 (Operand.tmp 1) (Operand.tmp 16)
      obtain ⟨h4, h2, h0, h1, _, h3, _, -⟩ := hh
      obtain ⟨xa4, xc4, g4⟩ := h4
      obtain ⟨xa2, xc2, g2⟩ := h2
      have g0 : f 0 = _ := h0
      obtain ⟨q1, g1⟩ := h1
      obtain ⟨xa3, xc3, g3⟩ := h3
      have l4 : L 4 = true := hd 4 (by decide)
      have l2 : L 2 = true := hd 2 (by decide)
      unfold stStep
      rw [if_pos (by simp [Region.wanted])]
      intro K Q hK
      simp only [puts, List.foldr_cons, List.foldr_nil, List.setIfInBounds_toArray, List.set_cons_succ, List.set_cons_zero, g4, g2, g0, g1, g3]
      rw [hSd] at hS hK
      have l6 : L 6 = false := hi
      simp only [stage, l6, l4, l2, if_true, if_false, Bool.false_eq_true] at hS
      obtain ⟨⟨hC, hC2⟩, hst1, hst2⟩ := hS
      obtain ⟨hb, a, c, e1, e2⟩ := hst1
      have e5 : f 4 = _ := g4
      rw [e5] at e1
      simp only [Value.agg.injEq, Array.mk.injEq, List.cons.injEq, Value.slice.injEq, and_true, true_and] at e1
      obtain ⟨rfl, rfl⟩ := e1
      obtain ⟨p0, p1, p2, p3⟩ := hb.cells
      go_step
      refine hK.out _ _ rfl trivial ?_
      refine ⟨⟨(hC.setCell (p := ⟨w2.heap.size, 0, none⟩) (Nat.le_refl _) _).setCell (p := ⟨w2.heap.size, 1, none⟩) (Nat.le_refl _) _, by rw [World.size_setCell, World.size_setCell]; exact hC2⟩, ?_, by simp only [stage, l2]; trivial⟩
      show ∃ a c, Box2 _ w2.heap.size (.slice a 128 c) (.int .i64 0) ∧ World.ownsRow _ (w2.heap.size + 1) _ _ (.slice a 128 c) 128 _
      exact ⟨_, _, hb.store _ _, ownsRow_setCell_below (ownsRow_setCell_below e2 (by show w2.heap.size < _; omega) _) (by show w2.heap.size < _; omega) _⟩
    · -- 7: Op.assign (Operand.tmp 17)
      obtain ⟨h5, h0, h1, h2, h3, h4, _, -⟩ := hh
      have g5 : f 5 = _ := h5
      have g0 : f 0 = _ := h0
      obtain ⟨q1, g1⟩ := h1
      obtain ⟨xa2, xc2, g2⟩ := h2
      obtain ⟨xa3, xc3, g3⟩ := h3
      obtain ⟨xa4, xc4, g4⟩ := h4
      unfold stStep
      rw [if_pos (by simp [Region.wanted])]
      intro K Q hK
      simp only [puts, List.foldr_cons, List.foldr_nil, List.setIfInBounds_toArray, List.set_cons_succ, List.set_cons_zero, g5, g0, g1, g2, g3, g4]
      go_step
      refine st_ex hK rfl rfl (by simp only [Act.put, List.setIfInBounds_toArray, List.set_cons_succ, List.set_cons_zero, Array.getD_eq_getD_getElem?, List.getElem?_toArray, List.getElem?_cons_succ, List.getElem?_cons_zero, Option.getD_some] <;> rfl) rfl (by rw [hSd] at hS ⊢; exact hS)
  case rest =>
    intro L f W2 hL hh hS
    rw [hSd] at hS
    clear hSd
    have l6 : L 6 = true := hL 6 (by decide)
    simp only [stage, l6, if_true] at hS
    clear hL l6
    obtain ⟨h0, h1, h2, h3, h4, h5, h7, -⟩ := hh
    have g0 : f 0 = _ := h0
    obtain ⟨q1, g1⟩ := h1
    obtain ⟨xa2, xc2, g2⟩ := h2
    obtain ⟨xa3, xc3, g3⟩ := h3
    obtain ⟨xa4, xc4, g4⟩ := h4
    have g5 : f 5 = _ := h5
    have g7 : f 7 = _ := h7
    simp only [puts, List.foldr_cons, List.foldr_nil, List.setIfInBounds_toArray, List.set_cons_succ, List.set_cons_zero, g0, g1, g2, g3, g4, g5, g7]
    clear h0 h5 h7 g0 g5 g7
    obtain ⟨⟨hC, hC2⟩, ⟨a5, c5, hX5, ho5⟩, -⟩ := hS
    have hb05 : Below w.heap.size w W2 := hb02.trans ((hbW.trans hC).mono hb02.size)
    obtain ⟨zs, hzs⟩ : ∃ zs, encP basis (P1 ++ P1) = zs := ⟨_, rfl⟩
    rw [hzs] at ho5
    have hzb : Bytes zs := by rw [← hzs]; exact encP_bytes basis_bd.1 basis_bd.2 (fun x hx => (List.mem_append.1 hx).elim (hP1o x) (hP1o x))
    obtain ⟨hI5, -⟩ := IsInts.of_owns ho5
    have hzl := hI5.length
    have hcr : crashL zs 0 100 = zs.take 100 := by
      rw [crashL_in (by decide) (by omega), keepN, hzl]
      rfl
    have hmath : ∀ k e, ReadIs (zs.take 100) k e → (stB (zs.take 100) k).recs = [Z] := by
      intro k e h
      rw [← hzs, ← hP1] at h ⊢
      exact awake_math hZb hZl h
    have HM := Lib.hid hmath
    have hmk2 := mk22
    obtain ⟨p0, p1, -, -⟩ := hX5.cells
    have hcg := Crash_any a5 128 c5 zs 0 100 W2 hI5 (by decide) (by decide) (by decide)
    rw [hcr] at hcg
    clear hmath hzs hcr
    go_wp2_with (first | (go_at_call 13; refine (Cells_any _ _ _ _ (by decide)).mono ?_; rintro e w9 ⟨rfl, rfl⟩; first | rw [show cellsN 0 = 1 from rfl] | rw [show cellsN 22 = 1 from rfl]) | (go_at_call 18; refine hcg.mono ?_; clear hcg; rintro e w6 ⟨⟨a6, n6, c6, rfl, ho6⟩, hb6⟩; obtain ⟨hI6, -⟩ := IsInts.of_owns ho6; have hn6 := hI6.length; have hb06 := hb05.trans (hb6.mono hb05.size); have hX6 := hX5.later hb6) | (go_at_call 17; refine (Open_any _ _ _ _ _ hI6 (hzb.take _) (by rw [← hn6, List.length_take]; omega)).mono ?_; rintro e w7 ⟨k, e', rv, ev, af, cf, U, rfl, hR, hU, hoF, hS7, hb7⟩; have hrs := HM.out k e' hR; obtain ⟨ar, cr, hrv, hrec⟩ := hS7.recs; subst hrv; rw [hrs] at hrec ⊢; have hX7 := hX6.later hb7; clear hU; have hX8 := (hX7.later ((Below.refl _ w7).alloc (Nat.le_refl _) (.cells #[.slice af U cf, .int .i64 (U : Int)] 26))).cells.1; have hb79 : Below w7.heap.size w7 ((w7.alloc (.cells #[.slice af U cf, .int .i64 (U : Int)] 26)).alloc (.cells #[.int .u8 0, .int .u8 0, .int .u8 0, .int .u8 0, .int .u8 0, .int .u8 0, .int .u8 0, .int .u8 0, .int .u8 0, .int .u8 0, .int .u8 0, .int .u8 0, .int .u8 0, .int .u8 0, .int .u8 0, .int .u8 0, .int .u8 0, .int .u8 0, .int .u8 0, .int .u8 0, .int .u8 0, .int .u8 0] 5)) := ((Below.refl _ w7).alloc (Nat.le_refl _) _).alloc (by simp) _; obtain ⟨b9, off9, ai9, ci9, har, hbl9, hcell9, -⟩ := hrec.at _ hb79 0 (Nat.succ_pos 0); subst har; rw [show (gl [Z] 0).length = 23 from hZl, Nat.add_zero] at hcell9) | fail)
    go_ret
    exact ⟨rfl, (hb06.trans (hb7.mono hb06.size)).trans (hb79.mono (hb06.trans (hb7.mono hb06.size)).size)⟩
end Go.Proofs.Ytpmhnmkpmkeadaa
