/-
  The reference: Back, Few, nodes, Same.
-/
import Derived.Test.YtlogmgkjikamaaaGraG
set_option linter.unusedSimpArgs false
set_option linter.unusedVariables false
set_option maxHeartbeats 4000000
namespace Go.Proofs.Ytlogmgkjikamaaa
open Go.RowKit
attribute [local go_sem] Oper.semAt_some

variable {a : Option Addr} {len cap : Nat} {g : List (List Int)} {w : World}

set_option maxRecDepth 20000 in
theorem refBack_any (hg : IsRows w a len cap g) :
    Calls Try.prog 35 #[.slice a len cap] w fun e w' => BackRes g len w.heap.size e w' ∧ Below w.heap.size w w' := by
  have hval := refValid_any hg
  by_cases hv : ValidG g
  rotate_left
  · rw [validGB_no hv] at hval
    have HV := Lib.hid hv
    clear hv
    go_enter Try.func35, Try.ntmps35
    go_wp2_with (fail)
    go_at_call 12
    refine hval.mono ?_
    rintro e w1 ⟨rfl, hb1⟩
    clear hval
    go_wp2
    go_ret2
    exact ⟨.inl ⟨HV.out, rfl⟩, hb1⟩
  rw [validGB_yes hv] at hval
  have HL := Lib.hid hg.length
  have hN4 : len ≤ 400 := by rw [← hg.length]; exact hv.1
  have HN := Lib.hid hN4
  have HV := Lib.hid hv
  clear hv
  go_enter Try.func35, Try.ntmps35
  go_wp2_with (fail)
  go_at_call 12
  refine hval.mono ?_
  rintro e w1 ⟨rfl, hb1⟩
  clear hval
  go_wp2_with (refine make_rows elG2 rfl rfl _ _ rfl rfl rfl rfl rfl (by omega) hb1.size ?_; intro w2 ho2 hb2)
  have hG0 := OwnG.made (Ti := 3) ho2
  rw [← rowsT_nil, show ([] : List (Int × Int)) = revTo g 0 from rfl] at hG0
  have hB0 := hb1.trans hb2
  have HG1 : Hid (w.heap.size ≤ w1.heap.size) := Lib.hid hb1.size
  clear ho2 hb1 hb2 hN4
  go_loopw [5] (fun c W => ∃ (i : Nat) (ms : List Value), i ≤ len ∧ c = .int .i64 (i : Int) ∧ OwnG W w.heap.size 25 3 (some ⟨w1.heap.size, 0, none⟩) len len ms ms (rowsT (revTo g i) len) ∧ Below w.heap.size w W) (fun c _ => len - (intOf c).toNat)
  case atStart => exact ⟨0, _, Nat.zero_le _, rfl, hG0, hB0⟩
  case round =>
    clear hG0 hB0
    obtain ⟨i, ms, hi, rfl, hG, hB⟩ := hrel
    have hN4 := HN.out
    rcases Nat.lt_or_ge i len with hlt | hge
    · have t1 : decide ((i : Int) < len) = true := decide_eq_true (by omega)
      obtain ⟨b, off, ai, li, ci, rfl, hcell, hrow⟩ := hg.fix i hlt
      have HCL := Lib.hid hcell
      have HRL : Hid ((gr g i).length = li) := Lib.hid hrow.length
      have hli : li ≤ 400 := by rw [← HRL.out]; exact row_len HV.out (by rw [HL.out]; exact hlt)
      have HLI := Lib.hid hli
      have hG1 : OwnG wr w.heap.size 25 3 (some ⟨w1.heap.size, 0, none⟩) len len ms ms (rowsT (revTo g i ++ revRow ((gr g i).take 0) i) len) := by rw [List.take_zero, show revRow [] i = [] from rfl, List.append_nil]; exact hG
      clear hcell hG hN4
      go_wp2_with (fail)
      go_loopw [6] (fun c W => ∃ (j : Nat) (ms : List Value), j ≤ li ∧ c = .int .i64 (j : Int) ∧ OwnG W w.heap.size 25 3 (some ⟨w1.heap.size, 0, none⟩) len len ms ms (rowsT (revTo g i ++ revRow ((gr g i).take j) i) len) ∧ Below w.heap.size w W) (fun c _ => li - (intOf c).toNat)
      case atStart => exact ⟨0, ms, Nat.zero_le _, rfl, hG1, hB⟩
      case round =>
        clear hG1 hB
        obtain ⟨j, ms, hj, rfl, hG, hB⟩ := hrel
        have hc := HCL.out wr hB
        rcases Nat.lt_or_ge j li with hjl | hjg
        · have t2 : decide ((j : Int) < li) = true := decide_eq_true (by omega)
          obtain ⟨br, o2, rfl, hcz⟩ := hrow.fix j hjl
          have hzr := (HV.out.2 _ (gr_mem (by rw [HL.out]; exact hlt))).2 _ (gi_mem (gr g i) j (by rw [HRL.out]; exact hjl))
          rw [HL.out] at hzr
          obtain ⟨A, hA⟩ := Int.eq_ofNat_of_zero_le hzr.1
          rw [hA] at hzr hcz
          have hAN : A < len := by omega
          have HF : Hid (∀ W, Below w.heap.size w W → W.cell? ⟨b, off + i, none⟩ = some (.slice (some ⟨br, o2, none⟩) li ci) ∧ W.cell? ⟨br, o2 + j, none⟩ = some (.int .i64 (A : Int))) := Lib.hid (fun W h => ⟨HCL.out W h, hcz W h⟩)
          have hnext : Hid ((rowsT (revTo g i ++ revRow ((gr g i).take j) i) len).set A (gr (rowsT (revTo g i ++ revRow ((gr g i).take j) i) len) A ++ [(i : Int)]) = rowsT (revTo g i ++ revRow ((gr g i).take (j + 1)) i) len) := Lib.hid (by
            rw [rowsT_snoc hAN, revRow_succ _ _ (by rw [HRL.out]; exact hjl), hA, List.append_assoc])
          have hrlen : Hid ((gr (rowsT (revTo g i ++ revRow ((gr g i).take j) i) len) A).length ≤ 200000) := Lib.hid (by
            rw [gr_rowsT hAN]
            have h0 := tgt_len (revTo g i ++ revRow ((gr g i).take j) i) A
            have h1 := revTo_len HV.out i (by rw [HL.out]; omega)
            have h2 := HN.out
            have h3 := HLI.out
            have h4 : (revRow ((gr g i).take j) i).length ≤ j := by simp only [revRow, List.length_map, List.length_take]; omega
            rw [List.length_append] at h0
            omega)
          obtain ⟨rs, hrs⟩ : ∃ rs, rowsT (revTo g i ++ revRow ((gr g i).take j) i) len = rs := ⟨_, rfl⟩
          rw [hrs] at hG hnext hrlen
          obtain ⟨v0, hv0, hrow0⟩ := hG.mem hAN
          obtain ⟨a0, c0, rfl, -⟩ := owns_slice hrow0
          obtain ⟨n0, hn0⟩ : ∃ n0, (gr rs A).length = n0 := ⟨_, rfl⟩
          rw [hn0] at hv0 hrow0 hrlen
          have HN0 := Lib.hid hn0
          clear hn0 hA hzr hcz hrs hrow0 hli
          go_wp2_with (fail)
          obtain ⟨S, hSd⟩ : ∃ S : (Nat → Bool) → (Nat → Value) → World → Prop, S = fun L f W => Below w.heap.size w W ∧ (L 19 = true → L 20 = false → ∃ q, f 19 = .slice (some ⟨q, 0, none⟩) 1 1 ∧ BlkAt W q #[.int .i64 (i : Int)]) ∧ OwnG W w.heap.size 25 3 (some ⟨w1.heap.size, 0, none⟩) len len (if L 22 = true then ms.set A (f 20) else ms) (if L 20 = true then ms.set A (f 20) else ms) (if L 20 = true then rs.set A (gr rs A ++ [(i : Int)]) else rs) := ⟨_, rfl⟩
          refine wp_region_st mixed (by kernel_rfl) [[], [], [], [(1, 29), (2, 30)], [(3, 31)], [], [(4, 32), (5, 33)], [(6, 34)], [], [], [], [(9, 37), (10, 38)], [(11, 39)], [], [(12, 40), (13, 41)], [(14, 42)], [(8, 36), (15, 43)], [(16, 44)], [], [(18, 46)], [(17, 45), (19, 47)], [(0, 28), (7, 35), (0, 28), (1, 29), (2, 30), (3, 31), (4, 32), (5, 33), (6, 34), (7, 35), (8, 36), (9, 37), (10, 38), (11, 39), (12, 40), (13, 41), (14, 42), (15, 43), (16, 44), (17, 45), (18, 46), (19, 47), (20, 48)], [(21, 49), (20, 48), (20, 48), (0, 28), (1, 29), (2, 30), (3, 31), (4, 32), (5, 33), (6, 34), (7, 35), (8, 36), (9, 37), (10, 38), (11, 39), (12, 40), (13, 41), (14, 42), (15, 43), (16, 44), (17, 45), (18, 46), (19, 47), (20, 48)]] [(0, 28), (1, 29), (2, 30), (3, 31), (4, 32), (5, 33), (6, 34), (7, 35), (8, 36), (9, 37), (10, 38), (11, 39), (12, 40), (13, 41), (14, 42), (15, 43), (16, 44), (17, 45), (18, 46), (19, 47), (20, 48), (21, 49)] rfl rfl [EV ?e0, EV ?e1, EV ?e2, EV ?e3, EV ?e4, EV ?e5, EV ?e6, EV ?e7, EV ?e8, EV ?e9, EV ?e10, EV ?e11, EV ?e12, EV ?e13, EV ?e14, EV ?e15, EV ?e16, EV ?e17, EV ?e18, fun v => ∃ b, v = .slice (some ⟨b, 0, none⟩) 1 1, fun v => ∃ a c, v = .slice a (n0 + 1) c, EV ?e21, fun _ => True] S ?start ?steps ?rest
          case start =>
            intro f
            rw [hSd]
            exact ⟨hB.drew, fun h => (by cases h), hG.kept ((Below.refl _ _).drew)⟩
          case steps =>
            refine ⟨fun L f W hi hd hdn hh hS => ?_, fun L f W hi hd hdn hh hS => ?_, fun L f W hi hd hdn hh hS => ?_, fun L f W hi hd hdn hh hS => ?_, fun L f W hi hd hdn hh hS => ?_, fun L f W hi hd hdn hh hS => ?_, fun L f W hi hd hdn hh hS => ?_, fun L f W hi hd hdn hh hS => ?_, fun L f W hi hd hdn hh hS => ?_, fun L f W hi hd hdn hh hS => ?_, fun L f W hi hd hdn hh hS => ?_, fun L f W hi hd hdn hh hS => ?_, fun L f W hi hd hdn hh hS => ?_, fun L f W hi hd hdn hh hS => ?_, fun L f W hi hd hdn hh hS => ?_, fun L f W hi hd hdn hh hS => ?_, fun L f W hi hd hdn hh hS => ?_, fun L f W hi hd hdn hh hS => ?_, fun L f W hi hd hdn hh hS => ?_, fun L f W hi hd hdn hh hS => ?_, fun L f W hi hd hdn hh hS => ?_, fun L f W hi hd hdn hh hS => ?_, fun L f W hi hd hdn hh hS => ?_, trivial⟩
            · -- 0: Op.move (Operand.tmp 4)
              unfold stStep
              rw [if_pos (by simp [Region.wanted])]
              intro K Q hK
              simp only [puts, List.foldr_nil]
              go_step
              refine st_ex hK rfl rfl (by simp only [Act.put, List.setIfInBounds_toArray, List.set_cons_succ, List.set_cons_zero, Array.getD_eq_getD_getElem?, List.getElem?_toArray, List.getElem?_cons_succ, List.getElem?_cons_zero, Option.getD_some] <;> rfl) rfl (by rw [hSd] at hS ⊢; exact hS)
            · -- 1: Op.move (Operand.tmp 0)
              unfold stStep
              rw [if_pos (by simp [Region.wanted])]
              intro K Q hK
              simp only [puts, List.foldr_nil]
              go_step
              refine st_ex hK rfl rfl (by simp only [Act.put, List.setIfInBounds_toArray, List.set_cons_succ, List.set_cons_zero, Array.getD_eq_getD_getElem?, List.getElem?_toArray, List.getElem?_cons_succ, List.getElem?_cons_zero, Option.getD_some] <;> rfl) rfl (by rw [hSd] at hS ⊢; exact hS)
            · -- 2: Op.move (Operand.tmp 5)
              unfold stStep
              rw [if_pos (by simp [Region.wanted])]
              intro K Q hK
              simp only [puts, List.foldr_nil]
              go_step
              refine st_ex hK rfl rfl (by simp only [Act.put, List.setIfInBounds_toArray, List.set_cons_succ, List.set_cons_zero, Array.getD_eq_getD_getElem?, List.getElem?_toArray, List.getElem?_cons_succ, List.getElem?_cons_zero, Option.getD_some] <;> rfl) rfl (by rw [hSd] at hS ⊢; exact hS)
            · -- 3: Op.indexAddr 22 (Operand.tmp 29) (Operand.tmp 30)
              obtain ⟨h1, h2, -⟩ := hh
              have g1 : f 1 = _ := h1
              have g2 : f 2 = _ := h2
              unfold stStep
              rw [if_pos (by simp [Region.wanted])]
              intro K Q hK
              simp only [puts, List.foldr_cons, List.foldr_nil, List.setIfInBounds_toArray, List.set_cons_succ, List.set_cons_zero, g1, g2]
              go_step
              refine st_ex hK rfl rfl (by simp only [Act.put, List.setIfInBounds_toArray, List.set_cons_succ, List.set_cons_zero, Array.getD_eq_getD_getElem?, List.getElem?_toArray, List.getElem?_cons_succ, List.getElem?_cons_zero, Option.getD_some] <;> rfl) rfl (by rw [hSd] at hS ⊢; exact hS)
            · -- 4: Op.load 25 (Operand.tmp 31)
              obtain ⟨h3, -⟩ := hh
              have g3 : f 3 = _ := h3
              unfold stStep
              rw [if_pos (by simp [Region.wanted])]
              intro K Q hK
              simp only [puts, List.foldr_cons, List.foldr_nil, List.setIfInBounds_toArray, List.set_cons_succ, List.set_cons_zero, g3]
              have hS' := hS
              rw [hSd] at hS'
              obtain ⟨q1, q2⟩ := HF.out W hS'.1
              go_step
              refine st_ex hK rfl rfl (by simp only [Act.put, List.setIfInBounds_toArray, List.set_cons_succ, List.set_cons_zero, Array.getD_eq_getD_getElem?, List.getElem?_toArray, List.getElem?_cons_succ, List.getElem?_cons_zero, Option.getD_some] <;> rfl) rfl (by rw [hSd] at hS ⊢; exact hS)
            · -- 5: Op.move (Operand.tmp 6)
              unfold stStep
              rw [if_pos (by simp [Region.wanted])]
              intro K Q hK
              simp only [puts, List.foldr_nil]
              go_step
              refine st_ex hK rfl rfl (by simp only [Act.put, List.setIfInBounds_toArray, List.set_cons_succ, List.set_cons_zero, Array.getD_eq_getD_getElem?, List.getElem?_toArray, List.getElem?_cons_succ, List.getElem?_cons_zero, Option.getD_some] <;> rfl) rfl (by rw [hSd] at hS ⊢; exact hS)
            · -- 6: Op.indexAddr 25 (Operand.tmp 32) (Operand.tmp 33)
              obtain ⟨h4, h5, -⟩ := hh
              have g4 : f 4 = _ := h4
              have g5 : f 5 = _ := h5
              unfold stStep
              rw [if_pos (by simp [Region.wanted])]
              intro K Q hK
              simp only [puts, List.foldr_cons, List.foldr_nil, List.setIfInBounds_toArray, List.set_cons_succ, List.set_cons_zero, g4, g5]
              go_step
              refine st_ex hK rfl rfl (by simp only [Act.put, List.setIfInBounds_toArray, List.set_cons_succ, List.set_cons_zero, Array.getD_eq_getD_getElem?, List.getElem?_toArray, List.getElem?_cons_succ, List.getElem?_cons_zero, Option.getD_some] <;> rfl) rfl (by rw [hSd] at hS ⊢; exact hS)
            · -- 7: Op.load 3 (Operand.tmp 34)
              obtain ⟨h6, -⟩ := hh
              have g6 : f 6 = _ := h6
              unfold stStep
              rw [if_pos (by simp [Region.wanted])]
              intro K Q hK
              simp only [puts, List.foldr_cons, List.foldr_nil, List.setIfInBounds_toArray, List.set_cons_succ, List.set_cons_zero, g6]
              have hS' := hS
              rw [hSd] at hS'
              obtain ⟨q1, q2⟩ := HF.out W hS'.1
              go_step
              refine st_ex hK rfl rfl (by simp only [Act.put, List.setIfInBounds_toArray, List.set_cons_succ, List.set_cons_zero, Array.getD_eq_getD_getElem?, List.getElem?_toArray, List.getElem?_cons_succ, List.getElem?_cons_zero, Option.getD_some] <;> rfl) rfl (by rw [hSd] at hS ⊢; exact hS)
            · -- 8: Op.move (Operand.tmp 4)
              unfold stStep
              rw [if_pos (by simp [Region.wanted])]
              intro K Q hK
              simp only [puts, List.foldr_nil]
              go_step
              refine st_ex hK rfl rfl (by simp only [Act.put, List.setIfInBounds_toArray, List.set_cons_succ, List.set_cons_zero, Array.getD_eq_getD_getElem?, List.getElem?_toArray, List.getElem?_cons_succ, List.getElem?_cons_zero, Option.getD_some] <;> rfl) rfl (by rw [hSd] at hS ⊢; exact hS)
            · -- 9: Op.move (Operand.tmp 0)
              unfold stStep
              rw [if_pos (by simp [Region.wanted])]
              intro K Q hK
              simp only [puts, List.foldr_nil]
              go_step
              refine st_ex hK rfl rfl (by simp only [Act.put, List.setIfInBounds_toArray, List.set_cons_succ, List.set_cons_zero, Array.getD_eq_getD_getElem?, List.getElem?_toArray, List.getElem?_cons_succ, List.getElem?_cons_zero, Option.getD_some] <;> rfl) rfl (by rw [hSd] at hS ⊢; exact hS)
            · -- 10: Op.move (Operand.tmp 5)
              unfold stStep
              rw [if_pos (by simp [Region.wanted])]
              intro K Q hK
              simp only [puts, List.foldr_nil]
              go_step
              refine st_ex hK rfl rfl (by simp only [Act.put, List.setIfInBounds_toArray, List.set_cons_succ, List.set_cons_zero, Array.getD_eq_getD_getElem?, List.getElem?_toArray, List.getElem?_cons_succ, List.getElem?_cons_zero, Option.getD_some] <;> rfl) rfl (by rw [hSd] at hS ⊢; exact hS)
            · -- 11: Op.indexAddr 22 (Operand.tmp 37) (Operand.tmp 38)
              obtain ⟨h9, h10, -⟩ := hh
              have g9 : f 9 = _ := h9
              have g10 : f 10 = _ := h10
              unfold stStep
              rw [if_pos (by simp [Region.wanted])]
              intro K Q hK
              simp only [puts, List.foldr_cons, List.foldr_nil, List.setIfInBounds_toArray, List.set_cons_succ, List.set_cons_zero, g9, g10]
              go_step
              refine st_ex hK rfl rfl (by simp only [Act.put, List.setIfInBounds_toArray, List.set_cons_succ, List.set_cons_zero, Array.getD_eq_getD_getElem?, List.getElem?_toArray, List.getElem?_cons_succ, List.getElem?_cons_zero, Option.getD_some] <;> rfl) rfl (by rw [hSd] at hS ⊢; exact hS)
            · -- 12: Op.load 25 (Operand.tmp 39)
              obtain ⟨h11, -⟩ := hh
              have g11 : f 11 = _ := h11
              unfold stStep
              rw [if_pos (by simp [Region.wanted])]
              intro K Q hK
              simp only [puts, List.foldr_cons, List.foldr_nil, List.setIfInBounds_toArray, List.set_cons_succ, List.set_cons_zero, g11]
              have hS' := hS
              rw [hSd] at hS'
              obtain ⟨q1, q2⟩ := HF.out W hS'.1
              go_step
              refine st_ex hK rfl rfl (by simp only [Act.put, List.setIfInBounds_toArray, List.set_cons_succ, List.set_cons_zero, Array.getD_eq_getD_getElem?, List.getElem?_toArray, List.getElem?_cons_succ, List.getElem?_cons_zero, Option.getD_some] <;> rfl) rfl (by rw [hSd] at hS ⊢; exact hS)
            · -- 13: Op.move (Operand.tmp 6)
              unfold stStep
              rw [if_pos (by simp [Region.wanted])]
              intro K Q hK
              simp only [puts, List.foldr_nil]
              go_step
              refine st_ex hK rfl rfl (by simp only [Act.put, List.setIfInBounds_toArray, List.set_cons_succ, List.set_cons_zero, Array.getD_eq_getD_getElem?, List.getElem?_toArray, List.getElem?_cons_succ, List.getElem?_cons_zero, Option.getD_some] <;> rfl) rfl (by rw [hSd] at hS ⊢; exact hS)
            · -- 14: Op.indexAddr 25 (Operand.tmp 40) (Operand.tmp 41)
              obtain ⟨h12, h13, -⟩ := hh
              have g12 : f 12 = _ := h12
              have g13 : f 13 = _ := h13
              unfold stStep
              rw [if_pos (by simp [Region.wanted])]
              intro K Q hK
              simp only [puts, List.foldr_cons, List.foldr_nil, List.setIfInBounds_toArray, List.set_cons_succ, List.set_cons_zero, g12, g13]
              go_step
              refine st_ex hK rfl rfl (by simp only [Act.put, List.setIfInBounds_toArray, List.set_cons_succ, List.set_cons_zero, Array.getD_eq_getD_getElem?, List.getElem?_toArray, List.getElem?_cons_succ, List.getElem?_cons_zero, Option.getD_some] <;> rfl) rfl (by rw [hSd] at hS ⊢; exact hS)
            · -- 15: Op.load 3 (Operand.tmp 42)
              obtain ⟨h14, -⟩ := hh
              have g14 : f 14 = _ := h14
              unfold stStep
              rw [if_pos (by simp [Region.wanted])]
              intro K Q hK
              simp only [puts, List.foldr_cons, List.foldr_nil, List.setIfInBounds_toArray, List.set_cons_succ, List.set_cons_zero, g14]
              have hS' := hS
              rw [hSd] at hS'
              obtain ⟨q1, q2⟩ := HF.out W hS'.1
              go_step
              refine st_ex hK rfl rfl (by simp only [Act.put, List.setIfInBounds_toArray, List.set_cons_succ, List.set_cons_zero, Array.getD_eq_getD_getElem?, List.getElem?_toArray, List.getElem?_cons_succ, List.getElem?_cons_zero, Option.getD_some] <;> rfl) rfl (by rw [hSd] at hS ⊢; exact hS)
            · -- 16: Op.indexAddr 22 (Operand.tmp 36) (Operand.tmp 43)
              obtain ⟨h8, h15, -⟩ := hh
              have g8 : f 8 = _ := h8
              have g15 : f 15 = _ := h15
              unfold stStep
              rw [if_pos (by simp [Region.wanted])]
              intro K Q hK
              simp only [puts, List.foldr_cons, List.foldr_nil, List.setIfInBounds_toArray, List.set_cons_succ, List.set_cons_zero, g8, g15]
              go_step
              refine st_ex hK rfl rfl (by simp only [Act.put, List.setIfInBounds_toArray, List.set_cons_succ, List.set_cons_zero, Array.getD_eq_getD_getElem?, List.getElem?_toArray, List.getElem?_cons_succ, List.getElem?_cons_zero, Option.getD_some] <;> rfl) rfl (by rw [hSd] at hS ⊢; exact hS)
            · -- 17: Op.load 25 (Operand.tmp 44)
              obtain ⟨h16, -⟩ := hh
              have g16 : f 16 = _ := h16
              have l20 : L 20 = false := Bool.eq_false_iff.2 fun h => by have q := hdn 20 _ h rfl 17 (by decide); rw [show L 17 = false from hi] at q; cases q
              have l22 : L 22 = false := Bool.eq_false_iff.2 fun h => by have q := hdn 22 _ h rfl 20 (by decide); rw [show L 20 = false from l20] at q; cases q
              unfold stStep
              rw [if_pos (by simp [Region.wanted])]
              intro K Q hK
              simp only [puts, List.foldr_cons, List.foldr_nil, List.setIfInBounds_toArray, List.set_cons_succ, List.set_cons_zero, g16]
              have hS' := hS
              rw [hSd] at hS'
              simp only [l22, if_false, Bool.false_eq_true] at hS'
              obtain ⟨c7, -⟩ := hS'.2.2.cell hv0
              go_step
              refine st_ex hK rfl rfl (by simp only [Act.put, List.setIfInBounds_toArray, List.set_cons_succ, List.set_cons_zero, Array.getD_eq_getD_getElem?, List.getElem?_toArray, List.getElem?_cons_succ, List.getElem?_cons_zero, Option.getD_some] <;> rfl) rfl (by rw [hSd] at hS ⊢; exact hS)
            · -- 18: Op.move (Operand.tmp 5)
              unfold stStep
              rw [if_pos (by simp [Region.wanted])]
              intro K Q hK
              simp only [puts, List.foldr_nil]
              go_step
              refine st_ex hK rfl rfl (by simp only [Act.put, List.setIfInBounds_toArray, List.set_cons_succ, List.set_cons_zero, Array.getD_eq_getD_getElem?, List.getElem?_toArray, List.getElem?_cons_succ, List.getElem?_cons_zero, Option.getD_some] <;> rfl) rfl (by rw [hSd] at hS ⊢; exact hS)
            · -- 19: Op.buildSlice 25 1 #[(0, Operand.tmp 46)]
              obtain ⟨h18, -⟩ := hh
              have g18 : f 18 = _ := h18
              have l20 : L 20 = false := Bool.eq_false_iff.2 fun h => by have q := hdn 20 _ h rfl 19 (by decide); rw [show L 19 = false from hi] at q; cases q
              have l22 : L 22 = false := Bool.eq_false_iff.2 fun h => by have q := hdn 22 _ h rfl 20 (by decide); rw [show L 20 = false from l20] at q; cases q
              unfold stStep
              rw [if_pos (by simp [Region.wanted])]
              intro K Q hK
              simp only [puts, List.foldr_cons, List.foldr_nil, List.setIfInBounds_toArray, List.set_cons_succ, List.set_cons_zero, g18]
              rw [hSd] at hS hK
              have l19 : L 19 = false := hi
              try simp only [stage, l20, l22, l19, if_true, if_false, Bool.false_eq_true] at hS
              obtain ⟨hbW, -, hGW⟩ := hS
              have hal : Below W.heap.size W (W.alloc (.cells #[.int .i64 (i : Int)] 3)) := (Below.refl _ _).alloc (Nat.le_refl _) _
              go_step
              refine hK.out _ _ rfl ⟨_, rfl⟩ ?_
              refine ⟨hbW.alloc hbW.size _, fun _ _ => ⟨_, rfl, BlkAt.new W _ _⟩, ?_⟩
              simp only [l20, l22, Bool.false_eq_true, ↓reduceIte, Nat.reduceEqDiff]
              exact hGW.kept hal
            · -- 20: Op.call { callee := Callee.builtin Builtin.append, args := #[Operand.tmp 45, Operand.tmp 4
              obtain ⟨h17, h19, -⟩ := hh
              have g17 : f 17 = _ := h17
              obtain ⟨b19, (g19 : f 19 = _)⟩ := h19
              have l19 : L 19 = true := hd 19 (by decide)
              have l22 : L 22 = false := Bool.eq_false_iff.2 fun h => by have q := hdn 22 _ h rfl 20 (by decide); rw [show L 20 = false from hi] at q; cases q
              unfold stStep
              rw [if_pos (by simp [Region.wanted])]
              intro K Q hK
              simp only [puts, List.foldr_cons, List.foldr_nil, List.setIfInBounds_toArray, List.set_cons_succ, List.set_cons_zero, g17, g19]
              rw [hSd] at hS hK
              have l20 : L 20 = false := hi
              try simp only [stage, l22, l20, l19, if_true, if_false, Bool.false_eq_true] at hS
              obtain ⟨hbW, h10, hGW⟩ := hS
              obtain ⟨q, e10, hq⟩ := h10 trivial trivial
              rw [g19] at e10
              obtain rfl : b19 = q := by simpa using e10
              try simp only [l20, l22, if_false, Bool.false_eq_true] at hGW
              obtain ⟨u, hu, hrow⟩ := hGW.row A hAN
              rw [hv0] at hu
              injection hu with hu
              subst hu
              rw [HN0.out] at hrow
              refine wp_app_blk elI64 _ _ rfl rfl hrow rfl (news := [.int .i64 (i : Int)]) ⟨rfl, fun ad e j u hj => by injection e with e; subst e; rw [addr_add, Nat.zero_add, (hq.cell j).1, ← hj]; simp, fun e => by cases e⟩ (by intro u hu; rw [List.mem_singleton.1 hu]; rfl) (by have := hrlen.out; omega) hbW.size ?_
              intro a' c' w' ho hg hbw hblk
              have ho2 : w'.ownsRow w.heap.size 3 1 (.slice a' (n0 + 1) c') (gr rs A ++ [(i : Int)]).length (ivs .i64 (gr rs A ++ [(i : Int)])) := by rw [ivs_append, List.length_append, HN0.out]; exact ho
              refine hK.out _ _ rfl ⟨a', c', rfl⟩ ?_
              refine ⟨hbW.trans hbw, fun _ h => (by simp at h), ?_⟩
              simp only [l22, Bool.false_eq_true, ↓reduceIte, Nat.reduceEqDiff]
              exact hGW.grow hAN hv0 hg ho2 (hblk.elim .inl fun h => .inr (.inl h))
            · -- 21: Op.indexAddr 22 (Operand.tmp 28) (Operand.tmp 35)
              obtain ⟨h0, h7, _, h1, h2, h3, h4, h5, h6, _, h8, h9, h10, h11, h12, h13, h14, h15, h16, h17, h18, h19, h20, -⟩ := hh
              have g0 : f 0 = _ := h0
              have g7 : f 7 = _ := h7
              have g1 : f 1 = _ := h1
              have g2 : f 2 = _ := h2
              have g3 : f 3 = _ := h3
              have g4 : f 4 = _ := h4
              have g5 : f 5 = _ := h5
              have g6 : f 6 = _ := h6
              have g8 : f 8 = _ := h8
              have g9 : f 9 = _ := h9
              have g10 : f 10 = _ := h10
              have g11 : f 11 = _ := h11
              have g12 : f 12 = _ := h12
              have g13 : f 13 = _ := h13
              have g14 : f 14 = _ := h14
              have g15 : f 15 = _ := h15
              have g16 : f 16 = _ := h16
              have g17 : f 17 = _ := h17
              have g18 : f 18 = _ := h18
              obtain ⟨b19, (g19 : f 19 = _)⟩ := h19
              obtain ⟨a20, c20, (g20 : f 20 = _)⟩ := h20
              unfold stStep
              rw [if_pos (by simp [Region.wanted])]
              intro K Q hK
              simp only [puts, List.foldr_cons, List.foldr_nil, List.setIfInBounds_toArray, List.set_cons_succ, List.set_cons_zero, g0, g7, g1, g2, g3, g4, g5, g6, g8, g9, g10, g11, g12, g13, g14, g15, g16, g17, g18, g19, g20]
              go_step
              refine st_ex hK rfl rfl (by simp only [Act.put, List.setIfInBounds_toArray, List.set_cons_succ, List.set_cons_zero, Array.getD_eq_getD_getElem?, List.getElem?_toArray, List.getElem?_cons_succ, List.getElem?_cons_zero, Option.getD_some] <;> rfl) rfl (by rw [hSd] at hS ⊢; exact hS)
            · -- 22: Op.store 25 (Operand.tmp 49) (Operand.tmp 48)
              obtain ⟨h21, h20, _, h0, h1, h2, h3, h4, h5, h6, h7, h8, h9, h10, h11, h12, h13, h14, h15, h16, h17, h18, h19, _, -⟩ := hh
              have g21 : f 21 = _ := h21
              obtain ⟨a20, c20, (g20 : f 20 = _)⟩ := h20
              have g0 : f 0 = _ := h0
              have g1 : f 1 = _ := h1
              have g2 : f 2 = _ := h2
              have g3 : f 3 = _ := h3
              have g4 : f 4 = _ := h4
              have g5 : f 5 = _ := h5
              have g6 : f 6 = _ := h6
              have g7 : f 7 = _ := h7
              have g8 : f 8 = _ := h8
              have g9 : f 9 = _ := h9
              have g10 : f 10 = _ := h10
              have g11 : f 11 = _ := h11
              have g12 : f 12 = _ := h12
              have g13 : f 13 = _ := h13
              have g14 : f 14 = _ := h14
              have g15 : f 15 = _ := h15
              have g16 : f 16 = _ := h16
              have g17 : f 17 = _ := h17
              have g18 : f 18 = _ := h18
              obtain ⟨b19, (g19 : f 19 = _)⟩ := h19
              have l20 : L 20 = true := hd 20 (by decide)
              unfold stStep
              rw [if_pos (by simp [Region.wanted])]
              intro K Q hK
              simp only [puts, List.foldr_cons, List.foldr_nil, List.setIfInBounds_toArray, List.set_cons_succ, List.set_cons_zero, g21, g20, g0, g1, g2, g3, g4, g5, g6, g7, g8, g9, g10, g11, g12, g13, g14, g15, g16, g17, g18, g19]
              rw [hSd] at hS hK
              have l22 : L 22 = false := hi
              try simp only [stage, l22, l20, if_true, if_false, Bool.false_eq_true] at hS
              obtain ⟨hbW, -, hGW⟩ := hS
              have l20' : L 20 = true := hd 20 (by decide)
              try simp only [l20', l22, if_false, if_true, Bool.false_eq_true] at hGW
              rw [g20] at hGW
              obtain ⟨c13, f13⟩ := hGW.cell hv0
              go_step
              refine hK.out _ _ rfl trivial ?_
              refine ⟨hbW.setCell (by show w.heap.size ≤ w1.heap.size; exact HG1.out) _, fun _ h => (by simp [l20'] at h), ?_⟩
              simp only [l20', ↓reduceIte, Nat.reduceEqDiff, g20]
              exact hGW.put hAN _
          case rest =>
            intro L f WA hL hh hS
            rw [hSd] at hS
            clear hSd
            have l19 : L 19 = true := hL 19 (by decide)
            have l20 : L 20 = true := hL 20 (by decide)
            have l22 : L 22 = true := hL 22 (by decide)
            simp only [stage, l19, l20, l22, if_true] at hS
            clear hL l19 l20 l22
            obtain ⟨h0, h1, h2, h3, h4, h5, h6, h7, h8, h9, h10, h11, h12, h13, h14, h15, h16, h17, h18, h19, h20, h21, -⟩ := hh
            have g0 : f 0 = _ := h0
            have g1 : f 1 = _ := h1
            have g2 : f 2 = _ := h2
            have g3 : f 3 = _ := h3
            have g4 : f 4 = _ := h4
            have g5 : f 5 = _ := h5
            have g6 : f 6 = _ := h6
            have g7 : f 7 = _ := h7
            have g8 : f 8 = _ := h8
            have g9 : f 9 = _ := h9
            have g10 : f 10 = _ := h10
            have g11 : f 11 = _ := h11
            have g12 : f 12 = _ := h12
            have g13 : f 13 = _ := h13
            have g14 : f 14 = _ := h14
            have g15 : f 15 = _ := h15
            have g16 : f 16 = _ := h16
            have g17 : f 17 = _ := h17
            have g18 : f 18 = _ := h18
            obtain ⟨b19, (g19 : f 19 = _)⟩ := h19
            obtain ⟨a20, c20, (g20 : f 20 = _)⟩ := h20
            have g21 : f 21 = _ := h21
            simp only [puts, List.foldr_cons, List.foldr_nil, List.setIfInBounds_toArray, List.set_cons_succ, List.set_cons_zero, g0, g1, g2, g3, g4, g5, g6, g7, g8, g9, g10, g11, g12, g13, g14, g15, g16, g17, g18, g19, g20, g21]
            clear h0 h1 h2 h3 h4 h5 h6 h7 h8 h9 h10 h11 h12 h13 h14 h15 h16 h17 h18 h21 g0 g1 g2 g3 g4 g5 g6 g7 g8 g9 g10 g11 g12 g13 g14 g15 g16 g17 g18 g21
            simp only [g20] at hS
            obtain ⟨hbW, -, hGW⟩ := hS
            rw [hnext.out] at hGW
            have hli := HLI.out
            clear hG hB hc hv0
            go_wp2
            go_roundw
            case rel => exact ⟨j + 1, _, hjl, by go_num, hGW, hbW⟩
            case measure => simp [intOf]; omega
        · obtain rfl : j = li := by omega
          have t2 : decide ((j : Int) < j) = false := decide_eq_false (by omega)
          have hG2 : OwnG wr w.heap.size 25 3 (some ⟨w1.heap.size, 0, none⟩) len len ms ms (rowsT (revTo g (i + 1)) len) := by
            rw [revTo_succ]
            rw [List.take_of_length_le (by rw [HRL.out]; exact Nat.le_refl _)] at hG
            exact hG
          have hN4 := HN.out
          clear hG
          go_wp2_with (fail)
          go_roundw
          case rel => exact ⟨i + 1, ms, hlt, by go_num, hG2, hB⟩
          case measure => simp [intOf]; omega
    · obtain rfl : i = len := by omega
      have t1 : decide ((i : Int) < i) = false := decide_eq_false (by omega)
      have hrb : rowsT (revTo g i) i = backG g := by have := rowsT_back HV.out; rwa [HL.out] at this
      rw [hrb] at hG
      clear hrb
      go_wp2
      go_ret2
      exact ⟨.inr ⟨HV.out, _, _, ms, rfl, hG⟩, hB⟩
end Go.Proofs.Ytlogmgkjikamaaa
