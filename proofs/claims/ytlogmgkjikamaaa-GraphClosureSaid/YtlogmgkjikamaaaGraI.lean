/-
  The reference: Few, nodes, Same.
-/
import Derived.Test.YtlogmgkjikamaaaGraC
import Derived.Test.YtlogmgkjikamaaaFam2
set_option linter.unusedSimpArgs false
set_option linter.unusedVariables false
set_option maxHeartbeats 4000000
namespace Go.Proofs.Ytlogmgkjikamaaa
open Go.RowKit
attribute [local go_sem] Oper.semAt_some

variable {a : Option Addr} {len cap : Nat} {g : List (List Int)} {w : World}

/-- A small graph. -/
def FewG (g : List (List Int)) : Prop := g.length ≤ 60 ∧ ∀ i, i < g.length → (gr g i).length ≤ 60
instance (g : List (List Int)) : Decidable (FewG g) := by unfold FewG; exact instDecidableAnd
theorem few_any (hg : IsRows w a len cap g) :
    Calls Try.prog 11 #[.slice a len cap] w fun e w' => e = .returned (.bool (decide (FewG g))) ∧ w = w' := by
  have hcap := hg.cap
  unfold maxLen at hcap
  have HL := Lib.hid hg.length
  go_enter Try.func11, Try.ntmps11
  go_wp2_with (fail)
  go_loop [3] (fun c => ∃ i : Nat, i ≤ len ∧ c = .int .i64 (i : Int) ∧ Hid (∀ r, r < i → (gr g r).length ≤ 60)) (fun c => len - (intOf c).toNat)
  case atStart => exact ⟨0, Nat.zero_le _, rfl, Lib.hid (fun r hr => by omega)⟩
  case round =>
    obtain ⟨i, hi, rfl, HG⟩ := hrel
    rcases Nat.lt_or_ge i len with hlt | hge
    · have t1 : decide ((i : Int) < len) = true := decide_eq_true (by omega)
      obtain ⟨b, off, ai, li, ci, rfl, hcell, hrow⟩ := hg.fix i hlt
      have hc := hcell w (Below.refl _ _)
      have HRL : Hid ((gr g i).length = li) := Lib.hid hrow.length
      clear hcell
      by_cases h6 : 60 < li
      · have d6 : decide (60 < (li : Int)) = true := decide_eq_true (by omega)
        have HE : Hid (decide (FewG g) = false) := Lib.hid (decide_eq_false (fun h => by have := h.2 i (by rw [HL.out]; exact hlt); rw [HRL.out] at this; omega))
        clear h6
        go_wp2_with (fail)
        go_ret
        exact ⟨by rw [HE.out] <;> rfl, rfl⟩
      · have d6 : decide (60 < (li : Int)) = false := decide_eq_false (by omega)
        have HN : Hid (∀ r, r < i + 1 → (gr g r).length ≤ 60) := Lib.hid (fun r hr => by
          rcases Nat.lt_or_ge r i with h | h
          · exact HG.out r h
          · rw [show r = i by omega, HRL.out]; omega)
        clear h6
        go_wp2_with (fail)
        go_round
        case rel => exact ⟨i + 1, hlt, by go_num, HN⟩
        case measure => simp [intOf]; omega
    · obtain rfl : i = len := by omega
      have t1 : decide ((i : Int) < i) = false := decide_eq_false (by omega)
      by_cases h4 : i ≤ 60
      · have d4 : decide ((i : Int) ≤ 60) = true := decide_eq_true (by omega)
        have HE : Hid (decide (FewG g) = true) := Lib.hid (decide_eq_true ⟨by rw [HL.out]; exact h4, fun r hr => HG.out r (by rw [← HL.out]; exact hr)⟩)
        go_wp2
        go_ret
        exact ⟨by rw [HE.out] <;> rfl, rfl⟩
      · have d4 : decide ((i : Int) ≤ 60) = false := decide_eq_false (by omega)
        have HE : Hid (decide (FewG g) = false) := Lib.hid (decide_eq_false (fun h => h4 (by rw [← HL.out]; exact h.1)))
        go_wp2
        go_ret
        exact ⟨by rw [HE.out] <;> rfl, rfl⟩

/-- Numbers that are nodes. -/
def NodesOk (N : Nat) (l : List Int) : Prop := ∀ z ∈ l, 0 ≤ z ∧ z < (N : Int)
instance (N : Nat) (l : List Int) : Decidable (NodesOk N l) := by unfold NodesOk; infer_instance
theorem nodesOk_iff {N : Nat} {l : List Int} : NodesOk N l ↔ ∀ k, k < l.length → 0 ≤ gi l k ∧ gi l k < (N : Int) := by
  constructor
  · exact fun h k hk => h _ (gi_mem l k hk)
  · intro h z hz
    obtain ⟨i, hi, e⟩ := List.getElem_of_mem hz
    have := h i hi
    rw [gi_eq _ i hi, e] at this
    exact this
theorem refNodes_any {al : Option Addr} {ll cl : Nat} {l : List Int} (hl : IsRow .i64 w al ll cl l) (hN : len ≤ 9223372036854775807) :
    Calls Try.prog 44 #[.slice a len cap, .slice al ll cl] w fun e w' => e = .returned (.bool (decide (NodesOk len l))) ∧ w = w' := by
  have hcap := hl.cap
  unfold maxLen at hcap
  have HL := Lib.hid hl.length
  go_enter Try.func44, Try.ntmps44
  go_wp2_with (fail)
  go_loop [5] (fun c => ∃ i : Nat, i ≤ ll ∧ c = .int .i64 (i : Int) ∧ Hid (∀ r, r < i → 0 ≤ gi l r ∧ gi l r < (len : Int))) (fun c => ll - (intOf c).toNat)
  case atStart => exact ⟨0, Nat.zero_le _, rfl, Lib.hid (fun r hr => by omega)⟩
  case round =>
    obtain ⟨i, hi, rfl, HG⟩ := hrel
    rcases Nat.lt_or_ge i ll with hlt | hge
    · have t1 : decide ((i : Int) < ll) = true := decide_eq_true (by omega)
      obtain ⟨b, off, rfl, hcell⟩ := hl.fix i hlt
      have hc := hcell w (Below.refl _ _)
      obtain ⟨z, hz⟩ : ∃ z, gi l i = z := ⟨_, rfl⟩
      rw [hz] at hc
      have HZ := Lib.hid hz
      clear hcell hz
      by_cases h0 : z < 0
      · have d0 : decide (z < 0) = true := decide_eq_true h0
        have HE : Hid (decide (NodesOk len l) = false) := Lib.hid (decide_eq_false (fun h => by have := (nodesOk_iff.1 h i (by rw [HL.out]; exact hlt)).1; rw [HZ.out] at this; omega))
        clear h0
        go_wp2_with (fail)
        go_ret
        exact ⟨by rw [HE.out] <;> rfl, rfl⟩
      have d0 : decide (z < 0) = false := decide_eq_false h0
      by_cases h1 : (len : Int) ≤ z
      · have d1 : decide ((len : Int) ≤ z) = true := decide_eq_true h1
        have HE : Hid (decide (NodesOk len l) = false) := Lib.hid (decide_eq_false (fun h => by have := (nodesOk_iff.1 h i (by rw [HL.out]; exact hlt)).2; rw [HZ.out] at this; omega))
        clear h0 h1
        go_wp2_with (fail)
        go_ret
        exact ⟨by rw [HE.out] <;> rfl, rfl⟩
      have d1 : decide ((len : Int) ≤ z) = false := decide_eq_false h1
      have HN : Hid (∀ r, r < i + 1 → 0 ≤ gi l r ∧ gi l r < (len : Int)) := Lib.hid (fun r hr => by
        rcases Nat.lt_or_ge r i with h | h
        · exact HG.out r h
        · rw [show r = i by omega, HZ.out]; omega)
      clear h0 h1
      go_wp2_with (fail)
      go_round
      case rel => exact ⟨i + 1, hlt, by go_num, HN⟩
      case measure => simp [intOf]; omega
    · obtain rfl : i = ll := by omega
      have t1 : decide ((i : Int) < i) = false := decide_eq_false (by omega)
      have HE : Hid (decide (NodesOk len l) = true) := Lib.hid (decide_eq_true (nodesOk_iff.2 fun k hk => HG.out k (by rw [← HL.out]; exact hk)))
      go_wp2
      go_ret
      exact ⟨by rw [HE.out] <;> rfl, rfl⟩

set_option maxRecDepth 20000 in
theorem refSameG_any {a' : Option Addr} {len' cap' : Nat} {h : List (List Int)} (hg : IsRows w a len cap g) (hh : IsRows w a' len' cap' h) (hb : ∀ i, i < len → (gr g i).length ≤ 9223372036854775800) (hl : len ≤ 9223372036854775800) :
    Calls Try.prog 20 #[.slice a len cap, .slice a' len' cap'] w fun e w' => e = .returned (.bool (decide (g = h))) ∧ Below w.heap.size w w' := by
  have HL := Lib.hid hg.length
  have HL' := Lib.hid hh.length
  by_cases hq : len = len'
  · subst hq
    have d0 : ((len : Int) != (len : Int)) = false := by simp
    have HBD := Lib.hid hb
    clear hb
    go_enter Try.func20, Try.ntmps20
    go_wp2_with (fail)
    go_loopw [5] (fun c W => ∃ i : Nat, i ≤ len ∧ c = .int .i64 (i : Int) ∧ Hid (∀ r, r < i → gr g r = gr h r) ∧ Below w.heap.size w W) (fun c _ => len - (intOf c).toNat)
    case atStart => exact ⟨0, Nat.zero_le _, rfl, Lib.hid (fun r hr => by omega), Below.refl _ _⟩
    case round =>
      obtain ⟨i, hi, rfl, HG, hB⟩ := hrel
      rcases Nat.lt_or_ge i len with hlt | hge
      · have t1 : decide ((i : Int) < len) = true := decide_eq_true (by omega)
        obtain ⟨b, off, ai, li, ci, rfl, hcell, hrow⟩ := hg.fix i hlt
        obtain ⟨b', off', ai', li', ci', rfl, hcell', hrow'⟩ := hh.fix i hlt
        have HF : Hid (∀ W, Below wr.heap.size wr W → (W.cell? ⟨b, off + i, none⟩ = some (.slice ai li ci) ∧ W.cell? ⟨b', off' + i, none⟩ = some (.slice ai' li' ci')) ∧ IsRow .i64 W ai li ci (gr g i) ∧ IsRow .i64 W ai' li' ci' (gr h i)) := Lib.hid (fun W hW => by
          have h1 := hB.trans (hW.mono hB.size)
          exact ⟨⟨hcell W h1, hcell' W h1⟩, hrow.later h1, hrow'.later h1⟩)
        have hli : li ≤ 9223372036854775800 := by rw [← hrow.length]; exact HBD.out i hlt
        have HLI := Lib.hid hli
        obtain ⟨u, hu⟩ : ∃ u, decide (gr g i = gr h i) = u := ⟨_, rfl⟩
        have HU := Lib.hid hu
        clear hcell hcell' hrow hrow' hu hli
        go_wp2_with (fail)
        refine wp_region_grow mixed (by kernel_rfl) [[], [], [(0, 17), (1, 18)], [(2, 19)], [], [], [(4, 21), (5, 22)], [(6, 23)], [(3, 20), (7, 24)], [(8, 25)]] [(0, 17), (1, 18), (2, 19), (3, 20), (4, 21), (5, 22), (6, 23), (7, 24), (8, 25), (9, 26)] rfl rfl [Ex ?e0, Ex ?e1, Ex ?e2, Ex ?e3, Ex ?e4, Ex ?e5, Ex ?e6, Ex ?e7, Ex (.bool u), Ex ?e9] ⟨stays_ex _, stays_ex _, stays_ex _, stays_ex _, stays_ex _, stays_ex _, stays_ex _, stays_ex _, stays_ex _, stays_ex _, trivial⟩ ?steps ?rest
        case steps =>
          refine ⟨fun f W hC hh => ?_, fun f W hC hh => ?_, fun f W hC hh => ?_, fun f W hC hh => ?_, fun f W hC hh => ?_, fun f W hC hh => ?_, fun f W hC hh => ?_, fun f W hC hh => ?_, fun f W hC hh => ?_, fun f W hC hh => ?_, trivial⟩
          · -- 0: Op.move (Operand.tmp 0)
            refine tab_plain fun K Q hK => ?_
            simp only [puts, List.foldr_nil]
            go_step
            refine fam_ex hK rfl rfl (by simp only [Act.put, List.setIfInBounds_toArray, List.set_cons_succ, List.set_cons_zero, Array.getD_eq_getD_getElem?, List.getElem?_toArray, List.getElem?_cons_succ, List.getElem?_cons_zero, Option.getD_some] <;> rfl) rfl (Below.refl _ _) hC
          · -- 1: Op.move (Operand.tmp 5)
            refine tab_plain fun K Q hK => ?_
            simp only [puts, List.foldr_nil]
            go_step
            refine fam_ex hK rfl rfl (by simp only [Act.put, List.setIfInBounds_toArray, List.set_cons_succ, List.set_cons_zero, Array.getD_eq_getD_getElem?, List.getElem?_toArray, List.getElem?_cons_succ, List.getElem?_cons_zero, Option.getD_some] <;> rfl) rfl (Below.refl _ _) hC
          · -- 2: Op.indexAddr 22 (Operand.tmp 17) (Operand.tmp 18)
            obtain ⟨h0, h1, -⟩ := hh
            have g0 : f 0 = _ := h0
            have g1 : f 1 = _ := h1
            refine tab_plain fun K Q hK => ?_
            simp only [puts, List.foldr_cons, List.foldr_nil, List.setIfInBounds_toArray, List.set_cons_succ, List.set_cons_zero, g0, g1]
            go_step
            refine fam_ex hK rfl rfl (by simp only [Act.put, List.setIfInBounds_toArray, List.set_cons_succ, List.set_cons_zero, Array.getD_eq_getD_getElem?, List.getElem?_toArray, List.getElem?_cons_succ, List.getElem?_cons_zero, Option.getD_some] <;> rfl) rfl (Below.refl _ _) hC
          · -- 3: Op.load 25 (Operand.tmp 19)
            obtain ⟨h2, -⟩ := hh
            have g2 : f 2 = _ := h2
            refine tab_plain fun K Q hK => ?_
            simp only [puts, List.foldr_cons, List.foldr_nil, List.setIfInBounds_toArray, List.set_cons_succ, List.set_cons_zero, g2]
            obtain ⟨⟨q1, q2⟩, -, -⟩ := HF.out W hC
            go_step
            refine fam_ex hK rfl rfl (by simp only [Act.put, List.setIfInBounds_toArray, List.set_cons_succ, List.set_cons_zero, Array.getD_eq_getD_getElem?, List.getElem?_toArray, List.getElem?_cons_succ, List.getElem?_cons_zero, Option.getD_some] <;> rfl) rfl (Below.refl _ _) hC
          · -- 4: Op.move (Operand.tmp 1)
            refine tab_plain fun K Q hK => ?_
            simp only [puts, List.foldr_nil]
            go_step
            refine fam_ex hK rfl rfl (by simp only [Act.put, List.setIfInBounds_toArray, List.set_cons_succ, List.set_cons_zero, Array.getD_eq_getD_getElem?, List.getElem?_toArray, List.getElem?_cons_succ, List.getElem?_cons_zero, Option.getD_some] <;> rfl) rfl (Below.refl _ _) hC
          · -- 5: Op.move (Operand.tmp 5)
            refine tab_plain fun K Q hK => ?_
            simp only [puts, List.foldr_nil]
            go_step
            refine fam_ex hK rfl rfl (by simp only [Act.put, List.setIfInBounds_toArray, List.set_cons_succ, List.set_cons_zero, Array.getD_eq_getD_getElem?, List.getElem?_toArray, List.getElem?_cons_succ, List.getElem?_cons_zero, Option.getD_some] <;> rfl) rfl (Below.refl _ _) hC
          · -- 6: Op.indexAddr 22 (Operand.tmp 21) (Operand.tmp 22)
            obtain ⟨h4, h5, -⟩ := hh
            have g4 : f 4 = _ := h4
            have g5 : f 5 = _ := h5
            refine tab_plain fun K Q hK => ?_
            simp only [puts, List.foldr_cons, List.foldr_nil, List.setIfInBounds_toArray, List.set_cons_succ, List.set_cons_zero, g4, g5]
            go_step
            refine fam_ex hK rfl rfl (by simp only [Act.put, List.setIfInBounds_toArray, List.set_cons_succ, List.set_cons_zero, Array.getD_eq_getD_getElem?, List.getElem?_toArray, List.getElem?_cons_succ, List.getElem?_cons_zero, Option.getD_some] <;> rfl) rfl (Below.refl _ _) hC
          · -- 7: Op.load 25 (Operand.tmp 23)
            obtain ⟨h6, -⟩ := hh
            have g6 : f 6 = _ := h6
            refine tab_plain fun K Q hK => ?_
            simp only [puts, List.foldr_cons, List.foldr_nil, List.setIfInBounds_toArray, List.set_cons_succ, List.set_cons_zero, g6]
            obtain ⟨⟨q1, q2⟩, -, -⟩ := HF.out W hC
            go_step
            refine fam_ex hK rfl rfl (by simp only [Act.put, List.setIfInBounds_toArray, List.set_cons_succ, List.set_cons_zero, Array.getD_eq_getD_getElem?, List.getElem?_toArray, List.getElem?_cons_succ, List.getElem?_cons_zero, Option.getD_some] <;> rfl) rfl (Below.refl _ _) hC
          · -- 8: Op.call { callee := Callee.value (Operand.func 22), args := #[Operand.tmp 20, Operand.tmp 
            obtain ⟨h3, h7, -⟩ := hh
            have g3 : f 3 = _ := h3
            have g7 : f 7 = _ := h7
            refine tab_plain fun K Q hK => ?_
            simp only [puts, List.foldr_cons, List.foldr_nil, List.setIfInBounds_toArray, List.set_cons_succ, List.set_cons_zero, g3, g7]
            obtain ⟨-, r1, r2⟩ := HF.out W hC
            go_step
            go_at_call 21
            refine (same_any _ _ _ (gr g i) _ _ _ (gr h i) W r1 r2 HLI.out).mono ?_
            rintro e w' ⟨rfl, hb⟩
            rw [HU.out]
            exact fam_fin hK rfl rfl hb (hC.trans (hb.mono hC.size))
          · -- 9: Op.unOp UnOp.not 4 (Operand.tmp 25)
            obtain ⟨h8, -⟩ := hh
            have g8 : f 8 = _ := h8
            refine tab_plain fun K Q hK => ?_
            simp only [puts, List.foldr_cons, List.foldr_nil, List.setIfInBounds_toArray, List.set_cons_succ, List.set_cons_zero, g8]
            go_step
            refine fam_ex hK rfl rfl (by simp only [Act.put, List.setIfInBounds_toArray, List.set_cons_succ, List.set_cons_zero, Array.getD_eq_getD_getElem?, List.getElem?_toArray, List.getElem?_cons_succ, List.getElem?_cons_zero, Option.getD_some] <;> rfl) rfl (Below.refl _ _) hC
        case rest =>
          intro f WA hC hh
          obtain ⟨h0, h1, h2, h3, h4, h5, h6, h7, h8, h9, -⟩ := hh
          have g0 : f 0 = _ := h0
          have g1 : f 1 = _ := h1
          have g2 : f 2 = _ := h2
          have g3 : f 3 = _ := h3
          have g4 : f 4 = _ := h4
          have g5 : f 5 = _ := h5
          have g6 : f 6 = _ := h6
          have g7 : f 7 = _ := h7
          have g8 : f 8 = _ := h8
          have g9 : f 9 = _ := h9
          simp only [puts, List.foldr_cons, List.foldr_nil, List.setIfInBounds_toArray, List.set_cons_succ, List.set_cons_zero, g0, g1, g2, g3, g4, g5, g6, g7, g8, g9]
          clear h0 h1 h2 h3 h4 h5 h6 h7 h8 h9 g0 g1 g2 g3 g4 g5 g6 g7 g8 g9
          have hBA := hB.trans (hC.mono hB.size)
          clear hB hC
          cases u with
          | true =>
            have HN : Hid (∀ r, r < i + 1 → gr g r = gr h r) := Lib.hid (fun r hr => by
              rcases Nat.lt_or_ge r i with h1 | h1
              · exact HG.out r h1
              · rw [show r = i by omega]; exact of_decide_eq_true HU.out)
            go_wp2
            go_roundw
            case rel => exact ⟨i + 1, hlt, by go_num, HN, hBA⟩
            case measure => simp [intOf]; omega
          | false =>
            have HE : Hid (decide (g = h) = false) := Lib.hid (decide_eq_false (fun e => of_decide_eq_false HU.out (by rw [e])))
            go_wp2
            go_ret
            exact ⟨by rw [HE.out] <;> rfl, hBA⟩
      · obtain rfl : i = len := by omega
        have t1 : decide ((i : Int) < i) = false := decide_eq_false (by omega)
        have HE : Hid (decide (g = h) = true) := Lib.hid (decide_eq_true (rows_ext (by rw [HL.out, HL'.out]) fun r hr => HG.out r (by rw [← HL.out]; exact hr)))
        go_wp2
        go_ret
        exact ⟨by rw [HE.out] <;> rfl, hB⟩
  · have d0 : ((len : Int) != (len' : Int)) = true := by simp; omega
    have HE : Hid (decide (g = h) = false) := Lib.hid (decide_eq_false (fun e => hq (by rw [← HL.out, ← HL'.out, e])))
    go_enter Try.func20, Try.ntmps20
    go_wp2_with (fail)
    go_ret
    exact ⟨by rw [HE.out] <;> rfl, Below.refl _ _⟩
end Go.Proofs.Ytlogmgkjikamaaa
