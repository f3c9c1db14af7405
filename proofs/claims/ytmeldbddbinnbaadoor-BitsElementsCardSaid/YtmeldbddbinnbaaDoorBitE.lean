/-
  Package bits: Sub, Equal, Has, Valid, With, Without.
-/
import Derived.Test.YtmeldbddbinnbaaDoorBitC
import Derived.Test.YtmeldbddbinnbaaDoorBitD
set_option linter.unusedSimpArgs false
set_option linter.unusedVariables false
namespace Go.Proofs.YtmeldbddbinnbaaDoor
open Go.RowKit Go.Shelf

/-- What Sub reports. -/
def subB (xs ys : List Int) : Bool := (List.range (min xs.length 64)).all fun i => opW .andNot xs ys i == 0
theorem subB_true {xs ys : List Int} (h : ∀ i, i < min xs.length 64 → opW .andNot xs ys i = 0) : subB xs ys = true := by
  unfold subB
  rw [List.all_eq_true]
  intro i hi
  simpa using h i (List.mem_range.1 hi)
theorem subB_false {xs ys : List Int} {i : Nat} (h : i < min xs.length 64) (h0 : ¬ opW .andNot xs ys i = 0) : subB xs ys = false := by
  rw [Bool.eq_false_iff]
  intro hh
  unfold subB at hh
  rw [List.all_eq_true] at hh
  exact h0 (by simpa using hh i (List.mem_range.2 h))

set_option maxHeartbeats 1000000 in
theorem sub_any (a : Option Addr) (len cap : Nat) (xs : List Int) (a' : Option Addr) (len' cap' : Nat) (ys : List Int) (w : World) (hs : IsInts .u64 w a len cap xs) (hs' : IsInts .u64 w a' len' cap' ys) :
    Calls Tryd.prog 34 #[.slice a len cap, .slice a' len' cap'] w fun e w' => e = .returned (.bool (subB xs ys)) ∧ Below w.heap.size w w' := by
  obtain ⟨m, hm, hm64, hml⟩ : ∃ m : Nat, (if 64 < (len : Int) then 64 else (len : Int)) = (m : Int) ∧ m ≤ 64 ∧ m ≤ len := by
    refine ⟨min len 64, ?_, by omega, by omega⟩
    split <;> omega
  have HM : Hid (m = min xs.length 64) := Lib.hid (by rw [hs.length]; split at hm <;> omega)
  have hcell : ∀ W, Below w.heap.size w W → ∀ k, k < len → ∃ b off, a = some ⟨b, off, none⟩ ∧ W.cell? ⟨b, off + k, none⟩ = some (.int .u64 (gi xs k)) := by
    intro W hb k hk
    rcases hs with ⟨_, h0, _⟩ | ⟨b, off, rfl, _, _, _, hc⟩
    · omega
    · exact ⟨b, off, rfl, by rw [hb.cell (p := ⟨b, off + k, none⟩) (lt_of_cell (hc k hk))]; exact hc k hk⟩
  go_enter Tryd.func34, Tryd.ntmps34
  go_wp2
  go_loopw [9] (fun c W => ∃ k : Nat, k ≤ m ∧ c = .int .i64 (k : Int) ∧ (∀ i, i < k → opW .andNot xs ys i = 0) ∧ Below w.heap.size w W) (fun c _ => m - (intOf c).toNat)
  case atStart => exact ⟨0, Nat.zero_le _, rfl, (fun i hi => by omega), Below.refl _ _⟩
  case round =>
    obtain ⟨k, hk, rfl, hall, hb⟩ := hrel
    have HA := Lib.hid hall
    clear hall
    rcases Nat.lt_or_ge k m with hlt | hge
    · obtain ⟨b, off, rfl, hc⟩ := hcell wr hb k (by omega)
      have hs1 := hs'.later hb
      have hwd : wd xs k = gi xs k := if_pos (by omega)
      have hcb := lt_of_cell hc
      go_wp2
      refine wp_region_grow mixed (by kernel_rfl) [[], [], [(0, 12), (1, 13)], [(2, 14)], [], [], [(4, 16), (5, 17)], [(3, 15), (6, 18)], [(7, 19)]] [(0, 12), (1, 13), (2, 14), (3, 15), (4, 16), (5, 17), (6, 18), (7, 19), (8, 20)] rfl rfl [Ex ?e0, Ex ?e1, Ex ?e2, Ex ?e3, Ex ?e4, Ex ?e5, Ex ?e6, Ex ?e7, Ex ?e8] ⟨stays_ex _, stays_ex _, stays_ex _, stays_ex _, stays_ex _, stays_ex _, stays_ex _, stays_ex _, stays_ex _, trivial⟩ ?steps ?rest
      case steps =>
        refine ⟨fun f W hC hh => ?_, fun f W hC hh => ?_, fun f W hC hh => ?_, fun f W hC hh => ?_, fun f W hC hh => ?_, fun f W hC hh => ?_, fun f W hC hh => ?_, fun f W hC hh => ?_, fun f W hC hh => ?_, trivial⟩
        · -- 0: Op.move (Operand.tmp 0)
          refine tab_plain fun K Q hK => ?_
          simp only [puts, List.foldr_nil]
          go_step
          refine fam_ex hK rfl rfl (by simp only [Act.put, List.setIfInBounds_toArray, List.set_cons_succ, List.set_cons_zero, Array.getD_eq_getD_getElem?, List.getElem?_toArray, List.getElem?_cons_succ, List.getElem?_cons_zero, Option.getD_some] <;> rfl) rfl (Below.refl _ _) hC
        · -- 1: Op.move (Operand.tmp 5)
          refine tab_plain fun K Q hK => ?_
          simp only [puts, List.foldr_nil]
          go_step
          refine fam_ex hK rfl rfl (by simp only [Act.put, List.setIfInBounds_toArray, List.set_cons_succ, List.set_cons_zero, Array.getD_eq_getD_getElem?, List.getElem?_toArray, List.getElem?_cons_succ, List.getElem?_cons_zero, Option.getD_some] <;> rfl) rfl (Below.refl _ _) hC
        · -- 2: Op.indexAddr 26 (Operand.tmp 12) (Operand.tmp 13)
          obtain ⟨h0, h1, -⟩ := hh
          have g0 : f 0 = _ := h0
          have g1 : f 1 = _ := h1
          refine tab_plain fun K Q hK => ?_
          simp only [puts, List.foldr_cons, List.foldr_nil, List.setIfInBounds_toArray, List.set_cons_succ, List.set_cons_zero, g0, g1]
          go_step
          refine fam_ex hK rfl rfl (by simp only [Act.put, List.setIfInBounds_toArray, List.set_cons_succ, List.set_cons_zero, Array.getD_eq_getD_getElem?, List.getElem?_toArray, List.getElem?_cons_succ, List.getElem?_cons_zero, Option.getD_some] <;> rfl) rfl (Below.refl _ _) hC
        · -- 3: Op.load 39 (Operand.tmp 14)
          obtain ⟨h2, -⟩ := hh
          have g2 : f 2 = _ := h2
          refine tab_plain fun K Q hK => ?_
          simp only [puts, List.foldr_cons, List.foldr_nil, List.setIfInBounds_toArray, List.set_cons_succ, List.set_cons_zero, g2]
          have hc3 := (hC.cell (p := ⟨b, off + k, none⟩) hcb).trans hc
          go_step
          refine fam_ex hK rfl rfl (by simp only [Act.put, List.setIfInBounds_toArray, List.set_cons_succ, List.set_cons_zero, Array.getD_eq_getD_getElem?, List.getElem?_toArray, List.getElem?_cons_succ, List.getElem?_cons_zero, Option.getD_some] <;> rfl) rfl (Below.refl _ _) hC
        · -- 4: Op.move (Operand.tmp 1)
          refine tab_plain fun K Q hK => ?_
          simp only [puts, List.foldr_nil]
          go_step
          refine fam_ex hK rfl rfl (by simp only [Act.put, List.setIfInBounds_toArray, List.set_cons_succ, List.set_cons_zero, Array.getD_eq_getD_getElem?, List.getElem?_toArray, List.getElem?_cons_succ, List.getElem?_cons_zero, Option.getD_some] <;> rfl) rfl (Below.refl _ _) hC
        · -- 5: Op.move (Operand.tmp 5)
          refine tab_plain fun K Q hK => ?_
          simp only [puts, List.foldr_nil]
          go_step
          refine fam_ex hK rfl rfl (by simp only [Act.put, List.setIfInBounds_toArray, List.set_cons_succ, List.set_cons_zero, Array.getD_eq_getD_getElem?, List.getElem?_toArray, List.getElem?_cons_succ, List.getElem?_cons_zero, Option.getD_some] <;> rfl) rfl (Below.refl _ _) hC
        · -- 6: Op.call { callee := Callee.value (Operand.func 45), args := #[Operand.tmp 16, Operand.tmp 
          obtain ⟨h4, h5, -⟩ := hh
          have g4 : f 4 = _ := h4
          have g5 : f 5 = _ := h5
          refine tab_plain fun K Q hK => ?_
          simp only [puts, List.foldr_cons, List.foldr_nil, List.setIfInBounds_toArray, List.set_cons_succ, List.set_cons_zero, g4, g5]
          go_step
          go_at_call 45
          refine (word_any a' len' cap' ys k W (hs1.later hC) (by omega)).mono ?_
          rintro e w' ⟨rfl, rfl⟩
          refine fam_ex hK rfl rfl (by simp only [Act.put, List.setIfInBounds_toArray, List.set_cons_succ, List.set_cons_zero, Array.getD_eq_getD_getElem?, List.getElem?_toArray, List.getElem?_cons_succ, List.getElem?_cons_zero, Option.getD_some] <;> rfl) rfl (Below.refl _ _) hC
        · -- 7: Op.binOp BinOp.andNot 39 (Operand.tmp 15) (Operand.tmp 18) 39
          obtain ⟨h3, h6, -⟩ := hh
          have g3 : f 3 = _ := h3
          have g6 : f 6 = _ := h6
          refine tab_plain fun K Q hK => ?_
          simp only [puts, List.foldr_cons, List.foldr_nil, List.setIfInBounds_toArray, List.set_cons_succ, List.set_cons_zero, g3, g6]
          go_step
          refine fam_ex hK rfl rfl (by simp only [Act.put, List.setIfInBounds_toArray, List.set_cons_succ, List.set_cons_zero, Array.getD_eq_getD_getElem?, List.getElem?_toArray, List.getElem?_cons_succ, List.getElem?_cons_zero, Option.getD_some] <;> rfl) rfl (Below.refl _ _) hC
        · -- 8: Op.binOp BinOp.neq 39 (Operand.tmp 19) (Operand.const (Value.int IntKind.u64 0)) 39
          obtain ⟨h7, -⟩ := hh
          have g7 : f 7 = _ := h7
          refine tab_plain fun K Q hK => ?_
          simp only [puts, List.foldr_cons, List.foldr_nil, List.setIfInBounds_toArray, List.set_cons_succ, List.set_cons_zero, g7]
          go_step
          refine fam_ex hK rfl rfl (by simp only [Act.put, List.setIfInBounds_toArray, List.set_cons_succ, List.set_cons_zero, Array.getD_eq_getD_getElem?, List.getElem?_toArray, List.getElem?_cons_succ, List.getElem?_cons_zero, Option.getD_some] <;> rfl) rfl (Below.refl _ _) hC
      case rest =>
        intro f W2 hC hh
        obtain ⟨h0, h1, h2, h3, h4, h5, h6, h7, h8, -⟩ := hh
        have g0 : f 0 = _ := h0
        have g1 : f 1 = _ := h1
        have g2 : f 2 = _ := h2
        have g3 : f 3 = _ := h3
        have g4 : f 4 = _ := h4
        have g5 : f 5 = _ := h5
        have g6 : f 6 = _ := h6
        have g7 : f 7 = _ := h7
        have g8 : f 8 = _ := h8
        simp only [puts, List.foldr_cons, List.foldr_nil, List.setIfInBounds_toArray, List.set_cons_succ, List.set_cons_zero, g0, g1, g2, g3, g4, g5, g6, g7, g8]
        clear h0 h1 h2 h3 h4 h5 h6 h7 h8 g0 g1 g2 g3 g4 g5 g6 g7 g8
        have hop : bits BinOp.andNot IntKind.u64 (gi xs k) (wd ys k) = opW .andNot xs ys k := by rw [← hwd]; rfl
        rw [hop]
        have hb2 := hb.trans (hC.mono hb.size)
        by_cases h0 : opW .andNot xs ys k = 0
        · have hq : (opW .andNot xs ys k != 0) = false := by simpa using h0
          rw [hq]
          go_wp2
          go_roundw
          case rel => exact ⟨k + 1, by omega, by go_num, (fun i hi => by rcases Nat.lt_or_ge i k with h | h; exact HA.out i h; rw [show i = k by omega]; exact h0), hb2⟩
          case measure => simp [intOf]; omega
        · have hq : (opW .andNot xs ys k != 0) = true := by simpa using h0
          rw [hq]
          go_wp2
          go_ret
          exact ⟨by rw [subB_false (i := k) (by rw [← HM.out]; exact hlt) h0]; rfl, hb2⟩
    · have hkm : k = m := by omega
      subst hkm
      go_wp2
      go_ret
      exact ⟨by rw [subB_true (fun i hi => HA.out i (by rw [HM.out]; exact hi))]; rfl, hb⟩

theorem equal_any (a : Option Addr) (len cap : Nat) (xs : List Int) (a' : Option Addr) (len' cap' : Nat) (ys : List Int) (w : World) (hs : IsInts .u64 w a len cap xs) (hs' : IsInts .u64 w a' len' cap' ys) :
    Calls Tryd.prog 19 #[.slice a len cap, .slice a' len' cap'] w fun e w' => e = .returned (.bool (subB xs ys && subB ys xs)) ∧ Below w.heap.size w w' := by
  have h1 := sub_any a len cap xs a' len' cap' ys w hs hs'
  cases hb : subB xs ys with
  | true =>
    rw [hb] at h1
    cases hb2 : subB ys xs with
    | true =>
      go_enter Tryd.func19, Tryd.ntmps19
      go_wp2_with (go_at_call 34; first | (with_reducible refine h1.mono ?_; clear h1; rintro e w1 ⟨rfl, hb1⟩; have h2 := sub_any a' len' cap' ys a len cap xs w1 (hs'.later hb1) (hs.later hb1); rw [hb2] at h2) | (with_reducible refine h2.mono ?_; rintro e w2 ⟨rfl, hbb⟩))
      go_ret
      exact ⟨rfl, hb1.trans (hbb.mono hb1.size)⟩
    | false =>
      go_enter Tryd.func19, Tryd.ntmps19
      go_wp2_with (go_at_call 34; first | (with_reducible refine h1.mono ?_; clear h1; rintro e w1 ⟨rfl, hb1⟩; have h2 := sub_any a' len' cap' ys a len cap xs w1 (hs'.later hb1) (hs.later hb1); rw [hb2] at h2) | (with_reducible refine h2.mono ?_; rintro e w2 ⟨rfl, hbb⟩))
      go_ret
      exact ⟨rfl, hb1.trans (hbb.mono hb1.size)⟩
  | false =>
    rw [hb] at h1
    go_enter Tryd.func19, Tryd.ntmps19
    go_wp2_with (go_at_call 34; refine h1.mono ?_; rintro e w1 ⟨rfl, hb1⟩)
    go_ret
    exact ⟨rfl, hb1⟩
end Go.Proofs.YtmeldbddbinnbaaDoor
