/-
  node, Valid; the reference's Valid, Few, nodes, Same.
-/
import Derived.Test.YtlogmgkjikamaaaGraQ
import Derived.Test.YtlogmgkjikamaaaFam2
set_option linter.unusedSimpArgs false
set_option linter.unusedVariables false
set_option maxHeartbeats 4000000
namespace Go.Proofs.Ytlogmgkjikamaaa
open Go.RowKit
attribute [local go_sem] Oper.semAt_some

variable {a : Option Addr} {len cap : Nat} {g : List (List Int)} {w : World}

theorem node_any (a : Option Addr) (len cap : Nat) (n : Int) (w : World) (hl : len ≤ 9223372036854775807) :
    Calls Try.prog 48 #[.slice a len cap, .int .i64 n] w fun e w' => e = .returned (.bool (decide (0 ≤ n ∧ n < (len : Int)))) ∧ w = w' := by
  by_cases h0 : 0 ≤ n
  · have d0 : decide (0 ≤ n) = true := decide_eq_true h0
    cases hb : decide (n < (len : Int)) with
    | true =>
      have HE : Hid (decide (0 ≤ n ∧ n < (len : Int)) = true) := Lib.hid (decide_eq_true ⟨h0, of_decide_eq_true hb⟩)
      clear h0
      go_enter Try.func48, Try.ntmps48
      go_wp2
      go_ret
      exact ⟨by rw [HE.out] <;> rfl, rfl⟩
    | false =>
      have HE : Hid (decide (0 ≤ n ∧ n < (len : Int)) = false) := Lib.hid (decide_eq_false (fun h => of_decide_eq_false hb h.2))
      clear h0
      go_enter Try.func48, Try.ntmps48
      go_wp2
      go_ret
      exact ⟨by rw [HE.out] <;> rfl, rfl⟩
  · have d0 : decide (0 ≤ n) = false := decide_eq_false h0
    have HE : Hid (decide (0 ≤ n ∧ n < (len : Int)) = false) := Lib.hid (decide_eq_false (fun h => h0 h.1))
    clear h0
    go_enter Try.func48, Try.ntmps48
    go_wp2
    go_ret
    exact ⟨by rw [HE.out] <;> rfl, rfl⟩

theorem valid_any (hg : IsRows w a len cap g) :
    Calls Try.prog 32 #[.slice a len cap] w fun e w' => e = .returned (.bool (validGB g)) ∧ w = w' := by
  have hcap := hg.cap
  unfold maxLen at hcap
  have HL := Lib.hid hg.length
  go_enter Try.func32, Try.ntmps32
  go_wp2_with (fail)
  go_loop [9] (fun c => ∃ i : Nat, i ≤ len ∧ c = .int .i64 (i : Int) ∧ Hid (∀ r, r < i → Good len (gr g r))) (fun c => len - (intOf c).toNat)
  case atStart => exact ⟨0, Nat.zero_le _, rfl, Lib.hid (fun r hr => by omega)⟩
  case round =>
    obtain ⟨i, hi, rfl, HG⟩ := hrel
    rcases Nat.lt_or_ge i len with hlt | hge
    · have t1 : decide ((i : Int) < len) = true := decide_eq_true (by omega)
      obtain ⟨b, off, ai, li, ci, rfl, hcell, hrow⟩ := hg.fix i hlt
      have hc := hcell w (Below.refl _ _)
      have hrc := hrow.cap
      unfold maxLen at hrc
      have HRL : Hid ((gr g i).length = li) := Lib.hid hrow.length
      clear hcell
      go_wp2_with (fail)
      go_loop [15] (fun c => ∃ j : Nat, j ≤ li ∧ c = .int .i64 (j : Int) ∧ Hid (∀ r, r < j → GoodAt len (gr g i) r)) (fun c => li - (intOf c).toNat)
      case atStart => exact ⟨0, Nat.zero_le _, rfl, Lib.hid (fun r hr => by omega)⟩
      case round =>
        obtain ⟨j, hj, rfl, HJ⟩ := hrel
        rcases Nat.lt_or_ge j li with hjl | hjg
        · have t2 : decide ((j : Int) < li) = true := decide_eq_true (by omega)
          obtain ⟨br, or, rfl, hcz⟩ := hrow.fix j hjl
          have hz := hcz w (Below.refl _ _)
          clear hcz
          obtain ⟨z, hzz⟩ : ∃ z, gi (gr g i) j = z := ⟨_, rfl⟩
          rw [hzz] at hz
          have HZ := Lib.hid hzz
          clear hzz
          have hnode := node_any (some ⟨b, off, none⟩) len cap z w (by omega)
          by_cases hin : 0 ≤ z ∧ z < (len : Int)
          · rw [decide_eq_true hin] at hnode
            cases j with
            | zero =>
              rw [Nat.add_zero] at hz
              have HN : Hid (∀ r, r < 1 → GoodAt len (gr g i) r) := Lib.hid (fun r hr => by
                obtain rfl : r = 0 := by omega
                exact ⟨by rw [HZ.out]; exact hin, fun h => absurd h (Nat.lt_irrefl 0)⟩)
              clear hin
              go_wp2_with (go_at_call 48; refine hnode.mono ?_; rintro e w' ⟨rfl, rfl⟩)
              go_round
              case rel => exact ⟨1, hjl, by go_num, HN⟩
              case measure => simp [intOf]; omega
            | succ j =>
              have hy := hrow.get j (by omega)
              obtain ⟨y, hyy⟩ : ∃ y, gi (gr g i) j = y := ⟨_, rfl⟩
              rw [hyy] at hy
              have HY := Lib.hid hyy
              clear hyy
              have d1 : decide (0 < (j : Int) + 1) = true := decide_eq_true (by omega)
              by_cases hyz : y < z
              · have d2 : decide (z ≤ y) = false := decide_eq_false (by omega)
                have HN : Hid (∀ r, r < j + 1 + 1 → GoodAt len (gr g i) r) := Lib.hid (fun r hr => by
                  rcases Nat.lt_or_ge r (j + 1) with h | h
                  · exact HJ.out r h
                  · obtain rfl : r = j + 1 := by omega
                    exact ⟨by rw [HZ.out]; exact hin, fun _ => by rw [HZ.out, Nat.add_sub_cancel, HY.out]; exact hyz⟩)
                clear hin hyz
                go_wp2_with (go_at_call 48; refine hnode.mono ?_; rintro e w' ⟨rfl, rfl⟩)
                go_round
                case rel => exact ⟨j + 1 + 1, hjl, by go_num, HN⟩
                case measure => simp [intOf]; omega
              · have d2 : decide (z ≤ y) = true := decide_eq_true (by omega)
                have HE : Hid (validGB g = false) := Lib.hid (validGB_no (validG_no (i := i) (j := j + 1) (by rw [HL.out]; exact hlt) (by rw [HRL.out]; exact hjl) (fun h => hyz (by have := h.2 (by omega); rw [HZ.out, Nat.add_sub_cancel, HY.out] at this; exact this))))
                clear hin hyz
                go_wp2_with (go_at_call 48; refine hnode.mono ?_; rintro e w' ⟨rfl, rfl⟩)
                go_ret
                exact ⟨by rw [HE.out] <;> rfl, rfl⟩
          · rw [decide_eq_false hin] at hnode
            have HE : Hid (validGB g = false) := Lib.hid (validGB_no (validG_no (i := i) (j := j) (by rw [HL.out]; exact hlt) (by rw [HRL.out]; exact hjl) (fun h => hin (by have := h.1; rw [HZ.out, HL.out] at this; exact this))))
            clear hin
            go_wp2_with (go_at_call 48; refine hnode.mono ?_; rintro e w' ⟨rfl, rfl⟩)
            go_ret
            exact ⟨by rw [HE.out] <;> rfl, rfl⟩
        · obtain rfl : j = li := by omega
          have t2 : decide ((j : Int) < j) = false := decide_eq_false (by omega)
          have HN : Hid (∀ r, r < i + 1 → Good len (gr g r)) := Lib.hid (fun r hr => by
            rcases Nat.lt_or_ge r i with h | h
            · exact HG.out r h
            · obtain rfl : r = i := by omega
              intro q hq
              exact HJ.out q (by rw [← HRL.out]; exact hq))
          go_wp2_with (fail)
          go_round
          case rel => exact ⟨i + 1, hlt, by go_num, HN⟩
          case measure => simp [intOf]; omega
    · obtain rfl : i = len := by omega
      have t1 : decide ((i : Int) < i) = false := decide_eq_false (by omega)
      by_cases h4 : i ≤ 400
      · have d4 : decide ((i : Int) ≤ 400) = true := decide_eq_true (by omega)
        have HE : Hid (validGB g = true) := Lib.hid (validGB_yes (validG_iff.2 ⟨by rw [HL.out]; exact h4, fun r hr => by rw [HL.out] at hr ⊢; exact HG.out r hr⟩))
        go_wp2
        go_ret
        exact ⟨by rw [HE.out] <;> rfl, rfl⟩
      · have d4 : decide ((i : Int) ≤ 400) = false := decide_eq_false (by omega)
        have HE : Hid (validGB g = false) := Lib.hid (validGB_no (fun h => h4 (by rw [← HL.out]; exact h.1)))
        go_wp2
        go_ret
        exact ⟨by rw [HE.out] <;> rfl, rfl⟩

end Go.Proofs.Ytlogmgkjikamaaa
