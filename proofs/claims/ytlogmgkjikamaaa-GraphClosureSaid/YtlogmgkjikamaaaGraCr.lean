/-
  The reference: Valid.
-/
import Derived.Test.YtlogmgkjikamaaaGraC
import Derived.Test.YtlogmgkjikamaaaFam2
import Derived.Deep.QuietTactic
import Derived.BigQuiet
set_option linter.unusedSimpArgs false
set_option linter.unusedVariables false
set_option maxHeartbeats 4000000
namespace Go.Proofs.Ytlogmgkjikamaaa
open Go.RowKit
attribute [local go_sem] Oper.semAt_some

variable {a : Option Addr} {len cap : Nat} {g : List (List Int)} {w : World}

theorem below_drewN (w : World) (n : Nat) : Below w.heap.size w (w.drewN n) := ⟨rfl, rfl, rfl, Nat.le_refl _, fun _ _ => rfl⟩

theorem refValid_any (hg : IsRows w a len cap g) :
    Calls Try.prog 12 #[.slice a len cap] w fun e w' => e = .returned (.bool (validGB g)) ∧ Below w.heap.size w w' := by
  have hcap := hg.cap
  unfold maxLen at hcap
  have HL := Lib.hid hg.length
  by_cases h4 : 400 < len
  · have d4 : decide (400 < (len : Int)) = true := decide_eq_true (by omega)
    have HE : Hid (validGB g = false) := Lib.hid (validGB_no (fun h => by have := h.1; rw [HL.out] at this; omega))
    go_enter Try.func12, Try.ntmps12
    go_wp2_with (fail)
    go_ret
    exact ⟨by rw [HE.out] <;> rfl, Below.refl _ _⟩
  have d4 : decide (400 < (len : Int)) = false := decide_eq_false (by omega)
  go_enter Try.func12, Try.ntmps12
  go_wp2_with (fail)
  replace h4 := Lib.hid h4
  clear d4
  go_loopw [3] (fun c W => ∃ i : Nat, i ≤ len ∧ c = .int .i64 (i : Int) ∧ Hid (∀ r, r < i → Good len (gr g r)) ∧ Below w.heap.size w W) (fun c _ => len - (intOf c).toNat)
  case atStart => exact ⟨0, Nat.zero_le _, rfl, Lib.hid (fun r hr => by omega), Below.refl _ _⟩
  case round =>
    obtain ⟨i, hi, rfl, HG, hB⟩ := hrel
    rcases Nat.lt_or_ge i len with hlt | hge
    · have t1 : decide ((i : Int) < len) = true := decide_eq_true (by omega)
      obtain ⟨b, off, ai, li, ci, rfl, hcell, hrow⟩ := hg.fix i hlt
      have HCL := Lib.hid hcell
      have hrc := hrow.cap
      unfold maxLen at hrc
      have HRL : Hid ((gr g i).length = li) := Lib.hid hrow.length
      clear hcell
      go_wp2_with (fail)
      go_loopw [4] (fun c W => ∃ j : Nat, j ≤ li ∧ c = .int .i64 (j : Int) ∧ Hid (∀ r, r < j → GoodAt len (gr g i) r) ∧ Below w.heap.size w W) (fun c _ => li - (intOf c).toNat)
      case atStart => exact ⟨0, Nat.zero_le _, rfl, Lib.hid (fun r hr => by omega), hB⟩
      case round =>
        clear hB
        obtain ⟨j, hj, rfl, HJ, hB⟩ := hrel
        have hc := HCL.out wr hB
        rcases Nat.lt_or_ge j li with hjl | hjg
        · have t2 : decide ((j : Int) < li) = true := decide_eq_true (by omega)
          obtain ⟨br, or, rfl, hcz⟩ := hrow.fix j hjl
          obtain ⟨z, hzz⟩ : ∃ z, gi (gr g i) j = z := ⟨_, rfl⟩
          rw [hzz] at hcz
          have HZ := Lib.hid hzz
          have HCZ := Lib.hid hcz
          clear hzz hcz
          have HBC : Hid (∀ W, Below wr.heap.size wr W → Below w.heap.size w W) := Lib.hid (fun W h => hB.trans (h.mono hB.size))
          have HF : Hid (∀ W, Below wr.heap.size wr W → W.cell? ⟨b, off + i, none⟩ = some (.slice (some ⟨br, or, none⟩) li ci) ∧ W.cell? ⟨br, or + j, none⟩ = some (.int .i64 z)) := Lib.hid (fun W h => ⟨HCL.out W (HBC.out W h), HCZ.out W (HBC.out W h)⟩)
          by_cases h0 : z < 0
          · have d0 : decide (z < 0) = true := decide_eq_true h0
            have HE : Hid (validGB g = false) := Lib.hid (validGB_no (validG_no (i := i) (j := j) (by rw [HL.out]; exact hlt) (by rw [HRL.out]; exact hjl) (fun h => by have := h.1.1; rw [HZ.out] at this; omega)))
            clear h0
            go_wp2_with (fail)
            obtain ⟨q1, q2⟩ := HF.out wr (Below.refl _ _)
            go_quiet (fail)
            go_wp2
            go_ret
            exact ⟨by rw [HE.out] <;> rfl, hB.trans ((below_drewN _ _).mono hB.size)⟩
          have d0 : decide (z < 0) = false := decide_eq_false h0
          by_cases h1 : (len : Int) ≤ z
          · have d1 : decide ((len : Int) ≤ z) = true := decide_eq_true h1
            have HE : Hid (validGB g = false) := Lib.hid (validGB_no (validG_no (i := i) (j := j) (by rw [HL.out]; exact hlt) (by rw [HRL.out]; exact hjl) (fun h => by have := h.1.2; rw [HZ.out, HL.out] at this; omega)))
            clear h0 h1
            go_wp2_with (fail)
            obtain ⟨q1, q2⟩ := HF.out wr (Below.refl _ _)
            go_quiet (fail)
            go_wp2
            go_ret
            exact ⟨by rw [HE.out] <;> rfl, hB.trans ((below_drewN _ _).mono hB.size)⟩
          have d1 : decide ((len : Int) ≤ z) = false := decide_eq_false h1
          cases j with
          | zero =>
            simp only [Nat.add_zero] at HF
            have HN : Hid (∀ r, r < 1 → GoodAt len (gr g i) r) := Lib.hid (fun r hr => by
              obtain rfl : r = 0 := by omega
              exact ⟨by rw [HZ.out]; omega, fun h => absurd h (Nat.lt_irrefl 0)⟩)
            clear h0 h1
            go_wp2_with (fail)
            obtain ⟨q1, q2⟩ := HF.out wr (Below.refl _ _)
            go_quiet (fail)
            go_wp2
            go_roundw
            case rel => exact ⟨1, hjl, by go_num, HN, hB.trans ((below_drewN _ _).mono hB.size)⟩
            case measure => simp [intOf]; omega
          | succ j =>
            obtain ⟨y, hyy⟩ : ∃ y, gi (gr g i) j = y := ⟨_, rfl⟩
            have HY := Lib.hid hyy
            have HF : Hid (∀ W, Below wr.heap.size wr W → W.cell? ⟨b, off + i, none⟩ = some (.slice (some ⟨br, or, none⟩) li ci) ∧ W.cell? ⟨br, or + (j + 1), none⟩ = some (.int .i64 z) ∧ W.cell? ⟨br, or + j, none⟩ = some (.int .i64 y)) := Lib.hid (fun W h => ⟨HCL.out W (HBC.out W h), HCZ.out W (HBC.out W h), by rw [← hyy]; exact (hrow.later (HBC.out W h)).get j (by omega)⟩)
            clear hyy
            have d2 : decide (0 < (j : Int) + 1) = true := decide_eq_true (by omega)
            by_cases hyz : y < z
            · have d3 : decide (z ≤ y) = false := decide_eq_false (by omega)
              have HN : Hid (∀ r, r < j + 1 + 1 → GoodAt len (gr g i) r) := Lib.hid (fun r hr => by
                rcases Nat.lt_or_ge r (j + 1) with h | h
                · exact HJ.out r h
                · obtain rfl : r = j + 1 := by omega
                  exact ⟨by rw [HZ.out]; omega, fun _ => by rw [HZ.out, Nat.add_sub_cancel, HY.out]; exact hyz⟩)
              clear h0 h1 hyz
              go_wp2_with (fail)
              obtain ⟨q1, q2, q3⟩ := HF.out wr (Below.refl _ _)
              go_quiet (fail)
              go_wp2
              go_roundw
              case rel => exact ⟨j + 1 + 1, hjl, by go_num, HN, hB.trans ((below_drewN _ _).mono hB.size)⟩
              case measure => simp [intOf]; omega
            · have d3 : decide (z ≤ y) = true := decide_eq_true (by omega)
              have HE : Hid (validGB g = false) := Lib.hid (validGB_no (validG_no (i := i) (j := j + 1) (by rw [HL.out]; exact hlt) (by rw [HRL.out]; exact hjl) (fun h => hyz (by have := h.2 (by omega); rw [HZ.out, Nat.add_sub_cancel, HY.out] at this; exact this))))
              clear h0 h1 hyz
              go_wp2_with (fail)
              obtain ⟨q1, q2, q3⟩ := HF.out wr (Below.refl _ _)
              go_quiet (fail)
              go_wp2
              go_ret
              exact ⟨by rw [HE.out] <;> rfl, hB.trans ((below_drewN _ _).mono hB.size)⟩
        · obtain rfl : j = li := by omega
          have t2 : decide ((j : Int) < j) = false := decide_eq_false (by omega)
          have HN : Hid (∀ r, r < i + 1 → Good len (gr g r)) := Lib.hid (fun r hr => by
            rcases Nat.lt_or_ge r i with h | h
            · exact HG.out r h
            · obtain rfl : r = i := by omega
              intro q hq
              exact HJ.out q (by rw [← HRL.out]; exact hq))
          go_wp2_with (fail)
          go_roundw
          case rel => exact ⟨i + 1, hlt, by go_num, HN, hB⟩
          case measure => simp [intOf]; omega
    · obtain rfl : i = len := by omega
      have t1 : decide ((i : Int) < i) = false := decide_eq_false (by omega)
      have HE : Hid (validGB g = true) := Lib.hid (validGB_yes (validG_iff.2 ⟨by rw [HL.out]; have := h4.out; omega, fun r hr => by rw [HL.out] at hr ⊢; exact HG.out r hr⟩))
      go_wp2
      go_ret
      exact ⟨by rw [HE.out] <;> rfl, hB⟩
end Go.Proofs.Ytlogmgkjikamaaa
