/-
  The plain laws that WalCrash, WalDamage and WalContinue take. No program in sight.
-/
import Derived.Test.YtpmhnmkpmkeadaaWalK
set_option linter.unusedSimpArgs false
set_option linter.unusedVariables false
namespace Go.Proofs.Ytpmhnmkpmkeadaa
open Go.RowKit

theorem fewL_yes {rs : List (List Int)} (h : fewL rs = true) (hb : ∀ r ∈ rs, Bytes r) : Ok100 rs ∧ rs.length ≤ 12 := by
  unfold fewL at h
  rw [Bool.and_eq_true, List.all_eq_true] at h
  exact ⟨fun r hr => ⟨hb r hr, of_decide_eq_true (h.1 r hr)⟩, of_decide_eq_true h.2⟩
theorem cnt_mono (rs : List (List Int)) {i j : Nat} (h : i ≤ j) : (allP (rs.take i)).length ≤ (allP (rs.take j)).length := by
  have e : rs.take j = rs.take i ++ (rs.take j).drop i := by
    conv => lhs; rw [← List.take_append_drop i (rs.take j), List.take_take, Nat.min_eq_left h]
  rw [e, allP_append, List.length_append]
  omega
theorem crash_math {rs : List (List Int)} (hok : OkR rs) {L S : Nat} (hL : L ≤ 32 * (allP rs).length) (hS : 32 * (allP (rs.take S)).length ≤ L) {k : Nat} {e : Int} (h : ReadIs ((encP basis (allP rs)).take L) k e) :
    ∃ n, n ≤ rs.length ∧ (stB ((encP basis (allP rs)).take L) k).recs = rs.take n ∧ min S rs.length ≤ n ∧ lastD (stB ((encP basis (allP rs)).take L) k).ends = ((32 * (allP (rs.take n)).length : Nat) : Int) ∧ 32 * (allP (rs.take n)).length ≤ L ∧
      ((encP basis (allP rs)).take L).take (32 * (allP (rs.take n)).length) = encP basis (allP (rs.take n)) ∧
      ∀ k' e', ReadIs (encP basis (allP (rs.take n))) k' e' → decide (e' = 0 ∧ (((32 * (allP (rs.take n)).length : Nat) : Int) = 0 ∨ ((32 * (allP (rs.take n)).length : Nat) : Int) ∈ (stB (encP basis (allP (rs.take n))) k').ends)) = true := by
  obtain ⟨e', n, h1, h2, h3, h4, h5, h6, h7, h8⟩ := read_part hok hL rfl
  obtain ⟨rfl, rfl⟩ := h.uniq h1
  refine ⟨n, h2, h3, ?_, ?_, h6, h8, ?_⟩
  · rcases Nat.lt_or_ge n (min S rs.length) with hlt | hge
    · have := h7 (by omega)
      have h9 := cnt_mono rs (show n + 1 ≤ S by omega)
      omega
    · exact hge
  · rw [h4, (stP_all _).2.2]
    omega
  · intro k' e2 hr
    obtain ⟨g1, g2⟩ := read_all (hok.take n) rfl
    obtain ⟨rfl, rfl⟩ := hr.uniq g1
    refine decide_eq_true ⟨rfl, ?_⟩
    rw [g2]
    rcases ends_mem (rs.take n) n (by simp; omega) with h0 | h0
    · left
      subst h0
      simp [allP]
    · right
      rw [List.take_take, Nat.min_self] at h0
      rw [show ((32 * (allP (rs.take n)).length : Nat) : Int) = 32 * ((allP (rs.take n)).length : Int) by omega]
      exact h0
theorem keep_math (n s keep : Nat) (h : s ≤ n) : ∃ L : Nat, keepN n s keep = L ∧ s ≤ L ∧ L ≤ n := by
  unfold keepN
  have h1 : max (0 : Int) keep = keep := by omega
  rw [h1]
  have h2 := Int.emod_nonneg (keep : Int) (show (n : Int) - s + 1 ≠ 0 by omega)
  have h3 := Int.emod_lt_of_pos (keep : Int) (show 0 < (n : Int) - s + 1 by omega)
  exact ⟨((s : Int) + (keep : Int) % ((n : Int) - s + 1)).toNat, by omega, by omega, by omega⟩
end Go.Proofs.Ytpmhnmkpmkeadaa
