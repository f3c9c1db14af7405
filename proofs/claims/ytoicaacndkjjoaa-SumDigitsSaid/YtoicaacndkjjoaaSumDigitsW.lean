/-
  SumDigits: the walk.
-/
import Derived.Test.YtoicaacndkjjoaaSumL
import Derived.OpenShut
set_option linter.unusedSimpArgs false
set_option linter.unusedVariables false
namespace Go.Proofs.Ytoicaacndkjjoaa
open Go.RowKit

theorem parse_digits (h : Int) (w : World) (h0 : 0 ≤ h) (h1 : h < 18446744073709551616) :
    Calls Try.prog 15 #[.string ⟨(digL h).toArray⟩] w fun e w' => e = .returned (.tuple #[.int .u64 h, .int .i64 0]) ∧ w = w' := by
  have := parse_any ⟨(digL h).toArray⟩ w
  rw [show (⟨(digL h).toArray⟩ : ByteArray).data.toList = digL h from rfl, parse_dig h h0 h1] at this
  exact this

theorem digits_back (s : ByteArray) (w : World) (hl : s.data.toList.length = 16) (g : goodL s.data.toList = true) :
    Calls Try.prog 17 #[.int .u64 (pv s.data.toList)] w fun e w' => e = .returned (.string s) ∧ Below w.heap.size w w' := by
  have hb := pv_bd _ g
  rw [hl] at hb
  have := digits_any (pv s.data.toList) w hb.1 hb.2
  rw [dig_parse hl g] at this
  exact this

theorem sumDigits_walk (h : Int) (s : ByteArray) (w : World) (hw : (Lit.int .u64 h).wf = true) (hm : s.size ≤ 140737488351232) :
    Calls Try.prog 6 #[.int .u64 h, .string s] w fun e w' => e = .returned (.bool true) ∧ Below w.heap.size w w' := by
  have hh : 0 ≤ h ∧ h < 18446744073709551616 := by
    have := bounds_u64 hw
    omega
  obtain ⟨h0, h1⟩ := hh
  obtain ⟨D, hD⟩ : ∃ D : ByteArray, D = ⟨(digL h).toArray⟩ := ⟨_, rfl⟩
  have kd := fun w => digits_any h w h0 h1
  have kr := fun w => refDigits_any h w h0 h1
  have kp := fun w => parse_digits h w h0 h1
  rw [← hD] at kd kr kp
  clear hD
  by_cases hlen : s.size ≤ 60
  · have hd : decide (60 < (s.size : Int)) = false := decide_eq_false (by omega)
    by_cases hg : s.data.toList.length = 16 ∧ goodL s.data.toList = true
    · have hp1 := fun w => parse_any s w
      have hp2 := fun w => refParse_any s w (by omega)
      rw [parseV_yes hg.1 hg.2] at hp1 hp2
      go_enter Try.func6, Try.ntmps6
      go_wp2_with (go_at_call 10; refine (awake_any w).mono ?_; rintro e w1 ⟨rfl, hb1⟩)
      go_wp2_with (first | (go_at_call 15; with_reducible refine (hp1 _).mono ?_; rintro e w' ⟨rfl, rfl⟩) | (go_at_call 16; with_reducible refine (hp2 _).mono ?_; rintro e w' ⟨rfl, rfl⟩) | (go_at_call 15; with_reducible refine (kp _).mono ?_; rintro e w' ⟨rfl, rfl⟩) | (go_at_call 18; with_reducible refine (kr _).mono ?_; rintro e w' ⟨rfl, rfl⟩) | (go_at_call 17; with_reducible refine (kd _).mono ?_; rintro e w' ⟨rfl, hbn⟩; replace hb1 := hb1.trans (hbn.mono hb1.size); clear hbn) | (go_at_call 17; with_reducible refine (digits_back s _ hg.1 hg.2).mono ?_; rintro e w' ⟨rfl, hbn⟩; replace hb1 := hb1.trans (hbn.mono hb1.size); clear hbn))
      go_ret
      exact ⟨by simp, hb1⟩
    · have hp1 := fun w => parse_any s w
      have hp2 := fun w => refParse_any s w (by omega)
      rw [parseV_no hg] at hp1 hp2
      go_enter Try.func6, Try.ntmps6
      go_wp2_with (go_at_call 10; refine (awake_any w).mono ?_; rintro e w1 ⟨rfl, hb1⟩)
      go_wp2_with (first | (go_at_call 15; with_reducible refine (hp1 _).mono ?_; rintro e w' ⟨rfl, rfl⟩) | (go_at_call 16; with_reducible refine (hp2 _).mono ?_; rintro e w' ⟨rfl, rfl⟩) | (go_at_call 15; with_reducible refine (kp _).mono ?_; rintro e w' ⟨rfl, rfl⟩) | (go_at_call 18; with_reducible refine (kr _).mono ?_; rintro e w' ⟨rfl, rfl⟩) | (go_at_call 17; with_reducible refine (kd _).mono ?_; rintro e w' ⟨rfl, hbn⟩; replace hb1 := hb1.trans (hbn.mono hb1.size); clear hbn))
      go_ret
      exact ⟨by simp, hb1⟩
  · have hd : decide (60 < (s.size : Int)) = true := decide_eq_true (by omega)
    go_enter Try.func6, Try.ntmps6
    go_wp2_with (go_at_call 10; refine (awake_any w).mono ?_; rintro e w1 ⟨rfl, hb1⟩)
    go_ret
    exact ⟨rfl, hb1⟩
end Go.Proofs.Ytoicaacndkjjoaa
