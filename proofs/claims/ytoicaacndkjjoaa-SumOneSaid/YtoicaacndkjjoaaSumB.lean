import Derived.Test.YtoicaacndkjjoaaSumA
import Derived.Handy
import Derived.WalkLawsBesides
namespace Go.Proofs.Ytoicaacndkjjoaa
open Go.RowKit

/-- The eight bytes of a number, the most significant first. -/
def eightL (h : Int) : List Int := [h / 72057594037927936, h / 281474976710656 % 256, h / 1099511627776 % 256, h / 4294967296 % 256, h / 16777216 % 256, h / 65536 % 256, h / 256 % 256, h % 256]

theorem eight_any (h : Int) (w : World) (h0 : 0 ≤ h) (h1 : h < 18446744073709551616) :
    Calls Try.prog 24 #[.int .u64 h] w fun e w' => e = .returned (.agg ((eightL h).map (Value.int .u8)).toArray) ∧ Below w.heap.size w w' := by
  go_enter Try.func24, Try.ntmps24
  go_wp2
  go_rounds 9
  refine bodyPost_ret (v := .agg ((eightL h).map (Value.int .u8)).toArray) (by simp [results, Try.results24, go_sem, eightL]) rfl ⟨rfl, ?_⟩
  exact ((Below.refl _ _).alloc (Nat.le_refl _) _).alloc (by simp) _

theorem mk8 (w : World) : (Instr.makeSlice 23 (.int .i64 8) (.int .i64 8)).run Try.prog w = .ok (.slice (some ⟨w.heap.size, 0, none⟩) 8 8) (w.alloc (.cells #[.int .u8 0, .int .u8 0, .int .u8 0, .int .u8 0, .int .u8 0, .int .u8 0, .int .u8 0, .int .u8 0] 5)) := by kernel_rfl

theorem eightL_eq (h : Int) : eightL h = [h / 256 / 256 / 256 / 256 / 256 / 256 / 256 % 256, h / 256 / 256 / 256 / 256 / 256 / 256 % 256, h / 256 / 256 / 256 / 256 / 256 % 256, h / 256 / 256 / 256 / 256 % 256, h / 256 / 256 / 256 % 256, h / 256 / 256 % 256, h / 256 % 256, h % 256] ∨ h < 0 ∨ 18446744073709551616 ≤ h := by
  by_cases h0 : 0 ≤ h
  · by_cases h1 : h < 18446744073709551616
    · left; unfold eightL; simp only [List.cons.injEq, and_true]; refine ⟨?_, ?_, ?_, ?_, ?_, ?_⟩ <;> first | rfl | omega
    · right; right; omega
  · right; left; omega

theorem refEight_any (h : Int) (w : World) (h0 : 0 ≤ h) (h1 : h < 18446744073709551616) :
    Calls Try.prog 25 #[.int .u64 h] w fun e w' => ∃ a c, e = .returned (.slice a 8 c) ∧ w'.ownsRow w.heap.size 5 1 (.slice a 8 c) 8 (ivs .u8 (eightL h)) ∧ Below w.heap.size w w' := by
  have hmk := mk8
  go_enter Try.func25, Try.ntmps25
  go_wp2
  go_rounds 9
  refine bodyPost_ret (results_tmp rfl _ _ _) rfl ⟨_, _, rfl, ⟨?_, .inr ⟨_, 8, _, rfl, Nat.le_refl _, heap_alloc_new w _, Nat.le_refl _, by decide, rfl, ?_⟩⟩, (Below.refl _ _).alloc (Nat.le_refl _) _⟩
  · rfl
  · rcases eightL_eq h with e | e | e
    · rw [e]; rfl
    · omega
    · omega

end Go.Proofs.Ytoicaacndkjjoaa
