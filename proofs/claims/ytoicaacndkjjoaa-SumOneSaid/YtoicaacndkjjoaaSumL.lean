/-
  The example of the document, which every statement checks first.
-/
import Derived.Test.YtoicaacndkjjoaaSumM
import Derived.Test.YtoicaacndkjjoaaSumG
import Derived.Lib.SlBytesConst
set_option linter.unusedSimpArgs false
set_option linter.unusedVariables false
namespace Go.Proofs.Ytoicaacndkjjoaa
open Go.RowKit

theorem dig_c1 : (digL 14695981039346656037).toArray = #[99, 98, 102, 50, 57, 99, 101, 52, 56, 52, 50, 50, 50, 51, 50, 53] := by decide +kernel
theorem dig_c2 : (digL (fromH 14695981039346656037 [97])).toArray = #[97, 102, 54, 51, 100, 99, 52, 99, 56, 54, 48, 49, 101, 99, 56, 99] := by decide +kernel

theorem awake_any (w : World) :
    Calls Try.prog 10 #[] w fun e w' => e = .returned (.bool true) ∧ Below w.heap.size w w' := by
  have hF := fromH_bd 14695981039346656037 [97] (by decide) (by decide)
  have kc := fun (w : World) (C : Array Value) (n c : Nat) => Lib.run_convert_bytes_const (P := Try.prog) w 23 5 C n c Try.underlying23 Try.underlying5
  go_enter Try.func10, Try.ntmps10
  go_wp2_with (go_at_call 11; refine (of_any _ _ _ [] _ (.inl ⟨rfl, rfl, rfl, rfl⟩)).mono ?_; rintro e w' ⟨rfl, rfl⟩)
  have d1 := (digits_any 14695981039346656037 w (by decide) (by decide))
  rw [dig_c1] at d1
  refine d1.mono ?_
  clear d1
  rintro e w1 ⟨rfl, hb1⟩
  go_wp2_with (go_at_call 11; refine (of_any _ _ _ [97] _ (new_ints .u8 w1 _ [97] 1 rfl (by decide) (1, 2))).mono ?_; rintro e w' ⟨rfl, rfl⟩)
  have d2 := (digits_any (fromH 14695981039346656037 [97]) (w1.alloc (.cells #[.int .u8 97] 5 (1, 2))) hF.1 hF.2)
  rw [dig_c2] at d2
  refine d2.mono ?_
  clear d2
  rintro e w2 ⟨rfl, hb2⟩
  go_wp2
  go_ret
  exact ⟨rfl, (hb1.alloc hb1.size _).trans (hb2.mono (by have := hb1.size; simp; omega))⟩
end Go.Proofs.Ytoicaacndkjjoaa
