import Derived.Test.YtbjdglopkpigbaaGreatDoorMG10
/-
  BtF, BtG
-/
set_option linter.unusedSimpArgs false
set_option linter.unusedVariables false
namespace Go.Proofs.YtbjdglopkpigbaaGreatDoor.Bt
open Go.RowKit Go.Shelf
theorem bw_length (F : Nat → Int) (m : Nat) : (bw F m).length = trimN F m := by simp [bw]
theorem bw_length_le (F : Nat → Int) (m : Nat) : (bw F m).length ≤ m := by rw [bw_length]; exact trimN_le F m
def bitI (z : Int) (r : Nat) : Bool := bits .and .u64 (z / 2 ^ r) 1 == 1
end Go.Proofs.YtbjdglopkpigbaaGreatDoor.Bt
namespace Go.Proofs.YtbjdglopkpigbaaGreatDoor.Bt
open Go.RowKit Go.Shelf
theorem elI64 : Elem Tryz.prog 26 3 (.int .i64 0) 1 8 := ⟨Tryz.underlying26, by kernel_rfl, rfl, by decide⟩
end Go.Proofs.YtbjdglopkpigbaaGreatDoor.Bt
