/-
  The laws' last step: what the rows' list of the table gives, and a world that holds the table.
-/
import Derived.Test.YtmeldbddbinnbaaDoorTop
import Derived.Test.YtmeldbddbinnbaaDoorBitL
import Derived.Test.YtmeldbddbinnbaaDoorCards
import Derived.Test.YtmeldbddbinnbaaDoorTie
import Derived.Deep.DeepHandedRow
import Derived.Lib.LaidTab
namespace Go.Proofs.YtmeldbddbinnbaaDoor
open Go.ChangeShapes Go.WideShapes Go.ChangeAt Go.RowKit Go.Shelf

theorem gTab : Tryd.prog.globalNamed "math/bits.deBruijn64tab" = some 0 := by kernel_rfl
theorem gTabType : (Tryd.prog.globals[0]?).map (·.type) = some 62 := by kernel_rfl
theorem cellsTab : Tryd.prog.cellsOf 62 = 64 := by kernel_rfl
theorem cellsByte : Tryd.prog.cellsOf 5 = 1 := by kernel_rfl
def tabZ : List Int := Lib.deBruijn64tab.map fun n : Nat => (n : Int)

theorem table {W : World} {laid : List (String × DataW Unit)} (hl : laid = [("math/bits.deBruijn64tab", Rows.laid_math_bits_deBruijn64tab)]) (h : laidMetH Tryd.prog laid W) : TabAt 0 Lib.deBruijn64tab W := by
  subst hl
  have t : Lib.TabIs Tryd.prog W "math/bits.deBruijn64tab" .u8 tabZ :=
    Lib.tabIs_of_head (rest := []) gTab gTabType Tryd.underlying62 Tryd.underlying5 cellsByte cellsTab h
  intro j hj
  have := t.cell gTab j (by simpa [tabZ] using hj)
  rw [this]
  congr 2
  simp [tabZ, List.getD, List.getElem?_map]
  cases Lib.deBruijn64tab[j]? <;> rfl

noncomputable def laidWorld (os : Os) : World :=
  { World.holding Tryd.prog os ⟨#[], #[], []⟩ with heap := (World.holding Tryd.prog os ⟨#[], #[], []⟩).heap.modify 0 fun
      | .cells _ t frozen => .cells (tabZ.map (Value.int .u8)).toArray t frozen
      | o => o }
end Go.Proofs.YtmeldbddbinnbaaDoor
