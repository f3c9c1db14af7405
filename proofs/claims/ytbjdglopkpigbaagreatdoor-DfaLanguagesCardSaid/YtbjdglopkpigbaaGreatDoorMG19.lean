import Derived.Test.YtbjdglopkpigbaaGreatDoorMG11
import Derived.Test.YtbjdglopkpigbaaGreatDoorMG13
import Derived.Test.YtbjdglopkpigbaaGreatDoorMG16
import Derived.Test.YtbjdglopkpigbaaGreatDoorMG18
/-
  BtW, BtX
-/
set_option linter.unusedSimpArgs false
set_option linter.unusedVariables false
namespace Go.Proofs.YtbjdglopkpigbaaGreatDoor.Bt
open Go.RowKit Go.Shelf
attribute [local go_sem] Oper.semAt_some
theorem TabAt.later {w w' : World} (h : TabAt 0 Lib.deBruijn64tab w) (hb : Below w.heap.size w w') : TabAt 0 Lib.deBruijn64tab w' :=
 fun j hj => (hb.cell (p := ⟨0, j, none⟩) (lt_of_cell (h j hj))).trans (h j hj)
end Go.Proofs.YtbjdglopkpigbaaGreatDoor.Bt
namespace Go.Proofs.YtbjdglopkpigbaaGreatDoor.Bt
open Go.RowKit Go.Shelf
attribute [local go_sem] Oper.semAt_some
end Go.Proofs.YtbjdglopkpigbaaGreatDoor.Bt
