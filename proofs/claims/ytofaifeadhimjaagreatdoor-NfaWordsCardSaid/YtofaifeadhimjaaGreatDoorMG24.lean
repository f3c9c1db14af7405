import Derived.Test.YtofaifeadhimjaaGreatDoorMG16
import Derived.Test.YtofaifeadhimjaaGreatDoorMG18
import Derived.Test.YtofaifeadhimjaaGreatDoorMG21
import Derived.Test.YtofaifeadhimjaaGreatDoorMG23
/-
  BtW, BtX
-/
set_option linter.unusedSimpArgs false
set_option linter.unusedVariables false
namespace Go.Proofs.YtofaifeadhimjaaGreatDoor.Bt
open Go.RowKit Go.Shelf
attribute [local go_sem] Oper.semAt_some

theorem TabAt.later {w w' : World} (h : TabAt 0 Lib.deBruijn64tab w) (hb : Below w.heap.size w w') : TabAt 0 Lib.deBruijn64tab w' :=
 fun j hj => (hb.cell (p := ⟨0, j, none⟩) (lt_of_cell (h j hj))).trans (h j hj)

end Go.Proofs.YtofaifeadhimjaaGreatDoor.Bt

set_option linter.unusedSimpArgs false
set_option linter.unusedVariables false
namespace Go.Proofs.YtofaifeadhimjaaGreatDoor.Bt
open Go.RowKit Go.Shelf
attribute [local go_sem] Oper.semAt_some

end Go.Proofs.YtofaifeadhimjaaGreatDoor.Bt
