import Derived.Test.YtbjdglopkpigbaaGreatDoorShelf
import Derived.Test.YtbjdglopkpigbaaGreatDoorMG11
/-
  BtH, BtI
-/
set_option linter.unusedSimpArgs false
set_option linter.unusedVariables false
namespace Go.Proofs.YtbjdglopkpigbaaGreatDoor.Bt
open Go.RowKit Go.Shelf
end Go.Proofs.YtbjdglopkpigbaaGreatDoor.Bt
namespace Go.Proofs.YtbjdglopkpigbaaGreatDoor.Bt
open Go.RowKit Go.Shelf
theorem owns_len {w : World} {B e n cap : Nat} {a : Option Addr} {k : IntKind} {xs : List Int} (h : w.ownsRow B e 1 (.slice a n cap) n (ivs k xs)) : n = xs.length := by
 have := h.1
 simp [ivs] at this
 omega
end Go.Proofs.YtbjdglopkpigbaaGreatDoor.Bt
