import Derived.Test.YtbjdglopkpigbaaGreatDoorMG12
/-
  BtJ, BtK
-/
set_option linter.unusedSimpArgs false
set_option linter.unusedVariables false
namespace Go.Proofs.YtbjdglopkpigbaaGreatDoor.Bt
open Go.RowKit Go.Shelf
def elsTo (ws : List Int) (N : Nat) : List Int := ((List.range N).filter fun n : Nat => bitI (gi ws (n / 64)) (n % 64)).map fun n : Nat => (n : Int)
end Go.Proofs.YtbjdglopkpigbaaGreatDoor.Bt
namespace Go.Proofs.YtbjdglopkpigbaaGreatDoor.Bt
open Go.RowKit Go.Shelf
def longer (ws : List Int) (q : Nat) : List Int := ws ++ List.replicate (q + 1 - ws.length) 0
def wordsStep (ws : List Int) (n : Int) : List Int :=
 if 0 ≤ n ∧ n < 4096 then (longer ws (n / 64).toNat).set (n / 64).toNat (bits .or .u64 (gi (longer ws (n / 64).toNat) (n / 64).toNat) (IntKind.u64.wrap (2 ^ (n % 64).toNat))) else ws
def wordsL (l : List Int) : List Int := l.foldl wordsStep []
theorem longer_length (ws : List Int) (q : Nat) : (longer ws q).length = max ws.length (q + 1) := by simp [longer]; omega
end Go.Proofs.YtbjdglopkpigbaaGreatDoor.Bt
