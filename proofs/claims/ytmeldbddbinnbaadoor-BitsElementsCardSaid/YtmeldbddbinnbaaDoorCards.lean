/-
  DERIVED. GIVEN WITH THE SEED: THE CARDS: each row of YtmeldbddbinnbaaDoorRows.lean that lists a variable, with what it lists TIED to the program's text (the seventh form; the later family's looks); each row that meets fmt, with fmt's text TOLD by the authors' own Lean function (tested against real Go, not proved from fmt's source: count such statements apart). THE CARD IS WHAT COUNTS. Prove the row's statement (the work); the ties are given (YtmeldbddbinnbaaDoorTie.lean); close each card by the builder's one call (the guide's Derived/Test/ToyasCard.lean, 'card_holds'). Laid BY PROGRAM, IN A SANDBOX (cutbox-door.mjs). By AI agents, Wed Nov 11 2026. No macro, syntax, notation, axiom, sorry.
-/
import Derived.Test.YtmeldbddbinnbaaDoorRows
import GoSem.ClaimSeven
namespace Go.Proofs.YtmeldbddbinnbaaDoor
namespace Rows

/-- THE TIED CARD OF 'farandolelaw03.BitsLists'. -/
def bitsListsCard : Claim7 := { stood := { row := bitsListsRow, standIns := [], harness := (true, "c200d403e1e977b771937e7a423d2b17734de91e1590fbe1e4dbce1d258fd517"), looks := false }, kinds := [], alts := [], laidByText := true, laidKinds := [.data], laidTests := true, laidLooks := .later }
def BitsListsCardSaid : Prop := Claim7.holds Tryd.pinned (.plain (OpenSpec.ofChange bitsListsSpec)) bitsListsCard

/-- THE TIED CARD OF 'farandolelaw03.BitsValues'. -/
def bitsValuesCard : Claim7 := { stood := { row := bitsValuesRow, standIns := [], harness := (true, "c200d403e1e977b771937e7a423d2b17734de91e1590fbe1e4dbce1d258fd517"), looks := false }, kinds := [], alts := [], laidByText := true, laidKinds := [.data], laidTests := true, laidLooks := .later }
def BitsValuesCardSaid : Prop := Claim7.holds Tryd.pinned (.plain (OpenSpec.ofChange bitsValuesSpec)) bitsValuesCard

/-- THE TIED CARD OF 'farandolelaw03.BitsCounts'. -/
def bitsCountsCard : Claim7 := { stood := { row := bitsCountsRow, standIns := [], harness := (true, "c200d403e1e977b771937e7a423d2b17734de91e1590fbe1e4dbce1d258fd517"), looks := false }, kinds := [], alts := [], laidByText := true, laidKinds := [.data], laidTests := true, laidLooks := .later }
def BitsCountsCardSaid : Prop := Claim7.holds Tryd.pinned (.plain (OpenSpec.ofChange bitsCountsSpec)) bitsCountsCard

/-- THE TIED CARD OF 'farandolelaw03.BitsOrder'. -/
def bitsOrderCard : Claim7 := { stood := { row := bitsOrderRow, standIns := [], harness := (true, "c200d403e1e977b771937e7a423d2b17734de91e1590fbe1e4dbce1d258fd517"), looks := false }, kinds := [], alts := [], laidByText := true, laidKinds := [.data], laidTests := true, laidLooks := .later }
def BitsOrderCardSaid : Prop := Claim7.holds Tryd.pinned (.plain (OpenSpec.ofChange bitsOrderSpec)) bitsOrderCard

/-- THE TIED CARD OF 'farandolelaw03.BitsElements'. -/
def bitsElementsCard : Claim7 := { stood := { row := bitsElementsRow, standIns := [], harness := (true, "c200d403e1e977b771937e7a423d2b17734de91e1590fbe1e4dbce1d258fd517"), looks := false }, kinds := [], alts := [], laidByText := true, laidKinds := [.data], laidTests := true, laidLooks := .later }
def BitsElementsCardSaid : Prop := Claim7.holds Tryd.pinned (.plain (OpenSpec.ofChange bitsElementsSpec)) bitsElementsCard

/-- THE TIED CARD OF 'farandolelaw03.BitsAlgebra'. -/
def bitsAlgebraCard : Claim7 := { stood := { row := bitsAlgebraRow, standIns := [], harness := (true, "c200d403e1e977b771937e7a423d2b17734de91e1590fbe1e4dbce1d258fd517"), looks := false }, kinds := [], alts := [], laidByText := true, laidKinds := [.data], laidTests := true, laidLooks := .later }
def BitsAlgebraCardSaid : Prop := Claim7.holds Tryd.pinned (.plain (OpenSpec.ofChange bitsAlgebraSpec)) bitsAlgebraCard

/-- THE TIED CARD OF 'farandolelaw03.BitsSubsets'. -/
def bitsSubsetsCard : Claim7 := { stood := { row := bitsSubsetsRow, standIns := [], harness := (true, "c200d403e1e977b771937e7a423d2b17734de91e1590fbe1e4dbce1d258fd517"), looks := false }, kinds := [], alts := [], laidByText := true, laidKinds := [.data], laidTests := true, laidLooks := .later }
def BitsSubsetsCardSaid : Prop := Claim7.holds Tryd.pinned (.plain (OpenSpec.ofChange bitsSubsetsSpec)) bitsSubsetsCard

/-- THE TIED CARD OF 'farandolelaw03.BitsOps'. -/
def bitsOpsCard : Claim7 := { stood := { row := bitsOpsRow, standIns := [], harness := (true, "c200d403e1e977b771937e7a423d2b17734de91e1590fbe1e4dbce1d258fd517"), looks := false }, kinds := [], alts := [], laidByText := true, laidKinds := [.data], laidTests := true, laidLooks := .later }
def BitsOpsCardSaid : Prop := Claim7.holds Tryd.pinned (.plain (OpenSpec.ofChange bitsOpsSpec)) bitsOpsCard

/-- THE SECOND FORM's CARD OF 'farandolelaw03.BitsLists'. -/
def bitsListsUptoCard : Claim7 := { stood := { row := bitsListsUptoRow, standIns := [], harness := (true, "c200d403e1e977b771937e7a423d2b17734de91e1590fbe1e4dbce1d258fd517"), looks := false }, kinds := [], alts := [], laidByText := true, laidKinds := [.data], laidTests := true, laidLooks := .later }
def BitsListsUptoCardSaid : Prop := Claim7.holds Tryd.pinned (.plain (OpenSpec.upto bitsListsSpec)) bitsListsUptoCard

/-- THE SECOND FORM's CARD OF 'farandolelaw03.BitsValues'. -/
def bitsValuesUptoCard : Claim7 := { stood := { row := bitsValuesUptoRow, standIns := [], harness := (true, "c200d403e1e977b771937e7a423d2b17734de91e1590fbe1e4dbce1d258fd517"), looks := false }, kinds := [], alts := [], laidByText := true, laidKinds := [.data], laidTests := true, laidLooks := .later }
def BitsValuesUptoCardSaid : Prop := Claim7.holds Tryd.pinned (.plain (OpenSpec.upto bitsValuesSpec)) bitsValuesUptoCard

/-- THE SECOND FORM's CARD OF 'farandolelaw03.BitsCounts'. -/
def bitsCountsUptoCard : Claim7 := { stood := { row := bitsCountsUptoRow, standIns := [], harness := (true, "c200d403e1e977b771937e7a423d2b17734de91e1590fbe1e4dbce1d258fd517"), looks := false }, kinds := [], alts := [], laidByText := true, laidKinds := [.data], laidTests := true, laidLooks := .later }
def BitsCountsUptoCardSaid : Prop := Claim7.holds Tryd.pinned (.plain (OpenSpec.upto bitsCountsSpec)) bitsCountsUptoCard

/-- THE SECOND FORM's CARD OF 'farandolelaw03.BitsOrder'. -/
def bitsOrderUptoCard : Claim7 := { stood := { row := bitsOrderUptoRow, standIns := [], harness := (true, "c200d403e1e977b771937e7a423d2b17734de91e1590fbe1e4dbce1d258fd517"), looks := false }, kinds := [], alts := [], laidByText := true, laidKinds := [.data], laidTests := true, laidLooks := .later }
def BitsOrderUptoCardSaid : Prop := Claim7.holds Tryd.pinned (.plain (OpenSpec.upto bitsOrderSpec)) bitsOrderUptoCard

/-- THE SECOND FORM's CARD OF 'farandolelaw03.BitsElements'. -/
def bitsElementsUptoCard : Claim7 := { stood := { row := bitsElementsUptoRow, standIns := [], harness := (true, "c200d403e1e977b771937e7a423d2b17734de91e1590fbe1e4dbce1d258fd517"), looks := false }, kinds := [], alts := [], laidByText := true, laidKinds := [.data], laidTests := true, laidLooks := .later }
def BitsElementsUptoCardSaid : Prop := Claim7.holds Tryd.pinned (.plain (OpenSpec.upto bitsElementsSpec)) bitsElementsUptoCard

/-- THE SECOND FORM's CARD OF 'farandolelaw03.BitsAlgebra'. -/
def bitsAlgebraUptoCard : Claim7 := { stood := { row := bitsAlgebraUptoRow, standIns := [], harness := (true, "c200d403e1e977b771937e7a423d2b17734de91e1590fbe1e4dbce1d258fd517"), looks := false }, kinds := [], alts := [], laidByText := true, laidKinds := [.data], laidTests := true, laidLooks := .later }
def BitsAlgebraUptoCardSaid : Prop := Claim7.holds Tryd.pinned (.plain (OpenSpec.upto bitsAlgebraSpec)) bitsAlgebraUptoCard

/-- THE SECOND FORM's CARD OF 'farandolelaw03.BitsSubsets'. -/
def bitsSubsetsUptoCard : Claim7 := { stood := { row := bitsSubsetsUptoRow, standIns := [], harness := (true, "c200d403e1e977b771937e7a423d2b17734de91e1590fbe1e4dbce1d258fd517"), looks := false }, kinds := [], alts := [], laidByText := true, laidKinds := [.data], laidTests := true, laidLooks := .later }
def BitsSubsetsUptoCardSaid : Prop := Claim7.holds Tryd.pinned (.plain (OpenSpec.upto bitsSubsetsSpec)) bitsSubsetsUptoCard

/-- THE SECOND FORM's CARD OF 'farandolelaw03.BitsOps'. -/
def bitsOpsUptoCard : Claim7 := { stood := { row := bitsOpsUptoRow, standIns := [], harness := (true, "c200d403e1e977b771937e7a423d2b17734de91e1590fbe1e4dbce1d258fd517"), looks := false }, kinds := [], alts := [], laidByText := true, laidKinds := [.data], laidTests := true, laidLooks := .later }
def BitsOpsUptoCardSaid : Prop := Claim7.holds Tryd.pinned (.plain (OpenSpec.upto bitsOpsSpec)) bitsOpsUptoCard
end Rows
end Go.Proofs.YtmeldbddbinnbaaDoor
