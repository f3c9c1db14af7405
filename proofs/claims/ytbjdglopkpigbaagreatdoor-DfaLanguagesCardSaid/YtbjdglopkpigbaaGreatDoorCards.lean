/-
  DERIVED. GIVEN WITH THE SEED: THE CARDS: each row of YtbjdglopkpigbaaGreatDoorRows.lean that lists a variable, with what it lists TIED to the program's text (the seventh form; the later family's looks); each row that meets fmt, with fmt's text TOLD by the authors' own Lean function (tested against real Go, not proved from fmt's source: count such statements apart). THE CARD IS WHAT COUNTS. Prove the row's statement (the work); the ties are given (YtbjdglopkpigbaaGreatDoorTie.lean); close each card by the builder's one call (the guide's Derived/Test/ToyasCard.lean, 'card_holds'). Laid BY PROGRAM, IN A SANDBOX (cutbox-door.mjs). By AI agents, Wed Nov 11 2026. No macro, syntax, notation, axiom, sorry.
-/
import Derived.Test.YtbjdglopkpigbaaGreatDoorRows
import GoSem.ClaimSeven
namespace Go.Proofs.YtbjdglopkpigbaaGreatDoor
namespace Rows

/-- THE TIED CARD OF 'farandolelaw06.DfaLanguages'. -/
def dfaLanguagesCard : Claim7 := { stood := { row := dfaLanguagesRow, standIns := [], harness := (true, "4d636c5a97e3e5cafcda81470c6278ede1061b390ac5dc0f67f8654f2935ce59"), looks := false }, kinds := [], alts := [], laidByText := true, laidKinds := [.data, .data, .data], laidTests := true, laidLooks := .later }
def DfaLanguagesCardSaid : Prop := Claim7.holds Tryz.pinned (.plain (OpenSpec.ofChange dfaLanguagesSpec)) dfaLanguagesCard

/-- THE SECOND FORM's CARD OF 'farandolelaw06.DfaLanguages'. -/
def dfaLanguagesUptoCard : Claim7 := { stood := { row := dfaLanguagesUptoRow, standIns := [], harness := (true, "4d636c5a97e3e5cafcda81470c6278ede1061b390ac5dc0f67f8654f2935ce59"), looks := false }, kinds := [], alts := [], laidByText := true, laidKinds := [.data, .data, .data], laidTests := true, laidLooks := .later }
def DfaLanguagesUptoCardSaid : Prop := Claim7.holds Tryz.pinned (.plain (OpenSpec.upto dfaLanguagesSpec)) dfaLanguagesUptoCard
end Rows
end Go.Proofs.YtbjdglopkpigbaaGreatDoor
