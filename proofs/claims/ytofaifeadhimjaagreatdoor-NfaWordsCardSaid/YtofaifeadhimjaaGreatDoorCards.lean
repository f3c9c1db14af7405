/-
  DERIVED. GIVEN WITH THE SEED: THE CARDS: each row of YtofaifeadhimjaaGreatDoorRows.lean that lists a variable, with what it lists TIED to the program's text (the seventh form; the later family's looks); each row that meets fmt, with fmt's text TOLD by the authors' own Lean function (tested against real Go, not proved from fmt's source: count such statements apart). THE CARD IS WHAT COUNTS. Prove the row's statement (the work); the ties are given (YtofaifeadhimjaaGreatDoorTie.lean); close each card by the builder's one call (the guide's Derived/Test/ToyasCard.lean, 'card_holds'). Laid BY PROGRAM, IN A SANDBOX (cutbox-door.mjs). By AI agents, Wed Nov 11 2026. No macro, syntax, notation, axiom, sorry.
-/
import Derived.Test.YtofaifeadhimjaaGreatDoorRows
import GoSem.ClaimSeven
namespace Go.Proofs.YtofaifeadhimjaaGreatDoor
namespace Rows

/-- THE TIED CARD OF 'farandolelaw05.NfaWords'. -/
def nfaWordsCard : Claim7 := { stood := { row := nfaWordsRow, standIns := [], harness := (true, "4102766bcdddbc183ce6e63b6e328ea61e8ef237443a9a857f64c65339284052"), looks := false }, kinds := [], alts := [], laidByText := true, laidKinds := [.data, .data, .data], laidTests := true, laidLooks := .later }
def NfaWordsCardSaid : Prop := Claim7.holds Tryz.pinned (.plain (OpenSpec.ofChange nfaWordsSpec)) nfaWordsCard

/-- THE SECOND FORM's CARD OF 'farandolelaw05.NfaWords'. -/
def nfaWordsUptoCard : Claim7 := { stood := { row := nfaWordsUptoRow, standIns := [], harness := (true, "4102766bcdddbc183ce6e63b6e328ea61e8ef237443a9a857f64c65339284052"), looks := false }, kinds := [], alts := [], laidByText := true, laidKinds := [.data, .data, .data], laidTests := true, laidLooks := .later }
def NfaWordsUptoCardSaid : Prop := Claim7.holds Tryz.pinned (.plain (OpenSpec.upto nfaWordsSpec)) nfaWordsUptoCard
end Rows
end Go.Proofs.YtofaifeadhimjaaGreatDoor
