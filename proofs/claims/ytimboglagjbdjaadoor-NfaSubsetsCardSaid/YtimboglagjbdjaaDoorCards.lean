/-
  DERIVED. GIVEN WITH THE SEED: THE CARDS: each row of YtimboglagjbdjaaDoorRows.lean that lists a variable, with what it lists TIED to the program's text (the seventh form; the later family's looks); each row that meets fmt, with fmt's text TOLD by the authors' own Lean function (tested against real Go, not proved from fmt's source: count such statements apart). THE CARD IS WHAT COUNTS. Prove the row's statement (the work); the ties are given (YtimboglagjbdjaaDoorTie.lean); close each card by the builder's one call (the guide's Derived/Test/ToyasCard.lean, 'card_holds'). Laid BY PROGRAM, IN A SANDBOX (cutbox-door.mjs). By AI agents, Wed Nov 11 2026. No macro, syntax, notation, axiom, sorry.
-/
import Derived.Test.YtimboglagjbdjaaDoorRows
import GoSem.ClaimSeven
namespace Go.Proofs.YtimboglagjbdjaaDoor
namespace Rows

/-- THE TIED CARD OF 'farandolelaw05.NfaSubsets'. -/
def nfaSubsetsCard : Claim7 := { stood := { row := nfaSubsetsRow, standIns := [], harness := (true, "d0d75dcdb5f6fea7d83876e0a0f7fe8fff42075d7b281f742658c04c216ee77f"), looks := false }, kinds := [], alts := [], laidByText := true, laidKinds := [.data, .data, .data], laidTests := true, laidLooks := .later }
def NfaSubsetsCardSaid : Prop := Claim7.holds Tryd.pinned (.plain (OpenSpec.ofChange nfaSubsetsSpec)) nfaSubsetsCard

/-- THE TIED CARD OF 'farandolelaw05.NfaShortest'. -/
def nfaShortestCard : Claim7 := { stood := { row := nfaShortestRow, standIns := [], harness := (true, "d0d75dcdb5f6fea7d83876e0a0f7fe8fff42075d7b281f742658c04c216ee77f"), looks := false }, kinds := [], alts := [], laidByText := true, laidKinds := [.data, .data, .data], laidTests := true, laidLooks := .later }
def NfaShortestCardSaid : Prop := Claim7.holds Tryd.pinned (.plain (OpenSpec.ofChange nfaShortestSpec)) nfaShortestCard

/-- THE TIED CARD OF 'farandolelaw05.NfaReversed'. -/
def nfaReversedCard : Claim7 := { stood := { row := nfaReversedRow, standIns := [], harness := (true, "d0d75dcdb5f6fea7d83876e0a0f7fe8fff42075d7b281f742658c04c216ee77f"), looks := false }, kinds := [], alts := [], laidByText := true, laidKinds := [.data, .data, .data], laidTests := true, laidLooks := .later }
def NfaReversedCardSaid : Prop := Claim7.holds Tryd.pinned (.plain (OpenSpec.ofChange nfaReversedSpec)) nfaReversedCard

/-- THE SECOND FORM's CARD OF 'farandolelaw05.NfaSubsets'. -/
def nfaSubsetsUptoCard : Claim7 := { stood := { row := nfaSubsetsUptoRow, standIns := [], harness := (true, "d0d75dcdb5f6fea7d83876e0a0f7fe8fff42075d7b281f742658c04c216ee77f"), looks := false }, kinds := [], alts := [], laidByText := true, laidKinds := [.data, .data, .data], laidTests := true, laidLooks := .later }
def NfaSubsetsUptoCardSaid : Prop := Claim7.holds Tryd.pinned (.plain (OpenSpec.upto nfaSubsetsSpec)) nfaSubsetsUptoCard

/-- THE SECOND FORM's CARD OF 'farandolelaw05.NfaShortest'. -/
def nfaShortestUptoCard : Claim7 := { stood := { row := nfaShortestUptoRow, standIns := [], harness := (true, "d0d75dcdb5f6fea7d83876e0a0f7fe8fff42075d7b281f742658c04c216ee77f"), looks := false }, kinds := [], alts := [], laidByText := true, laidKinds := [.data, .data, .data], laidTests := true, laidLooks := .later }
def NfaShortestUptoCardSaid : Prop := Claim7.holds Tryd.pinned (.plain (OpenSpec.upto nfaShortestSpec)) nfaShortestUptoCard

/-- THE SECOND FORM's CARD OF 'farandolelaw05.NfaReversed'. -/
def nfaReversedUptoCard : Claim7 := { stood := { row := nfaReversedUptoRow, standIns := [], harness := (true, "d0d75dcdb5f6fea7d83876e0a0f7fe8fff42075d7b281f742658c04c216ee77f"), looks := false }, kinds := [], alts := [], laidByText := true, laidKinds := [.data, .data, .data], laidTests := true, laidLooks := .later }
def NfaReversedUptoCardSaid : Prop := Claim7.holds Tryd.pinned (.plain (OpenSpec.upto nfaReversedSpec)) nfaReversedUptoCard
end Rows
end Go.Proofs.YtimboglagjbdjaaDoor
