/-
  DERIVED. GIVEN WITH THE SEED: THE CARDS: each row of YtofaifeadhimjaaDoorRows.lean that lists a variable, with what it lists TIED to the program's text (the seventh form; the later family's looks); each row that meets fmt, with fmt's text TOLD by the authors' own Lean function (tested against real Go, not proved from fmt's source: count such statements apart). THE CARD IS WHAT COUNTS. Prove the row's statement (the work); the ties are given (YtofaifeadhimjaaDoorTie.lean); close each card by the builder's one call (the guide's Derived/Test/ToyasCard.lean, 'card_holds'). Laid BY PROGRAM, IN A SANDBOX (cutbox-door.mjs). By AI agents, Wed Nov 11 2026. No macro, syntax, notation, axiom, sorry.
-/
import Derived.Test.YtofaifeadhimjaaDoorRows
import GoSem.ClaimSeven
namespace Go.Proofs.YtofaifeadhimjaaDoor
namespace Rows

/-- THE TIED CARD OF 'farandolelaw05.NfaSubsets'. -/
def nfaSubsetsCard : Claim7 := { stood := { row := nfaSubsetsRow, standIns := [], harness := (true, "f3314b4121caf2a14e8a5cc6e5d3a6659615689f6e4303661201eea6a74d314e"), looks := false }, kinds := [], alts := [], laidByText := true, laidKinds := [.data, .data, .data], laidTests := true, laidLooks := .later }
def NfaSubsetsCardSaid : Prop := Claim7.holds Tryd.pinned (.plain (OpenSpec.ofChange nfaSubsetsSpec)) nfaSubsetsCard

/-- THE TIED CARD OF 'farandolelaw05.NfaSteps'. -/
def nfaStepsCard : Claim7 := { stood := { row := nfaStepsRow, standIns := [], harness := (true, "f3314b4121caf2a14e8a5cc6e5d3a6659615689f6e4303661201eea6a74d314e"), looks := false }, kinds := [], alts := [], laidByText := true, laidKinds := [.data, .data, .data], laidTests := true, laidLooks := .later }
def NfaStepsCardSaid : Prop := Claim7.holds Tryd.pinned (.plain (OpenSpec.ofChange nfaStepsSpec)) nfaStepsCard

/-- THE TIED CARD OF 'farandolelaw05.NfaClosures'. -/
def nfaClosuresCard : Claim7 := { stood := { row := nfaClosuresRow, standIns := [], harness := (true, "f3314b4121caf2a14e8a5cc6e5d3a6659615689f6e4303661201eea6a74d314e"), looks := false }, kinds := [], alts := [], laidByText := true, laidKinds := [.data, .data, .data], laidTests := true, laidLooks := .later }
def NfaClosuresCardSaid : Prop := Claim7.holds Tryd.pinned (.plain (OpenSpec.ofChange nfaClosuresSpec)) nfaClosuresCard

/-- THE TIED CARD OF 'farandolelaw05.NfaShortest'. -/
def nfaShortestCard : Claim7 := { stood := { row := nfaShortestRow, standIns := [], harness := (true, "f3314b4121caf2a14e8a5cc6e5d3a6659615689f6e4303661201eea6a74d314e"), looks := false }, kinds := [], alts := [], laidByText := true, laidKinds := [.data, .data, .data], laidTests := true, laidLooks := .later }
def NfaShortestCardSaid : Prop := Claim7.holds Tryd.pinned (.plain (OpenSpec.ofChange nfaShortestSpec)) nfaShortestCard

/-- THE TIED CARD OF 'farandolelaw05.NfaDeterministic'. -/
def nfaDeterministicCard : Claim7 := { stood := { row := nfaDeterministicRow, standIns := [], harness := (true, "f3314b4121caf2a14e8a5cc6e5d3a6659615689f6e4303661201eea6a74d314e"), looks := false }, kinds := [], alts := [], laidByText := true, laidKinds := [.data, .data, .data], laidTests := true, laidLooks := .later }
def NfaDeterministicCardSaid : Prop := Claim7.holds Tryd.pinned (.plain (OpenSpec.ofChange nfaDeterministicSpec)) nfaDeterministicCard

/-- THE TIED CARD OF 'farandolelaw05.NfaReversed'. -/
def nfaReversedCard : Claim7 := { stood := { row := nfaReversedRow, standIns := [], harness := (true, "f3314b4121caf2a14e8a5cc6e5d3a6659615689f6e4303661201eea6a74d314e"), looks := false }, kinds := [], alts := [], laidByText := true, laidKinds := [.data, .data, .data], laidTests := true, laidLooks := .later }
def NfaReversedCardSaid : Prop := Claim7.holds Tryd.pinned (.plain (OpenSpec.ofChange nfaReversedSpec)) nfaReversedCard

/-- THE SECOND FORM's CARD OF 'farandolelaw05.NfaSubsets'. -/
def nfaSubsetsUptoCard : Claim7 := { stood := { row := nfaSubsetsUptoRow, standIns := [], harness := (true, "f3314b4121caf2a14e8a5cc6e5d3a6659615689f6e4303661201eea6a74d314e"), looks := false }, kinds := [], alts := [], laidByText := true, laidKinds := [.data, .data, .data], laidTests := true, laidLooks := .later }
def NfaSubsetsUptoCardSaid : Prop := Claim7.holds Tryd.pinned (.plain (OpenSpec.upto nfaSubsetsSpec)) nfaSubsetsUptoCard

/-- THE SECOND FORM's CARD OF 'farandolelaw05.NfaSteps'. -/
def nfaStepsUptoCard : Claim7 := { stood := { row := nfaStepsUptoRow, standIns := [], harness := (true, "f3314b4121caf2a14e8a5cc6e5d3a6659615689f6e4303661201eea6a74d314e"), looks := false }, kinds := [], alts := [], laidByText := true, laidKinds := [.data, .data, .data], laidTests := true, laidLooks := .later }
def NfaStepsUptoCardSaid : Prop := Claim7.holds Tryd.pinned (.plain (OpenSpec.upto nfaStepsSpec)) nfaStepsUptoCard

/-- THE SECOND FORM's CARD OF 'farandolelaw05.NfaClosures'. -/
def nfaClosuresUptoCard : Claim7 := { stood := { row := nfaClosuresUptoRow, standIns := [], harness := (true, "f3314b4121caf2a14e8a5cc6e5d3a6659615689f6e4303661201eea6a74d314e"), looks := false }, kinds := [], alts := [], laidByText := true, laidKinds := [.data, .data, .data], laidTests := true, laidLooks := .later }
def NfaClosuresUptoCardSaid : Prop := Claim7.holds Tryd.pinned (.plain (OpenSpec.upto nfaClosuresSpec)) nfaClosuresUptoCard

/-- THE SECOND FORM's CARD OF 'farandolelaw05.NfaShortest'. -/
def nfaShortestUptoCard : Claim7 := { stood := { row := nfaShortestUptoRow, standIns := [], harness := (true, "f3314b4121caf2a14e8a5cc6e5d3a6659615689f6e4303661201eea6a74d314e"), looks := false }, kinds := [], alts := [], laidByText := true, laidKinds := [.data, .data, .data], laidTests := true, laidLooks := .later }
def NfaShortestUptoCardSaid : Prop := Claim7.holds Tryd.pinned (.plain (OpenSpec.upto nfaShortestSpec)) nfaShortestUptoCard

/-- THE SECOND FORM's CARD OF 'farandolelaw05.NfaDeterministic'. -/
def nfaDeterministicUptoCard : Claim7 := { stood := { row := nfaDeterministicUptoRow, standIns := [], harness := (true, "f3314b4121caf2a14e8a5cc6e5d3a6659615689f6e4303661201eea6a74d314e"), looks := false }, kinds := [], alts := [], laidByText := true, laidKinds := [.data, .data, .data], laidTests := true, laidLooks := .later }
def NfaDeterministicUptoCardSaid : Prop := Claim7.holds Tryd.pinned (.plain (OpenSpec.upto nfaDeterministicSpec)) nfaDeterministicUptoCard

/-- THE SECOND FORM's CARD OF 'farandolelaw05.NfaReversed'. -/
def nfaReversedUptoCard : Claim7 := { stood := { row := nfaReversedUptoRow, standIns := [], harness := (true, "f3314b4121caf2a14e8a5cc6e5d3a6659615689f6e4303661201eea6a74d314e"), looks := false }, kinds := [], alts := [], laidByText := true, laidKinds := [.data, .data, .data], laidTests := true, laidLooks := .later }
def NfaReversedUptoCardSaid : Prop := Claim7.holds Tryd.pinned (.plain (OpenSpec.upto nfaReversedSpec)) nfaReversedUptoCard
end Rows
end Go.Proofs.YtofaifeadhimjaaDoor
