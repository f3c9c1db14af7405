/-
  No cell of these rows narrows 'for every input' (looked for: loops, veiled, ifaces, maps, wideKeys, modest, calm, conditions, laid).
  DERIVED. THE GIVEN ROWS OF THIS SEAT. 8 by the template 'for every input the law returns true; each argument reads behind the call as it read before'; 0 by the template 'total and deterministic' (their statements: YtpcbmhfnefhenaaTotals.lean).
  GIVEN WITH THE SEED: the statements are not yours to turn. If you find one false, say at which input.
  Laid BY PROGRAM, IN A SANDBOX (cutbox-rows.mjs): the forced cells as the released guide's own fill.sh prints them over the translation 1ea811c4b967f0b7… (all of the seat's roots in one cut). By AI agents, Wed Nov 11 2026. No macro, syntax, notation, axiom, sorry.
-/
import Derived.Test.YtpcbmhfnefhenaaChecked
import GoSem.Claim
import GoSem.ClaimJoined
import GoSem.ClaimMapViews
import Derived.JoinedTies
import Derived.KernelRfl
namespace Go.Proofs.Ytpcbmhfnefhenaa
/- THE CELL 'sum', in the pinned program and in every row, IS THE sha256 OF THE DUMP (.gsa) THAT YtpcbmhfnefhenaaProg.lean LOADS. Nothing in Lean hashes anything: it is a label: what it is worth is what the hold of that sum in a sandbox is worth. -/
noncomputable def Try.pinned : Pinned := { name := "ytpcbmhfnefhenaa", sum := "1ea811c4b967f0b7123ca7fe0da57ac08306db5ac6750c1ca19fe72219edb1a1", checked := Try.checked }
namespace Rows
def none {H : Type} : Left H := { results := [], args := [] }

/-- 'farandolelaw06.DfaForms': WHATEVER THE INPUT: true; the input reads as it did. -/
def dfaFormsSpec : ChangeSpec := { name := "dfaForms", fn := fun _ => fun
  | [d] => { results := [.lit (.bool true)], args := [d] }
  | _ => none }
def dfaFormsRow : OpenClaim := { program := "ytpcbmhfnefhenaa", sum := "1ea811c4b967f0b7123ca7fe0da57ac08306db5ac6750c1ca19fe72219edb1a1", func := "farandole/farandolelaw06.DfaForms", spec := "dfaForms", unfollowed := true, recurses := true, plainKeys := false, apart := false }
def DfaFormsSaid : Prop := dfaFormsRow.holds Try.pinned (OpenSpec.ofChange dfaFormsSpec)

/-- ITS FALSE NEIGHBOUR: 'it returns false'. Refute it at one input. -/
def dfaFormsWrong : ChangeSpec := { name := "dfaForms", fn := fun _ => fun
  | [d] => { results := [.lit (.bool false)], args := [d] }
  | _ => none }
def DfaFormsWrongFalsely : Prop := dfaFormsRow.holds Try.pinned (OpenSpec.ofChange dfaFormsWrong)

/-- 'farandolelaw06.DfaReads': WHATEVER THE INPUT: true; the input reads as it did. -/
def dfaReadsSpec : ChangeSpec := { name := "dfaReads", fn := fun _ => fun
  | [d1, d2, d3] => { results := [.lit (.bool true)], args := [d1, d2, d3] }
  | _ => none }
def dfaReadsRow : OpenClaim := { program := "ytpcbmhfnefhenaa", sum := "1ea811c4b967f0b7123ca7fe0da57ac08306db5ac6750c1ca19fe72219edb1a1", func := "farandole/farandolelaw06.DfaReads", spec := "dfaReads", unfollowed := true, recurses := true, plainKeys := false, apart := false }
def DfaReadsSaid : Prop := dfaReadsRow.holds Try.pinned (OpenSpec.ofChange dfaReadsSpec)

/-- ITS FALSE NEIGHBOUR: 'it returns false'. Refute it at one input. -/
def dfaReadsWrong : ChangeSpec := { name := "dfaReads", fn := fun _ => fun
  | [d1, d2, d3] => { results := [.lit (.bool false)], args := [d1, d2, d3] }
  | _ => none }
def DfaReadsWrongFalsely : Prop := dfaReadsRow.holds Try.pinned (OpenSpec.ofChange dfaReadsWrong)

/-- 'farandolelaw06.DfaProducts': WHATEVER THE INPUT: true; the input reads as it did. -/
def dfaProductsSpec : ChangeSpec := { name := "dfaProducts", fn := fun _ => fun
  | [d1, d2, d3] => { results := [.lit (.bool true)], args := [d1, d2, d3] }
  | _ => none }
def dfaProductsRow : OpenClaim := { program := "ytpcbmhfnefhenaa", sum := "1ea811c4b967f0b7123ca7fe0da57ac08306db5ac6750c1ca19fe72219edb1a1", func := "farandole/farandolelaw06.DfaProducts", spec := "dfaProducts", unfollowed := true, recurses := true, plainKeys := false, apart := false }
def DfaProductsSaid : Prop := dfaProductsRow.holds Try.pinned (OpenSpec.ofChange dfaProductsSpec)

/-- ITS FALSE NEIGHBOUR: 'it returns false'. Refute it at one input. -/
def dfaProductsWrong : ChangeSpec := { name := "dfaProducts", fn := fun _ => fun
  | [d1, d2, d3] => { results := [.lit (.bool false)], args := [d1, d2, d3] }
  | _ => none }
def DfaProductsWrongFalsely : Prop := dfaProductsRow.holds Try.pinned (OpenSpec.ofChange dfaProductsWrong)

/-- 'farandolelaw06.DfaIncluded': WHATEVER THE INPUT: true; the input reads as it did. -/
def dfaIncludedSpec : ChangeSpec := { name := "dfaIncluded", fn := fun _ => fun
  | [d1, d2, d3] => { results := [.lit (.bool true)], args := [d1, d2, d3] }
  | _ => none }
def dfaIncludedRow : OpenClaim := { program := "ytpcbmhfnefhenaa", sum := "1ea811c4b967f0b7123ca7fe0da57ac08306db5ac6750c1ca19fe72219edb1a1", func := "farandole/farandolelaw06.DfaIncluded", spec := "dfaIncluded", unfollowed := true, recurses := true, plainKeys := false, apart := false }
def DfaIncludedSaid : Prop := dfaIncludedRow.holds Try.pinned (OpenSpec.ofChange dfaIncludedSpec)

/-- ITS FALSE NEIGHBOUR: 'it returns false'. Refute it at one input. -/
def dfaIncludedWrong : ChangeSpec := { name := "dfaIncluded", fn := fun _ => fun
  | [d1, d2, d3] => { results := [.lit (.bool false)], args := [d1, d2, d3] }
  | _ => none }
def DfaIncludedWrongFalsely : Prop := dfaIncludedRow.holds Try.pinned (OpenSpec.ofChange dfaIncludedWrong)

/-- 'farandolelaw06.DfaLists': WHATEVER THE INPUT: true; the input reads as it did. -/
def dfaListsSpec : ChangeSpec := { name := "dfaLists", fn := fun _ => fun
  | [d1, d2, d3] => { results := [.lit (.bool true)], args := [d1, d2, d3] }
  | _ => none }
def dfaListsRow : OpenClaim := { program := "ytpcbmhfnefhenaa", sum := "1ea811c4b967f0b7123ca7fe0da57ac08306db5ac6750c1ca19fe72219edb1a1", func := "farandole/farandolelaw06.DfaLists", spec := "dfaLists", unfollowed := true, recurses := true, plainKeys := false, apart := false }
def DfaListsSaid : Prop := dfaListsRow.holds Try.pinned (OpenSpec.ofChange dfaListsSpec)

/-- ITS FALSE NEIGHBOUR: 'it returns false'. Refute it at one input. -/
def dfaListsWrong : ChangeSpec := { name := "dfaLists", fn := fun _ => fun
  | [d1, d2, d3] => { results := [.lit (.bool false)], args := [d1, d2, d3] }
  | _ => none }
def DfaListsWrongFalsely : Prop := dfaListsRow.holds Try.pinned (OpenSpec.ofChange dfaListsWrong)

/-- 'farandolelaw06.DfaEnumerates': WHATEVER THE INPUT: true; the input reads as it did. -/
def dfaEnumeratesSpec : ChangeSpec := { name := "dfaEnumerates", fn := fun _ => fun
  | [d1, d2] => { results := [.lit (.bool true)], args := [d1, d2] }
  | _ => none }
def dfaEnumeratesRow : OpenClaim := { program := "ytpcbmhfnefhenaa", sum := "1ea811c4b967f0b7123ca7fe0da57ac08306db5ac6750c1ca19fe72219edb1a1", func := "farandole/farandolelaw06.DfaEnumerates", spec := "dfaEnumerates", unfollowed := true, recurses := true, plainKeys := false, apart := false }
def DfaEnumeratesSaid : Prop := dfaEnumeratesRow.holds Try.pinned (OpenSpec.ofChange dfaEnumeratesSpec)

/-- ITS FALSE NEIGHBOUR: 'it returns false'. Refute it at one input. -/
def dfaEnumeratesWrong : ChangeSpec := { name := "dfaEnumerates", fn := fun _ => fun
  | [d1, d2] => { results := [.lit (.bool false)], args := [d1, d2] }
  | _ => none }
def DfaEnumeratesWrongFalsely : Prop := dfaEnumeratesRow.holds Try.pinned (OpenSpec.ofChange dfaEnumeratesWrong)

/-- 'farandolelaw06.DfaMinimal': WHATEVER THE INPUT: true; the input reads as it did. -/
def dfaMinimalSpec : ChangeSpec := { name := "dfaMinimal", fn := fun _ => fun
  | [d1, d2] => { results := [.lit (.bool true)], args := [d1, d2] }
  | _ => none }
def dfaMinimalRow : OpenClaim := { program := "ytpcbmhfnefhenaa", sum := "1ea811c4b967f0b7123ca7fe0da57ac08306db5ac6750c1ca19fe72219edb1a1", func := "farandole/farandolelaw06.DfaMinimal", spec := "dfaMinimal", unfollowed := true, recurses := true, plainKeys := false, apart := false }
def DfaMinimalSaid : Prop := dfaMinimalRow.holds Try.pinned (OpenSpec.ofChange dfaMinimalSpec)

/-- ITS FALSE NEIGHBOUR: 'it returns false'. Refute it at one input. -/
def dfaMinimalWrong : ChangeSpec := { name := "dfaMinimal", fn := fun _ => fun
  | [d1, d2] => { results := [.lit (.bool false)], args := [d1, d2] }
  | _ => none }
def DfaMinimalWrongFalsely : Prop := dfaMinimalRow.holds Try.pinned (OpenSpec.ofChange dfaMinimalWrong)

/-- 'farandolelaw06.DfaPairs': WHATEVER THE INPUT: true; the input reads as it did. -/
def dfaPairsSpec : ChangeSpec := { name := "dfaPairs", fn := fun _ => fun
  | [d1, d2] => { results := [.lit (.bool true)], args := [d1, d2] }
  | _ => none }
def dfaPairsRow : OpenClaim := { program := "ytpcbmhfnefhenaa", sum := "1ea811c4b967f0b7123ca7fe0da57ac08306db5ac6750c1ca19fe72219edb1a1", func := "farandole/farandolelaw06.DfaPairs", spec := "dfaPairs", unfollowed := true, recurses := true, plainKeys := false, apart := false }
def DfaPairsSaid : Prop := dfaPairsRow.holds Try.pinned (OpenSpec.ofChange dfaPairsSpec)

/-- ITS FALSE NEIGHBOUR: 'it returns false'. Refute it at one input. -/
def dfaPairsWrong : ChangeSpec := { name := "dfaPairs", fn := fun _ => fun
  | [d1, d2] => { results := [.lit (.bool false)], args := [d1, d2] }
  | _ => none }
def DfaPairsWrongFalsely : Prop := dfaPairsRow.holds Try.pinned (OpenSpec.ofChange dfaPairsWrong)

/- THE SECOND FORM. 'bulk': how many values and letters a reading holds, each counted each time it is reached (what is shared counts as often as it is met; a slice's spare places count too). A statement '..UptoSaid' is the law's where the arguments, and the package variables that the reading takes, are together of bulk at most 1048576: NARROWER than '..Said'. Prove '..Said' where nothing that the law and all that it calls make is longer than what came in: it says more and counts as full. Else prove '..UptoSaid'. A law counts once. -/
mutual
def uptoBulk {H : Type} : DataW H → Nat
  | .lit (.string bytes) => bytes.length + 1
  | .lit _ => 1
  | .nil => 1
  | .ptr d => uptoBulk d + 1
  | .slice elems spare => uptoBulkAll elems + uptoBulkAll spare + 1
  | .agg parts => uptoBulkAll parts + 1
  | .iface _ d => uptoBulk d + 1
  | .map entries => uptoBulkEntries entries + 1
  | .held _ => 1
def uptoBulkAll {H : Type} : List (DataW H) → Nat
  | [] => 0
  | d :: r => uptoBulk d + uptoBulkAll r
def uptoBulkEntries {H : Type} : List (Lit × DataW H) → Nat
  | [] => 0
  | x :: r => uptoBulkEntry x + uptoBulkEntries r
def uptoBulkEntry {H : Type} : Lit × DataW H → Nat
  | (.string bytes, d) => bytes.length + uptoBulk d + 1
  | (_, d) => uptoBulk d + 1
 end
def uptoSmall : (H : Type) → List (DataW H) → Bool := fun _ ds => decide (uptoBulkAll ds ≤ 1048576)
def OpenSpec.upto (s : _root_.Go.ChangeSpec) : _root_.Go.OpenSpec := { _root_.Go.OpenSpec.ofChange s with cond := some uptoSmall }

/-- 'farandolelaw06.DfaForms', WHERE WHAT IT READS IS OF BULK AT MOST 1048576: true; the input reads as it did. -/
def dfaFormsUptoRow : OpenClaim := { program := "ytpcbmhfnefhenaa", sum := "1ea811c4b967f0b7123ca7fe0da57ac08306db5ac6750c1ca19fe72219edb1a1", func := "farandole/farandolelaw06.DfaForms", spec := "dfaForms", unfollowed := true, recurses := true, plainKeys := false, apart := false, narrowed := true }
def DfaFormsUptoSaid : Prop := dfaFormsUptoRow.holds Try.pinned (OpenSpec.upto dfaFormsSpec)

/-- 'farandolelaw06.DfaReads', WHERE WHAT IT READS IS OF BULK AT MOST 1048576: true; the input reads as it did. -/
def dfaReadsUptoRow : OpenClaim := { program := "ytpcbmhfnefhenaa", sum := "1ea811c4b967f0b7123ca7fe0da57ac08306db5ac6750c1ca19fe72219edb1a1", func := "farandole/farandolelaw06.DfaReads", spec := "dfaReads", unfollowed := true, recurses := true, plainKeys := false, apart := false, narrowed := true }
def DfaReadsUptoSaid : Prop := dfaReadsUptoRow.holds Try.pinned (OpenSpec.upto dfaReadsSpec)

/-- 'farandolelaw06.DfaProducts', WHERE WHAT IT READS IS OF BULK AT MOST 1048576: true; the input reads as it did. -/
def dfaProductsUptoRow : OpenClaim := { program := "ytpcbmhfnefhenaa", sum := "1ea811c4b967f0b7123ca7fe0da57ac08306db5ac6750c1ca19fe72219edb1a1", func := "farandole/farandolelaw06.DfaProducts", spec := "dfaProducts", unfollowed := true, recurses := true, plainKeys := false, apart := false, narrowed := true }
def DfaProductsUptoSaid : Prop := dfaProductsUptoRow.holds Try.pinned (OpenSpec.upto dfaProductsSpec)

/-- 'farandolelaw06.DfaIncluded', WHERE WHAT IT READS IS OF BULK AT MOST 1048576: true; the input reads as it did. -/
def dfaIncludedUptoRow : OpenClaim := { program := "ytpcbmhfnefhenaa", sum := "1ea811c4b967f0b7123ca7fe0da57ac08306db5ac6750c1ca19fe72219edb1a1", func := "farandole/farandolelaw06.DfaIncluded", spec := "dfaIncluded", unfollowed := true, recurses := true, plainKeys := false, apart := false, narrowed := true }
def DfaIncludedUptoSaid : Prop := dfaIncludedUptoRow.holds Try.pinned (OpenSpec.upto dfaIncludedSpec)

/-- 'farandolelaw06.DfaLists', WHERE WHAT IT READS IS OF BULK AT MOST 1048576: true; the input reads as it did. -/
def dfaListsUptoRow : OpenClaim := { program := "ytpcbmhfnefhenaa", sum := "1ea811c4b967f0b7123ca7fe0da57ac08306db5ac6750c1ca19fe72219edb1a1", func := "farandole/farandolelaw06.DfaLists", spec := "dfaLists", unfollowed := true, recurses := true, plainKeys := false, apart := false, narrowed := true }
def DfaListsUptoSaid : Prop := dfaListsUptoRow.holds Try.pinned (OpenSpec.upto dfaListsSpec)

/-- 'farandolelaw06.DfaEnumerates', WHERE WHAT IT READS IS OF BULK AT MOST 1048576: true; the input reads as it did. -/
def dfaEnumeratesUptoRow : OpenClaim := { program := "ytpcbmhfnefhenaa", sum := "1ea811c4b967f0b7123ca7fe0da57ac08306db5ac6750c1ca19fe72219edb1a1", func := "farandole/farandolelaw06.DfaEnumerates", spec := "dfaEnumerates", unfollowed := true, recurses := true, plainKeys := false, apart := false, narrowed := true }
def DfaEnumeratesUptoSaid : Prop := dfaEnumeratesUptoRow.holds Try.pinned (OpenSpec.upto dfaEnumeratesSpec)

/-- 'farandolelaw06.DfaMinimal', WHERE WHAT IT READS IS OF BULK AT MOST 1048576: true; the input reads as it did. -/
def dfaMinimalUptoRow : OpenClaim := { program := "ytpcbmhfnefhenaa", sum := "1ea811c4b967f0b7123ca7fe0da57ac08306db5ac6750c1ca19fe72219edb1a1", func := "farandole/farandolelaw06.DfaMinimal", spec := "dfaMinimal", unfollowed := true, recurses := true, plainKeys := false, apart := false, narrowed := true }
def DfaMinimalUptoSaid : Prop := dfaMinimalUptoRow.holds Try.pinned (OpenSpec.upto dfaMinimalSpec)

/-- 'farandolelaw06.DfaPairs', WHERE WHAT IT READS IS OF BULK AT MOST 1048576: true; the input reads as it did. -/
def dfaPairsUptoRow : OpenClaim := { program := "ytpcbmhfnefhenaa", sum := "1ea811c4b967f0b7123ca7fe0da57ac08306db5ac6750c1ca19fe72219edb1a1", func := "farandole/farandolelaw06.DfaPairs", spec := "dfaPairs", unfollowed := true, recurses := true, plainKeys := false, apart := false, narrowed := true }
def DfaPairsUptoSaid : Prop := dfaPairsUptoRow.holds Try.pinned (OpenSpec.upto dfaPairsSpec)

end Rows
end Go.Proofs.Ytpcbmhfnefhenaa
