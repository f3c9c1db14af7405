/-
  No cell of these rows narrows 'for every input' (looked for: loops, veiled, ifaces, maps, wideKeys, modest, calm, conditions, laid).
  DERIVED. THE GIVEN ROWS OF THIS SEAT. 7 by the template 'for every input the law returns true; each argument reads behind the call as it read before'; 0 by the template 'total and deterministic' (their statements: YtlogmgkjikamaaaTotals.lean).
  GIVEN WITH THE SEED: the statements are not yours to turn. If you find one false, say at which input.
  Laid BY PROGRAM, IN A SANDBOX (cutbox-rows.mjs): the forced cells as the released guide's own fill.sh prints them over the translation 55d0f549cfd0eee6… (all of the seat's roots in one cut). By AI agents, Wed Nov 11 2026. No macro, syntax, notation, axiom, sorry.
-/
import Derived.Test.YtlogmgkjikamaaaChecked
import GoSem.Claim
import GoSem.ClaimJoined
import GoSem.ClaimMapViews
import Derived.JoinedTies
import Derived.KernelRfl
namespace Go.Proofs.Ytlogmgkjikamaaa
/- THE CELL 'sum', in the pinned program and in every row, IS THE sha256 OF THE DUMP (.gsa) THAT YtlogmgkjikamaaaProg.lean LOADS. Nothing in Lean hashes anything: it is a label: what it is worth is what the hold of that sum in a sandbox is worth. -/
noncomputable def Try.pinned : Pinned := { name := "ytlogmgkjikamaaa", sum := "55d0f549cfd0eee658787969f67a91d5c9de399d2e7a953b6fd3935b1fbcd2a0", checked := Try.checked }
namespace Rows
def none {H : Type} : Left H := { results := [], args := [] }

/-- 'farandolelaw04.GraphOrders': WHATEVER THE INPUT: true; the input reads as it did. -/
def graphOrdersSpec : ChangeSpec := { name := "graphOrders", fn := fun _ => fun
  | [d] => { results := [.lit (.bool true)], args := [d] }
  | _ => none }
def graphOrdersRow : OpenClaim := { program := "ytlogmgkjikamaaa", sum := "55d0f549cfd0eee658787969f67a91d5c9de399d2e7a953b6fd3935b1fbcd2a0", func := "farandole/farandolelaw04.GraphOrders", spec := "graphOrders", unfollowed := true, recurses := true, apart := false }
def GraphOrdersSaid : Prop := graphOrdersRow.holds Try.pinned (OpenSpec.ofChange graphOrdersSpec)

/-- ITS FALSE NEIGHBOUR: 'it returns false'. Refute it at one input. -/
def graphOrdersWrong : ChangeSpec := { name := "graphOrders", fn := fun _ => fun
  | [d] => { results := [.lit (.bool false)], args := [d] }
  | _ => none }
def GraphOrdersWrongFalsely : Prop := graphOrdersRow.holds Try.pinned (OpenSpec.ofChange graphOrdersWrong)

/-- 'farandolelaw04.GraphParts': WHATEVER THE INPUT: true; the input reads as it did. -/
def graphPartsSpec : ChangeSpec := { name := "graphParts", fn := fun _ => fun
  | [d] => { results := [.lit (.bool true)], args := [d] }
  | _ => none }
def graphPartsRow : OpenClaim := { program := "ytlogmgkjikamaaa", sum := "55d0f549cfd0eee658787969f67a91d5c9de399d2e7a953b6fd3935b1fbcd2a0", func := "farandole/farandolelaw04.GraphParts", spec := "graphParts", unfollowed := true, recurses := true, apart := false }
def GraphPartsSaid : Prop := graphPartsRow.holds Try.pinned (OpenSpec.ofChange graphPartsSpec)

/-- ITS FALSE NEIGHBOUR: 'it returns false'. Refute it at one input. -/
def graphPartsWrong : ChangeSpec := { name := "graphParts", fn := fun _ => fun
  | [d] => { results := [.lit (.bool false)], args := [d] }
  | _ => none }
def GraphPartsWrongFalsely : Prop := graphPartsRow.holds Try.pinned (OpenSpec.ofChange graphPartsWrong)

/-- 'farandolelaw04.GraphSteps': WHATEVER THE INPUT: true; the input reads as it did. -/
def graphStepsSpec : ChangeSpec := { name := "graphSteps", fn := fun _ => fun
  | [d1, d2, d3] => { results := [.lit (.bool true)], args := [d1, d2, d3] }
  | _ => none }
def graphStepsRow : OpenClaim := { program := "ytlogmgkjikamaaa", sum := "55d0f549cfd0eee658787969f67a91d5c9de399d2e7a953b6fd3935b1fbcd2a0", func := "farandole/farandolelaw04.GraphSteps", spec := "graphSteps", unfollowed := true, recurses := true, apart := false }
def GraphStepsSaid : Prop := graphStepsRow.holds Try.pinned (OpenSpec.ofChange graphStepsSpec)

/-- ITS FALSE NEIGHBOUR: 'it returns false'. Refute it at one input. -/
def graphStepsWrong : ChangeSpec := { name := "graphSteps", fn := fun _ => fun
  | [d1, d2, d3] => { results := [.lit (.bool false)], args := [d1, d2, d3] }
  | _ => none }
def GraphStepsWrongFalsely : Prop := graphStepsRow.holds Try.pinned (OpenSpec.ofChange graphStepsWrong)

/-- 'farandolelaw04.GraphReach': WHATEVER THE INPUT: true; the input reads as it did. -/
def graphReachSpec : ChangeSpec := { name := "graphReach", fn := fun _ => fun
  | [d1, d2, d3] => { results := [.lit (.bool true)], args := [d1, d2, d3] }
  | _ => none }
def graphReachRow : OpenClaim := { program := "ytlogmgkjikamaaa", sum := "55d0f549cfd0eee658787969f67a91d5c9de399d2e7a953b6fd3935b1fbcd2a0", func := "farandole/farandolelaw04.GraphReach", spec := "graphReach", unfollowed := true, recurses := true, apart := false }
def GraphReachSaid : Prop := graphReachRow.holds Try.pinned (OpenSpec.ofChange graphReachSpec)

/-- ITS FALSE NEIGHBOUR: 'it returns false'. Refute it at one input. -/
def graphReachWrong : ChangeSpec := { name := "graphReach", fn := fun _ => fun
  | [d1, d2, d3] => { results := [.lit (.bool false)], args := [d1, d2, d3] }
  | _ => none }
def GraphReachWrongFalsely : Prop := graphReachRow.holds Try.pinned (OpenSpec.ofChange graphReachWrong)

/-- 'farandolelaw04.GraphClosure': WHATEVER THE INPUT: true; the input reads as it did. -/
def graphClosureSpec : ChangeSpec := { name := "graphClosure", fn := fun _ => fun
  | [d1, d2, d3] => { results := [.lit (.bool true)], args := [d1, d2, d3] }
  | _ => none }
def graphClosureRow : OpenClaim := { program := "ytlogmgkjikamaaa", sum := "55d0f549cfd0eee658787969f67a91d5c9de399d2e7a953b6fd3935b1fbcd2a0", func := "farandole/farandolelaw04.GraphClosure", spec := "graphClosure", unfollowed := true, recurses := true, apart := false }
def GraphClosureSaid : Prop := graphClosureRow.holds Try.pinned (OpenSpec.ofChange graphClosureSpec)

/-- ITS FALSE NEIGHBOUR: 'it returns false'. Refute it at one input. -/
def graphClosureWrong : ChangeSpec := { name := "graphClosure", fn := fun _ => fun
  | [d1, d2, d3] => { results := [.lit (.bool false)], args := [d1, d2, d3] }
  | _ => none }
def GraphClosureWrongFalsely : Prop := graphClosureRow.holds Try.pinned (OpenSpec.ofChange graphClosureWrong)

/-- 'farandolelaw04.GraphComponents': WHATEVER THE INPUT: true; the input reads as it did. -/
def graphComponentsSpec : ChangeSpec := { name := "graphComponents", fn := fun _ => fun
  | [d1, d2, d3] => { results := [.lit (.bool true)], args := [d1, d2, d3] }
  | _ => none }
def graphComponentsRow : OpenClaim := { program := "ytlogmgkjikamaaa", sum := "55d0f549cfd0eee658787969f67a91d5c9de399d2e7a953b6fd3935b1fbcd2a0", func := "farandole/farandolelaw04.GraphComponents", spec := "graphComponents", unfollowed := true, recurses := true, apart := false }
def GraphComponentsSaid : Prop := graphComponentsRow.holds Try.pinned (OpenSpec.ofChange graphComponentsSpec)

/-- ITS FALSE NEIGHBOUR: 'it returns false'. Refute it at one input. -/
def graphComponentsWrong : ChangeSpec := { name := "graphComponents", fn := fun _ => fun
  | [d1, d2, d3] => { results := [.lit (.bool false)], args := [d1, d2, d3] }
  | _ => none }
def GraphComponentsWrongFalsely : Prop := graphComponentsRow.holds Try.pinned (OpenSpec.ofChange graphComponentsWrong)

/-- 'farandolelaw04.GraphReversed': WHATEVER THE INPUT: true; the input reads as it did. -/
def graphReversedSpec : ChangeSpec := { name := "graphReversed", fn := fun _ => fun
  | [d1, d2, d3] => { results := [.lit (.bool true)], args := [d1, d2, d3] }
  | _ => none }
def graphReversedRow : OpenClaim := { program := "ytlogmgkjikamaaa", sum := "55d0f549cfd0eee658787969f67a91d5c9de399d2e7a953b6fd3935b1fbcd2a0", func := "farandole/farandolelaw04.GraphReversed", spec := "graphReversed", unfollowed := true, recurses := true, apart := false }
def GraphReversedSaid : Prop := graphReversedRow.holds Try.pinned (OpenSpec.ofChange graphReversedSpec)

/-- ITS FALSE NEIGHBOUR: 'it returns false'. Refute it at one input. -/
def graphReversedWrong : ChangeSpec := { name := "graphReversed", fn := fun _ => fun
  | [d1, d2, d3] => { results := [.lit (.bool false)], args := [d1, d2, d3] }
  | _ => none }
def GraphReversedWrongFalsely : Prop := graphReversedRow.holds Try.pinned (OpenSpec.ofChange graphReversedWrong)

/- THE SECOND FORM. 'bulk': how many values and letters a reading holds, each counted each time it is reached (what is shared counts as often as it is met; a slice's spare places count too). A statement '..UptoSaid' is the law's where the arguments, and the package variables that the reading takes, are together of bulk at most 1048576: NARROWER than '..Said'. Prove '..Said' where nothing that the law and all that it calls make is longer than what came in: it says more and counts as full. Else prove '..UptoSaid'. A law counts once. -/
mutual
def uptoBulk {H : Type} : DataW H → Nat
  | .lit (.string bytes) => bytes.length + 1
  | .lit _ => 1
  | .nil => 1
  | .ptr d => uptoBulk d + 1
  | .slice elems spare => uptoBulkAll elems + uptoBulkAll spare + 1
  | .agg parts => uptoBulkAll parts + 1
  | .iface _ d => uptoBulk d + 1
  | .map entries => uptoBulkEntries entries + 1
  | .held _ => 1
def uptoBulkAll {H : Type} : List (DataW H) → Nat
  | [] => 0
  | d :: r => uptoBulk d + uptoBulkAll r
def uptoBulkEntries {H : Type} : List (Lit × DataW H) → Nat
  | [] => 0
  | x :: r => uptoBulkEntry x + uptoBulkEntries r
def uptoBulkEntry {H : Type} : Lit × DataW H → Nat
  | (.string bytes, d) => bytes.length + uptoBulk d + 1
  | (_, d) => uptoBulk d + 1
 end
def uptoSmall : (H : Type) → List (DataW H) → Bool := fun _ ds => decide (uptoBulkAll ds ≤ 1048576)
def OpenSpec.upto (s : _root_.Go.ChangeSpec) : _root_.Go.OpenSpec := { _root_.Go.OpenSpec.ofChange s with cond := some uptoSmall }

/-- 'farandolelaw04.GraphOrders', WHERE WHAT IT READS IS OF BULK AT MOST 1048576: true; the input reads as it did. -/
def graphOrdersUptoRow : OpenClaim := { program := "ytlogmgkjikamaaa", sum := "55d0f549cfd0eee658787969f67a91d5c9de399d2e7a953b6fd3935b1fbcd2a0", func := "farandole/farandolelaw04.GraphOrders", spec := "graphOrders", unfollowed := true, recurses := true, apart := false, narrowed := true }
def GraphOrdersUptoSaid : Prop := graphOrdersUptoRow.holds Try.pinned (OpenSpec.upto graphOrdersSpec)

/-- 'farandolelaw04.GraphParts', WHERE WHAT IT READS IS OF BULK AT MOST 1048576: true; the input reads as it did. -/
def graphPartsUptoRow : OpenClaim := { program := "ytlogmgkjikamaaa", sum := "55d0f549cfd0eee658787969f67a91d5c9de399d2e7a953b6fd3935b1fbcd2a0", func := "farandole/farandolelaw04.GraphParts", spec := "graphParts", unfollowed := true, recurses := true, apart := false, narrowed := true }
def GraphPartsUptoSaid : Prop := graphPartsUptoRow.holds Try.pinned (OpenSpec.upto graphPartsSpec)

/-- 'farandolelaw04.GraphSteps', WHERE WHAT IT READS IS OF BULK AT MOST 1048576: true; the input reads as it did. -/
def graphStepsUptoRow : OpenClaim := { program := "ytlogmgkjikamaaa", sum := "55d0f549cfd0eee658787969f67a91d5c9de399d2e7a953b6fd3935b1fbcd2a0", func := "farandole/farandolelaw04.GraphSteps", spec := "graphSteps", unfollowed := true, recurses := true, apart := false, narrowed := true }
def GraphStepsUptoSaid : Prop := graphStepsUptoRow.holds Try.pinned (OpenSpec.upto graphStepsSpec)

/-- 'farandolelaw04.GraphReach', WHERE WHAT IT READS IS OF BULK AT MOST 1048576: true; the input reads as it did. -/
def graphReachUptoRow : OpenClaim := { program := "ytlogmgkjikamaaa", sum := "55d0f549cfd0eee658787969f67a91d5c9de399d2e7a953b6fd3935b1fbcd2a0", func := "farandole/farandolelaw04.GraphReach", spec := "graphReach", unfollowed := true, recurses := true, apart := false, narrowed := true }
def GraphReachUptoSaid : Prop := graphReachUptoRow.holds Try.pinned (OpenSpec.upto graphReachSpec)

/-- 'farandolelaw04.GraphClosure', WHERE WHAT IT READS IS OF BULK AT MOST 1048576: true; the input reads as it did. -/
def graphClosureUptoRow : OpenClaim := { program := "ytlogmgkjikamaaa", sum := "55d0f549cfd0eee658787969f67a91d5c9de399d2e7a953b6fd3935b1fbcd2a0", func := "farandole/farandolelaw04.GraphClosure", spec := "graphClosure", unfollowed := true, recurses := true, apart := false, narrowed := true }
def GraphClosureUptoSaid : Prop := graphClosureUptoRow.holds Try.pinned (OpenSpec.upto graphClosureSpec)

/-- 'farandolelaw04.GraphComponents', WHERE WHAT IT READS IS OF BULK AT MOST 1048576: true; the input reads as it did. -/
def graphComponentsUptoRow : OpenClaim := { program := "ytlogmgkjikamaaa", sum := "55d0f549cfd0eee658787969f67a91d5c9de399d2e7a953b6fd3935b1fbcd2a0", func := "farandole/farandolelaw04.GraphComponents", spec := "graphComponents", unfollowed := true, recurses := true, apart := false, narrowed := true }
def GraphComponentsUptoSaid : Prop := graphComponentsUptoRow.holds Try.pinned (OpenSpec.upto graphComponentsSpec)

/-- 'farandolelaw04.GraphReversed', WHERE WHAT IT READS IS OF BULK AT MOST 1048576: true; the input reads as it did. -/
def graphReversedUptoRow : OpenClaim := { program := "ytlogmgkjikamaaa", sum := "55d0f549cfd0eee658787969f67a91d5c9de399d2e7a953b6fd3935b1fbcd2a0", func := "farandole/farandolelaw04.GraphReversed", spec := "graphReversed", unfollowed := true, recurses := true, apart := false, narrowed := true }
def GraphReversedUptoSaid : Prop := graphReversedUptoRow.holds Try.pinned (OpenSpec.upto graphReversedSpec)

end Rows
end Go.Proofs.Ytlogmgkjikamaaa
