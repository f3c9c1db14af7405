/-
  No cell of these rows narrows 'for every input' (looked for: loops, veiled, ifaces, maps, wideKeys, modest, calm, conditions, laid).
  DERIVED. THE GIVEN ROWS OF THIS SEAT. 7 by the template 'for every input the law returns true; each argument reads behind the call as it read before'; 0 by the template 'total and deterministic' (their statements: YtpmhnmkpmkeadaaTotals.lean).
  GIVEN WITH THE SEED: the statements are not yours to turn. If you find one false, say at which input.
  Laid BY PROGRAM, IN A SANDBOX (cutbox-rows.mjs): the forced cells as the released guide's own fill.sh prints them over the translation 4dd76d97ce09a3bd… (all of the seat's roots in one cut). By AI agents, Wed Nov 11 2026. No macro, syntax, notation, axiom, sorry.
-/
import Derived.Test.YtpmhnmkpmkeadaaChecked
import GoSem.Claim
import GoSem.ClaimJoined
import GoSem.ClaimMapViews
import Derived.JoinedTies
import Derived.KernelRfl
namespace Go.Proofs.Ytpmhnmkpmkeadaa
/- THE CELL 'sum', in the pinned program and in every row, IS THE sha256 OF THE DUMP (.gsa) THAT YtpmhnmkpmkeadaaProg.lean LOADS. Nothing in Lean hashes anything: it is a label: what it is worth is what the hold of that sum in a sandbox is worth. -/
noncomputable def Try.pinned : Pinned := { name := "ytpmhnmkpmkeadaa", sum := "4dd76d97ce09a3bdab87cdb3a740a863a877632a0b958ae48b619c62841172ae", checked := Try.checked }
namespace Rows
def none {H : Type} : Left H := { results := [], args := [] }

/-- 'farandolelaw47.WalLimit': WHATEVER THE INPUT: true; the input reads as it did. -/
def walLimitSpec : ChangeSpec := { name := "walLimit", fn := fun _ => fun
  | [d] => { results := [.lit (.bool true)], args := [d] }
  | _ => none }
def walLimitRow : OpenClaim := { program := "ytpmhnmkpmkeadaa", sum := "4dd76d97ce09a3bdab87cdb3a740a863a877632a0b958ae48b619c62841172ae", func := "farandole/farandolelaw47.WalLimit", spec := "walLimit", unfollowed := true, recurses := true, apart := false }
def WalLimitSaid : Prop := walLimitRow.holds Try.pinned (OpenSpec.ofChange walLimitSpec)

/-- ITS FALSE NEIGHBOUR: 'it returns false'. Refute it at one input. -/
def walLimitWrong : ChangeSpec := { name := "walLimit", fn := fun _ => fun
  | [d] => { results := [.lit (.bool false)], args := [d] }
  | _ => none }
def WalLimitWrongFalsely : Prop := walLimitRow.holds Try.pinned (OpenSpec.ofChange walLimitWrong)

/-- 'farandolelaw47.WalRoundTrip': WHATEVER THE INPUT: true; the input reads as it did. -/
def walRoundTripSpec : ChangeSpec := { name := "walRoundTrip", fn := fun _ => fun
  | [d] => { results := [.lit (.bool true)], args := [d] }
  | _ => none }
def walRoundTripRow : OpenClaim := { program := "ytpmhnmkpmkeadaa", sum := "4dd76d97ce09a3bdab87cdb3a740a863a877632a0b958ae48b619c62841172ae", func := "farandole/farandolelaw47.WalRoundTrip", spec := "walRoundTrip", unfollowed := true, recurses := true, apart := false }
def WalRoundTripSaid : Prop := walRoundTripRow.holds Try.pinned (OpenSpec.ofChange walRoundTripSpec)

/-- ITS FALSE NEIGHBOUR: 'it returns false'. Refute it at one input. -/
def walRoundTripWrong : ChangeSpec := { name := "walRoundTrip", fn := fun _ => fun
  | [d] => { results := [.lit (.bool false)], args := [d] }
  | _ => none }
def WalRoundTripWrongFalsely : Prop := walRoundTripRow.holds Try.pinned (OpenSpec.ofChange walRoundTripWrong)

/-- 'farandolelaw47.WalDamage': WHATEVER THE INPUT: true; the input reads as it did. -/
def walDamageSpec : ChangeSpec := { name := "walDamage", fn := fun _ => fun
  | [d1, d2] => { results := [.lit (.bool true)], args := [d1, d2] }
  | _ => none }
def walDamageRow : OpenClaim := { program := "ytpmhnmkpmkeadaa", sum := "4dd76d97ce09a3bdab87cdb3a740a863a877632a0b958ae48b619c62841172ae", func := "farandole/farandolelaw47.WalDamage", spec := "walDamage", unfollowed := true, recurses := true, apart := false }
def WalDamageSaid : Prop := walDamageRow.holds Try.pinned (OpenSpec.ofChange walDamageSpec)

/-- ITS FALSE NEIGHBOUR: 'it returns false'. Refute it at one input. -/
def walDamageWrong : ChangeSpec := { name := "walDamage", fn := fun _ => fun
  | [d1, d2] => { results := [.lit (.bool false)], args := [d1, d2] }
  | _ => none }
def WalDamageWrongFalsely : Prop := walDamageRow.holds Try.pinned (OpenSpec.ofChange walDamageWrong)

/-- 'farandolelaw47.WalContinue': WHATEVER THE INPUT: true; the input reads as it did. -/
def walContinueSpec : ChangeSpec := { name := "walContinue", fn := fun _ => fun
  | [d1, d2, d3] => { results := [.lit (.bool true)], args := [d1, d2, d3] }
  | _ => none }
def walContinueRow : OpenClaim := { program := "ytpmhnmkpmkeadaa", sum := "4dd76d97ce09a3bdab87cdb3a740a863a877632a0b958ae48b619c62841172ae", func := "farandole/farandolelaw47.WalContinue", spec := "walContinue", unfollowed := true, recurses := true, apart := false }
def WalContinueSaid : Prop := walContinueRow.holds Try.pinned (OpenSpec.ofChange walContinueSpec)

/-- ITS FALSE NEIGHBOUR: 'it returns false'. Refute it at one input. -/
def walContinueWrong : ChangeSpec := { name := "walContinue", fn := fun _ => fun
  | [d1, d2, d3] => { results := [.lit (.bool false)], args := [d1, d2, d3] }
  | _ => none }
def WalContinueWrongFalsely : Prop := walContinueRow.holds Try.pinned (OpenSpec.ofChange walContinueWrong)

/-- 'farandolelaw47.WalRead': WHATEVER THE INPUT: true; the input reads as it did. -/
def walReadSpec : ChangeSpec := { name := "walRead", fn := fun _ => fun
  | [d1, d2, d3] => { results := [.lit (.bool true)], args := [d1, d2, d3] }
  | _ => none }
def walReadRow : OpenClaim := { program := "ytpmhnmkpmkeadaa", sum := "4dd76d97ce09a3bdab87cdb3a740a863a877632a0b958ae48b619c62841172ae", func := "farandole/farandolelaw47.WalRead", spec := "walRead", unfollowed := true, recurses := true, apart := false }
def WalReadSaid : Prop := walReadRow.holds Try.pinned (OpenSpec.ofChange walReadSpec)

/-- ITS FALSE NEIGHBOUR: 'it returns false'. Refute it at one input. -/
def walReadWrong : ChangeSpec := { name := "walRead", fn := fun _ => fun
  | [d1, d2, d3] => { results := [.lit (.bool false)], args := [d1, d2, d3] }
  | _ => none }
def WalReadWrongFalsely : Prop := walReadRow.holds Try.pinned (OpenSpec.ofChange walReadWrong)

/-- 'farandolelaw47.WalAppend': WHATEVER THE INPUT: true; the input reads as it did. -/
def walAppendSpec : ChangeSpec := { name := "walAppend", fn := fun _ => fun
  | [d1, d2] => { results := [.lit (.bool true)], args := [d1, d2] }
  | _ => none }
def walAppendRow : OpenClaim := { program := "ytpmhnmkpmkeadaa", sum := "4dd76d97ce09a3bdab87cdb3a740a863a877632a0b958ae48b619c62841172ae", func := "farandole/farandolelaw47.WalAppend", spec := "walAppend", unfollowed := true, recurses := true, apart := false }
def WalAppendSaid : Prop := walAppendRow.holds Try.pinned (OpenSpec.ofChange walAppendSpec)

/-- ITS FALSE NEIGHBOUR: 'it returns false'. Refute it at one input. -/
def walAppendWrong : ChangeSpec := { name := "walAppend", fn := fun _ => fun
  | [d1, d2] => { results := [.lit (.bool false)], args := [d1, d2] }
  | _ => none }
def WalAppendWrongFalsely : Prop := walAppendRow.holds Try.pinned (OpenSpec.ofChange walAppendWrong)

/-- 'farandolelaw47.WalCrash': WHATEVER THE INPUT: true; the input reads as it did. -/
def walCrashSpec : ChangeSpec := { name := "walCrash", fn := fun _ => fun
  | [d1, d2, d3] => { results := [.lit (.bool true)], args := [d1, d2, d3] }
  | _ => none }
def walCrashRow : OpenClaim := { program := "ytpmhnmkpmkeadaa", sum := "4dd76d97ce09a3bdab87cdb3a740a863a877632a0b958ae48b619c62841172ae", func := "farandole/farandolelaw47.WalCrash", spec := "walCrash", unfollowed := true, recurses := true, apart := false }
def WalCrashSaid : Prop := walCrashRow.holds Try.pinned (OpenSpec.ofChange walCrashSpec)

/-- ITS FALSE NEIGHBOUR: 'it returns false'. Refute it at one input. -/
def walCrashWrong : ChangeSpec := { name := "walCrash", fn := fun _ => fun
  | [d1, d2, d3] => { results := [.lit (.bool false)], args := [d1, d2, d3] }
  | _ => none }
def WalCrashWrongFalsely : Prop := walCrashRow.holds Try.pinned (OpenSpec.ofChange walCrashWrong)

/- THE SECOND FORM. 'bulk': how many values and letters a reading holds, each counted each time it is reached (what is shared counts as often as it is met; a slice's spare places count too). A statement '..UptoSaid' is the law's where the arguments, and the package variables that the reading takes, are together of bulk at most 1048576: NARROWER than '..Said'. Prove '..Said' where nothing that the law and all that it calls make is longer than what came in: it says more and counts as full. Else prove '..UptoSaid'. A law counts once. -/
mutual
def uptoBulk {H : Type} : DataW H → Nat
  | .lit (.string bytes) => bytes.length + 1
  | .lit _ => 1
  | .nil => 1
  | .ptr d => uptoBulk d + 1
  | .slice elems spare => uptoBulkAll elems + uptoBulkAll spare + 1
  | .agg parts => uptoBulkAll parts + 1
  | .iface _ d => uptoBulk d + 1
  | .map entries => uptoBulkEntries entries + 1
  | .held _ => 1
def uptoBulkAll {H : Type} : List (DataW H) → Nat
  | [] => 0
  | d :: r => uptoBulk d + uptoBulkAll r
def uptoBulkEntries {H : Type} : List (Lit × DataW H) → Nat
  | [] => 0
  | x :: r => uptoBulkEntry x + uptoBulkEntries r
def uptoBulkEntry {H : Type} : Lit × DataW H → Nat
  | (.string bytes, d) => bytes.length + uptoBulk d + 1
  | (_, d) => uptoBulk d + 1
 end
def uptoSmall : (H : Type) → List (DataW H) → Bool := fun _ ds => decide (uptoBulkAll ds ≤ 1048576)
def OpenSpec.upto (s : _root_.Go.ChangeSpec) : _root_.Go.OpenSpec := { _root_.Go.OpenSpec.ofChange s with cond := some uptoSmall }

/-- 'farandolelaw47.WalLimit', WHERE WHAT IT READS IS OF BULK AT MOST 1048576: true; the input reads as it did. -/
def walLimitUptoRow : OpenClaim := { program := "ytpmhnmkpmkeadaa", sum := "4dd76d97ce09a3bdab87cdb3a740a863a877632a0b958ae48b619c62841172ae", func := "farandole/farandolelaw47.WalLimit", spec := "walLimit", unfollowed := true, recurses := true, apart := false, narrowed := true }
def WalLimitUptoSaid : Prop := walLimitUptoRow.holds Try.pinned (OpenSpec.upto walLimitSpec)

/-- 'farandolelaw47.WalRoundTrip', WHERE WHAT IT READS IS OF BULK AT MOST 1048576: true; the input reads as it did. -/
def walRoundTripUptoRow : OpenClaim := { program := "ytpmhnmkpmkeadaa", sum := "4dd76d97ce09a3bdab87cdb3a740a863a877632a0b958ae48b619c62841172ae", func := "farandole/farandolelaw47.WalRoundTrip", spec := "walRoundTrip", unfollowed := true, recurses := true, apart := false, narrowed := true }
def WalRoundTripUptoSaid : Prop := walRoundTripUptoRow.holds Try.pinned (OpenSpec.upto walRoundTripSpec)

/-- 'farandolelaw47.WalDamage', WHERE WHAT IT READS IS OF BULK AT MOST 1048576: true; the input reads as it did. -/
def walDamageUptoRow : OpenClaim := { program := "ytpmhnmkpmkeadaa", sum := "4dd76d97ce09a3bdab87cdb3a740a863a877632a0b958ae48b619c62841172ae", func := "farandole/farandolelaw47.WalDamage", spec := "walDamage", unfollowed := true, recurses := true, apart := false, narrowed := true }
def WalDamageUptoSaid : Prop := walDamageUptoRow.holds Try.pinned (OpenSpec.upto walDamageSpec)

/-- 'farandolelaw47.WalContinue', WHERE WHAT IT READS IS OF BULK AT MOST 1048576: true; the input reads as it did. -/
def walContinueUptoRow : OpenClaim := { program := "ytpmhnmkpmkeadaa", sum := "4dd76d97ce09a3bdab87cdb3a740a863a877632a0b958ae48b619c62841172ae", func := "farandole/farandolelaw47.WalContinue", spec := "walContinue", unfollowed := true, recurses := true, apart := false, narrowed := true }
def WalContinueUptoSaid : Prop := walContinueUptoRow.holds Try.pinned (OpenSpec.upto walContinueSpec)

/-- 'farandolelaw47.WalRead', WHERE WHAT IT READS IS OF BULK AT MOST 1048576: true; the input reads as it did. -/
def walReadUptoRow : OpenClaim := { program := "ytpmhnmkpmkeadaa", sum := "4dd76d97ce09a3bdab87cdb3a740a863a877632a0b958ae48b619c62841172ae", func := "farandole/farandolelaw47.WalRead", spec := "walRead", unfollowed := true, recurses := true, apart := false, narrowed := true }
def WalReadUptoSaid : Prop := walReadUptoRow.holds Try.pinned (OpenSpec.upto walReadSpec)

/-- 'farandolelaw47.WalAppend', WHERE WHAT IT READS IS OF BULK AT MOST 1048576: true; the input reads as it did. -/
def walAppendUptoRow : OpenClaim := { program := "ytpmhnmkpmkeadaa", sum := "4dd76d97ce09a3bdab87cdb3a740a863a877632a0b958ae48b619c62841172ae", func := "farandole/farandolelaw47.WalAppend", spec := "walAppend", unfollowed := true, recurses := true, apart := false, narrowed := true }
def WalAppendUptoSaid : Prop := walAppendUptoRow.holds Try.pinned (OpenSpec.upto walAppendSpec)

/-- 'farandolelaw47.WalCrash', WHERE WHAT IT READS IS OF BULK AT MOST 1048576: true; the input reads as it did. -/
def walCrashUptoRow : OpenClaim := { program := "ytpmhnmkpmkeadaa", sum := "4dd76d97ce09a3bdab87cdb3a740a863a877632a0b958ae48b619c62841172ae", func := "farandole/farandolelaw47.WalCrash", spec := "walCrash", unfollowed := true, recurses := true, apart := false, narrowed := true }
def WalCrashUptoSaid : Prop := walCrashUptoRow.holds Try.pinned (OpenSpec.upto walCrashSpec)

end Rows
end Go.Proofs.Ytpmhnmkpmkeadaa
