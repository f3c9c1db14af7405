/-
  No cell of these rows narrows 'for every input' (looked for: loops, veiled, ifaces, maps, wideKeys, modest, calm, conditions, laid).
  DERIVED. THE GIVEN ROWS OF THIS SEAT. 7 by the template 'for every input the law returns true; each argument reads behind the call as it read before'; 0 by the template 'total and deterministic' (their statements: YtoicaacndkjjoaaTotals.lean).
  GIVEN WITH THE SEED: the statements are not yours to turn. If you find one false, say at which input.
  Laid BY PROGRAM, IN A SANDBOX (cutbox-rows.mjs): the forced cells as the released guide's own fill.sh prints them over the translation 7d81e981a5970e8e… (all of the seat's roots in one cut). By AI agents, Wed Nov 11 2026. No macro, syntax, notation, axiom, sorry.
-/
import Derived.Test.YtoicaacndkjjoaaChecked
import GoSem.Claim
import GoSem.ClaimJoined
import GoSem.ClaimMapViews
import Derived.JoinedTies
import Derived.KernelRfl
namespace Go.Proofs.Ytoicaacndkjjoaa
/- THE CELL 'sum', in the pinned program and in every row, IS THE sha256 OF THE DUMP (.gsa) THAT YtoicaacndkjjoaaProg.lean LOADS. Nothing in Lean hashes anything: it is a label: what it is worth is what the hold of that sum in a sandbox is worth. -/
noncomputable def Try.pinned : Pinned := { name := "ytoicaacndkjjoaa", sum := "7d81e981a5970e8e1a330e5b4e0b04641f932a3b0491e7a0f92dd1c3db910203", checked := Try.checked }
namespace Rows
def none {H : Type} : Left H := { results := [], args := [] }

/-- 'farandolelaw02.SumOf': WHATEVER THE INPUT: true; the input reads as it did. -/
def sumOfSpec : ChangeSpec := { name := "sumOf", fn := fun _ => fun
  | [d1, d2] => { results := [.lit (.bool true)], args := [d1, d2] }
  | _ => none }
def sumOfRow : OpenClaim := { program := "ytoicaacndkjjoaa", sum := "7d81e981a5970e8e1a330e5b4e0b04641f932a3b0491e7a0f92dd1c3db910203", func := "farandole/farandolelaw02.SumOf", spec := "sumOf", apart := false }
def SumOfSaid : Prop := sumOfRow.holds Try.pinned (OpenSpec.ofChange sumOfSpec)

/-- ITS FALSE NEIGHBOUR: 'it returns false'. Refute it at one input. -/
def sumOfWrong : ChangeSpec := { name := "sumOf", fn := fun _ => fun
  | [d1, d2] => { results := [.lit (.bool false)], args := [d1, d2] }
  | _ => none }
def SumOfWrongFalsely : Prop := sumOfRow.holds Try.pinned (OpenSpec.ofChange sumOfWrong)

/-- 'farandolelaw02.SumParts': WHATEVER THE INPUT: true; the input reads as it did. -/
def sumPartsSpec : ChangeSpec := { name := "sumParts", fn := fun _ => fun
  | [d1, d2, d3] => { results := [.lit (.bool true)], args := [d1, d2, d3] }
  | _ => none }
def sumPartsRow : OpenClaim := { program := "ytoicaacndkjjoaa", sum := "7d81e981a5970e8e1a330e5b4e0b04641f932a3b0491e7a0f92dd1c3db910203", func := "farandole/farandolelaw02.SumParts", spec := "sumParts", apart := false }
def SumPartsSaid : Prop := sumPartsRow.holds Try.pinned (OpenSpec.ofChange sumPartsSpec)

/-- ITS FALSE NEIGHBOUR: 'it returns false'. Refute it at one input. -/
def sumPartsWrong : ChangeSpec := { name := "sumParts", fn := fun _ => fun
  | [d1, d2, d3] => { results := [.lit (.bool false)], args := [d1, d2, d3] }
  | _ => none }
def SumPartsWrongFalsely : Prop := sumPartsRow.holds Try.pinned (OpenSpec.ofChange sumPartsWrong)

/-- 'farandolelaw02.SumOne': WHATEVER THE INPUT: true; the input reads as it did. -/
def sumOneSpec : ChangeSpec := { name := "sumOne", fn := fun _ => fun
  | [d1, d2, d3] => { results := [.lit (.bool true)], args := [d1, d2, d3] }
  | _ => none }
def sumOneRow : OpenClaim := { program := "ytoicaacndkjjoaa", sum := "7d81e981a5970e8e1a330e5b4e0b04641f932a3b0491e7a0f92dd1c3db910203", func := "farandole/farandolelaw02.SumOne", spec := "sumOne", apart := false }
def SumOneSaid : Prop := sumOneRow.holds Try.pinned (OpenSpec.ofChange sumOneSpec)

/-- ITS FALSE NEIGHBOUR: 'it returns false'. Refute it at one input. -/
def sumOneWrong : ChangeSpec := { name := "sumOne", fn := fun _ => fun
  | [d1, d2, d3] => { results := [.lit (.bool false)], args := [d1, d2, d3] }
  | _ => none }
def SumOneWrongFalsely : Prop := sumOneRow.holds Try.pinned (OpenSpec.ofChange sumOneWrong)

/-- 'farandolelaw02.SumDigits': WHATEVER THE INPUT: true; the input reads as it did. -/
def sumDigitsSpec : ChangeSpec := { name := "sumDigits", fn := fun _ => fun
  | [d1, d2] => { results := [.lit (.bool true)], args := [d1, d2] }
  | _ => none }
def sumDigitsRow : OpenClaim := { program := "ytoicaacndkjjoaa", sum := "7d81e981a5970e8e1a330e5b4e0b04641f932a3b0491e7a0f92dd1c3db910203", func := "farandole/farandolelaw02.SumDigits", spec := "sumDigits", inPlace := ["internal/bytealg.IndexByteString"], apart := false }
def SumDigitsSaid : Prop := sumDigitsRow.holds Try.pinned (OpenSpec.ofChange sumDigitsSpec)

/-- ITS FALSE NEIGHBOUR: 'it returns false'. Refute it at one input. -/
def sumDigitsWrong : ChangeSpec := { name := "sumDigits", fn := fun _ => fun
  | [d1, d2] => { results := [.lit (.bool false)], args := [d1, d2] }
  | _ => none }
def SumDigitsWrongFalsely : Prop := sumDigitsRow.holds Try.pinned (OpenSpec.ofChange sumDigitsWrong)

/-- 'farandolelaw02.SumSeal': WHATEVER THE INPUT: true; the input reads as it did. -/
def sumSealSpec : ChangeSpec := { name := "sumSeal", fn := fun _ => fun
  | [d] => { results := [.lit (.bool true)], args := [d] }
  | _ => none }
def sumSealRow : OpenClaim := { program := "ytoicaacndkjjoaa", sum := "7d81e981a5970e8e1a330e5b4e0b04641f932a3b0491e7a0f92dd1c3db910203", func := "farandole/farandolelaw02.SumSeal", spec := "sumSeal", apart := false }
def SumSealSaid : Prop := sumSealRow.holds Try.pinned (OpenSpec.ofChange sumSealSpec)

/-- ITS FALSE NEIGHBOUR: 'it returns false'. Refute it at one input. -/
def sumSealWrong : ChangeSpec := { name := "sumSeal", fn := fun _ => fun
  | [d] => { results := [.lit (.bool false)], args := [d] }
  | _ => none }
def SumSealWrongFalsely : Prop := sumSealRow.holds Try.pinned (OpenSpec.ofChange sumSealWrong)

/-- 'farandolelaw02.SumDamage': WHATEVER THE INPUT: true; the input reads as it did. -/
def sumDamageSpec : ChangeSpec := { name := "sumDamage", fn := fun _ => fun
  | [d1, d2, d3] => { results := [.lit (.bool true)], args := [d1, d2, d3] }
  | _ => none }
def sumDamageRow : OpenClaim := { program := "ytoicaacndkjjoaa", sum := "7d81e981a5970e8e1a330e5b4e0b04641f932a3b0491e7a0f92dd1c3db910203", func := "farandole/farandolelaw02.SumDamage", spec := "sumDamage", apart := false }
def SumDamageSaid : Prop := sumDamageRow.holds Try.pinned (OpenSpec.ofChange sumDamageSpec)

/-- ITS FALSE NEIGHBOUR: 'it returns false'. Refute it at one input. -/
def sumDamageWrong : ChangeSpec := { name := "sumDamage", fn := fun _ => fun
  | [d1, d2, d3] => { results := [.lit (.bool false)], args := [d1, d2, d3] }
  | _ => none }
def SumDamageWrongFalsely : Prop := sumDamageRow.holds Try.pinned (OpenSpec.ofChange sumDamageWrong)

/-- 'farandolelaw02.SumValues': WHATEVER THE INPUT: true; the input reads as it did. -/
def sumValuesSpec : ChangeSpec := { name := "sumValues", fn := fun _ => fun
  | [d] => { results := [.lit (.bool true)], args := [d] }
  | _ => none }
def sumValuesRow : OpenClaim := { program := "ytoicaacndkjjoaa", sum := "7d81e981a5970e8e1a330e5b4e0b04641f932a3b0491e7a0f92dd1c3db910203", func := "farandole/farandolelaw02.SumValues", spec := "sumValues", apart := false }
def SumValuesSaid : Prop := sumValuesRow.holds Try.pinned (OpenSpec.ofChange sumValuesSpec)

/-- ITS FALSE NEIGHBOUR: 'it returns false'. Refute it at one input. -/
def sumValuesWrong : ChangeSpec := { name := "sumValues", fn := fun _ => fun
  | [d] => { results := [.lit (.bool false)], args := [d] }
  | _ => none }
def SumValuesWrongFalsely : Prop := sumValuesRow.holds Try.pinned (OpenSpec.ofChange sumValuesWrong)

/- THE SECOND FORM. 'bulk': how many values and letters a reading holds, each counted each time it is reached (what is shared counts as often as it is met; a slice's spare places count too). A statement '..UptoSaid' is the law's where the arguments, and the package variables that the reading takes, are together of bulk at most 1048576: NARROWER than '..Said'. Prove '..Said' where nothing that the law and all that it calls make is longer than what came in: it says more and counts as full. Else prove '..UptoSaid'. A law counts once. -/
mutual
def uptoBulk {H : Type} : DataW H → Nat
  | .lit (.string bytes) => bytes.length + 1
  | .lit _ => 1
  | .nil => 1
  | .ptr d => uptoBulk d + 1
  | .slice elems spare => uptoBulkAll elems + uptoBulkAll spare + 1
  | .agg parts => uptoBulkAll parts + 1
  | .iface _ d => uptoBulk d + 1
  | .map entries => uptoBulkEntries entries + 1
  | .held _ => 1
def uptoBulkAll {H : Type} : List (DataW H) → Nat
  | [] => 0
  | d :: r => uptoBulk d + uptoBulkAll r
def uptoBulkEntries {H : Type} : List (Lit × DataW H) → Nat
  | [] => 0
  | x :: r => uptoBulkEntry x + uptoBulkEntries r
def uptoBulkEntry {H : Type} : Lit × DataW H → Nat
  | (.string bytes, d) => bytes.length + uptoBulk d + 1
  | (_, d) => uptoBulk d + 1
 end
def uptoSmall : (H : Type) → List (DataW H) → Bool := fun _ ds => decide (uptoBulkAll ds ≤ 1048576)
def OpenSpec.upto (s : _root_.Go.ChangeSpec) : _root_.Go.OpenSpec := { _root_.Go.OpenSpec.ofChange s with cond := some uptoSmall }

/-- 'farandolelaw02.SumOf', WHERE WHAT IT READS IS OF BULK AT MOST 1048576: true; the input reads as it did. -/
def sumOfUptoRow : OpenClaim := { program := "ytoicaacndkjjoaa", sum := "7d81e981a5970e8e1a330e5b4e0b04641f932a3b0491e7a0f92dd1c3db910203", func := "farandole/farandolelaw02.SumOf", spec := "sumOf", apart := false, narrowed := true }
def SumOfUptoSaid : Prop := sumOfUptoRow.holds Try.pinned (OpenSpec.upto sumOfSpec)

/-- 'farandolelaw02.SumParts', WHERE WHAT IT READS IS OF BULK AT MOST 1048576: true; the input reads as it did. -/
def sumPartsUptoRow : OpenClaim := { program := "ytoicaacndkjjoaa", sum := "7d81e981a5970e8e1a330e5b4e0b04641f932a3b0491e7a0f92dd1c3db910203", func := "farandole/farandolelaw02.SumParts", spec := "sumParts", apart := false, narrowed := true }
def SumPartsUptoSaid : Prop := sumPartsUptoRow.holds Try.pinned (OpenSpec.upto sumPartsSpec)

/-- 'farandolelaw02.SumOne', WHERE WHAT IT READS IS OF BULK AT MOST 1048576: true; the input reads as it did. -/
def sumOneUptoRow : OpenClaim := { program := "ytoicaacndkjjoaa", sum := "7d81e981a5970e8e1a330e5b4e0b04641f932a3b0491e7a0f92dd1c3db910203", func := "farandole/farandolelaw02.SumOne", spec := "sumOne", apart := false, narrowed := true }
def SumOneUptoSaid : Prop := sumOneUptoRow.holds Try.pinned (OpenSpec.upto sumOneSpec)

/-- 'farandolelaw02.SumDigits', WHERE WHAT IT READS IS OF BULK AT MOST 1048576: true; the input reads as it did. -/
def sumDigitsUptoRow : OpenClaim := { program := "ytoicaacndkjjoaa", sum := "7d81e981a5970e8e1a330e5b4e0b04641f932a3b0491e7a0f92dd1c3db910203", func := "farandole/farandolelaw02.SumDigits", spec := "sumDigits", inPlace := ["internal/bytealg.IndexByteString"], apart := false, narrowed := true }
def SumDigitsUptoSaid : Prop := sumDigitsUptoRow.holds Try.pinned (OpenSpec.upto sumDigitsSpec)

/-- 'farandolelaw02.SumSeal', WHERE WHAT IT READS IS OF BULK AT MOST 1048576: true; the input reads as it did. -/
def sumSealUptoRow : OpenClaim := { program := "ytoicaacndkjjoaa", sum := "7d81e981a5970e8e1a330e5b4e0b04641f932a3b0491e7a0f92dd1c3db910203", func := "farandole/farandolelaw02.SumSeal", spec := "sumSeal", apart := false, narrowed := true }
def SumSealUptoSaid : Prop := sumSealUptoRow.holds Try.pinned (OpenSpec.upto sumSealSpec)

/-- 'farandolelaw02.SumDamage', WHERE WHAT IT READS IS OF BULK AT MOST 1048576: true; the input reads as it did. -/
def sumDamageUptoRow : OpenClaim := { program := "ytoicaacndkjjoaa", sum := "7d81e981a5970e8e1a330e5b4e0b04641f932a3b0491e7a0f92dd1c3db910203", func := "farandole/farandolelaw02.SumDamage", spec := "sumDamage", apart := false, narrowed := true }
def SumDamageUptoSaid : Prop := sumDamageUptoRow.holds Try.pinned (OpenSpec.upto sumDamageSpec)

/-- 'farandolelaw02.SumValues', WHERE WHAT IT READS IS OF BULK AT MOST 1048576: true; the input reads as it did. -/
def sumValuesUptoRow : OpenClaim := { program := "ytoicaacndkjjoaa", sum := "7d81e981a5970e8e1a330e5b4e0b04641f932a3b0491e7a0f92dd1c3db910203", func := "farandole/farandolelaw02.SumValues", spec := "sumValues", apart := false, narrowed := true }
def SumValuesUptoSaid : Prop := sumValuesUptoRow.holds Try.pinned (OpenSpec.upto sumValuesSpec)

end Rows
end Go.Proofs.Ytoicaacndkjjoaa
