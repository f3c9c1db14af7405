/-
  NARROWER THAN 'FOR EVERY INPUT', by the rows' own cells (each row's printed sentence says how): OrderBefore: laid · OrderLinear: laid · OrderStrict: laid · OrderExtends: laid · OrderFree: laid · OrderFewer: laid · OrderReduces: laid · OrderCounts: laid.
  DERIVED. THE GIVEN ROWS OF THIS SEAT. 8 by the template 'for every input the law returns true; each argument reads behind the call as it read before'; 0 by the template 'total and deterministic' (their statements: YtofnbndpoiohhaaDoorTotals.lean).
  GIVEN WITH THE SEED: the statements are not yours to turn. If you find one false, say at which input.
  Laid BY PROGRAM, IN A SANDBOX (cutbox-rows.mjs): the forced cells as the released guide's own fill.sh prints them over the translation 159b5d0598cfc5cf… (all of the seat's roots in one cut). By AI agents, Wed Nov 11 2026. No macro, syntax, notation, axiom, sorry.
-/
import Derived.Test.YtofnbndpoiohhaaDoorChecked
import GoSem.Claim
import GoSem.ClaimJoined
import GoSem.ClaimMapViews
import Derived.JoinedTies
import Derived.KernelRfl
namespace Go.Proofs.YtofnbndpoiohhaaDoor
/- THE CELL 'sum', in the pinned program and in every row, IS THE sha256 OF THE DUMP (.gsa) THAT YtofnbndpoiohhaaDoorProg.lean LOADS. Nothing in Lean hashes anything: it is a label: what it is worth is what the hold of that sum in a sandbox is worth. -/
noncomputable def Tryd.pinned : Pinned := { name := "ytofnbndpoiohhaadoor", sum := "159b5d0598cfc5cf4a4e3e746f2745ed67154cb84955879dfbcfc771306d6196", checked := Tryd.checked }
namespace Rows
def none {H : Type} : Left H := { results := [], args := [] }

/- WHAT THE LISTED PACKAGE-LEVEL VARIABLES READ AS WHEN THE CALL BEGINS. Each datum BY PROGRAM (the guide's laid-datum.mjs) off the statement by which the dump's own 'gosem.cut.vars' lays the variable. In a bare row this is a premise. The card (YtofnbndpoiohhaaDoorCards.lean) ties it to the program's text. -/
def laid_math_bits_deBruijn64tab {H : Type} : DataW H := .agg [.lit (.int .u8 0), .lit (.int .u8 1), .lit (.int .u8 56), .lit (.int .u8 2), .lit (.int .u8 57), .lit (.int .u8 49), .lit (.int .u8 28), .lit (.int .u8 3), .lit (.int .u8 61), .lit (.int .u8 58), .lit (.int .u8 42), .lit (.int .u8 50), .lit (.int .u8 38), .lit (.int .u8 29), .lit (.int .u8 17), .lit (.int .u8 4), .lit (.int .u8 62), .lit (.int .u8 47), .lit (.int .u8 59), .lit (.int .u8 36), .lit (.int .u8 45), .lit (.int .u8 43), .lit (.int .u8 51), .lit (.int .u8 22), .lit (.int .u8 53), .lit (.int .u8 39), .lit (.int .u8 33), .lit (.int .u8 30), .lit (.int .u8 24), .lit (.int .u8 18), .lit (.int .u8 12), .lit (.int .u8 5), .lit (.int .u8 63), .lit (.int .u8 55), .lit (.int .u8 48), .lit (.int .u8 27), .lit (.int .u8 60), .lit (.int .u8 41), .lit (.int .u8 37), .lit (.int .u8 16), .lit (.int .u8 46), .lit (.int .u8 35), .lit (.int .u8 44), .lit (.int .u8 21), .lit (.int .u8 52), .lit (.int .u8 32), .lit (.int .u8 23), .lit (.int .u8 11), .lit (.int .u8 54), .lit (.int .u8 26), .lit (.int .u8 40), .lit (.int .u8 15), .lit (.int .u8 34), .lit (.int .u8 20), .lit (.int .u8 31), .lit (.int .u8 10), .lit (.int .u8 25), .lit (.int .u8 14), .lit (.int .u8 19), .lit (.int .u8 9), .lit (.int .u8 13), .lit (.int .u8 8), .lit (.int .u8 7), .lit (.int .u8 6)]

/-- 'farandolelaw08.OrderBefore': WHATEVER THE INPUT: true; the input reads as it did. -/
def orderBeforeSpec : ChangeSpec := { name := "orderBefore", fn := fun _ => fun
  | [d1, d2, d3] => { results := [.lit (.bool true)], args := [d1, d2, d3] }
  | _ => none }
def orderBeforeRow : OpenClaim := { program := "ytofnbndpoiohhaadoor", sum := "159b5d0598cfc5cf4a4e3e746f2745ed67154cb84955879dfbcfc771306d6196", func := "farandole/farandolelaw08.OrderBefore", spec := "orderBefore", unfollowed := true, recurses := true, named := ["math/bits.deBruijn64tab"], apart := false, laid := [("math/bits.deBruijn64tab", laid_math_bits_deBruijn64tab)] }
def OrderBeforeSaid : Prop := orderBeforeRow.holds Tryd.pinned (OpenSpec.ofChange orderBeforeSpec)

/-- ITS FALSE NEIGHBOUR: 'it returns false'. Refute it at one input. -/
def orderBeforeWrong : ChangeSpec := { name := "orderBefore", fn := fun _ => fun
  | [d1, d2, d3] => { results := [.lit (.bool false)], args := [d1, d2, d3] }
  | _ => none }
def OrderBeforeWrongFalsely : Prop := orderBeforeRow.holds Tryd.pinned (OpenSpec.ofChange orderBeforeWrong)

/-- 'farandolelaw08.OrderLinear': WHATEVER THE INPUT: true; the input reads as it did. -/
def orderLinearSpec : ChangeSpec := { name := "orderLinear", fn := fun _ => fun
  | [d1, d2] => { results := [.lit (.bool true)], args := [d1, d2] }
  | _ => none }
def orderLinearRow : OpenClaim := { program := "ytofnbndpoiohhaadoor", sum := "159b5d0598cfc5cf4a4e3e746f2745ed67154cb84955879dfbcfc771306d6196", func := "farandole/farandolelaw08.OrderLinear", spec := "orderLinear", unfollowed := true, recurses := true, named := ["math/bits.deBruijn64tab"], apart := false, laid := [("math/bits.deBruijn64tab", laid_math_bits_deBruijn64tab)] }
def OrderLinearSaid : Prop := orderLinearRow.holds Tryd.pinned (OpenSpec.ofChange orderLinearSpec)

/-- ITS FALSE NEIGHBOUR: 'it returns false'. Refute it at one input. -/
def orderLinearWrong : ChangeSpec := { name := "orderLinear", fn := fun _ => fun
  | [d1, d2] => { results := [.lit (.bool false)], args := [d1, d2] }
  | _ => none }
def OrderLinearWrongFalsely : Prop := orderLinearRow.holds Tryd.pinned (OpenSpec.ofChange orderLinearWrong)

/-- 'farandolelaw08.OrderStrict': WHATEVER THE INPUT: true; the input reads as it did. -/
def orderStrictSpec : ChangeSpec := { name := "orderStrict", fn := fun _ => fun
  | [d] => { results := [.lit (.bool true)], args := [d] }
  | _ => none }
def orderStrictRow : OpenClaim := { program := "ytofnbndpoiohhaadoor", sum := "159b5d0598cfc5cf4a4e3e746f2745ed67154cb84955879dfbcfc771306d6196", func := "farandole/farandolelaw08.OrderStrict", spec := "orderStrict", unfollowed := true, recurses := true, named := ["math/bits.deBruijn64tab"], apart := false, laid := [("math/bits.deBruijn64tab", laid_math_bits_deBruijn64tab)] }
def OrderStrictSaid : Prop := orderStrictRow.holds Tryd.pinned (OpenSpec.ofChange orderStrictSpec)

/-- ITS FALSE NEIGHBOUR: 'it returns false'. Refute it at one input. -/
def orderStrictWrong : ChangeSpec := { name := "orderStrict", fn := fun _ => fun
  | [d] => { results := [.lit (.bool false)], args := [d] }
  | _ => none }
def OrderStrictWrongFalsely : Prop := orderStrictRow.holds Tryd.pinned (OpenSpec.ofChange orderStrictWrong)

/-- 'farandolelaw08.OrderExtends': WHATEVER THE INPUT: true; the input reads as it did. -/
def orderExtendsSpec : ChangeSpec := { name := "orderExtends", fn := fun _ => fun
  | [d1, d2] => { results := [.lit (.bool true)], args := [d1, d2] }
  | _ => none }
def orderExtendsRow : OpenClaim := { program := "ytofnbndpoiohhaadoor", sum := "159b5d0598cfc5cf4a4e3e746f2745ed67154cb84955879dfbcfc771306d6196", func := "farandole/farandolelaw08.OrderExtends", spec := "orderExtends", unfollowed := true, recurses := true, named := ["math/bits.deBruijn64tab"], apart := false, laid := [("math/bits.deBruijn64tab", laid_math_bits_deBruijn64tab)] }
def OrderExtendsSaid : Prop := orderExtendsRow.holds Tryd.pinned (OpenSpec.ofChange orderExtendsSpec)

/-- ITS FALSE NEIGHBOUR: 'it returns false'. Refute it at one input. -/
def orderExtendsWrong : ChangeSpec := { name := "orderExtends", fn := fun _ => fun
  | [d1, d2] => { results := [.lit (.bool false)], args := [d1, d2] }
  | _ => none }
def OrderExtendsWrongFalsely : Prop := orderExtendsRow.holds Tryd.pinned (OpenSpec.ofChange orderExtendsWrong)

/-- 'farandolelaw08.OrderFree': WHATEVER THE INPUT: true; the input reads as it did. -/
def orderFreeSpec : ChangeSpec := { name := "orderFree", fn := fun _ => fun
  | [d] => { results := [.lit (.bool true)], args := [d] }
  | _ => none }
def orderFreeRow : OpenClaim := { program := "ytofnbndpoiohhaadoor", sum := "159b5d0598cfc5cf4a4e3e746f2745ed67154cb84955879dfbcfc771306d6196", func := "farandole/farandolelaw08.OrderFree", spec := "orderFree", unfollowed := true, recurses := true, named := ["math/bits.deBruijn64tab"], apart := false, laid := [("math/bits.deBruijn64tab", laid_math_bits_deBruijn64tab)] }
def OrderFreeSaid : Prop := orderFreeRow.holds Tryd.pinned (OpenSpec.ofChange orderFreeSpec)

/-- ITS FALSE NEIGHBOUR: 'it returns false'. Refute it at one input. -/
def orderFreeWrong : ChangeSpec := { name := "orderFree", fn := fun _ => fun
  | [d] => { results := [.lit (.bool false)], args := [d] }
  | _ => none }
def OrderFreeWrongFalsely : Prop := orderFreeRow.holds Tryd.pinned (OpenSpec.ofChange orderFreeWrong)

/-- 'farandolelaw08.OrderFewer': WHATEVER THE INPUT: true; the input reads as it did. -/
def orderFewerSpec : ChangeSpec := { name := "orderFewer", fn := fun _ => fun
  | [d1, d2] => { results := [.lit (.bool true)], args := [d1, d2] }
  | _ => none }
def orderFewerRow : OpenClaim := { program := "ytofnbndpoiohhaadoor", sum := "159b5d0598cfc5cf4a4e3e746f2745ed67154cb84955879dfbcfc771306d6196", func := "farandole/farandolelaw08.OrderFewer", spec := "orderFewer", unfollowed := true, recurses := true, named := ["math/bits.deBruijn64tab"], apart := false, laid := [("math/bits.deBruijn64tab", laid_math_bits_deBruijn64tab)] }
def OrderFewerSaid : Prop := orderFewerRow.holds Tryd.pinned (OpenSpec.ofChange orderFewerSpec)

/-- ITS FALSE NEIGHBOUR: 'it returns false'. Refute it at one input. -/
def orderFewerWrong : ChangeSpec := { name := "orderFewer", fn := fun _ => fun
  | [d1, d2] => { results := [.lit (.bool false)], args := [d1, d2] }
  | _ => none }
def OrderFewerWrongFalsely : Prop := orderFewerRow.holds Tryd.pinned (OpenSpec.ofChange orderFewerWrong)

/-- 'farandolelaw08.OrderReduces': WHATEVER THE INPUT: true; the input reads as it did. -/
def orderReducesSpec : ChangeSpec := { name := "orderReduces", fn := fun _ => fun
  | [d] => { results := [.lit (.bool true)], args := [d] }
  | _ => none }
def orderReducesRow : OpenClaim := { program := "ytofnbndpoiohhaadoor", sum := "159b5d0598cfc5cf4a4e3e746f2745ed67154cb84955879dfbcfc771306d6196", func := "farandole/farandolelaw08.OrderReduces", spec := "orderReduces", unfollowed := true, recurses := true, named := ["math/bits.deBruijn64tab"], apart := false, laid := [("math/bits.deBruijn64tab", laid_math_bits_deBruijn64tab)] }
def OrderReducesSaid : Prop := orderReducesRow.holds Tryd.pinned (OpenSpec.ofChange orderReducesSpec)

/-- ITS FALSE NEIGHBOUR: 'it returns false'. Refute it at one input. -/
def orderReducesWrong : ChangeSpec := { name := "orderReduces", fn := fun _ => fun
  | [d] => { results := [.lit (.bool false)], args := [d] }
  | _ => none }
def OrderReducesWrongFalsely : Prop := orderReducesRow.holds Tryd.pinned (OpenSpec.ofChange orderReducesWrong)

/-- 'farandolelaw08.OrderCounts': WHATEVER THE INPUT: true; the input reads as it did. -/
def orderCountsSpec : ChangeSpec := { name := "orderCounts", fn := fun _ => fun
  | [d1, d2] => { results := [.lit (.bool true)], args := [d1, d2] }
  | _ => none }
def orderCountsRow : OpenClaim := { program := "ytofnbndpoiohhaadoor", sum := "159b5d0598cfc5cf4a4e3e746f2745ed67154cb84955879dfbcfc771306d6196", func := "farandole/farandolelaw08.OrderCounts", spec := "orderCounts", unfollowed := true, recurses := true, named := ["math/bits.deBruijn64tab"], apart := false, laid := [("math/bits.deBruijn64tab", laid_math_bits_deBruijn64tab)] }
def OrderCountsSaid : Prop := orderCountsRow.holds Tryd.pinned (OpenSpec.ofChange orderCountsSpec)

/-- ITS FALSE NEIGHBOUR: 'it returns false'. Refute it at one input. -/
def orderCountsWrong : ChangeSpec := { name := "orderCounts", fn := fun _ => fun
  | [d1, d2] => { results := [.lit (.bool false)], args := [d1, d2] }
  | _ => none }
def OrderCountsWrongFalsely : Prop := orderCountsRow.holds Tryd.pinned (OpenSpec.ofChange orderCountsWrong)

/- THE SECOND FORM. 'bulk': how many values and letters a reading holds, each counted each time it is reached (what is shared counts as often as it is met; a slice's spare places count too). A statement '..UptoSaid' is the law's where the arguments, and the package variables that the reading takes, are together of bulk at most 1048576: NARROWER than '..Said'. Prove '..Said' where nothing that the law and all that it calls make is longer than what came in: it says more and counts as full. Else prove '..UptoSaid'. A law counts once. -/
mutual
def uptoBulk {H : Type} : DataW H → Nat
  | .lit (.string bytes) => bytes.length + 1
  | .lit _ => 1
  | .nil => 1
  | .ptr d => uptoBulk d + 1
  | .slice elems spare => uptoBulkAll elems + uptoBulkAll spare + 1
  | .agg parts => uptoBulkAll parts + 1
  | .iface _ d => uptoBulk d + 1
  | .map entries => uptoBulkEntries entries + 1
  | .held _ => 1
def uptoBulkAll {H : Type} : List (DataW H) → Nat
  | [] => 0
  | d :: r => uptoBulk d + uptoBulkAll r
def uptoBulkEntries {H : Type} : List (Lit × DataW H) → Nat
  | [] => 0
  | x :: r => uptoBulkEntry x + uptoBulkEntries r
def uptoBulkEntry {H : Type} : Lit × DataW H → Nat
  | (.string bytes, d) => bytes.length + uptoBulk d + 1
  | (_, d) => uptoBulk d + 1
 end
def uptoSmall : (H : Type) → List (DataW H) → Bool := fun _ ds => decide (uptoBulkAll ds ≤ 1048576)
def OpenSpec.upto (s : _root_.Go.ChangeSpec) : _root_.Go.OpenSpec := { _root_.Go.OpenSpec.ofChange s with cond := some uptoSmall }

/-- 'farandolelaw08.OrderBefore', WHERE WHAT IT READS IS OF BULK AT MOST 1048576: true; the input reads as it did. -/
def orderBeforeUptoRow : OpenClaim := { program := "ytofnbndpoiohhaadoor", sum := "159b5d0598cfc5cf4a4e3e746f2745ed67154cb84955879dfbcfc771306d6196", func := "farandole/farandolelaw08.OrderBefore", spec := "orderBefore", unfollowed := true, recurses := true, named := ["math/bits.deBruijn64tab"], apart := false, laid := [("math/bits.deBruijn64tab", laid_math_bits_deBruijn64tab)], narrowed := true }
def OrderBeforeUptoSaid : Prop := orderBeforeUptoRow.holds Tryd.pinned (OpenSpec.upto orderBeforeSpec)

/-- 'farandolelaw08.OrderLinear', WHERE WHAT IT READS IS OF BULK AT MOST 1048576: true; the input reads as it did. -/
def orderLinearUptoRow : OpenClaim := { program := "ytofnbndpoiohhaadoor", sum := "159b5d0598cfc5cf4a4e3e746f2745ed67154cb84955879dfbcfc771306d6196", func := "farandole/farandolelaw08.OrderLinear", spec := "orderLinear", unfollowed := true, recurses := true, named := ["math/bits.deBruijn64tab"], apart := false, laid := [("math/bits.deBruijn64tab", laid_math_bits_deBruijn64tab)], narrowed := true }
def OrderLinearUptoSaid : Prop := orderLinearUptoRow.holds Tryd.pinned (OpenSpec.upto orderLinearSpec)

/-- 'farandolelaw08.OrderStrict', WHERE WHAT IT READS IS OF BULK AT MOST 1048576: true; the input reads as it did. -/
def orderStrictUptoRow : OpenClaim := { program := "ytofnbndpoiohhaadoor", sum := "159b5d0598cfc5cf4a4e3e746f2745ed67154cb84955879dfbcfc771306d6196", func := "farandole/farandolelaw08.OrderStrict", spec := "orderStrict", unfollowed := true, recurses := true, named := ["math/bits.deBruijn64tab"], apart := false, laid := [("math/bits.deBruijn64tab", laid_math_bits_deBruijn64tab)], narrowed := true }
def OrderStrictUptoSaid : Prop := orderStrictUptoRow.holds Tryd.pinned (OpenSpec.upto orderStrictSpec)

/-- 'farandolelaw08.OrderExtends', WHERE WHAT IT READS IS OF BULK AT MOST 1048576: true; the input reads as it did. -/
def orderExtendsUptoRow : OpenClaim := { program := "ytofnbndpoiohhaadoor", sum := "159b5d0598cfc5cf4a4e3e746f2745ed67154cb84955879dfbcfc771306d6196", func := "farandole/farandolelaw08.OrderExtends", spec := "orderExtends", unfollowed := true, recurses := true, named := ["math/bits.deBruijn64tab"], apart := false, laid := [("math/bits.deBruijn64tab", laid_math_bits_deBruijn64tab)], narrowed := true }
def OrderExtendsUptoSaid : Prop := orderExtendsUptoRow.holds Tryd.pinned (OpenSpec.upto orderExtendsSpec)

/-- 'farandolelaw08.OrderFree', WHERE WHAT IT READS IS OF BULK AT MOST 1048576: true; the input reads as it did. -/
def orderFreeUptoRow : OpenClaim := { program := "ytofnbndpoiohhaadoor", sum := "159b5d0598cfc5cf4a4e3e746f2745ed67154cb84955879dfbcfc771306d6196", func := "farandole/farandolelaw08.OrderFree", spec := "orderFree", unfollowed := true, recurses := true, named := ["math/bits.deBruijn64tab"], apart := false, laid := [("math/bits.deBruijn64tab", laid_math_bits_deBruijn64tab)], narrowed := true }
def OrderFreeUptoSaid : Prop := orderFreeUptoRow.holds Tryd.pinned (OpenSpec.upto orderFreeSpec)

/-- 'farandolelaw08.OrderFewer', WHERE WHAT IT READS IS OF BULK AT MOST 1048576: true; the input reads as it did. -/
def orderFewerUptoRow : OpenClaim := { program := "ytofnbndpoiohhaadoor", sum := "159b5d0598cfc5cf4a4e3e746f2745ed67154cb84955879dfbcfc771306d6196", func := "farandole/farandolelaw08.OrderFewer", spec := "orderFewer", unfollowed := true, recurses := true, named := ["math/bits.deBruijn64tab"], apart := false, laid := [("math/bits.deBruijn64tab", laid_math_bits_deBruijn64tab)], narrowed := true }
def OrderFewerUptoSaid : Prop := orderFewerUptoRow.holds Tryd.pinned (OpenSpec.upto orderFewerSpec)

/-- 'farandolelaw08.OrderReduces', WHERE WHAT IT READS IS OF BULK AT MOST 1048576: true; the input reads as it did. -/
def orderReducesUptoRow : OpenClaim := { program := "ytofnbndpoiohhaadoor", sum := "159b5d0598cfc5cf4a4e3e746f2745ed67154cb84955879dfbcfc771306d6196", func := "farandole/farandolelaw08.OrderReduces", spec := "orderReduces", unfollowed := true, recurses := true, named := ["math/bits.deBruijn64tab"], apart := false, laid := [("math/bits.deBruijn64tab", laid_math_bits_deBruijn64tab)], narrowed := true }
def OrderReducesUptoSaid : Prop := orderReducesUptoRow.holds Tryd.pinned (OpenSpec.upto orderReducesSpec)

/-- 'farandolelaw08.OrderCounts', WHERE WHAT IT READS IS OF BULK AT MOST 1048576: true; the input reads as it did. -/
def orderCountsUptoRow : OpenClaim := { program := "ytofnbndpoiohhaadoor", sum := "159b5d0598cfc5cf4a4e3e746f2745ed67154cb84955879dfbcfc771306d6196", func := "farandole/farandolelaw08.OrderCounts", spec := "orderCounts", unfollowed := true, recurses := true, named := ["math/bits.deBruijn64tab"], apart := false, laid := [("math/bits.deBruijn64tab", laid_math_bits_deBruijn64tab)], narrowed := true }
def OrderCountsUptoSaid : Prop := orderCountsUptoRow.holds Tryd.pinned (OpenSpec.upto orderCountsSpec)

end Rows
end Go.Proofs.YtofnbndpoiohhaaDoor
