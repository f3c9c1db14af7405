/-
  DERIVED. GIVEN WITH THE SEED: THE CARDS: each row of YtofnbndpoiohhaaDoorRows.lean that lists a variable, with what it lists TIED to the program's text (the seventh form; the later family's looks); each row that meets fmt, with fmt's text TOLD by the authors' own Lean function (tested against real Go, not proved from fmt's source: count such statements apart). THE CARD IS WHAT COUNTS. Prove the row's statement (the work); the ties are given (YtofnbndpoiohhaaDoorTie.lean); close each card by the builder's one call (the guide's Derived/Test/ToyasCard.lean, 'card_holds'). Laid BY PROGRAM, IN A SANDBOX (cutbox-door.mjs). By AI agents, Wed Nov 11 2026. No macro, syntax, notation, axiom, sorry.
-/
import Derived.Test.YtofnbndpoiohhaaDoorRows
import GoSem.ClaimSeven
namespace Go.Proofs.YtofnbndpoiohhaaDoor
namespace Rows

/-- THE TIED CARD OF 'farandolelaw08.OrderBefore'. -/
def orderBeforeCard : Claim7 := { stood := { row := orderBeforeRow, standIns := [], harness := (true, "b93ed20b594198d3bc1a0681132138aa944193b097dc93dc7f2c11955b05268d"), looks := false }, kinds := [], alts := [], laidByText := true, laidKinds := [.data], laidTests := true, laidLooks := .later }
def OrderBeforeCardSaid : Prop := Claim7.holds Tryd.pinned (.plain (OpenSpec.ofChange orderBeforeSpec)) orderBeforeCard

/-- THE TIED CARD OF 'farandolelaw08.OrderLinear'. -/
def orderLinearCard : Claim7 := { stood := { row := orderLinearRow, standIns := [], harness := (true, "b93ed20b594198d3bc1a0681132138aa944193b097dc93dc7f2c11955b05268d"), looks := false }, kinds := [], alts := [], laidByText := true, laidKinds := [.data], laidTests := true, laidLooks := .later }
def OrderLinearCardSaid : Prop := Claim7.holds Tryd.pinned (.plain (OpenSpec.ofChange orderLinearSpec)) orderLinearCard

/-- THE TIED CARD OF 'farandolelaw08.OrderStrict'. -/
def orderStrictCard : Claim7 := { stood := { row := orderStrictRow, standIns := [], harness := (true, "b93ed20b594198d3bc1a0681132138aa944193b097dc93dc7f2c11955b05268d"), looks := false }, kinds := [], alts := [], laidByText := true, laidKinds := [.data], laidTests := true, laidLooks := .later }
def OrderStrictCardSaid : Prop := Claim7.holds Tryd.pinned (.plain (OpenSpec.ofChange orderStrictSpec)) orderStrictCard

/-- THE TIED CARD OF 'farandolelaw08.OrderExtends'. -/
def orderExtendsCard : Claim7 := { stood := { row := orderExtendsRow, standIns := [], harness := (true, "b93ed20b594198d3bc1a0681132138aa944193b097dc93dc7f2c11955b05268d"), looks := false }, kinds := [], alts := [], laidByText := true, laidKinds := [.data], laidTests := true, laidLooks := .later }
def OrderExtendsCardSaid : Prop := Claim7.holds Tryd.pinned (.plain (OpenSpec.ofChange orderExtendsSpec)) orderExtendsCard

/-- THE TIED CARD OF 'farandolelaw08.OrderFree'. -/
def orderFreeCard : Claim7 := { stood := { row := orderFreeRow, standIns := [], harness := (true, "b93ed20b594198d3bc1a0681132138aa944193b097dc93dc7f2c11955b05268d"), looks := false }, kinds := [], alts := [], laidByText := true, laidKinds := [.data], laidTests := true, laidLooks := .later }
def OrderFreeCardSaid : Prop := Claim7.holds Tryd.pinned (.plain (OpenSpec.ofChange orderFreeSpec)) orderFreeCard

/-- THE TIED CARD OF 'farandolelaw08.OrderFewer'. -/
def orderFewerCard : Claim7 := { stood := { row := orderFewerRow, standIns := [], harness := (true, "b93ed20b594198d3bc1a0681132138aa944193b097dc93dc7f2c11955b05268d"), looks := false }, kinds := [], alts := [], laidByText := true, laidKinds := [.data], laidTests := true, laidLooks := .later }
def OrderFewerCardSaid : Prop := Claim7.holds Tryd.pinned (.plain (OpenSpec.ofChange orderFewerSpec)) orderFewerCard

/-- THE TIED CARD OF 'farandolelaw08.OrderReduces'. -/
def orderReducesCard : Claim7 := { stood := { row := orderReducesRow, standIns := [], harness := (true, "b93ed20b594198d3bc1a0681132138aa944193b097dc93dc7f2c11955b05268d"), looks := false }, kinds := [], alts := [], laidByText := true, laidKinds := [.data], laidTests := true, laidLooks := .later }
def OrderReducesCardSaid : Prop := Claim7.holds Tryd.pinned (.plain (OpenSpec.ofChange orderReducesSpec)) orderReducesCard

/-- THE TIED CARD OF 'farandolelaw08.OrderCounts'. -/
def orderCountsCard : Claim7 := { stood := { row := orderCountsRow, standIns := [], harness := (true, "b93ed20b594198d3bc1a0681132138aa944193b097dc93dc7f2c11955b05268d"), looks := false }, kinds := [], alts := [], laidByText := true, laidKinds := [.data], laidTests := true, laidLooks := .later }
def OrderCountsCardSaid : Prop := Claim7.holds Tryd.pinned (.plain (OpenSpec.ofChange orderCountsSpec)) orderCountsCard

/-- THE SECOND FORM's CARD OF 'farandolelaw08.OrderBefore'. -/
def orderBeforeUptoCard : Claim7 := { stood := { row := orderBeforeUptoRow, standIns := [], harness := (true, "b93ed20b594198d3bc1a0681132138aa944193b097dc93dc7f2c11955b05268d"), looks := false }, kinds := [], alts := [], laidByText := true, laidKinds := [.data], laidTests := true, laidLooks := .later }
def OrderBeforeUptoCardSaid : Prop := Claim7.holds Tryd.pinned (.plain (OpenSpec.upto orderBeforeSpec)) orderBeforeUptoCard

/-- THE SECOND FORM's CARD OF 'farandolelaw08.OrderLinear'. -/
def orderLinearUptoCard : Claim7 := { stood := { row := orderLinearUptoRow, standIns := [], harness := (true, "b93ed20b594198d3bc1a0681132138aa944193b097dc93dc7f2c11955b05268d"), looks := false }, kinds := [], alts := [], laidByText := true, laidKinds := [.data], laidTests := true, laidLooks := .later }
def OrderLinearUptoCardSaid : Prop := Claim7.holds Tryd.pinned (.plain (OpenSpec.upto orderLinearSpec)) orderLinearUptoCard

/-- THE SECOND FORM's CARD OF 'farandolelaw08.OrderStrict'. -/
def orderStrictUptoCard : Claim7 := { stood := { row := orderStrictUptoRow, standIns := [], harness := (true, "b93ed20b594198d3bc1a0681132138aa944193b097dc93dc7f2c11955b05268d"), looks := false }, kinds := [], alts := [], laidByText := true, laidKinds := [.data], laidTests := true, laidLooks := .later }
def OrderStrictUptoCardSaid : Prop := Claim7.holds Tryd.pinned (.plain (OpenSpec.upto orderStrictSpec)) orderStrictUptoCard

/-- THE SECOND FORM's CARD OF 'farandolelaw08.OrderExtends'. -/
def orderExtendsUptoCard : Claim7 := { stood := { row := orderExtendsUptoRow, standIns := [], harness := (true, "b93ed20b594198d3bc1a0681132138aa944193b097dc93dc7f2c11955b05268d"), looks := false }, kinds := [], alts := [], laidByText := true, laidKinds := [.data], laidTests := true, laidLooks := .later }
def OrderExtendsUptoCardSaid : Prop := Claim7.holds Tryd.pinned (.plain (OpenSpec.upto orderExtendsSpec)) orderExtendsUptoCard

/-- THE SECOND FORM's CARD OF 'farandolelaw08.OrderFree'. -/
def orderFreeUptoCard : Claim7 := { stood := { row := orderFreeUptoRow, standIns := [], harness := (true, "b93ed20b594198d3bc1a0681132138aa944193b097dc93dc7f2c11955b05268d"), looks := false }, kinds := [], alts := [], laidByText := true, laidKinds := [.data], laidTests := true, laidLooks := .later }
def OrderFreeUptoCardSaid : Prop := Claim7.holds Tryd.pinned (.plain (OpenSpec.upto orderFreeSpec)) orderFreeUptoCard

/-- THE SECOND FORM's CARD OF 'farandolelaw08.OrderFewer'. -/
def orderFewerUptoCard : Claim7 := { stood := { row := orderFewerUptoRow, standIns := [], harness := (true, "b93ed20b594198d3bc1a0681132138aa944193b097dc93dc7f2c11955b05268d"), looks := false }, kinds := [], alts := [], laidByText := true, laidKinds := [.data], laidTests := true, laidLooks := .later }
def OrderFewerUptoCardSaid : Prop := Claim7.holds Tryd.pinned (.plain (OpenSpec.upto orderFewerSpec)) orderFewerUptoCard

/-- THE SECOND FORM's CARD OF 'farandolelaw08.OrderReduces'. -/
def orderReducesUptoCard : Claim7 := { stood := { row := orderReducesUptoRow, standIns := [], harness := (true, "b93ed20b594198d3bc1a0681132138aa944193b097dc93dc7f2c11955b05268d"), looks := false }, kinds := [], alts := [], laidByText := true, laidKinds := [.data], laidTests := true, laidLooks := .later }
def OrderReducesUptoCardSaid : Prop := Claim7.holds Tryd.pinned (.plain (OpenSpec.upto orderReducesSpec)) orderReducesUptoCard

/-- THE SECOND FORM's CARD OF 'farandolelaw08.OrderCounts'. -/
def orderCountsUptoCard : Claim7 := { stood := { row := orderCountsUptoRow, standIns := [], harness := (true, "b93ed20b594198d3bc1a0681132138aa944193b097dc93dc7f2c11955b05268d"), looks := false }, kinds := [], alts := [], laidByText := true, laidKinds := [.data], laidTests := true, laidLooks := .later }
def OrderCountsUptoCardSaid : Prop := Claim7.holds Tryd.pinned (.plain (OpenSpec.upto orderCountsSpec)) orderCountsUptoCard
end Rows
end Go.Proofs.YtofnbndpoiohhaaDoor
