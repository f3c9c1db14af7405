import Derived.Laws.OwnMore
import Derived.Shelf.Abstract
import Derived.Shelf.Spec.TrailingZeros
import Derived.Test.YtbjdglopkpigbaaGreatDoorMG0
import Derived.Test.YtbjdglopkpigbaaGreatDoorMG2
/-
  BtA, BtL
-/
set_option linter.unusedSimpArgs false
set_option linter.unusedVariables false
namespace Go.Proofs.YtbjdglopkpigbaaGreatDoor.Bt
open Go.RowKit Go.Shelf
theorem mixed : Tryz.prog.follows .mixedOrders = true := by kernel_rfl
def wd (ws : List Int) (i : Nat) : Int := if i < 64 then gi ws i else 0
theorem gi_over {zs : List Int} {i : Nat} (h : zs.length ≤ i) : gi zs i = 0 := by
 simp [gi, List.getD, List.getElem?_eq_none h]
end Go.Proofs.YtbjdglopkpigbaaGreatDoor.Bt
namespace Go.Proofs.YtbjdglopkpigbaaGreatDoor.Bt
open Go.RowKit Go.Shelf
def tzRen : Ren := ⟨fun | 29 => 82 | n => n, fun | 0 => 0 | 3 => 3 | 4 => 4 | 5 => 5 | 22 => 104 | 25 => 84 | 54 => 141 | n => n, fun | 1 => 0 | n => n⟩
theorem tzLay : Lays7.n29 Tryz.prog tzRen := {
 mixed := by kernel_rfl
 f29 := Tryz.func82.trans (congrArg some (by kernel_rfl))
 t0 := Tryz.underlying0
 a0 := Tryz.isAgg0
 z0 := Tryz.sizeOf0
 v0 := Tryz.zeroValue0
 i0 := by kernel_rfl
 t3 := Tryz.underlying3
 a3 := Tryz.isAgg3
 z3 := Tryz.sizeOf3
 v3 := Tryz.zeroValue3
 i3 := by kernel_rfl
 t4 := Tryz.underlying4
 a4 := Tryz.isAgg4
 z4 := Tryz.sizeOf4
 v4 := Tryz.zeroValue4
 i4 := by kernel_rfl
 t5 := Tryz.underlying5
 a5 := Tryz.isAgg5
 z5 := Tryz.sizeOf5
 v5 := Tryz.zeroValue5
 i5 := by kernel_rfl
 t22 := Tryz.underlying104
 a22 := Tryz.isAgg104
 z22 := Tryz.sizeOf104
 v22 := Tryz.zeroValue104
 i22 := by kernel_rfl
 t25 := Tryz.underlying84
 a25 := Tryz.isAgg84
 z25 := Tryz.sizeOf84
 v25 := Tryz.zeroValue84
 i25 := by kernel_rfl
 t54 := Tryz.underlying141
 a54 := Tryz.isAgg141
 z54 := Tryz.sizeOf141
 g1 := by kernel_rfl }
set_option maxRecDepth 20000 in
theorem tz_any (x : Nat) (hx : x < 18446744073709551616) (w : World) (hT : TabAt 0 Lib.deBruijn64tab w) :
  Calls Tryz.prog 82 #[.int .u64 (x : Int)] w fun e w' => e = .returned (.int .i64 (Lib.ctz 64 x)) ∧ w' = w :=
 Any7.bits_TrailingZeros64 tzLay x hx w (fun _ => hT)
end Go.Proofs.YtbjdglopkpigbaaGreatDoor.Bt
