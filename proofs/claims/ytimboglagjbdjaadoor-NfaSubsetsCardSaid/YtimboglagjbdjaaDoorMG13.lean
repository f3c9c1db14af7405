import Derived.Laws.OwnMore
import Derived.Shelf.Abstract
import Derived.Shelf.Spec.TrailingZeros
import Derived.Test.YtimboglagjbdjaaDoorMG0
import Derived.Test.YtimboglagjbdjaaDoorMG4
/-
  BtA, BtL
-/
set_option linter.unusedSimpArgs false
set_option linter.unusedVariables false
namespace Go.Proofs.YtimboglagjbdjaaDoor.Bt
open Go.RowKit Go.Shelf

theorem mixed : Tryd.prog.follows .mixedOrders = true := by kernel_rfl

def wd (ws : List Int) (i : Nat) : Int := if i < 64 then gi ws i else 0

theorem gi_over {zs : List Int} {i : Nat} (h : zs.length ≤ i) : gi zs i = 0 := by
 simp [gi, List.getD, List.getElem?_eq_none h]

end Go.Proofs.YtimboglagjbdjaaDoor.Bt

set_option linter.unusedVariables false
namespace Go.Proofs.YtimboglagjbdjaaDoor.Bt
open Go.RowKit Go.Shelf

def tzRen : Ren := ⟨fun | 29 => 66 | n => n, fun | 0 => 0 | 3 => 3 | 4 => 4 | 5 => 5 | 22 => 90 | 25 => 98 | 54 => 128 | n => n, fun | 1 => 0 | n => n⟩

theorem tzLay : Lays7.n29 Tryd.prog tzRen := {
 mixed := by kernel_rfl
 f29 := Tryd.func66.trans (congrArg some (by kernel_rfl))
 t0 := Tryd.underlying0
 a0 := Tryd.isAgg0
 z0 := Tryd.sizeOf0
 v0 := Tryd.zeroValue0
 i0 := by kernel_rfl
 t3 := Tryd.underlying3
 a3 := Tryd.isAgg3
 z3 := Tryd.sizeOf3
 v3 := Tryd.zeroValue3
 i3 := by kernel_rfl
 t4 := Tryd.underlying4
 a4 := Tryd.isAgg4
 z4 := Tryd.sizeOf4
 v4 := Tryd.zeroValue4
 i4 := by kernel_rfl
 t5 := Tryd.underlying5
 a5 := Tryd.isAgg5
 z5 := Tryd.sizeOf5
 v5 := Tryd.zeroValue5
 i5 := by kernel_rfl
 t22 := Tryd.underlying90
 a22 := Tryd.isAgg90
 z22 := Tryd.sizeOf90
 v22 := Tryd.zeroValue90
 i22 := by kernel_rfl
 t25 := Tryd.underlying98
 a25 := Tryd.isAgg98
 z25 := Tryd.sizeOf98
 v25 := Tryd.zeroValue98
 i25 := by kernel_rfl
 t54 := Tryd.underlying128
 a54 := Tryd.isAgg128
 z54 := Tryd.sizeOf128
 g1 := by kernel_rfl }

set_option maxRecDepth 20000 in
theorem tz_any (x : Nat) (hx : x < 18446744073709551616) (w : World) (hT : TabAt 0 Lib.deBruijn64tab w) :
  Calls Tryd.prog 66 #[.int .u64 (x : Int)] w fun e w' => e = .returned (.int .i64 (Lib.ctz 64 x)) ∧ w' = w :=
 Any7.bits_TrailingZeros64 tzLay x hx w (fun _ => hT)
end Go.Proofs.YtimboglagjbdjaaDoor.Bt
