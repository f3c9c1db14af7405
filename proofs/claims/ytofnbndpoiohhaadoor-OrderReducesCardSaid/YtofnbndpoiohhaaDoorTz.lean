/-
  math/bits.TrailingZeros64 at this program: by the library's contract.
-/
import Derived.Test.YtofnbndpoiohhaaDoorLib
import Derived.Shelf.Abstract
import Derived.Shelf.Spec.TrailingZeros
set_option linter.unusedVariables false
namespace Go.Proofs.YtofnbndpoiohhaaDoor
open Go.RowKit Go.Shelf

def tzRen : Ren := ⟨fun | 29 => 39 | n => n, fun | 0 => 0 | 3 => 3 | 4 => 4 | 5 => 5 | 22 => 54 | 25 => 68 | 54 => 67 | n => n, fun | 1 => 0 | n => n⟩

theorem tzLay : Lays7.n29 Tryd.prog tzRen := {
  mixed := by kernel_rfl
  f29 := Tryd.func39.trans (congrArg some (by kernel_rfl))
  t0 := Tryd.underlying0
  a0 := Tryd.isAgg0
  z0 := Tryd.sizeOf0
  v0 := Tryd.zeroValue0
  i0 := by kernel_rfl
  t3 := Tryd.underlying3
  a3 := Tryd.isAgg3
  z3 := Tryd.sizeOf3
  v3 := Tryd.zeroValue3
  i3 := by kernel_rfl
  t4 := Tryd.underlying4
  a4 := Tryd.isAgg4
  z4 := Tryd.sizeOf4
  v4 := Tryd.zeroValue4
  i4 := by kernel_rfl
  t5 := Tryd.underlying5
  a5 := Tryd.isAgg5
  z5 := Tryd.sizeOf5
  v5 := Tryd.zeroValue5
  i5 := by kernel_rfl
  t22 := Tryd.underlying54
  a22 := Tryd.isAgg54
  z22 := Tryd.sizeOf54
  v22 := Tryd.zeroValue54
  i22 := by kernel_rfl
  t25 := Tryd.underlying68
  a25 := Tryd.isAgg68
  z25 := Tryd.sizeOf68
  v25 := Tryd.zeroValue68
  i25 := by kernel_rfl
  t54 := Tryd.underlying67
  a54 := Tryd.isAgg67
  z54 := Tryd.sizeOf67
  g1 := by kernel_rfl }

theorem tz_any (x : Nat) (hx : x < 18446744073709551616) (w : World) (hT : TabAt 0 Lib.deBruijn64tab w) :
    Calls Tryd.prog 39 #[.int .u64 (x : Int)] w fun e w' => e = .returned (.int .i64 (Lib.ctz 64 x)) ∧ w' = w :=
  Any7.bits_TrailingZeros64 tzLay x hx w (fun _ => hT)
end Go.Proofs.YtofnbndpoiohhaaDoor
