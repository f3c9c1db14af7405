import Derived.Laws.OwnMore
import Derived.Shelf.Abstract
import Derived.Shelf.Spec.TrailingZeros
import Derived.Test.YtofaifeadhimjaaDoorMG0
import Derived.Test.YtofaifeadhimjaaDoorMG4
/-
  BtA, BtL
-/
set_option linter.unusedSimpArgs false
set_option linter.unusedVariables false
namespace Go.Proofs.YtofaifeadhimjaaDoor.Bt
open Go.RowKit Go.Shelf

theorem mixed : Tryd.prog.follows .mixedOrders = true := by kernel_rfl

def wd (ws : List Int) (i : Nat) : Int := if i < 64 then gi ws i else 0

theorem gi_over {zs : List Int} {i : Nat} (h : zs.length ≤ i) : gi zs i = 0 := by
 simp [gi, List.getD, List.getElem?_eq_none h]

set_option maxRecDepth 20000 in
theorem word_any (a : Option Addr) (len cap : Nat) (ws : List Int) (i : Nat) (w : World) (hs : IsInts .u64 w a len cap ws) (hi : i < 9223372036854775807) :
  Calls Tryd.prog 54 #[.slice a len cap, .int .i64 (i : Int)] w fun e w' => e = .returned (.int .u64 (wd ws i)) ∧ w = w' := by
 have hl := hs.length
 by_cases h : i < len ∧ i < 64
 ·have hw : wd ws i = gi ws i := if_pos h.2
  obtain ⟨h1, h2⟩ := h
  rw [hw]
  rcases hs with ⟨_, h0, _⟩ | ⟨b, off, rfl, hl, hcm, hz, hc⟩
  ·omega
  ·have hci := hc i h1
   clear hc hz
   have hd : decide ((i : Int) < min (len : Int) 64) = true := decide_eq_true (by omega)
   go_enter Tryd.func54, Tryd.ntmps54
   go_wp2
   all_goals go_ret
   all_goals exact ⟨rfl, rfl⟩
 ·have hw : wd ws i = 0 := by
   unfold wd
   split
   ·exact gi_over (by omega)
   ·rfl
  rw [hw]
  have hd : decide ((i : Int) < min (len : Int) 64) = false := decide_eq_false (by omega)
  go_enter Tryd.func54, Tryd.ntmps54
  go_wp2
  all_goals go_ret
  all_goals exact ⟨rfl, rfl⟩
end Go.Proofs.YtofaifeadhimjaaDoor.Bt

set_option linter.unusedVariables false
namespace Go.Proofs.YtofaifeadhimjaaDoor.Bt
open Go.RowKit Go.Shelf

def tzRen : Ren := ⟨fun | 29 => 79 | n => n, fun | 0 => 0 | 3 => 3 | 4 => 4 | 5 => 5 | 22 => 93 | 25 => 113 | 54 => 128 | n => n, fun | 1 => 0 | n => n⟩

theorem tzLay : Lays7.n29 Tryd.prog tzRen := {
 mixed := by kernel_rfl
 f29 := Tryd.func79.trans (congrArg some (by kernel_rfl))
 t0 := Tryd.underlying0
 a0 := Tryd.isAgg0
 z0 := Tryd.sizeOf0
 v0 := Tryd.zeroValue0
 i0 := by kernel_rfl
 t3 := Tryd.underlying3
 a3 := Tryd.isAgg3
 z3 := Tryd.sizeOf3
 v3 := Tryd.zeroValue3
 i3 := by kernel_rfl
 t4 := Tryd.underlying4
 a4 := Tryd.isAgg4
 z4 := Tryd.sizeOf4
 v4 := Tryd.zeroValue4
 i4 := by kernel_rfl
 t5 := Tryd.underlying5
 a5 := Tryd.isAgg5
 z5 := Tryd.sizeOf5
 v5 := Tryd.zeroValue5
 i5 := by kernel_rfl
 t22 := Tryd.underlying93
 a22 := Tryd.isAgg93
 z22 := Tryd.sizeOf93
 v22 := Tryd.zeroValue93
 i22 := by kernel_rfl
 t25 := Tryd.underlying113
 a25 := Tryd.isAgg113
 z25 := Tryd.sizeOf113
 v25 := Tryd.zeroValue113
 i25 := by kernel_rfl
 t54 := Tryd.underlying128
 a54 := Tryd.isAgg128
 z54 := Tryd.sizeOf128
 g1 := by kernel_rfl }

set_option maxRecDepth 20000 in
theorem tz_any (x : Nat) (hx : x < 18446744073709551616) (w : World) (hT : TabAt 0 Lib.deBruijn64tab w) :
  Calls Tryd.prog 79 #[.int .u64 (x : Int)] w fun e w' => e = .returned (.int .i64 (Lib.ctz 64 x)) ∧ w' = w :=
 Any7.bits_TrailingZeros64 tzLay x hx w (fun _ => hT)
end Go.Proofs.YtofaifeadhimjaaDoor.Bt
