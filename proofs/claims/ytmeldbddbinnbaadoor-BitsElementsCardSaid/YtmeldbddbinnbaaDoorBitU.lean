/-
  Package bits: List as a plain contract, and Compare.
-/
import Derived.Test.YtmeldbddbinnbaaDoorBitT
import Derived.Test.YtmeldbddbinnbaaDoorBitP
import Derived.Test.YtmeldbddbinnbaaDoorBitJ
set_option linter.unusedSimpArgs false
set_option linter.unusedVariables false
namespace Go.Proofs.YtmeldbddbinnbaaDoor
open Go.RowKit Go.Shelf
attribute [local go_sem] Oper.semAt_some

theorem elsTo_add {ws : List Int} (hw : W64 ws) (i : Nat) : elsTo ws (64 * i + 64) = elsTo ws (64 * i) ++ elW i (gi ws i).toNat := by
  unfold elsTo elW
  rw [List.range_add, List.filter_append, List.map_append, List.filter_map, List.map_map, upB_filter, List.map_map]
  congr 1
  have h : ((List.range 64).filter ((fun n : Nat => bitI (gi ws (n / 64)) (n % 64)) ∘ fun x => 64 * i + x)) = (List.range 64).filter fun k => (gi ws i).toNat.testBit k := by
    apply List.filter_congr
    intro k hk
    have hk := List.mem_range.1 hk
    have h1 : (64 * i + k) / 64 = i := by omega
    have h2 : (64 * i + k) % 64 = k := by omega
    show bitI (gi ws ((64 * i + k) / 64)) ((64 * i + k) % 64) = _
    rw [h1, h2, bitI_tb (hw.gi i).1 (hw.gi i).2]
    rfl
  rw [h]
  apply List.map_congr_left
  intro k _
  show ((64 * i + k : Nat) : Int) = 64 * (i : Int) + ((0 + k : Nat) : Int)
  omega
theorem allTo_elsTo {ws : List Int} (hw : W64 ws) : ∀ m, allTo ws m = elsTo ws (64 * m)
  | 0 => rfl
  | m + 1 => by rw [allTo_succ, allTo_elsTo hw m, show 64 * (m + 1) = 64 * m + 64 by omega, elsTo_add hw]
theorem allTo_setL {ws : List Int} {len : Nat} (hw : W64 ws) (hl : ws.length = len) : allTo ws (min len 64) = setL (bt ws) := by
  rw [allTo_elsTo hw, elsTo_setL hw hl]

theorem list_any (a : Option Addr) (len cap : Nat) (ws : List Int) (w : World) (hs : IsInts .u64 w a len cap ws) (hw : W64 ws) (hT : TabAt 0 Lib.deBruijn64tab w) :
    Calls Tryd.prog 15 #[.slice a len cap] w fun e w' => ∃ a3 n3 c3, e = .returned (.slice a3 n3 c3) ∧ w'.ownsRow w.heap.size 3 1 (.slice a3 n3 c3) n3 (ivs .i64 (setL (bt ws))) ∧ Below w.heap.size w w' := by
  have h := list_in 3 (Nat.le_refl _) a len cap ws w hs hw hT
  rw [allTo_setL hw hs.length] at h
  exact callsIn_wide.1 h

end Go.Proofs.YtmeldbddbinnbaaDoor
