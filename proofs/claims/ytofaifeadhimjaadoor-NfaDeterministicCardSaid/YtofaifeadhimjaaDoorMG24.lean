import Derived.Test.YtofaifeadhimjaaDoorMG16
import Derived.Test.YtofaifeadhimjaaDoorMG18
import Derived.Test.YtofaifeadhimjaaDoorMG21
import Derived.Test.YtofaifeadhimjaaDoorMG23
/-
  BtW, BtX
-/
set_option linter.unusedSimpArgs false
set_option linter.unusedVariables false
namespace Go.Proofs.YtofaifeadhimjaaDoor.Bt
open Go.RowKit Go.Shelf
attribute [local go_sem] Oper.semAt_some

theorem elW_len (i z : Nat) : (elW i z).length = (upB 64 0 z).length := by unfold elW; rw [List.length_map]
theorem allTo_len1 (ws : List Int) (k : Nat) : (allTo ws (k + 1)).length = (allTo ws k).length + (upB 64 0 (gi ws k).toNat).length := by
 rw [allTo_succ, List.length_append, elW_len]

theorem TabAt.later {w w' : World} (h : TabAt 0 Lib.deBruijn64tab w) (hb : Below w.heap.size w w') : TabAt 0 Lib.deBruijn64tab w' :=
 fun j hj => (hb.cell (p := ⟨0, j, none⟩) (lt_of_cell (h j hj))).trans (h j hj)

set_option maxRecDepth 20000 in
set_option maxHeartbeats 1000000 in
theorem len_any (a : Option Addr) (len cap : Nat) (ws : List Int) (w : World) (hs : IsInts .u64 w a len cap ws) (hw : W64 ws) :
  Calls Tryd.prog 35 #[.slice a len cap] w fun e w' => e = .returned (.int .i64 ((setL (bt ws)).length : Nat)) ∧ Below w.heap.size w w' := by
 rw [← allTo_setL hw hs.length]
 obtain ⟨m, hm, hm64, hml⟩ : ∃ m : Nat, min (len : Int) 64 = (m : Int) ∧ m ≤ 64 ∧ m ≤ len := ⟨min len 64, by omega, by omega, by omega⟩
 have HM : Hid (m = min len 64) := Lib.hid (by omega)
 go_enter Tryd.func35, Tryd.ntmps35
 go_wp2


 go_loopw [3, 8] (fun c d W => ∃ k : Nat, k ≤ m ∧ d = .int .i64 (k : Int) ∧ c = .int .i64 ((allTo ws k).length : Nat) ∧ W = w) (fun _ d _ => m - (intOf d).toNat)
 case atStart => exact ⟨0, Nat.zero_le _, rfl, rfl, rfl⟩
 case round =>
  obtain ⟨k, hk, rfl, rfl, rfl⟩ := hrel
  have hle := allTo_len ws k
  rcases Nat.lt_or_ge k m with hlt | hge
  ·obtain ⟨b, off, rfl, hbl, hc⟩ := hs.at wr (Below.refl _ _) k (by omega)
   have hg := hw.gi k
   have hle2 := upB_len 64 0 (gi ws k).toNat
   have hnext := Lib.hid (allTo_len1 ws k)
   go_wp2_with (go_at_call 62; refine (ones_any (gi ws k) _ hg.1 hg.2).mono ?_; rintro e w1 ⟨rfl, rfl⟩)
   go_roundw
   case rel => exact ⟨k + 1, by omega, by go_num, by rw [hnext.out]; go_num, by first | rfl | trivial⟩
   case measure => simp [intOf]; omega
  ·have hkm : k = m := by omega
   subst hkm
   go_wp2
   go_ret
   exact ⟨by rw [HM.out]; rfl, Below.refl _ _⟩

end Go.Proofs.YtofaifeadhimjaaDoor.Bt

set_option linter.unusedSimpArgs false
set_option linter.unusedVariables false
namespace Go.Proofs.YtofaifeadhimjaaDoor.Bt
open Go.RowKit Go.Shelf
attribute [local go_sem] Oper.semAt_some

theorem awake_mk : bw (gi (mkW [5, 64, 5, -1])) 64 = [32, 1] := by decide +kernel
theorem awake_ls : setL (bt [32, 1]) = [5, 64] := by decide +kernel

end Go.Proofs.YtofaifeadhimjaaDoor.Bt
