import Derived.Test.YtimboglagjbdjaaDoorMG38
/-
  NfaLs
-/
set_option linter.unusedSimpArgs false
set_option linter.unusedVariables false
namespace Go.Proofs.YtimboglagjbdjaaDoor
open Go.RowKit
attribute [local go_sem] Oper.semAt_some

set_option maxRecDepth 20000 in
set_option maxHeartbeats 4000000 in
theorem lawSame_yes {n : Int} {S zs : List Int} {g : Option Addr} {t c : Nat} {aq : Option Addr} {lq cq : Nat} {w : World} (hs : IsInts .u64 w g t c zs) (hz : Bt.SetIs zs (inL S)) (hS : S.Pairwise (· < ·)) (hb : Bd n S) (hn : n ≤ 4096) (hq : IsInts .i64 w aq lq cq S) (hT : TabW w) :
  Calls Tryd.prog 14 #[.slice g t c, .slice aq lq cq] w fun e w' => e = .returned (.bool true) ∧ Below w.heap.size w w' := by
 have hls := list_S hs hz hS hb hn hT
 have hSl : S.length ≤ 4096 := by have := bd_len hS hb; omega
 have HS := Lib.hid hs
 have HZ := Lib.hid hz
 have HQ := Lib.hid hq
 clear hs hz hS hb hq hT
 go_enter Tryd.func14, Tryd.ntmps14
 go_wp2_with (go_at_call 29; refine hls.mono ?_; rintro e w2 ⟨⟨a2, c2, rfl, hi2⟩, hb2⟩)
 have hsm := Bt.same_any _ _ _ _ _ _ _ _ w2 hi2 (HQ.out.later hb2) (by omega)
 rw [decide_eq_true (rfl : S = S)] at hsm
 have HB2 := Lib.hid hb2
 clear hls hi2 hb2
 go_wp2_with (go_at_call 28; refine hsm.mono ?_; rintro e w3 ⟨rfl, hb3⟩)
 have hva := Bt.valid_yes (HS.out.later (HB2.out.trans (hb3.mono HB2.out.size))) HZ.out
 have HB3 := Lib.hid (HB2.out.trans (hb3.mono HB2.out.size))
 clear hsm hb3
 go_wp2_with (go_at_call 30; refine hva.mono ?_; rintro e w4 ⟨rfl, hb4⟩)
 go_ret
 exact ⟨rfl, HB3.out.trans (hb4.mono HB3.out.size)⟩
end Go.Proofs.YtimboglagjbdjaaDoor
