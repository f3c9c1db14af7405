/-
  BitsElements: the walk.
-/
import Derived.Test.YtmeldbddbinnbaaDoorBitAm
set_option linter.unusedSimpArgs false
set_option linter.unusedVariables false
namespace Go.Proofs.YtmeldbddbinnbaaDoor
open Go.RowKit Go.Shelf
attribute [local go_sem] Oper.semAt_some

set_option maxRecDepth 20000 in
set_option maxHeartbeats 1000000 in
theorem bitsElements_walk (a0 : Option Addr) (len0 cap0 : Nat) (z0 : List Int) (n : Int) (w : World) (i0 : IsInts .u64 w a0 len0 cap0 z0) (b0 : ∀ n ∈ z0, (Lit.int .u64 n).wf = true) (m0 : cap0 * 8 ≤ 140737488351232) (hn : (Lit.int .i64 n).wf = true) (hT : TabAt 0 Lib.deBruijn64tab w) :
    Calls Tryd.prog 7 #[.slice a0 len0 cap0, .int .i64 n] w fun e w' => e = .returned (.bool true) ∧ Below w.heap.size w w' := by
  by_cases hf : len0 ≤ 70 ∧ 0 ≤ 70
  · have s0 := hf.1
    have x0 := w64_of_wf b0
    have hvn := Lib.hid hn
    clear hn
    by_cases hr : 0 ≤ n ∧ n < 4096
    · obtain ⟨k, rfl⟩ := Int.eq_ofNat_of_zero_le hr.1
      have hk : k < 4096 := by omega
      have hr1 : decide ((0 : Int) ≤ (k : Int)) = true := decide_eq_true hr.1
      have hr2 : decide ((k : Int) < 4096) = true := decide_eq_true hr.2
      clear hr
      rcases hL : setL (bt z0) with _ | ⟨y, ys⟩
      · replace hL := Lib.hid hL
        have HB := Below.refl w.heap.size w
        go_enter Tryd.func7, Tryd.ntmps7
        go_wp2_with (fail)
        refine (awake_any w hT).mono ?_
        rintro e w1 ⟨rfl, hb⟩
        replace i0 := i0.later hb
        replace hT := TabAt.later hT hb
        replace HB := HB.trans (hb.mono HB.size)
        clear hb
        go_wp2_with (fail)
        refine (few_yes _ _ s0 (Nat.zero_le _)).mono ?_
        rintro e w2 ⟨rfl, rfl⟩
        go_wp2_with (fail)
        refine (refList_s i0 x0 (by omega)).mono ?_
        rintro e w3 ⟨gL, tL, cL, rfl, iL, sL, hb⟩
        replace i0 := i0.later hb
        replace hT := TabAt.later hT hb
        replace HB := HB.trans (hb.mono HB.size)
        clear hb
        go_wp2_with (fail)
        have hnL := Lib.hid iL.length
        refine (refWith_s (k := k) iL sL hk).mono ?_
        rintro e w4 ⟨gM, tM, cM, rfl, iM, sM, hb⟩
        replace i0 := i0.later hb
        replace iL := iL.later hb
        replace hT := TabAt.later hT hb
        replace HB := HB.trans (hb.mono HB.size)
        clear hb
        go_wp2_with (fail)
        refine (least_nil i0 x0 hT hL.out).mono ?_
        rintro e w5 ⟨rfl, hb⟩
        replace i0 := i0.later hb
        replace iL := iL.later hb
        replace iM := iM.later hb
        replace hT := TabAt.later hT hb
        replace HB := HB.trans (hb.mono HB.size)
        clear hb
        have hnL0 : tL = 0 := by rw [← hnL.out, hL.out]; rfl
        subst hnL0
        go_wp2_with (fail)
        refine (valid_any _ _ _ z0 _ i0).mono ?_
        rintro e wv ⟨rfl, rfl⟩
        go_wp2_with (fail)
        refine (refValid_any _ _ _ z0 _ i0).mono ?_
        rintro e wv ⟨rfl, rfl⟩
        go_wp2_with (fail)
        refine (has_s i0 x0).mono ?_
        rintro e w6 ⟨rfl, hb⟩
        replace i0 := i0.later hb
        replace iL := iL.later hb
        replace iM := iM.later hb
        replace hT := TabAt.later hT hb
        replace HB := HB.trans (hb.mono HB.size)
        clear hb
        go_wp2_with (fail)
        refine (refHas_any _ _ _ (setL (bt z0)) _ _ iL (by omega)).mono ?_
        rintro e wv ⟨rfl, rfl⟩
        go_wp2_with (fail)
        refine (with_s i0 x0 hvn.out (by omega)).mono ?_
        rintro e w7 ⟨gP, tP, zP, rfl, iP, cP, sP, hb⟩
        have xP := cP.1
        have bP := Lib.hid cP.2.2
        replace i0 := i0.later hb
        replace iL := iL.later hb
        replace iM := iM.later hb
        replace hT := TabAt.later hT hb
        replace HB := HB.trans (hb.mono HB.size)
        clear hb
        go_wp2_with (fail)
        refine (same_yes iP iM cP (by omega) sM (with_eq k)).mono ?_
        rintro e w8 ⟨rfl, hb⟩
        replace i0 := i0.later hb
        replace iL := iL.later hb
        replace iM := iM.later hb
        replace iP := iP.later hb
        replace hT := TabAt.later hT hb
        replace HB := HB.trans (hb.mono HB.size)
        clear hb
        go_wp2_with (fail)
        refine (without_s i0 x0 hvn.out (by omega)).mono ?_
        rintro e w9 ⟨gQ, tQ, zQ, rfl, iQ, cQ, sQ, hb⟩
        have xQ := cQ.1
        have bQ := Lib.hid cQ.2.2
        replace i0 := i0.later hb
        replace iL := iL.later hb
        replace iM := iM.later hb
        replace hT := TabAt.later hT hb
        replace HB := HB.trans (hb.mono HB.size)
        clear hb
        go_wp2_with (fail)
        refine (refWithout_s iL sL).mono ?_
        rintro e w10 ⟨gR, tR, cR, rfl, iR, sR, hb⟩
        replace i0 := i0.later hb
        replace iL := iL.later hb
        replace iM := iM.later hb
        replace iQ := iQ.later hb
        replace hT := TabAt.later hT hb
        replace HB := HB.trans (hb.mono HB.size)
        clear hb
        go_wp2_with (fail)
        refine (same_yes iQ iR cQ (by omega) sR (fun n hn => rfl)).mono ?_
        rintro e w11 ⟨rfl, hb⟩
        replace i0 := i0.later hb
        replace iL := iL.later hb
        replace iM := iM.later hb
        replace iQ := iQ.later hb
        replace iR := iR.later hb
        replace hT := TabAt.later hT hb
        replace HB := HB.trans (hb.mono HB.size)
        clear hb
        go_wp2_with (fail)
        refine (list_s i0 x0 hT).mono ?_
        rintro e w12 ⟨gS, tS, cS, rfl, iS, sS, hb⟩
        replace i0 := i0.later hb
        replace iL := iL.later hb
        replace iM := iM.later hb
        replace hT := TabAt.later hT hb
        replace HB := HB.trans (hb.mono HB.size)
        clear hb
        go_wp2_with (fail)
        refine (refSame_yes iS iL sS (fun n hn => rfl)).mono ?_
        rintro e w13 ⟨rfl, hb⟩
        replace i0 := i0.later hb
        replace iL := iL.later hb
        replace iM := iM.later hb
        replace iS := iS.later hb
        replace hT := TabAt.later hT hb
        replace HB := HB.trans (hb.mono HB.size)
        clear hb
        go_wp2_with (fail)
        refine (len_n i0 x0 hnL.out).mono ?_
        rintro e w14 ⟨rfl, hb⟩
        replace i0 := i0.later hb
        replace iL := iL.later hb
        replace iM := iM.later hb
        replace iS := iS.later hb
        replace hT := TabAt.later hT hb
        replace HB := HB.trans (hb.mono HB.size)
        clear hb
        go_wp2_with (fail)
        go_ret
        exact ⟨rfl, HB⟩
      · replace hL := Lib.hid hL
        have HB := Below.refl w.heap.size w
        go_enter Tryd.func7, Tryd.ntmps7
        go_wp2_with (fail)
        refine (awake_any w hT).mono ?_
        rintro e w1 ⟨rfl, hb⟩
        replace i0 := i0.later hb
        replace hT := TabAt.later hT hb
        replace HB := HB.trans (hb.mono HB.size)
        clear hb
        go_wp2_with (fail)
        refine (few_yes _ _ s0 (Nat.zero_le _)).mono ?_
        rintro e w2 ⟨rfl, rfl⟩
        go_wp2_with (fail)
        refine (refList_s i0 x0 (by omega)).mono ?_
        rintro e w3 ⟨gL, tL, cL, rfl, iL, sL, hb⟩
        replace i0 := i0.later hb
        replace hT := TabAt.later hT hb
        replace HB := HB.trans (hb.mono HB.size)
        clear hb
        go_wp2_with (fail)
        have hnL := Lib.hid iL.length
        refine (refWith_s (k := k) iL sL hk).mono ?_
        rintro e w4 ⟨gM, tM, cM, rfl, iM, sM, hb⟩
        replace i0 := i0.later hb
        replace iL := iL.later hb
        replace hT := TabAt.later hT hb
        replace HB := HB.trans (hb.mono HB.size)
        clear hb
        go_wp2_with (fail)
        refine (least_cons i0 x0 hT hL.out).mono ?_
        rintro e w5 ⟨rfl, hb⟩
        replace i0 := i0.later hb
        replace iL := iL.later hb
        replace iM := iM.later hb
        replace hT := TabAt.later hT hb
        replace HB := HB.trans (hb.mono HB.size)
        clear hb
        have hnL1 : 0 < tL := by rw [← hnL.out, hL.out]; exact Nat.succ_pos _
        have hnL2 : decide ((0 : Int) < (tL : Int)) = true := decide_eq_true (by omega)
        obtain ⟨bL, offL, rfl, hbl, hcL⟩ := iL.at _ (Below.refl _ _) 0 hnL1
        rw [hL.out] at hcL
        replace hcL : World.cell? _ ⟨bL, offL, none⟩ = some (.int .i64 y) := hcL
        go_wp2_with (fail)
        refine (valid_any _ _ _ z0 _ i0).mono ?_
        rintro e wv ⟨rfl, rfl⟩
        go_wp2_with (fail)
        refine (refValid_any _ _ _ z0 _ i0).mono ?_
        rintro e wv ⟨rfl, rfl⟩
        go_wp2_with (fail)
        refine (has_s i0 x0).mono ?_
        rintro e w6 ⟨rfl, hb⟩
        replace i0 := i0.later hb
        replace iL := iL.later hb
        replace iM := iM.later hb
        replace hT := TabAt.later hT hb
        replace HB := HB.trans (hb.mono HB.size)
        clear hb
        go_wp2_with (fail)
        refine (refHas_any _ _ _ (setL (bt z0)) _ _ iL (by omega)).mono ?_
        rintro e wv ⟨rfl, rfl⟩
        go_wp2_with (fail)
        refine (with_s i0 x0 hvn.out (by omega)).mono ?_
        rintro e w7 ⟨gP, tP, zP, rfl, iP, cP, sP, hb⟩
        have xP := cP.1
        have bP := Lib.hid cP.2.2
        replace i0 := i0.later hb
        replace iL := iL.later hb
        replace iM := iM.later hb
        replace hT := TabAt.later hT hb
        replace HB := HB.trans (hb.mono HB.size)
        clear hb
        go_wp2_with (fail)
        refine (same_yes iP iM cP (by omega) sM (with_eq k)).mono ?_
        rintro e w8 ⟨rfl, hb⟩
        replace i0 := i0.later hb
        replace iL := iL.later hb
        replace iM := iM.later hb
        replace iP := iP.later hb
        replace hT := TabAt.later hT hb
        replace HB := HB.trans (hb.mono HB.size)
        clear hb
        go_wp2_with (fail)
        refine (without_s i0 x0 hvn.out (by omega)).mono ?_
        rintro e w9 ⟨gQ, tQ, zQ, rfl, iQ, cQ, sQ, hb⟩
        have xQ := cQ.1
        have bQ := Lib.hid cQ.2.2
        replace i0 := i0.later hb
        replace iL := iL.later hb
        replace iM := iM.later hb
        replace hT := TabAt.later hT hb
        replace HB := HB.trans (hb.mono HB.size)
        clear hb
        go_wp2_with (fail)
        refine (refWithout_s iL sL).mono ?_
        rintro e w10 ⟨gR, tR, cR, rfl, iR, sR, hb⟩
        replace i0 := i0.later hb
        replace iL := iL.later hb
        replace iM := iM.later hb
        replace iQ := iQ.later hb
        replace hT := TabAt.later hT hb
        replace HB := HB.trans (hb.mono HB.size)
        clear hb
        go_wp2_with (fail)
        refine (same_yes iQ iR cQ (by omega) sR (fun n hn => rfl)).mono ?_
        rintro e w11 ⟨rfl, hb⟩
        replace i0 := i0.later hb
        replace iL := iL.later hb
        replace iM := iM.later hb
        replace iQ := iQ.later hb
        replace iR := iR.later hb
        replace hT := TabAt.later hT hb
        replace HB := HB.trans (hb.mono HB.size)
        clear hb
        go_wp2_with (fail)
        refine (list_s i0 x0 hT).mono ?_
        rintro e w12 ⟨gS, tS, cS, rfl, iS, sS, hb⟩
        replace i0 := i0.later hb
        replace iL := iL.later hb
        replace iM := iM.later hb
        replace hT := TabAt.later hT hb
        replace HB := HB.trans (hb.mono HB.size)
        clear hb
        go_wp2_with (fail)
        refine (refSame_yes iS iL sS (fun n hn => rfl)).mono ?_
        rintro e w13 ⟨rfl, hb⟩
        replace i0 := i0.later hb
        replace iL := iL.later hb
        replace iM := iM.later hb
        replace iS := iS.later hb
        replace hT := TabAt.later hT hb
        replace HB := HB.trans (hb.mono HB.size)
        clear hb
        go_wp2_with (fail)
        refine (len_n i0 x0 hnL.out).mono ?_
        rintro e w14 ⟨rfl, hb⟩
        replace i0 := i0.later hb
        replace iL := iL.later hb
        replace iM := iM.later hb
        replace iS := iS.later hb
        replace hT := TabAt.later hT hb
        replace HB := HB.trans (hb.mono HB.size)
        clear hb
        go_wp2_with (fail)
        go_ret
        exact ⟨rfl, HB⟩
    · have hE : Hid (∀ i : Nat, i < 4096 → (bt z0 i || decide ((i : Int) = n)) = bt z0 i) := Lib.hid (fun i hi => by rw [decide_eq_false (by omega), Bool.or_false])
      by_cases hr0 : 0 ≤ n
      · have hr1 : decide ((0 : Int) ≤ n) = true := decide_eq_true hr0
        have hr2 : decide (n < 4096) = false := decide_eq_false (fun h => hr ⟨hr0, h⟩)
        clear hr hr0
        rcases hL : setL (bt z0) with _ | ⟨y, ys⟩
        · replace hL := Lib.hid hL
          have HB := Below.refl w.heap.size w
          go_enter Tryd.func7, Tryd.ntmps7
          go_wp2_with (fail)
          refine (awake_any w hT).mono ?_
          rintro e w1 ⟨rfl, hb⟩
          replace i0 := i0.later hb
          replace hT := TabAt.later hT hb
          replace HB := HB.trans (hb.mono HB.size)
          clear hb
          go_wp2_with (fail)
          refine (few_yes _ _ s0 (Nat.zero_le _)).mono ?_
          rintro e w2 ⟨rfl, rfl⟩
          go_wp2_with (fail)
          refine (refList_s i0 x0 (by omega)).mono ?_
          rintro e w3 ⟨gL, tL, cL, rfl, iL, sL, hb⟩
          replace i0 := i0.later hb
          replace hT := TabAt.later hT hb
          replace HB := HB.trans (hb.mono HB.size)
          clear hb
          go_wp2_with (fail)
          have hnL := Lib.hid iL.length
          refine (least_nil i0 x0 hT hL.out).mono ?_
          rintro e w4 ⟨rfl, hb⟩
          replace i0 := i0.later hb
          replace iL := iL.later hb
          replace hT := TabAt.later hT hb
          replace HB := HB.trans (hb.mono HB.size)
          clear hb
          have hnL0 : tL = 0 := by rw [← hnL.out, hL.out]; rfl
          subst hnL0
          go_wp2_with (fail)
          refine (valid_any _ _ _ z0 _ i0).mono ?_
          rintro e wv ⟨rfl, rfl⟩
          go_wp2_with (fail)
          refine (refValid_any _ _ _ z0 _ i0).mono ?_
          rintro e wv ⟨rfl, rfl⟩
          go_wp2_with (fail)
          refine (has_s i0 x0).mono ?_
          rintro e w5 ⟨rfl, hb⟩
          replace i0 := i0.later hb
          replace iL := iL.later hb
          replace hT := TabAt.later hT hb
          replace HB := HB.trans (hb.mono HB.size)
          clear hb
          go_wp2_with (fail)
          refine (refHas_any _ _ _ (setL (bt z0)) _ _ iL (by omega)).mono ?_
          rintro e wv ⟨rfl, rfl⟩
          go_wp2_with (fail)
          refine (with_s i0 x0 hvn.out (by omega)).mono ?_
          rintro e w6 ⟨gP, tP, zP, rfl, iP, cP, sP, hb⟩
          have xP := cP.1
          have bP := Lib.hid cP.2.2
          replace i0 := i0.later hb
          replace iL := iL.later hb
          replace hT := TabAt.later hT hb
          replace HB := HB.trans (hb.mono HB.size)
          clear hb
          go_wp2_with (fail)
          refine (same_yes iP iL cP (by omega) sL hE.out).mono ?_
          rintro e w7 ⟨rfl, hb⟩
          replace i0 := i0.later hb
          replace iL := iL.later hb
          replace iP := iP.later hb
          replace hT := TabAt.later hT hb
          replace HB := HB.trans (hb.mono HB.size)
          clear hb
          go_wp2_with (fail)
          refine (without_s i0 x0 hvn.out (by omega)).mono ?_
          rintro e w8 ⟨gQ, tQ, zQ, rfl, iQ, cQ, sQ, hb⟩
          have xQ := cQ.1
          have bQ := Lib.hid cQ.2.2
          replace i0 := i0.later hb
          replace iL := iL.later hb
          replace hT := TabAt.later hT hb
          replace HB := HB.trans (hb.mono HB.size)
          clear hb
          go_wp2_with (fail)
          refine (refWithout_s iL sL).mono ?_
          rintro e w9 ⟨gR, tR, cR, rfl, iR, sR, hb⟩
          replace i0 := i0.later hb
          replace iL := iL.later hb
          replace iQ := iQ.later hb
          replace hT := TabAt.later hT hb
          replace HB := HB.trans (hb.mono HB.size)
          clear hb
          go_wp2_with (fail)
          refine (same_yes iQ iR cQ (by omega) sR (fun n hn => rfl)).mono ?_
          rintro e w10 ⟨rfl, hb⟩
          replace i0 := i0.later hb
          replace iL := iL.later hb
          replace iQ := iQ.later hb
          replace iR := iR.later hb
          replace hT := TabAt.later hT hb
          replace HB := HB.trans (hb.mono HB.size)
          clear hb
          go_wp2_with (fail)
          refine (list_s i0 x0 hT).mono ?_
          rintro e w11 ⟨gS, tS, cS, rfl, iS, sS, hb⟩
          replace i0 := i0.later hb
          replace iL := iL.later hb
          replace hT := TabAt.later hT hb
          replace HB := HB.trans (hb.mono HB.size)
          clear hb
          go_wp2_with (fail)
          refine (refSame_yes iS iL sS (fun n hn => rfl)).mono ?_
          rintro e w12 ⟨rfl, hb⟩
          replace i0 := i0.later hb
          replace iL := iL.later hb
          replace iS := iS.later hb
          replace hT := TabAt.later hT hb
          replace HB := HB.trans (hb.mono HB.size)
          clear hb
          go_wp2_with (fail)
          refine (len_n i0 x0 hnL.out).mono ?_
          rintro e w13 ⟨rfl, hb⟩
          replace i0 := i0.later hb
          replace iL := iL.later hb
          replace iS := iS.later hb
          replace hT := TabAt.later hT hb
          replace HB := HB.trans (hb.mono HB.size)
          clear hb
          go_wp2_with (fail)
          go_ret
          exact ⟨rfl, HB⟩
        · replace hL := Lib.hid hL
          have HB := Below.refl w.heap.size w
          go_enter Tryd.func7, Tryd.ntmps7
          go_wp2_with (fail)
          refine (awake_any w hT).mono ?_
          rintro e w1 ⟨rfl, hb⟩
          replace i0 := i0.later hb
          replace hT := TabAt.later hT hb
          replace HB := HB.trans (hb.mono HB.size)
          clear hb
          go_wp2_with (fail)
          refine (few_yes _ _ s0 (Nat.zero_le _)).mono ?_
          rintro e w2 ⟨rfl, rfl⟩
          go_wp2_with (fail)
          refine (refList_s i0 x0 (by omega)).mono ?_
          rintro e w3 ⟨gL, tL, cL, rfl, iL, sL, hb⟩
          replace i0 := i0.later hb
          replace hT := TabAt.later hT hb
          replace HB := HB.trans (hb.mono HB.size)
          clear hb
          go_wp2_with (fail)
          have hnL := Lib.hid iL.length
          refine (least_cons i0 x0 hT hL.out).mono ?_
          rintro e w4 ⟨rfl, hb⟩
          replace i0 := i0.later hb
          replace iL := iL.later hb
          replace hT := TabAt.later hT hb
          replace HB := HB.trans (hb.mono HB.size)
          clear hb
          have hnL1 : 0 < tL := by rw [← hnL.out, hL.out]; exact Nat.succ_pos _
          have hnL2 : decide ((0 : Int) < (tL : Int)) = true := decide_eq_true (by omega)
          obtain ⟨bL, offL, rfl, hbl, hcL⟩ := iL.at _ (Below.refl _ _) 0 hnL1
          rw [hL.out] at hcL
          replace hcL : World.cell? _ ⟨bL, offL, none⟩ = some (.int .i64 y) := hcL
          go_wp2_with (fail)
          refine (valid_any _ _ _ z0 _ i0).mono ?_
          rintro e wv ⟨rfl, rfl⟩
          go_wp2_with (fail)
          refine (refValid_any _ _ _ z0 _ i0).mono ?_
          rintro e wv ⟨rfl, rfl⟩
          go_wp2_with (fail)
          refine (has_s i0 x0).mono ?_
          rintro e w5 ⟨rfl, hb⟩
          replace i0 := i0.later hb
          replace iL := iL.later hb
          replace hT := TabAt.later hT hb
          replace HB := HB.trans (hb.mono HB.size)
          clear hb
          go_wp2_with (fail)
          refine (refHas_any _ _ _ (setL (bt z0)) _ _ iL (by omega)).mono ?_
          rintro e wv ⟨rfl, rfl⟩
          go_wp2_with (fail)
          refine (with_s i0 x0 hvn.out (by omega)).mono ?_
          rintro e w6 ⟨gP, tP, zP, rfl, iP, cP, sP, hb⟩
          have xP := cP.1
          have bP := Lib.hid cP.2.2
          replace i0 := i0.later hb
          replace iL := iL.later hb
          replace hT := TabAt.later hT hb
          replace HB := HB.trans (hb.mono HB.size)
          clear hb
          go_wp2_with (fail)
          refine (same_yes iP iL cP (by omega) sL hE.out).mono ?_
          rintro e w7 ⟨rfl, hb⟩
          replace i0 := i0.later hb
          replace iL := iL.later hb
          replace iP := iP.later hb
          replace hT := TabAt.later hT hb
          replace HB := HB.trans (hb.mono HB.size)
          clear hb
          go_wp2_with (fail)
          refine (without_s i0 x0 hvn.out (by omega)).mono ?_
          rintro e w8 ⟨gQ, tQ, zQ, rfl, iQ, cQ, sQ, hb⟩
          have xQ := cQ.1
          have bQ := Lib.hid cQ.2.2
          replace i0 := i0.later hb
          replace iL := iL.later hb
          replace hT := TabAt.later hT hb
          replace HB := HB.trans (hb.mono HB.size)
          clear hb
          go_wp2_with (fail)
          refine (refWithout_s iL sL).mono ?_
          rintro e w9 ⟨gR, tR, cR, rfl, iR, sR, hb⟩
          replace i0 := i0.later hb
          replace iL := iL.later hb
          replace iQ := iQ.later hb
          replace hT := TabAt.later hT hb
          replace HB := HB.trans (hb.mono HB.size)
          clear hb
          go_wp2_with (fail)
          refine (same_yes iQ iR cQ (by omega) sR (fun n hn => rfl)).mono ?_
          rintro e w10 ⟨rfl, hb⟩
          replace i0 := i0.later hb
          replace iL := iL.later hb
          replace iQ := iQ.later hb
          replace iR := iR.later hb
          replace hT := TabAt.later hT hb
          replace HB := HB.trans (hb.mono HB.size)
          clear hb
          go_wp2_with (fail)
          refine (list_s i0 x0 hT).mono ?_
          rintro e w11 ⟨gS, tS, cS, rfl, iS, sS, hb⟩
          replace i0 := i0.later hb
          replace iL := iL.later hb
          replace hT := TabAt.later hT hb
          replace HB := HB.trans (hb.mono HB.size)
          clear hb
          go_wp2_with (fail)
          refine (refSame_yes iS iL sS (fun n hn => rfl)).mono ?_
          rintro e w12 ⟨rfl, hb⟩
          replace i0 := i0.later hb
          replace iL := iL.later hb
          replace iS := iS.later hb
          replace hT := TabAt.later hT hb
          replace HB := HB.trans (hb.mono HB.size)
          clear hb
          go_wp2_with (fail)
          refine (len_n i0 x0 hnL.out).mono ?_
          rintro e w13 ⟨rfl, hb⟩
          replace i0 := i0.later hb
          replace iL := iL.later hb
          replace iS := iS.later hb
          replace hT := TabAt.later hT hb
          replace HB := HB.trans (hb.mono HB.size)
          clear hb
          go_wp2_with (fail)
          go_ret
          exact ⟨rfl, HB⟩
      · have hr1 : decide ((0 : Int) ≤ n) = false := decide_eq_false hr0
        clear hr hr0
        rcases hL : setL (bt z0) with _ | ⟨y, ys⟩
        · replace hL := Lib.hid hL
          have HB := Below.refl w.heap.size w
          go_enter Tryd.func7, Tryd.ntmps7
          go_wp2_with (fail)
          refine (awake_any w hT).mono ?_
          rintro e w1 ⟨rfl, hb⟩
          replace i0 := i0.later hb
          replace hT := TabAt.later hT hb
          replace HB := HB.trans (hb.mono HB.size)
          clear hb
          go_wp2_with (fail)
          refine (few_yes _ _ s0 (Nat.zero_le _)).mono ?_
          rintro e w2 ⟨rfl, rfl⟩
          go_wp2_with (fail)
          refine (refList_s i0 x0 (by omega)).mono ?_
          rintro e w3 ⟨gL, tL, cL, rfl, iL, sL, hb⟩
          replace i0 := i0.later hb
          replace hT := TabAt.later hT hb
          replace HB := HB.trans (hb.mono HB.size)
          clear hb
          go_wp2_with (fail)
          have hnL := Lib.hid iL.length
          refine (least_nil i0 x0 hT hL.out).mono ?_
          rintro e w4 ⟨rfl, hb⟩
          replace i0 := i0.later hb
          replace iL := iL.later hb
          replace hT := TabAt.later hT hb
          replace HB := HB.trans (hb.mono HB.size)
          clear hb
          have hnL0 : tL = 0 := by rw [← hnL.out, hL.out]; rfl
          subst hnL0
          go_wp2_with (fail)
          refine (valid_any _ _ _ z0 _ i0).mono ?_
          rintro e wv ⟨rfl, rfl⟩
          go_wp2_with (fail)
          refine (refValid_any _ _ _ z0 _ i0).mono ?_
          rintro e wv ⟨rfl, rfl⟩
          go_wp2_with (fail)
          refine (has_s i0 x0).mono ?_
          rintro e w5 ⟨rfl, hb⟩
          replace i0 := i0.later hb
          replace iL := iL.later hb
          replace hT := TabAt.later hT hb
          replace HB := HB.trans (hb.mono HB.size)
          clear hb
          go_wp2_with (fail)
          refine (refHas_any _ _ _ (setL (bt z0)) _ _ iL (by omega)).mono ?_
          rintro e wv ⟨rfl, rfl⟩
          go_wp2_with (fail)
          refine (with_s i0 x0 hvn.out (by omega)).mono ?_
          rintro e w6 ⟨gP, tP, zP, rfl, iP, cP, sP, hb⟩
          have xP := cP.1
          have bP := Lib.hid cP.2.2
          replace i0 := i0.later hb
          replace iL := iL.later hb
          replace hT := TabAt.later hT hb
          replace HB := HB.trans (hb.mono HB.size)
          clear hb
          go_wp2_with (fail)
          refine (same_yes iP iL cP (by omega) sL hE.out).mono ?_
          rintro e w7 ⟨rfl, hb⟩
          replace i0 := i0.later hb
          replace iL := iL.later hb
          replace iP := iP.later hb
          replace hT := TabAt.later hT hb
          replace HB := HB.trans (hb.mono HB.size)
          clear hb
          go_wp2_with (fail)
          refine (without_s i0 x0 hvn.out (by omega)).mono ?_
          rintro e w8 ⟨gQ, tQ, zQ, rfl, iQ, cQ, sQ, hb⟩
          have xQ := cQ.1
          have bQ := Lib.hid cQ.2.2
          replace i0 := i0.later hb
          replace iL := iL.later hb
          replace hT := TabAt.later hT hb
          replace HB := HB.trans (hb.mono HB.size)
          clear hb
          go_wp2_with (fail)
          refine (refWithout_s iL sL).mono ?_
          rintro e w9 ⟨gR, tR, cR, rfl, iR, sR, hb⟩
          replace i0 := i0.later hb
          replace iL := iL.later hb
          replace iQ := iQ.later hb
          replace hT := TabAt.later hT hb
          replace HB := HB.trans (hb.mono HB.size)
          clear hb
          go_wp2_with (fail)
          refine (same_yes iQ iR cQ (by omega) sR (fun n hn => rfl)).mono ?_
          rintro e w10 ⟨rfl, hb⟩
          replace i0 := i0.later hb
          replace iL := iL.later hb
          replace iQ := iQ.later hb
          replace iR := iR.later hb
          replace hT := TabAt.later hT hb
          replace HB := HB.trans (hb.mono HB.size)
          clear hb
          go_wp2_with (fail)
          refine (list_s i0 x0 hT).mono ?_
          rintro e w11 ⟨gS, tS, cS, rfl, iS, sS, hb⟩
          replace i0 := i0.later hb
          replace iL := iL.later hb
          replace hT := TabAt.later hT hb
          replace HB := HB.trans (hb.mono HB.size)
          clear hb
          go_wp2_with (fail)
          refine (refSame_yes iS iL sS (fun n hn => rfl)).mono ?_
          rintro e w12 ⟨rfl, hb⟩
          replace i0 := i0.later hb
          replace iL := iL.later hb
          replace iS := iS.later hb
          replace hT := TabAt.later hT hb
          replace HB := HB.trans (hb.mono HB.size)
          clear hb
          go_wp2_with (fail)
          refine (len_n i0 x0 hnL.out).mono ?_
          rintro e w13 ⟨rfl, hb⟩
          replace i0 := i0.later hb
          replace iL := iL.later hb
          replace iS := iS.later hb
          replace hT := TabAt.later hT hb
          replace HB := HB.trans (hb.mono HB.size)
          clear hb
          go_wp2_with (fail)
          go_ret
          exact ⟨rfl, HB⟩
        · replace hL := Lib.hid hL
          have HB := Below.refl w.heap.size w
          go_enter Tryd.func7, Tryd.ntmps7
          go_wp2_with (fail)
          refine (awake_any w hT).mono ?_
          rintro e w1 ⟨rfl, hb⟩
          replace i0 := i0.later hb
          replace hT := TabAt.later hT hb
          replace HB := HB.trans (hb.mono HB.size)
          clear hb
          go_wp2_with (fail)
          refine (few_yes _ _ s0 (Nat.zero_le _)).mono ?_
          rintro e w2 ⟨rfl, rfl⟩
          go_wp2_with (fail)
          refine (refList_s i0 x0 (by omega)).mono ?_
          rintro e w3 ⟨gL, tL, cL, rfl, iL, sL, hb⟩
          replace i0 := i0.later hb
          replace hT := TabAt.later hT hb
          replace HB := HB.trans (hb.mono HB.size)
          clear hb
          go_wp2_with (fail)
          have hnL := Lib.hid iL.length
          refine (least_cons i0 x0 hT hL.out).mono ?_
          rintro e w4 ⟨rfl, hb⟩
          replace i0 := i0.later hb
          replace iL := iL.later hb
          replace hT := TabAt.later hT hb
          replace HB := HB.trans (hb.mono HB.size)
          clear hb
          have hnL1 : 0 < tL := by rw [← hnL.out, hL.out]; exact Nat.succ_pos _
          have hnL2 : decide ((0 : Int) < (tL : Int)) = true := decide_eq_true (by omega)
          obtain ⟨bL, offL, rfl, hbl, hcL⟩ := iL.at _ (Below.refl _ _) 0 hnL1
          rw [hL.out] at hcL
          replace hcL : World.cell? _ ⟨bL, offL, none⟩ = some (.int .i64 y) := hcL
          go_wp2_with (fail)
          refine (valid_any _ _ _ z0 _ i0).mono ?_
          rintro e wv ⟨rfl, rfl⟩
          go_wp2_with (fail)
          refine (refValid_any _ _ _ z0 _ i0).mono ?_
          rintro e wv ⟨rfl, rfl⟩
          go_wp2_with (fail)
          refine (has_s i0 x0).mono ?_
          rintro e w5 ⟨rfl, hb⟩
          replace i0 := i0.later hb
          replace iL := iL.later hb
          replace hT := TabAt.later hT hb
          replace HB := HB.trans (hb.mono HB.size)
          clear hb
          go_wp2_with (fail)
          refine (refHas_any _ _ _ (setL (bt z0)) _ _ iL (by omega)).mono ?_
          rintro e wv ⟨rfl, rfl⟩
          go_wp2_with (fail)
          refine (with_s i0 x0 hvn.out (by omega)).mono ?_
          rintro e w6 ⟨gP, tP, zP, rfl, iP, cP, sP, hb⟩
          have xP := cP.1
          have bP := Lib.hid cP.2.2
          replace i0 := i0.later hb
          replace iL := iL.later hb
          replace hT := TabAt.later hT hb
          replace HB := HB.trans (hb.mono HB.size)
          clear hb
          go_wp2_with (fail)
          refine (same_yes iP iL cP (by omega) sL hE.out).mono ?_
          rintro e w7 ⟨rfl, hb⟩
          replace i0 := i0.later hb
          replace iL := iL.later hb
          replace iP := iP.later hb
          replace hT := TabAt.later hT hb
          replace HB := HB.trans (hb.mono HB.size)
          clear hb
          go_wp2_with (fail)
          refine (without_s i0 x0 hvn.out (by omega)).mono ?_
          rintro e w8 ⟨gQ, tQ, zQ, rfl, iQ, cQ, sQ, hb⟩
          have xQ := cQ.1
          have bQ := Lib.hid cQ.2.2
          replace i0 := i0.later hb
          replace iL := iL.later hb
          replace hT := TabAt.later hT hb
          replace HB := HB.trans (hb.mono HB.size)
          clear hb
          go_wp2_with (fail)
          refine (refWithout_s iL sL).mono ?_
          rintro e w9 ⟨gR, tR, cR, rfl, iR, sR, hb⟩
          replace i0 := i0.later hb
          replace iL := iL.later hb
          replace iQ := iQ.later hb
          replace hT := TabAt.later hT hb
          replace HB := HB.trans (hb.mono HB.size)
          clear hb
          go_wp2_with (fail)
          refine (same_yes iQ iR cQ (by omega) sR (fun n hn => rfl)).mono ?_
          rintro e w10 ⟨rfl, hb⟩
          replace i0 := i0.later hb
          replace iL := iL.later hb
          replace iQ := iQ.later hb
          replace iR := iR.later hb
          replace hT := TabAt.later hT hb
          replace HB := HB.trans (hb.mono HB.size)
          clear hb
          go_wp2_with (fail)
          refine (list_s i0 x0 hT).mono ?_
          rintro e w11 ⟨gS, tS, cS, rfl, iS, sS, hb⟩
          replace i0 := i0.later hb
          replace iL := iL.later hb
          replace hT := TabAt.later hT hb
          replace HB := HB.trans (hb.mono HB.size)
          clear hb
          go_wp2_with (fail)
          refine (refSame_yes iS iL sS (fun n hn => rfl)).mono ?_
          rintro e w12 ⟨rfl, hb⟩
          replace i0 := i0.later hb
          replace iL := iL.later hb
          replace iS := iS.later hb
          replace hT := TabAt.later hT hb
          replace HB := HB.trans (hb.mono HB.size)
          clear hb
          go_wp2_with (fail)
          refine (len_n i0 x0 hnL.out).mono ?_
          rintro e w13 ⟨rfl, hb⟩
          replace i0 := i0.later hb
          replace iL := iL.later hb
          replace iS := iS.later hb
          replace hT := TabAt.later hT hb
          replace HB := HB.trans (hb.mono HB.size)
          clear hb
          go_wp2_with (fail)
          go_ret
          exact ⟨rfl, HB⟩
  · clear i0
    have HB := Below.refl w.heap.size w
    go_enter Tryd.func7, Tryd.ntmps7
    go_wp2_with (fail)
    refine (awake_any w hT).mono ?_
    rintro e w1 ⟨rfl, hb⟩
    replace hT := TabAt.later hT hb
    replace HB := HB.trans (hb.mono HB.size)
    clear hb
    go_wp2_with (fail)
    refine (few_no _ _ hf).mono ?_
    rintro e w2 ⟨rfl, rfl⟩
    go_wp2_with (fail)
    go_ret
    exact ⟨rfl, HB⟩
end Go.Proofs.YtmeldbddbinnbaaDoor
