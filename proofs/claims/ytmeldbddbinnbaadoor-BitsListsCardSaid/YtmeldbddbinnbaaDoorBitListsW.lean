/-
  BitsLists: the walk.
-/
import Derived.Test.YtmeldbddbinnbaaDoorBitAn
set_option linter.unusedSimpArgs false
set_option linter.unusedVariables false
namespace Go.Proofs.YtmeldbddbinnbaaDoor
open Go.RowKit Go.Shelf
attribute [local go_sem] Oper.semAt_some

set_option maxRecDepth 20000 in
set_option maxHeartbeats 2000000 in
theorem bitsLists_walk (a0 : Option Addr) (len0 cap0 : Nat) (z0 : List Int) (a1 : Option Addr) (len1 cap1 : Nat) (z1 : List Int) (w : World) (i0 : IsInts .i64 w a0 len0 cap0 z0) (b0 : ∀ n ∈ z0, (Lit.int .i64 n).wf = true) (m0 : cap0 * 8 ≤ 140737488351232) (i1 : IsInts .u64 w a1 len1 cap1 z1) (b1 : ∀ n ∈ z1, (Lit.int .u64 n).wf = true) (m1 : cap1 * 8 ≤ 140737488351232) (hT : TabAt 0 Lib.deBruijn64tab w) :
    Calls Tryd.prog 3 #[.slice a0 len0 cap0, .slice a1 len1 cap1] w fun e w' => e = .returned (.bool true) ∧ Below w.heap.size w w' := by
  by_cases h3 : len0 ≤ 300
  · have h3' : decide ((300 : Int) < (len0 : Int)) = false := decide_eq_false (by omega)
    by_cases hf : len1 ≤ 70 ∧ 0 ≤ 70
    · have s1 := hf.1
      have x1 := w64_of_wf b1
      have HL := Lib.hid i0.length
      clear m0 m1 b1 hf
      have HB := Below.refl w.heap.size w
      go_enter Tryd.func3, Tryd.ntmps3
      go_wp2_with (fail)
      refine (awake_any w hT).mono ?_
      rintro e w1 ⟨rfl, hb⟩
      replace i0 := i0.later hb
      replace i1 := i1.later hb
      replace hT := TabAt.later hT hb
      replace HB := HB.trans (hb.mono HB.size)
      clear hb
      go_wp2_with (fail)
      refine (few_yes _ _ s1 (Nat.zero_le _)).mono ?_
      rintro e w2 ⟨rfl, rfl⟩
      go_wp2_with (fail)
      refine (make_s i0 b0).mono ?_
      rintro e w3 ⟨gS, tS, zS, rfl, iS, cS, sS, hb⟩
      have xS := cS.1
      have bS := Lib.hid cS.2.2
      replace i0 := i0.later hb
      replace i1 := i1.later hb
      replace hT := TabAt.later hT hb
      replace HB := HB.trans (hb.mono HB.size)
      clear hb
      go_wp2_with (fail)
      obtain ⟨wS, hwS⟩ : ∃ wS, wS = w3 := ⟨_, rfl⟩
      rw [← hwS]
      rw [← hwS] at i0 i1 iS hT HB
      clear hwS
      go_loopw [6, 23] (fun v c W => ∃ k ao no co, k ≤ len0 ∧ c = .int .i64 (k : Int) ∧ v = .slice ao no co ∧ no ≤ 4096 ∧ IsInts .i64 W ao no co (setL fun n : Nat => decide ((n : Int) ∈ z0.take k)) ∧ Below wS.heap.size wS W) (fun _ c _ => len0 - (intOf c).toNat)
      case atStart => exact ⟨0, none, 0, 0, Nat.zero_le _, rfl, rfl, Nat.zero_le _, .inl ⟨rfl, rfl, rfl, setL_false fun n _ => by simp⟩, Below.refl _ _⟩
      case round =>
        obtain ⟨k, ao, no, co, hk, rfl, rfl, hno, iL, hb⟩ := hrel
        rcases Nat.lt_or_ge k len0 with hlt | hge
        · obtain ⟨b, off, rfl, hbl, hc⟩ := i0.at wr hb k hlt
          have HT := Lib.hid (take_succ_gi z0 k (by rw [HL.out]; exact hlt))
          have HB2 := Lib.hid (setL_step (l := z0) (k := k) (by rw [HL.out]; exact hlt))
          clear i0 i1 iS hT HB
          by_cases hr : 0 ≤ gi z0 k ∧ gi z0 k < 4096
          · obtain ⟨m, hm⟩ := Int.eq_ofNat_of_zero_le hr.1
            have hm4 : m < 4096 := by omega
            have HM := Lib.hid hm
            rw [hm] at hc
            clear hm hr
            have hr1 : decide ((0 : Int) ≤ (m : Int)) = true := decide_eq_true (by omega)
            have hr2 : decide ((m : Int) < 4096) = true := decide_eq_true (by omega)
            have hW := refWith_s (k := m) iL hno hm4
            go_wp2_with (go_at_call 14; refine hW.mono ?_; rintro e w3 ⟨a3, n3, c3, rfl, i3, s3, hb3⟩)
            go_roundw
            case rel => exact ⟨k + 1, a3, n3, c3, hlt, by go_num, rfl, s3, by rw [HB2.out.1 m hm4 HM.out]; exact i3, hb.trans (hb3.mono hb.size)⟩
            case measure => simp [intOf]; omega
          · have HR := Lib.hid hr
            by_cases h0 : 0 ≤ gi z0 k
            · have hr1 : decide ((0 : Int) ≤ gi z0 k) = true := decide_eq_true h0
              have hr2 : decide (gi z0 k < 4096) = false := decide_eq_false (fun h => hr ⟨h0, h⟩)
              clear hr h0
              go_wp2
              go_roundw
              case rel => exact ⟨k + 1, ao, no, co, hlt, by go_num, rfl, hno, by rw [HB2.out.2 HR.out]; exact iL, hb⟩
              case measure => simp [intOf]; omega
            · have hr1 : decide ((0 : Int) ≤ gi z0 k) = false := decide_eq_false h0
              clear hr h0
              go_wp2
              go_roundw
              case rel => exact ⟨k + 1, ao, no, co, hlt, by go_num, rfl, hno, by rw [HB2.out.2 HR.out]; exact iL, hb⟩
              case measure => simp [intOf]; omega
        · have hkm : k = len0 := by omega
          subst hkm
          rw [List.take_of_length_le (by rw [HL.out]; exact Nat.le_refl _)] at iL
          replace i1 := i1.later hb
          replace iS := iS.later hb
          replace hT := TabAt.later hT hb
          replace HB := HB.trans (hb.mono HB.size)
          have sL := hno
          clear hb i0 hno
          go_wp2_with (fail)
          refine (list_s i1 x1 hT).mono ?_
          rintro e w11 ⟨gX, tX, cX, rfl, iX, sX, hb⟩
          replace i1 := i1.later hb
          replace iS := iS.later hb
          replace iL := iL.later hb
          replace hT := TabAt.later hT hb
          replace HB := HB.trans (hb.mono HB.size)
          clear hb
          go_wp2_with (fail)
          refine (make_s iX (setL_wf _)).mono ?_
          rintro e w12 ⟨gB, tB, zB, rfl, iB, cB, sB, hb⟩
          have xB := cB.1
          have bB := Lib.hid cB.2.2
          replace i1 := i1.later hb
          replace iS := iS.later hb
          replace iL := iL.later hb
          replace iX := iX.later hb
          replace hT := TabAt.later hT hb
          replace HB := HB.trans (hb.mono HB.size)
          clear hb
          go_wp2_with (fail)
          refine (same_yes iS iL cS (by omega) sL (fun n hn => rfl)).mono ?_
          rintro e w13 ⟨rfl, hb⟩
          replace i1 := i1.later hb
          replace iS := iS.later hb
          replace iL := iL.later hb
          replace iB := iB.later hb
          replace hT := TabAt.later hT hb
          replace HB := HB.trans (hb.mono HB.size)
          clear hb
          go_wp2_with (fail)
          refine (valid_yes iS cS).mono ?_
          rintro e w14 ⟨rfl, hb⟩
          replace i1 := i1.later hb
          replace iS := iS.later hb
          replace iL := iL.later hb
          replace iB := iB.later hb
          replace hT := TabAt.later hT hb
          replace HB := HB.trans (hb.mono HB.size)
          clear hb
          go_wp2_with (fail)
          refine (list_s iS xS hT).mono ?_
          rintro e w15 ⟨gY, tY, cY, rfl, iY, sY, hb⟩
          replace i1 := i1.later hb
          replace iS := iS.later hb
          replace iL := iL.later hb
          replace iB := iB.later hb
          replace hT := TabAt.later hT hb
          replace HB := HB.trans (hb.mono HB.size)
          clear hb
          go_wp2_with (fail)
          refine (refSame_yes iY iL sY cS.2.2).mono ?_
          rintro e w16 ⟨rfl, hb⟩
          replace i1 := i1.later hb
          replace iS := iS.later hb
          replace iL := iL.later hb
          replace iB := iB.later hb
          replace iY := iY.later hb
          replace hT := TabAt.later hT hb
          replace HB := HB.trans (hb.mono HB.size)
          clear hb
          go_wp2_with (fail)
          refine (equal_yes iB i1 xB x1 (fun n hn => by rw [bB.out n hn]; exact mem_iff_bt hn rfl)).mono ?_
          rintro e w17 ⟨rfl, hb⟩
          replace i1 := i1.later hb
          replace iS := iS.later hb
          replace iL := iL.later hb
          replace iB := iB.later hb
          replace hT := TabAt.later hT hb
          replace HB := HB.trans (hb.mono HB.size)
          clear hb
          go_wp2_with (fail)
          refine (valid_yes iB cB).mono ?_
          rintro e w18 ⟨rfl, hb⟩
          replace i1 := i1.later hb
          replace iS := iS.later hb
          replace iL := iL.later hb
          replace iB := iB.later hb
          replace hT := TabAt.later hT hb
          replace HB := HB.trans (hb.mono HB.size)
          clear hb
          go_wp2_with (fail)
          go_ret
          exact ⟨rfl, HB⟩
    · clear i0 i1 b0
      have h3 := Lib.hid h3
      have HB := Below.refl w.heap.size w
      go_enter Tryd.func3, Tryd.ntmps3
      go_wp2_with (fail)
      refine (awake_any w hT).mono ?_
      rintro e w1 ⟨rfl, hb⟩
      replace hT := TabAt.later hT hb
      replace HB := HB.trans (hb.mono HB.size)
      clear hb
      go_wp2_with (fail)
      refine (few_no _ _ hf).mono ?_
      rintro e w2 ⟨rfl, rfl⟩
      go_wp2_with (fail)
      go_ret
      exact ⟨rfl, HB⟩
  · have h3' : decide ((300 : Int) < (len0 : Int)) = true := decide_eq_true (by omega)
    clear i0 i1 h3
    have HB := Below.refl w.heap.size w
    go_enter Tryd.func3, Tryd.ntmps3
    go_wp2_with (fail)
    refine (awake_any w hT).mono ?_
    rintro e w1 ⟨rfl, hb⟩
    replace hT := TabAt.later hT hb
    replace HB := HB.trans (hb.mono HB.size)
    clear hb
    go_wp2_with (fail)
    go_ret
    exact ⟨rfl, HB⟩
end Go.Proofs.YtmeldbddbinnbaaDoor
