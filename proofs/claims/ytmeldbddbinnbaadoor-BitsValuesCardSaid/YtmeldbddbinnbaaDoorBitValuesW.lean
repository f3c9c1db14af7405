/-
  BitsValues: the walk.
-/
import Derived.Test.YtmeldbddbinnbaaDoorBitVa
set_option linter.unusedSimpArgs false
set_option linter.unusedVariables false
namespace Go.Proofs.YtmeldbddbinnbaaDoor
open Go.RowKit Go.Shelf
attribute [local go_sem] Oper.semAt_some

set_option maxRecDepth 20000 in
set_option maxHeartbeats 1000000 in
theorem bitsValues_walk (a0 : Option Addr) (len0 cap0 : Nat) (z0 : List Int) (a1 : Option Addr) (len1 cap1 : Nat) (z1 : List Int) (n : Int) (w : World) (i0 : IsInts .u64 w a0 len0 cap0 z0) (b0 : ∀ n ∈ z0, (Lit.int .u64 n).wf = true) (m0 : cap0 * 8 ≤ 140737488351232) (i1 : IsInts .u64 w a1 len1 cap1 z1) (b1 : ∀ n ∈ z1, (Lit.int .u64 n).wf = true) (m1 : cap1 * 8 ≤ 140737488351232) (hn : (Lit.int .u16 n).wf = true) (hT : TabAt 0 Lib.deBruijn64tab w) :
    Calls Tryd.prog 4 #[.slice a0 len0 cap0, .slice a1 len1 cap1, .int .u16 n] w fun e w' => e = .returned (.bool true) ∧ Below w.heap.size w w' := by
  by_cases hf : len0 ≤ 70 ∧ len1 ≤ 70
  · obtain ⟨s0, s1⟩ := hf
    have x0 := w64_of_wf b0
    have x1 := w64_of_wf b1
    obtain ⟨m, hm, hk⟩ := u16_rem hn
    subst hm
    obtain ⟨K, hK, hlt⟩ : ∃ K : Nat, (m : Int) % 4096 = (K : Int) ∧ K < 4096 := ⟨m % 4096, by omega, by omega⟩
    have hwf := Lib.hid (wf_small (n := K) (by omega))
    have HZ := Lib.hid i0.length
    clear b0 b1 m0 m1
    have HB := Below.refl w.heap.size w
    go_enter Tryd.func4, Tryd.ntmps4
    go_wp2_with (fail)
    refine (awake_any w hT).mono ?_
    rintro e w1 ⟨rfl, hb⟩
    replace i0 := i0.later hb
    replace i1 := i1.later hb
    replace hT := TabAt.later hT hb
    replace HB := HB.trans (hb.mono HB.size)
    clear hb
    go_wp2_with (fail)
    refine (few_yes _ _ s0 s1).mono ?_
    rintro e w2 ⟨rfl, rfl⟩
    have i0' := i0.later ((Below.refl _ w2).alloc (Nat.le_refl _) (.cells #[] 39))
    go_wp2_with (at_builtin; refine app_ints0 (k := .u64) (v := .slice (some ⟨w2.heap.size, 0, none⟩) 0 0) elU64s rfl _ _ rfl rfl (World.ownsRow_made _ _ _ (Nat.le_refl _) (by decide) rfl) rfl i0' (by omega) (by simp) ?_; intro a2 c2 w3 ho2 hgr hbel hnil; clear hnil hgr; have hb : Below w2.heap.size w2 w3 := ((Below.refl _ w2).alloc (Nat.le_refl _) _).trans hbel; clear hbel i0')
    have HB2 := HB
    have HO2 := Lib.hid hb
    have iO := (IsInts.of_owns ho2).1
    have iB0 := i0
    have iB1 := i1
    have hT2 := hT
    replace i0 := i0.later hb
    replace i1 := i1.later hb
    replace hT := TabAt.later hT hb
    replace HB := HB.trans (hb.mono HB.size)
    clear hb
    have H3 := Below.refl w3.heap.size w3
    refine (with_p iO x0 hwf.out (by omega)).mono ?_
    rintro e w4 ⟨pA, gA, tA, zA, rfl, PA, cA, sA, hb⟩
    have RA := Row64.of_part PA
    have BA := PA.base
    replace H3 := H3.trans (hb.mono H3.size)
    have Z4 := hb.size
    replace i0 := i0.later hb
    replace i1 := i1.later hb
    replace iO := iO.later hb
    replace hT := TabAt.later hT hb
    replace HB := HB.trans (hb.mono HB.size)
    clear hb
    go_wp2_with (fail)
    refine (without_p iO x0 hwf.out (by omega)).mono ?_
    rintro e w5 ⟨pB, gB, tB, zB, rfl, PB, cB, sB, hb⟩
    replace RA := RA.later hb
    have RB := Row64.of_part PB
    have BB := PB.base
    replace H3 := H3.trans (hb.mono H3.size)
    have Z5 := hb.size
    replace i0 := i0.later hb
    replace i1 := i1.later hb
    replace iO := iO.later hb
    replace hT := TabAt.later hT hb
    replace HB := HB.trans (hb.mono HB.size)
    clear hb
    go_wp2_with (fail)
    refine (union_p iO i1 x0 x1 (by omega) (by omega)).mono ?_
    rintro e w6 ⟨gC, tC, zC, rfl, PC, cC, sC, hb⟩
    replace RA := RA.later hb
    replace RB := RB.later hb
    have RC := Row64.of_part PC
    have BC := PC.base
    replace H3 := H3.trans (hb.mono H3.size)
    have Z6 := hb.size
    replace i0 := i0.later hb
    replace i1 := i1.later hb
    replace iO := iO.later hb
    replace hT := TabAt.later hT hb
    replace HB := HB.trans (hb.mono HB.size)
    clear hb
    go_wp2_with (fail)
    refine (union_p i1 iO x1 x0 (by omega) (by omega)).mono ?_
    rintro e w7 ⟨gD, tD, zD, rfl, PD, cD, sD, hb⟩
    replace RA := RA.later hb
    replace RB := RB.later hb
    replace RC := RC.later hb
    have RD := Row64.of_part PD
    have BD := PD.base
    replace H3 := H3.trans (hb.mono H3.size)
    have Z7 := hb.size
    replace i0 := i0.later hb
    replace i1 := i1.later hb
    replace iO := iO.later hb
    replace hT := TabAt.later hT hb
    replace HB := HB.trans (hb.mono HB.size)
    clear hb
    go_wp2_with (fail)
    refine (minus_p iO i1 x0 x1 (by omega) (by omega)).mono ?_
    rintro e w8 ⟨gE, tE, zE, rfl, PE, cE, sE, hb⟩
    replace RA := RA.later hb
    replace RB := RB.later hb
    replace RC := RC.later hb
    replace RD := RD.later hb
    have RE := Row64.of_part PE
    have BE := PE.base
    replace H3 := H3.trans (hb.mono H3.size)
    have Z8 := hb.size
    replace i0 := i0.later hb
    replace i1 := i1.later hb
    replace iO := iO.later hb
    replace hT := TabAt.later hT hb
    replace HB := HB.trans (hb.mono HB.size)
    clear hb
    go_wp2_with (fail)
    refine (inter_p iO iO x0 x0 (by omega) (by omega)).mono ?_
    rintro e w9 ⟨gF, tF, zF, rfl, PF, cF, sF, hb⟩
    replace RA := RA.later hb
    replace RB := RB.later hb
    replace RC := RC.later hb
    replace RD := RD.later hb
    replace RE := RE.later hb
    have RF := Row64.of_part PF
    have BF := PF.base
    replace H3 := H3.trans (hb.mono H3.size)
    have Z9 := hb.size
    replace i0 := i0.later hb
    replace i1 := i1.later hb
    replace iO := iO.later hb
    replace hT := TabAt.later hT hb
    replace HB := HB.trans (hb.mono HB.size)
    clear hb
    go_wp2_with (fail)
    have hbL : Below w9.heap.size w9 (w9.alloc (.cells #[.slice (some ⟨gA, 0, none⟩) tA tA, .slice (some ⟨gB, 0, none⟩) tB tB, .slice (some ⟨gC, 0, none⟩) tC tC, .slice (some ⟨gD, 0, none⟩) tD tD, .slice (some ⟨gE, 0, none⟩) tE tE, .slice (some ⟨gF, 0, none⟩) tF tF] 26)) := (Below.refl _ w9).alloc (Nat.le_refl _) _
    have hR : Rows64 (w9.alloc (.cells #[.slice (some ⟨gA, 0, none⟩) tA tA, .slice (some ⟨gB, 0, none⟩) tB tB, .slice (some ⟨gC, 0, none⟩) tC tC, .slice (some ⟨gD, 0, none⟩) tD tD, .slice (some ⟨gE, 0, none⟩) tE tE, .slice (some ⟨gF, 0, none⟩) tF tF] 26)) w9.heap.size [(gA, tA), (gB, tB), (gC, tC), (gD, tD), (gE, tE), (gF, tF)] := by
      refine ⟨fun p hp => ?_, _, heap_alloc_new w9 _⟩
      simp only [List.mem_cons, List.not_mem_nil, or_false] at hp
      rcases hp with rfl | rfl | rfl | rfl | rfl | rfl
      · exact ⟨RA.later hbL, by show gA ≠ _; omega⟩
      · exact ⟨RB.later hbL, by show gB ≠ _; omega⟩
      · exact ⟨RC.later hbL, by show gC ≠ _; omega⟩
      · exact ⟨RD.later hbL, by show gD ≠ _; omega⟩
      · exact ⟨RE.later hbL, by show gE ≠ _; omega⟩
      · exact ⟨RF.later hbL, by show gF ≠ _; omega⟩
    have hG : ∀ p ∈ [(gA, tA), (gB, tB), (gC, tC), (gD, tD), (gE, tE), (gF, tF)], w3.heap.size ≤ p.1 ∧ p.2 ≤ 64 := by
      intro p hp
      simp only [List.mem_cons, List.not_mem_nil, or_false] at hp
      rcases hp with rfl | rfl | rfl | rfl | rfl | rfl
      · exact ⟨by show _ ≤ gA; omega, sA⟩
      · exact ⟨by show _ ≤ gB; omega, sB⟩
      · exact ⟨by show _ ≤ gC; omega, sC⟩
      · exact ⟨by show _ ≤ gD; omega, sD⟩
      · exact ⟨by show _ ≤ gE; omega, sE⟩
      · exact ⟨by show _ ≤ gF; omega, sF⟩
    have hLen : ([(gA, tA), (gB, tB), (gC, tC), (gD, tD), (gE, tE), (gF, tF)] : List (Nat × Nat)).length = 6 := rfl
    generalize w9.alloc (.cells #[.slice (some ⟨gA, 0, none⟩) tA tA, .slice (some ⟨gB, 0, none⟩) tB tB, .slice (some ⟨gC, 0, none⟩) tC tC, .slice (some ⟨gD, 0, none⟩) tD tD, .slice (some ⟨gE, 0, none⟩) tE tE, .slice (some ⟨gF, 0, none⟩) tF tF] 26) = wL at hbL hR ⊢
    generalize [(gA, tA), (gB, tB), (gC, tC), (gD, tD), (gE, tE), (gF, tF)] = ls at hR hG hLen
    generalize w9.heap.size = L at hR ⊢
    replace H3 := H3.trans (hbL.mono H3.size)
    replace i0 := i0.later hbL
    replace i1 := i1.later hbL
    replace iO := iO.later hbL
    replace hT := TabAt.later hT hbL
    replace HB := HB.trans (hbL.mono HB.size)
    replace hG := Lib.hid hG
    replace hLen := Lib.hid hLen
    clear RA RB RC RD RE RF BA BB BC BD BE BF PA PB PC PD PE PF hbL
    refine (sameWords_yes iO i0 (by omega)).mono ?_
    rintro e wM ⟨rfl, hb⟩
    replace hR := hR.later hb
    replace H3 := H3.trans (hb.mono H3.size)
    replace i0 := i0.later hb
    replace i1 := i1.later hb
    replace iO := iO.later hb
    replace hT := TabAt.later hT hb
    replace HB := HB.trans (hb.mono HB.size)
    clear hb
    go_wp2_with (fail)
    clear i0 i1 iO hT HB Z4 Z5 Z6 Z7 Z8 Z9 cA cB cC cD cE cF
    go_loopw [51] (fun c W => ∃ k : Nat, k ≤ 6 ∧ c = .int .i64 (k : Int) ∧ Rows64 W L ls ∧ Below w3.heap.size w3 W) (fun c _ => 6 - (intOf c).toNat)
    case atStart => exact ⟨0, Nat.zero_le _, rfl, hR, H3⟩
    case round =>
      obtain ⟨k, hk, rfl, hR1, H4⟩ := hrel
      clear hR H3
      rcases Nat.lt_or_ge k 6 with hlt | hge
      · obtain ⟨g, t, hgt⟩ : ∃ g t, ls[k]? = some (g, t) := ⟨_, _, List.getElem?_eq_getElem (by rw [hLen.out]; exact hlt)⟩
        have hc := (hR1.get hgt).2.1
        have hG1 := hG.out _ (hR1.get hgt).1
        have hg3 : w3.heap.size ≤ g := hG1.1
        have ht : t ≤ 64 := hG1.2
        clear hG1
        go_wp2
        go_loopw [59] (fun d W => ∃ j : Nat, j ≤ t ∧ d = .int .i64 (j : Int) ∧ Rows64 W L ls ∧ Below w3.heap.size w3 W) (fun d _ => t - (intOf d).toNat)
        case atStart => exact ⟨0, Nat.zero_le _, rfl, hR1, H4⟩
        case round =>
          obtain ⟨j, hj, rfl, hR2, H5⟩ := hrel
          clear hR1 H4 hc
          rcases Nat.lt_or_ge j t with hjt | hjt
          · obtain ⟨hm, hc, hrow⟩ := hR2.get hgt
            obtain ⟨x, hx, hfr⟩ := hrow.cell j hjt
            go_wp2
            go_roundw
            case rel => exact ⟨j + 1, hjt, by go_num, hR2.set hm j _, H5.setCell (p := ⟨g, j, none⟩) hg3 _⟩
            case measure => simp [intOf]; omega
          · have e : j = t := by omega
            subst e
            go_wp2
            go_roundw
            case rel => exact ⟨k + 1, hlt, by go_num, hR2, H5⟩
            case measure => simp [intOf]; omega
      · have e : k = 6 := by omega
        subst e
        have H3 := H4
        have HX := HO2.out.trans (H3.mono HO2.out.size)
        have i0 := iB0.later HX
        have i1 := iB1.later HX
        have iO := (IsInts.of_owns ho2).1.later H3
        have hT := TabAt.later hT2 HX
        have HB := HB2.trans (HX.mono HB2.size)
        have hoW := ho2.kept_below H3
        clear hR1 H4
        go_wp2_with (fail)
        refine (sameWords_yes iO i0 (by omega)).mono ?_
        rintro e wN ⟨rfl, hb⟩
        replace hoW := hoW.kept_below hb
        replace HX := HX.trans (hb.mono HX.size)
        have hgO : Hid (∀ g, a2 = some ⟨g, 0, none⟩ → 0 < len0 → g < wN.heap.size ∧ w2.heap.size ≤ g) := Lib.hid (fun g e h => by subst e; obtain ⟨g', e', h1, h2⟩ := owns_at hoW h; injection e' with e'; injection e' with e'; subst e'; exact ⟨h2, h1⟩)
        replace i0 := i0.later hb
        replace i1 := i1.later hb
        replace iO := iO.later hb
        replace hT := TabAt.later hT hb
        replace HB := HB.trans (hb.mono HB.size)
        clear hb
        go_wp2_with (fail)
        refine (union_p iO i1 x0 x1 (by omega) (by omega)).mono ?_
        rintro e wU ⟨gU, tU, zU, rfl, PU, cU, sU, hb⟩
        replace hoW := hoW.kept_below hb
        replace HX := HX.trans (hb.mono HX.size)
        replace i0 := i0.later hb
        replace i1 := i1.later hb
        replace iO := iO.later hb
        replace hT := TabAt.later hT hb
        replace HB := HB.trans (hb.mono HB.size)
        clear hb
        go_wp2_with (fail)
        clear i0 i1 iO hT HB
        go_loopw [82] (fun c W => ∃ (k : Nat) (zs : List Int), k ≤ len0 ∧ c = .int .i64 (k : Int) ∧ W.ownsRow w2.heap.size 39 1 (.slice a2 len0 c2) len0 (ivs .u64 zs) ∧ zs.length = len0 ∧ PartOf .u64 39 W wN.heap.size gU tU zU ∧ Below w2.heap.size w2 W) (fun c _ => len0 - (intOf c).toNat)
        case atStart => exact ⟨0, z0, Nat.zero_le _, rfl, hoW, HZ.out, PU, HX⟩
        case round =>
          obtain ⟨k, zs, hk, rfl, ho, hz, PU1, HX1⟩ := hrel
          clear hoW PU HX
          rcases Nat.lt_or_ge k len0 with hlt | hge
          · obtain ⟨gO, rfl, _, _⟩ := owns_at ho (by omega)
            obtain ⟨hg1, hg2⟩ := hgO.out gO rfl (by omega)
            obtain ⟨hc, hfr⟩ := own_cell ho k hlt hz
            replace hz := Lib.hid hz
            go_wp2
            go_roundw
            case rel => exact ⟨k + 1, zs.set k _, hlt, by go_num, own_store ho k _, by rw [List.length_set]; exact hz.out, PU1.below (a := ⟨gO, k, none⟩) hg1 _, HX1.setCell (p := ⟨gO, k, none⟩) hg2 _⟩
            case measure => simp [intOf]; omega
          · have e : k = len0 := by omega
            subst e
            have i0 := iB0.later HX1
            have i1 := iB1.later HX1
            have iU := PU1.ints
            have hT := TabAt.later hT2 HX1
            have HB := HB2.trans (HX1.mono HB2.size)
            clear ho hz PU1 HX1 iB0 iB1 hT2 HB2
            go_wp2_with (fail)
            refine (union_s i0 i1 x0 x1 (by omega) (by omega)).mono ?_
            rintro e w41 ⟨gV, tV, zV, rfl, iV, cV, sV, hb⟩
            have xV := cV.1
            have bV := Lib.hid cV.2.2
            replace i0 := i0.later hb
            replace i1 := i1.later hb
            replace iU := iU.later hb
            replace hT := TabAt.later hT hb
            replace HB := HB.trans (hb.mono HB.size)
            clear hb
            go_wp2_with (fail)
            refine (equal_yes iU iV cU.1 xV (fun n hn => by rw [cU.2.2 n hn, bV.out n hn])).mono ?_
            rintro e w42 ⟨rfl, hb⟩
            replace i0 := i0.later hb
            replace i1 := i1.later hb
            replace iU := iU.later hb
            replace iV := iV.later hb
            replace hT := TabAt.later hT hb
            replace HB := HB.trans (hb.mono HB.size)
            clear hb
            go_wp2_with (fail)
            go_ret
            exact ⟨rfl, HB⟩
  · clear i0 i1
    have HB := Below.refl w.heap.size w
    go_enter Tryd.func4, Tryd.ntmps4
    go_wp2_with (fail)
    refine (awake_any w hT).mono ?_
    rintro e w1 ⟨rfl, hb⟩
    replace hT := TabAt.later hT hb
    replace HB := HB.trans (hb.mono HB.size)
    clear hb
    go_wp2_with (fail)
    refine (few_no _ _ hf).mono ?_
    rintro e w2 ⟨rfl, rfl⟩
    go_wp2_with (fail)
    go_ret
    exact ⟨rfl, HB⟩
end Go.Proofs.YtmeldbddbinnbaaDoor
