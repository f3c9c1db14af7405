/-
  BitsCounts: the walk.
-/
import Derived.Test.YtmeldbddbinnbaaDoorBitAm
set_option linter.unusedSimpArgs false
set_option linter.unusedVariables false
namespace Go.Proofs.YtmeldbddbinnbaaDoor
open Go.RowKit Go.Shelf
attribute [local go_sem] Oper.semAt_some

set_option maxRecDepth 20000 in
set_option maxHeartbeats 4000000 in
theorem bitsCounts_walk (a0 : Option Addr) (len0 cap0 : Nat) (z0 : List Int) (a1 : Option Addr) (len1 cap1 : Nat) (z1 : List Int) (n : Int) (w : World) (i0 : IsInts .u64 w a0 len0 cap0 z0) (b0 : ∀ n ∈ z0, (Lit.int .u64 n).wf = true) (m0 : cap0 * 8 ≤ 140737488351232) (i1 : IsInts .u64 w a1 len1 cap1 z1) (b1 : ∀ n ∈ z1, (Lit.int .u64 n).wf = true) (m1 : cap1 * 8 ≤ 140737488351232) (hn : (Lit.int .u16 n).wf = true) (hT : TabAt 0 Lib.deBruijn64tab w) :
    Calls Tryd.prog 5 #[.slice a0 len0 cap0, .slice a1 len1 cap1, .int .u16 n] w fun e w' => e = .returned (.bool true) ∧ Below w.heap.size w w' := by
  by_cases hf : len0 ≤ 70 ∧ len1 ≤ 70
  · obtain ⟨s0, s1⟩ := hf
    have x0 := w64_of_wf b0
    have x1 := w64_of_wf b1
    obtain ⟨m, hm, hk⟩ := u16_rem hn
    subst hm
    obtain ⟨K, hK, hlt⟩ : ∃ K : Nat, (m : Int) % 4096 = (K : Int) ∧ K < 4096 := ⟨m % 4096, by omega, by omega⟩
    have hwf := wf_small (n := K) (by omega)
    obtain ⟨c1, e1, q1⟩ : ∃ c1, Hid (cnt (bt z1) = c1) ∧ c1 ≤ 4096 := ⟨_, Lib.hid rfl, cnt_le _⟩
    by_cases hh : bt z0 K = true
    · obtain ⟨c0, e0, q0⟩ : ∃ c0, Hid (cnt (bt z0) = c0 + 1) ∧ c0 ≤ 4096 := ⟨cnt (bt z0) - 1, Lib.hid (by have := cnt_pos hlt hh; omega), by have := cnt_le (bt z0); omega⟩
      have HB := Below.refl w.heap.size w
      go_enter Tryd.func5, Tryd.ntmps5
      go_wp2_with (fail)
      refine (awake_any w hT).mono ?_
      rintro e w1 ⟨rfl, hb⟩
      replace i0 := i0.later hb
      replace i1 := i1.later hb
      replace hT := TabAt.later hT hb
      replace HB := HB.trans (hb.mono HB.size)
      clear hb
      go_wp2_with (fail)
      refine (few_yes _ _ s0 s1).mono ?_
      rintro e w2 ⟨rfl, rfl⟩
      go_wp2_with (fail)
      refine (has_v i0 x0 (b := true) (mem_iff_bt hlt hh)).mono ?_
      rintro e w3 ⟨rfl, hb⟩
      replace i0 := i0.later hb
      replace i1 := i1.later hb
      replace hT := TabAt.later hT hb
      replace HB := HB.trans (hb.mono HB.size)
      clear hb
      go_wp2_with (fail)
      refine (union_s i0 i1 x0 x1 (by omega) (by omega)).mono ?_
      rintro e w4 ⟨gU, tU, zU, rfl, iU, cU, sU, hb⟩
      have xU := cU.1
      have bU := Lib.hid cU.2.2
      replace i0 := i0.later hb
      replace i1 := i1.later hb
      replace hT := TabAt.later hT hb
      replace HB := HB.trans (hb.mono HB.size)
      clear hb
      go_wp2_with (fail)
      have eU := cnt_congr bU.out
      refine (len_n iU xU eU).mono ?_
      rintro e w5 ⟨rfl, hb⟩
      replace i0 := i0.later hb
      replace i1 := i1.later hb
      replace iU := iU.later hb
      replace hT := TabAt.later hT hb
      replace HB := HB.trans (hb.mono HB.size)
      clear hb
      go_wp2_with (fail)
      refine (inter_s i0 i1 x0 x1 (by omega) (by omega)).mono ?_
      rintro e w6 ⟨gV, tV, zV, rfl, iV, cV, sV, hb⟩
      have xV := cV.1
      have bV := Lib.hid cV.2.2
      replace i0 := i0.later hb
      replace i1 := i1.later hb
      replace iU := iU.later hb
      replace hT := TabAt.later hT hb
      replace HB := HB.trans (hb.mono HB.size)
      clear hb
      go_wp2_with (fail)
      have eV := cnt_congr bV.out
      refine (len_n iV xV eV).mono ?_
      rintro e w7 ⟨rfl, hb⟩
      replace i0 := i0.later hb
      replace i1 := i1.later hb
      replace iU := iU.later hb
      replace iV := iV.later hb
      replace hT := TabAt.later hT hb
      replace HB := HB.trans (hb.mono HB.size)
      clear hb
      have eS := cnt_or_and (bt z0) (bt z1)
      rw [e0.out, e1.out] at eS
      have qU := cnt_le fun n => bt z0 n || bt z1 n
      have qV := cnt_le fun n => bt z0 n && bt z1 n
      generalize cnt (fun n => bt z0 n || bt z1 n) = cU at *
      generalize cnt (fun n => bt z0 n && bt z1 n) = cV at *
      clear eU eV
      go_wp2_with (fail)
      refine (len_n i0 x0 e0.out).mono ?_
      rintro e w8 ⟨rfl, hb⟩
      replace i0 := i0.later hb
      replace i1 := i1.later hb
      replace hT := TabAt.later hT hb
      replace HB := HB.trans (hb.mono HB.size)
      clear hb
      go_wp2_with (fail)
      refine (len_n i1 x1 e1.out).mono ?_
      rintro e w9 ⟨rfl, hb⟩
      replace i0 := i0.later hb
      replace i1 := i1.later hb
      replace hT := TabAt.later hT hb
      replace HB := HB.trans (hb.mono HB.size)
      clear hb
      go_wp2_with (fail)
      refine (with_s i0 x0 hwf (by omega)).mono ?_
      rintro e w10 ⟨gP, tP, zP, rfl, iP, cP, sP, hb⟩
      have xP := cP.1
      have bP := Lib.hid cP.2.2
      replace i0 := i0.later hb
      replace i1 := i1.later hb
      replace hT := TabAt.later hT hb
      replace HB := HB.trans (hb.mono HB.size)
      clear hb
      go_wp2_with (fail)
      have eP := Lib.hid (cnt_with_yes hlt hh bP.out)
      rw [e0.out] at eP
      refine (len_n iP xP eP.out).mono ?_
      rintro e w11 ⟨rfl, hb⟩
      replace i0 := i0.later hb
      replace i1 := i1.later hb
      replace iP := iP.later hb
      replace hT := TabAt.later hT hb
      replace HB := HB.trans (hb.mono HB.size)
      clear hb
      go_wp2_with (fail)
      refine (len_n i0 x0 e0.out).mono ?_
      rintro e w12 ⟨rfl, hb⟩
      replace i0 := i0.later hb
      replace i1 := i1.later hb
      replace hT := TabAt.later hT hb
      replace HB := HB.trans (hb.mono HB.size)
      clear hb
      go_wp2_with (fail)
      refine (without_s i0 x0 hwf (by omega)).mono ?_
      rintro e w13 ⟨gQ, tQ, zQ, rfl, iQ, cQ, sQ, hb⟩
      have xQ := cQ.1
      have bQ := Lib.hid cQ.2.2
      replace i0 := i0.later hb
      replace i1 := i1.later hb
      replace hT := TabAt.later hT hb
      replace HB := HB.trans (hb.mono HB.size)
      clear hb
      go_wp2_with (fail)
      have eQ := Lib.hid (cnt_without_yes hlt hh bQ.out)
      rw [e0.out] at eQ
      rw [Nat.add_sub_cancel] at eQ
      refine (len_n iQ xQ eQ.out).mono ?_
      rintro e w14 ⟨rfl, hb⟩
      replace i0 := i0.later hb
      replace i1 := i1.later hb
      replace iQ := iQ.later hb
      replace hT := TabAt.later hT hb
      replace HB := HB.trans (hb.mono HB.size)
      clear hb
      go_wp2_with (fail)
      refine (len_n i0 x0 e0.out).mono ?_
      rintro e w15 ⟨rfl, hb⟩
      replace i0 := i0.later hb
      replace i1 := i1.later hb
      replace hT := TabAt.later hT hb
      replace HB := HB.trans (hb.mono HB.size)
      clear hb
      go_wp2_with (fail)
      go_ret
      exact ⟨rfl, HB⟩
    · replace hh : bt z0 K = false := by simpa using hh
      obtain ⟨c0, e0, q0⟩ : ∃ c0, Hid (cnt (bt z0) = c0) ∧ c0 ≤ 4096 := ⟨_, Lib.hid rfl, cnt_le _⟩
      have HB := Below.refl w.heap.size w
      go_enter Tryd.func5, Tryd.ntmps5
      go_wp2_with (fail)
      refine (awake_any w hT).mono ?_
      rintro e w1 ⟨rfl, hb⟩
      replace i0 := i0.later hb
      replace i1 := i1.later hb
      replace hT := TabAt.later hT hb
      replace HB := HB.trans (hb.mono HB.size)
      clear hb
      go_wp2_with (fail)
      refine (few_yes _ _ s0 s1).mono ?_
      rintro e w2 ⟨rfl, rfl⟩
      go_wp2_with (fail)
      refine (has_v i0 x0 (b := false) (mem_iff_bt hlt hh)).mono ?_
      rintro e w3 ⟨rfl, hb⟩
      replace i0 := i0.later hb
      replace i1 := i1.later hb
      replace hT := TabAt.later hT hb
      replace HB := HB.trans (hb.mono HB.size)
      clear hb
      go_wp2_with (fail)
      refine (union_s i0 i1 x0 x1 (by omega) (by omega)).mono ?_
      rintro e w4 ⟨gU, tU, zU, rfl, iU, cU, sU, hb⟩
      have xU := cU.1
      have bU := Lib.hid cU.2.2
      replace i0 := i0.later hb
      replace i1 := i1.later hb
      replace hT := TabAt.later hT hb
      replace HB := HB.trans (hb.mono HB.size)
      clear hb
      go_wp2_with (fail)
      have eU := cnt_congr bU.out
      refine (len_n iU xU eU).mono ?_
      rintro e w5 ⟨rfl, hb⟩
      replace i0 := i0.later hb
      replace i1 := i1.later hb
      replace iU := iU.later hb
      replace hT := TabAt.later hT hb
      replace HB := HB.trans (hb.mono HB.size)
      clear hb
      go_wp2_with (fail)
      refine (inter_s i0 i1 x0 x1 (by omega) (by omega)).mono ?_
      rintro e w6 ⟨gV, tV, zV, rfl, iV, cV, sV, hb⟩
      have xV := cV.1
      have bV := Lib.hid cV.2.2
      replace i0 := i0.later hb
      replace i1 := i1.later hb
      replace iU := iU.later hb
      replace hT := TabAt.later hT hb
      replace HB := HB.trans (hb.mono HB.size)
      clear hb
      go_wp2_with (fail)
      have eV := cnt_congr bV.out
      refine (len_n iV xV eV).mono ?_
      rintro e w7 ⟨rfl, hb⟩
      replace i0 := i0.later hb
      replace i1 := i1.later hb
      replace iU := iU.later hb
      replace iV := iV.later hb
      replace hT := TabAt.later hT hb
      replace HB := HB.trans (hb.mono HB.size)
      clear hb
      have eS := cnt_or_and (bt z0) (bt z1)
      rw [e0.out, e1.out] at eS
      have qU := cnt_le fun n => bt z0 n || bt z1 n
      have qV := cnt_le fun n => bt z0 n && bt z1 n
      generalize cnt (fun n => bt z0 n || bt z1 n) = cU at *
      generalize cnt (fun n => bt z0 n && bt z1 n) = cV at *
      clear eU eV
      go_wp2_with (fail)
      refine (len_n i0 x0 e0.out).mono ?_
      rintro e w8 ⟨rfl, hb⟩
      replace i0 := i0.later hb
      replace i1 := i1.later hb
      replace hT := TabAt.later hT hb
      replace HB := HB.trans (hb.mono HB.size)
      clear hb
      go_wp2_with (fail)
      refine (len_n i1 x1 e1.out).mono ?_
      rintro e w9 ⟨rfl, hb⟩
      replace i0 := i0.later hb
      replace i1 := i1.later hb
      replace hT := TabAt.later hT hb
      replace HB := HB.trans (hb.mono HB.size)
      clear hb
      go_wp2_with (fail)
      refine (with_s i0 x0 hwf (by omega)).mono ?_
      rintro e w10 ⟨gP, tP, zP, rfl, iP, cP, sP, hb⟩
      have xP := cP.1
      have bP := Lib.hid cP.2.2
      replace i0 := i0.later hb
      replace i1 := i1.later hb
      replace hT := TabAt.later hT hb
      replace HB := HB.trans (hb.mono HB.size)
      clear hb
      go_wp2_with (fail)
      have eP := Lib.hid (cnt_with_no hlt hh bP.out)
      rw [e0.out] at eP
      refine (len_n iP xP eP.out).mono ?_
      rintro e w11 ⟨rfl, hb⟩
      replace i0 := i0.later hb
      replace i1 := i1.later hb
      replace iP := iP.later hb
      replace hT := TabAt.later hT hb
      replace HB := HB.trans (hb.mono HB.size)
      clear hb
      go_wp2_with (fail)
      refine (len_n i0 x0 e0.out).mono ?_
      rintro e w12 ⟨rfl, hb⟩
      replace i0 := i0.later hb
      replace i1 := i1.later hb
      replace hT := TabAt.later hT hb
      replace HB := HB.trans (hb.mono HB.size)
      clear hb
      go_wp2_with (fail)
      refine (without_s i0 x0 hwf (by omega)).mono ?_
      rintro e w13 ⟨gQ, tQ, zQ, rfl, iQ, cQ, sQ, hb⟩
      have xQ := cQ.1
      have bQ := Lib.hid cQ.2.2
      replace i0 := i0.later hb
      replace i1 := i1.later hb
      replace hT := TabAt.later hT hb
      replace HB := HB.trans (hb.mono HB.size)
      clear hb
      go_wp2_with (fail)
      have eQ := Lib.hid (cnt_without_no hlt hh bQ.out)
      rw [e0.out] at eQ
      refine (len_n iQ xQ eQ.out).mono ?_
      rintro e w14 ⟨rfl, hb⟩
      replace i0 := i0.later hb
      replace i1 := i1.later hb
      replace iQ := iQ.later hb
      replace hT := TabAt.later hT hb
      replace HB := HB.trans (hb.mono HB.size)
      clear hb
      go_wp2_with (fail)
      refine (len_n i0 x0 e0.out).mono ?_
      rintro e w15 ⟨rfl, hb⟩
      replace i0 := i0.later hb
      replace i1 := i1.later hb
      replace hT := TabAt.later hT hb
      replace HB := HB.trans (hb.mono HB.size)
      clear hb
      go_wp2_with (fail)
      go_ret
      exact ⟨rfl, HB⟩
  · clear i0 i1
    have HB := Below.refl w.heap.size w
    go_enter Tryd.func5, Tryd.ntmps5
    go_wp2_with (fail)
    refine (awake_any w hT).mono ?_
    rintro e w1 ⟨rfl, hb⟩
    replace hT := TabAt.later hT hb
    replace HB := HB.trans (hb.mono HB.size)
    clear hb
    go_wp2_with (fail)
    refine (few_no _ _ hf).mono ?_
    rintro e w2 ⟨rfl, rfl⟩
    go_wp2_with (fail)
    go_ret
    exact ⟨rfl, HB⟩
end Go.Proofs.YtmeldbddbinnbaaDoor
