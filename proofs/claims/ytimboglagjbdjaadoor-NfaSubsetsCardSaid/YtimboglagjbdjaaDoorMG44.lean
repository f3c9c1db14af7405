import Derived.Test.YtimboglagjbdjaaDoorMG33
import Derived.Test.YtimboglagjbdjaaDoorMG34
import Derived.Test.YtimboglagjbdjaaDoorMG39
import Derived.Test.YtimboglagjbdjaaDoorMG43
/-
  NfaSubsetsW
-/
set_option linter.unusedSimpArgs false
set_option linter.unusedVariables false
namespace Go.Proofs.YtimboglagjbdjaaDoor
open List (foldr_cons foldr_nil setIfInBounds_toArray set_cons_succ set_cons_zero)
open Go.RowKit
attribute [local go_sem] Oper.semAt_some

theorem cell_later {w w' : World} {b j : Nat} {v : Value} (hb : Below w.heap.size w w') (h : w.cell? ⟨b, j, none⟩ = some v) : w'.cell? ⟨b, j, none⟩ = some v := (hb.cell (p := ⟨b, j, none⟩) (lt_of_cell h)).trans h
def OwnA5 (B n : Nat) (es : List A3) : Value → World → Prop := fun v W => ∃ a c, v = .slice a n c ∧ W.ownsRow B 65 3 (.slice a n c) n (tvs es)
theorem stays_ownA5 (B n : Nat) (es : List A3) : Stays (OwnA5 B n es) := fun v W W' hb ⟨a, c, e, h⟩ => ⟨a, c, e, h.kept_below hb⟩
theorem IsSets.at {w : World} {a : Option Addr} {len cap : Nat} {Q : List (List Int)} (h : IsSets w a len cap Q) {i : Nat} (hi : i < len) : ∃ (b off : Nat) (g : Addr) (t c : Nat) (zs : List Int), a = some ⟨b, off, none⟩ ∧ w.cell? ⟨b, off + i, none⟩ = some (.slice (some g) t c) ∧ IsInts .u64 w (some g) t c zs ∧ Bt.SetIs zs (inL (gw Q i)) ∧ t ≤ 64 := by
 rcases h with ⟨h, _⟩ | ⟨b, off, h1, h2, h3, h4, h5⟩
 ·omega
 ·obtain ⟨g, t, c, zs, k⟩ := h5 i hi
  exact ⟨b, off, g, t, c, zs, h1, k⟩
theorem detR_ok (a : Nfa) (L : Int) : (detR a L).q.length ≤ 1000 ∧ (detR a L).a.length ≤ 10000000 ∧ ∀ i, i < (detR a L).q.length → (gw (detR a L).q i).Pairwise (· < ·) ∧ Bd 4096 (gw (detR a L).q i) := by
 unfold detR
 by_cases hv : vN a = true
 ·rw [if_pos hv]
  by_cases hd : detOk a L = true
  ·rw [if_pos hd]
   have hv' := vN_iff.1 hv
   have hok := detOk_iff.1 hd
   refine ⟨hok.len, detB_alen a 1000, fun i hi => ?_⟩
   obtain ⟨h1, h2, h3⟩ := detF_cs hv' hi
   exact ⟨h3, fun z hz => by have := h1 z hz; have := hv'.1; omega⟩
  ·rw [if_neg hd]; exact ⟨Nat.zero_le _, Nat.zero_le _, fun i hi => absurd hi (Nat.not_lt_zero _)⟩
 ·rw [if_neg hv]; exact ⟨Nat.zero_le _, Nat.zero_le _, fun i hi => absurd hi (Nat.not_lt_zero _)⟩
set_option maxRecDepth 20000 in
set_option maxHeartbeats 16000000 in
theorem nfaSubsets_walk (a : Nfa) (h : NH) (LM : Int) (w : World) (ia : IsNfa w h a) (iT : TabW w) :
  Calls Tryd.prog 3 #[vNf a h, .int .i64 LM] w fun e w' => e = .returned (.bool true) ∧ Below w.heap.size w w' := by
 obtain ⟨W0, hW0, hs0, hb0, hO0⟩ := boxRN a h w ia
 replace ia := (hO0 W0 (Below.refl _ _)).2.1
 obtain ⟨c01, c02, c03, c04⟩ := (hO0 W0 (Below.refl _ _)).1
 have HB : Below w.heap.size w W0 := hb0
 clear hO0 hb0
 unfold vNf
 replace iT := iT.later HB
 by_cases fa : FewN a
 rotate_left
 ·have hx := fa
  go_enter Tryd.func3, Tryd.ntmps3
  go_wp2_with (fail)
  refine (awake_any iT).mono ?_
  rintro e w1 ⟨rfl, hb⟩
  replace c01 := cell_later hb c01
  replace c02 := cell_later hb c02
  replace c03 := cell_later hb c03
  replace c04 := cell_later hb c04
  replace ia := ia.later hb
  replace iT := iT.later hb
  replace HB := HB.trans (hb.mono HB.size)
  clear hb
  go_wp2_with (fail)
  refine (few_no ia fa).mono ?_
  rintro e w2 ⟨rfl, hb⟩
  replace c01 := cell_later hb c01
  replace c02 := cell_later hb c02
  replace c03 := cell_later hb c03
  replace c04 := cell_later hb c04
  replace ia := ia.later hb
  replace iT := iT.later hb
  replace HB := HB.trans (hb.mono HB.size)
  clear hb
  go_wp2_with (fail)
  go_ret
  exact ⟨rfl, HB⟩
 have fa3 : a.arcs.length ≤ 1000 := by have := fa.2.2.2; omega
 have kd := fun W h' (hd : IsNfa W h' a) (hT : TabW W) => Determinize_any (w := W) (h := h') (L := LM) hd hT
 have kr := fun W h' (hd : IsNfa W h' a) => refDeterminize_any (w := W) (h := h') (L := LM) hd
 have m3 := detR_ok a LM
 obtain ⟨D, hD⟩ : ∃ D, detR a LM = D := ⟨_, rfl⟩
 obtain ⟨E, hE⟩ : ∃ E, detE a LM = E := ⟨_, rfl⟩
 rw [hD] at kd kr m3
 rw [hE] at kd kr
 obtain ⟨m1, m2, m3⟩ := m3
 obtain ⟨ql, hql⟩ : ∃ n, D.q.length = n := ⟨_, rfl⟩
 obtain ⟨al, hal⟩ : ∃ n, D.a.length = n := ⟨_, rfl⟩
 rw [hql] at m1 m3
 rw [hal] at m2
 have KD := Lib.hid kd
 have KR := Lib.hid kr
 have M3 := Lib.hid m3
 have HQL := Lib.hid hql
 have HAL := Lib.hid hal
 clear kd kr m3 hD hE
 go_enter Tryd.func3, Tryd.ntmps3
 go_wp2_with (fail)
 refine (awake_any iT).mono ?_
 rintro e w3 ⟨rfl, hb⟩
 replace c01 := cell_later hb c01
 replace c02 := cell_later hb c02
 replace c03 := cell_later hb c03
 replace c04 := cell_later hb c04
 replace ia := ia.later hb
 replace iT := iT.later hb
 replace HB := HB.trans (hb.mono HB.size)
 clear hb
 go_wp2_with (fail)
 refine (few_yes ia fa).mono ?_
 rintro e w4 ⟨rfl, hb⟩
 replace c01 := cell_later hb c01
 replace c02 := cell_later hb c02
 replace c03 := cell_later hb c03
 replace c04 := cell_later hb c04
 replace ia := ia.later hb
 replace iT := iT.later hb
 replace HB := HB.trans (hb.mono HB.size)
 clear hb
 go_wp2_with (fail)
 refine (own_any ia fa3).mono ?_
 rintro e w5 ⟨⟨yp, rfl, ip⟩, hb⟩
 unfold vNf
 replace c01 := cell_later hb c01
 replace c02 := cell_later hb c02
 replace c03 := cell_later hb c03
 replace c04 := cell_later hb c04
 replace ia := ia.later hb
 replace iT := iT.later hb
 replace HB := HB.trans (hb.mono HB.size)
 clear hb
 go_wp2_with (fail)
 refine (KD.out _ _ ip iT).mono ?_
 rintro e w6 ⟨⟨v, rfl, sv⟩, hb⟩
 obtain ⟨aS, cS, aF, cF, aA, cA, rfl, iS, iF, iA⟩ := sv
 rw [hql] at iS iF ⊢
 rw [hal] at iA ⊢
 replace c01 := cell_later hb c01
 replace c02 := cell_later hb c02
 replace c03 := cell_later hb c03
 replace c04 := cell_later hb c04
 replace ia := ia.later hb
 replace iT := iT.later hb
 replace ip := ip.later hb
 replace HB := HB.trans (hb.mono HB.size)
 clear hb
 obtain ⟨WB, hWB⟩ : ∃ WB, w6.alloc (.cells #[.slice aS ql cS, .slice aF ql cF, .slice aA al cA] 32) = WB := ⟨_, rfl⟩
 have hb : Below w6.heap.size w6 WB := by rw [← hWB]; exact (Below.refl _ _).alloc (Nat.le_refl _) _
 go_upto_region 6 with (fail)
 try rw [hWB]
 have cs0 : WB.cell? ⟨w6.heap.size, 0, none⟩ = some (.slice aS ql cS) := by rw [← hWB]; exact cell_of_row _ _ 0 _ _ _ (heap_alloc_new w6 _)
 have cs1 : WB.cell? ⟨w6.heap.size, 1, none⟩ = some (.slice aF ql cF) := by rw [← hWB]; exact cell_of_row _ _ 1 _ _ _ (heap_alloc_new w6 _)
 have cs2 : WB.cell? ⟨w6.heap.size, 2, none⟩ = some (.slice aA al cA) := by rw [← hWB]; exact cell_of_row _ _ 2 _ _ _ (heap_alloc_new w6 _)
 clear hWB
 replace c01 := cell_later hb c01
 replace c02 := cell_later hb c02
 replace c03 := cell_later hb c03
 replace c04 := cell_later hb c04
 replace ia := ia.later hb
 replace iT := iT.later hb
 replace ip := ip.later hb
 replace iS := iS.later hb
 replace iF := iF.later hb
 replace iA := iA.later hb
 replace HB := HB.trans (hb.mono HB.size)
 clear hb
 obtain ⟨sb, hsb⟩ : ∃ x, w6.heap.size = x := ⟨_, rfl⟩
 rw [hsb] at cs0 cs1 cs2 ⊢
 clear hsb
 go_wp2_with (fail)
 refine (KR.out _ _ ia).mono ?_
 rintro e w7 ⟨⟨v, rfl, sv⟩, hb⟩
 obtain ⟨aS2, cS2, aF2, cF2, aA2, cA2, rfl, iS2, iF2, iA2⟩ := sv
 rw [hql] at iS2 iF2 ⊢
 rw [hal] at iA2 ⊢
 replace c01 := cell_later hb c01
 replace c02 := cell_later hb c02
 replace c03 := cell_later hb c03
 replace c04 := cell_later hb c04
 replace cs0 := cell_later hb cs0
 replace cs1 := cell_later hb cs1
 replace cs2 := cell_later hb cs2
 replace ia := ia.later hb
 replace iT := iT.later hb
 replace ip := ip.later hb
 replace iS := iS.later hb
 replace iF := iF.later hb
 replace iA := iA.later hb
 replace HB := HB.trans (hb.mono HB.size)
 clear hb
 obtain ⟨WR, hWR⟩ : ∃ WB, w7.alloc (.cells #[.slice aS2 ql cS2, .slice aF2 ql cF2, .slice aA2 al cA2] 41) = WB := ⟨_, rfl⟩
 have hb : Below w7.heap.size w7 WR := by rw [← hWR]; exact (Below.refl _ _).alloc (Nat.le_refl _) _
 go_upto_region 7 with (fail)
 try rw [hWR]
 have cr0 : WR.cell? ⟨w7.heap.size, 0, none⟩ = some (.slice aS2 ql cS2) := by rw [← hWR]; exact cell_of_row _ _ 0 _ _ _ (heap_alloc_new w7 _)
 have cr1 : WR.cell? ⟨w7.heap.size, 1, none⟩ = some (.slice aF2 ql cF2) := by rw [← hWR]; exact cell_of_row _ _ 1 _ _ _ (heap_alloc_new w7 _)
 have cr2 : WR.cell? ⟨w7.heap.size, 2, none⟩ = some (.slice aA2 al cA2) := by rw [← hWR]; exact cell_of_row _ _ 2 _ _ _ (heap_alloc_new w7 _)
 clear hWR
 replace c01 := cell_later hb c01
 replace c02 := cell_later hb c02
 replace c03 := cell_later hb c03
 replace c04 := cell_later hb c04
 replace cs0 := cell_later hb cs0
 replace cs1 := cell_later hb cs1
 replace cs2 := cell_later hb cs2
 replace ia := ia.later hb
 replace iT := iT.later hb
 replace ip := ip.later hb
 replace iS := iS.later hb
 replace iF := iF.later hb
 replace iA := iA.later hb
 replace iS2 := iS2.later hb
 replace iF2 := iF2.later hb
 replace iA2 := iA2.later hb
 replace HB := HB.trans (hb.mono HB.size)
 clear hb
 obtain ⟨rb, hrb⟩ : ∃ x, w7.heap.size = x := ⟨_, rfl⟩
 rw [hrb] at cr0 cr1 cr2 ⊢
 clear hrb
 clear hql hal
 have e0 : (E != E) = false := by simp
 have e1 : ((ql : Int) != (ql : Int)) = false := by simp
 refine wp_region_grow mixed (by kernel_rfl) [[], [], [(0, 28), (1, 29)], [(2, 30)], [(3, 31)], [(4, 32), (3, 31)], [(5, 33), (3, 31)], [(3, 31)], [(7, 35), (3, 31)], [(8, 36), (3, 31)], [(6, 34), (9, 37), (3, 31)], [(3, 31), (10, 38)], [(11, 39), (3, 31)], [(12, 40)], [(13, 41), (12, 40)], [(12, 40)], [(15, 43), (12, 40)], [(14, 42), (16, 44), (12, 40), (12, 40)], [(17, 45), (12, 40)], [(12, 40), (18, 46)], [(19, 47), (17, 45)], [(20, 48)], [(21, 49), (20, 48)], [(22, 50), (20, 48), (20, 48)], [(20, 48)], [(24, 52), (20, 48)], [(23, 51), (25, 53), (23, 51), (20, 48)], [(26, 54), (20, 48)], [(20, 48), (27, 55)]] [(0, 28), (1, 29), (2, 30), (3, 31), (4, 32), (5, 33), (6, 34), (7, 35), (8, 36), (9, 37), (10, 38), (11, 39), (12, 40), (13, 41), (14, 42), (15, 43), (16, 44), (17, 45), (18, 46), (19, 47), (20, 48), (21, 49), (22, 50), (23, 51), (24, 52), (25, 53), (26, 54), (27, 55), (28, 56)] rfl rfl [Ex ?ee0, Ex ?ee1, Ex ?ee2, Ex ?ee3, Ex ?ee4, Ex ?ee5, Ex ?ee6, Ex ?ee7, Ex ?ee8, Ex ?ee9, Ex ?ee10, Ex ?ee11, Ex ?ee12, Ex ?ee13, Ex ?ee14, Ex ?ee15, Ex ?ee16, Ex (.bool true), Ex ?ee18, Ex ?ee19, Ex ?ee20, Ex ?ee21, Ex ?ee22, OwnA5 WR.heap.size al D.a, Ex ?ee24, Ex ?ee25, Ex (.bool true), Ex ?ee27, Ex ?ee28] ⟨stays_ex _, stays_ex _, stays_ex _, stays_ex _, stays_ex _, stays_ex _, stays_ex _, stays_ex _, stays_ex _, stays_ex _, stays_ex _, stays_ex _, stays_ex _, stays_ex _, stays_ex _, stays_ex _, stays_ex _, stays_ex _, stays_ex _, stays_ex _, stays_ex _, stays_ex _, stays_ex _, stays_ownA5 _ _ _, stays_ex _, stays_ex _, stays_ex _, stays_ex _, stays_ex _, trivial⟩ ?esteps ?erest
 case esteps =>
  refine ⟨fun f W hC hh => ?_, fun f W hC hh => ?_, fun f W hC hh => ?_, fun f W hC hh => ?_, fun f W hC hh => ?_, fun f W hC hh => ?_, fun f W hC hh => ?_, fun f W hC hh => ?_, fun f W hC hh => ?_, fun f W hC hh => ?_, fun f W hC hh => ?_, fun f W hC hh => ?_, fun f W hC hh => ?_, fun f W hC hh => ?_, fun f W hC hh => ?_, fun f W hC hh => ?_, fun f W hC hh => ?_, fun f W hC hh => ?_, fun f W hC hh => ?_, fun f W hC hh => ?_, fun f W hC hh => ?_, fun f W hC hh => ?_, fun f W hC hh => ?_, fun f W hC hh => ?_, fun f W hC hh => ?_, fun f W hC hh => ?_, fun f W hC hh => ?_, fun f W hC hh => ?_, fun f W hC hh => ?_, trivial⟩
  ·
   refine tab_plain fun K Q hK => ?_
   simp only [puts, foldr_nil]
   go_step
   exact fam_e hK rfl rfl (Below.refl _ _) hC
  ·
   refine tab_plain fun K Q hK => ?_
   simp only [puts, foldr_nil]
   go_step
   exact fam_e hK rfl rfl (Below.refl _ _) hC
  ·
   obtain ⟨h0, h1, -⟩ := hh
   have g0 : f 0 = _ := h0
   have g1 : f 1 = _ := h1
   refine tab_plain fun K Q hK => ?_
   simp only [puts, Za, Zb, Zc, Zd, Ze, g0, g1]
   go_step
   exact fam_e hK rfl rfl (Below.refl _ _) hC
  ·
   obtain ⟨h2, -⟩ := hh
   have g2 : f 2 = _ := h2
   refine tab_plain fun K Q hK => ?_
   simp only [puts, Za, Zb, Zc, Zd, Ze, g2]
   go_step
   exact fam_e hK rfl rfl (Below.refl _ _) hC
  ·
   obtain ⟨h3, -⟩ := hh
   have g3 : f 3 = _ := h3
   refine tab_yes g3 fun K Q hK => ?_
   simp only [puts, Za, Zb, Zc, Zd, Ze, g3]
   go_step
   exact fam_e hK rfl rfl (Below.refl _ _) hC
  ·
   obtain ⟨h4, h3, -⟩ := hh
   have g4 : f 4 = _ := h4
   have g3 : f 3 = _ := h3
   refine tab_yes g3 fun K Q hK => ?_
   simp only [puts, Za, Zb, Zc, Zd, Ze, g4, g3]
   have mcs0 := cell_later hC cs0
   have mcs1 := cell_later hC cs1
   have mcs2 := cell_later hC cs2
   have mcr0 := cell_later hC cr0
   have mcr1 := cell_later hC cr1
   have mcr2 := cell_later hC cr2
   go_step
   exact fam_e hK rfl rfl (Below.refl _ _) hC
  ·
   obtain ⟨h5, h3, -⟩ := hh
   have g5 : f 5 = _ := h5
   have g3 : f 3 = _ := h3
   refine tab_yes g3 fun K Q hK => ?_
   simp only [puts, Za, Zb, Zc, Zd, Ze, g5, g3]
   go_step
   exact fam_e hK rfl rfl (Below.refl _ _) hC
  ·
   obtain ⟨h3, -⟩ := hh
   have g3 : f 3 = _ := h3
   refine tab_yes g3 fun K Q hK => ?_
   simp only [puts, Za, Zb, Zc, Zd, Ze, g3]
   go_step
   exact fam_e hK rfl rfl (Below.refl _ _) hC
  ·
   obtain ⟨h7, h3, -⟩ := hh
   have g7 : f 7 = _ := h7
   have g3 : f 3 = _ := h3
   refine tab_yes g3 fun K Q hK => ?_
   simp only [puts, Za, Zb, Zc, Zd, Ze, g7, g3]
   have mcs0 := cell_later hC cs0
   have mcs1 := cell_later hC cs1
   have mcs2 := cell_later hC cs2
   have mcr0 := cell_later hC cr0
   have mcr1 := cell_later hC cr1
   have mcr2 := cell_later hC cr2
   go_step
   exact fam_e hK rfl rfl (Below.refl _ _) hC
  ·
   obtain ⟨h8, h3, -⟩ := hh
   have g8 : f 8 = _ := h8
   have g3 : f 3 = _ := h3
   refine tab_yes g3 fun K Q hK => ?_
   simp only [puts, Za, Zb, Zc, Zd, Ze, g8, g3]
   go_step
   exact fam_e hK rfl rfl (Below.refl _ _) hC
  ·
   obtain ⟨h6, h9, h3, -⟩ := hh
   have g6 : f 6 = _ := h6
   have g9 : f 9 = _ := h9
   have g3 : f 3 = _ := h3
   refine tab_yes g3 fun K Q hK => ?_
   simp only [puts, Za, Zb, Zc, Zd, Ze, g6, g9, g3]
   go_step
   exact fam_e hK rfl rfl (Below.refl _ _) hC
  ·
   obtain ⟨h3, h10, -⟩ := hh
   have g3 : f 3 = _ := h3
   have g10 : f 10 = _ := h10
   refine tab_plain fun K Q hK => ?_
   simp only [puts, Za, Zb, Zc, Zd, Ze, g3, g10]
   go_step
   exact fam_e hK rfl rfl (Below.refl _ _) hC
  ·
   obtain ⟨h11, h3, -⟩ := hh
   have g11 : f 11 = _ := h11
   have g3 : f 3 = _ := h3
   refine tab_plain fun K Q hK => ?_
   simp only [puts, Za, Zb, Zc, Zd, Ze, g11, g3]
   go_step
   exact fam_e hK rfl rfl (Below.refl _ _) hC
  ·
   obtain ⟨h12, -⟩ := hh
   have g12 : f 12 = _ := h12
   refine tab_yes g12 fun K Q hK => ?_
   simp only [puts, Za, Zb, Zc, Zd, Ze, g12]
   go_step
   exact fam_e hK rfl rfl (Below.refl _ _) hC
  ·
   obtain ⟨h13, h12, -⟩ := hh
   have g13 : f 13 = _ := h13
   have g12 : f 12 = _ := h12
   refine tab_yes g12 fun K Q hK => ?_
   simp only [puts, Za, Zb, Zc, Zd, Ze, g13, g12]
   have mcs0 := cell_later hC cs0
   have mcs1 := cell_later hC cs1
   have mcs2 := cell_later hC cs2
   have mcr0 := cell_later hC cr0
   have mcr1 := cell_later hC cr1
   have mcr2 := cell_later hC cr2
   go_step
   exact fam_e hK rfl rfl (Below.refl _ _) hC
  ·
   obtain ⟨h12, -⟩ := hh
   have g12 : f 12 = _ := h12
   refine tab_yes g12 fun K Q hK => ?_
   simp only [puts, Za, Zb, Zc, Zd, Ze, g12]
   go_step
   exact fam_e hK rfl rfl (Below.refl _ _) hC
  ·
   obtain ⟨h15, h12, -⟩ := hh
   have g15 : f 15 = _ := h15
   have g12 : f 12 = _ := h12
   refine tab_yes g12 fun K Q hK => ?_
   simp only [puts, Za, Zb, Zc, Zd, Ze, g15, g12]
   have mcs0 := cell_later hC cs0
   have mcs1 := cell_later hC cs1
   have mcs2 := cell_later hC cs2
   have mcr0 := cell_later hC cr0
   have mcr1 := cell_later hC cr1
   have mcr2 := cell_later hC cr2
   go_step
   exact fam_e hK rfl rfl (Below.refl _ _) hC
  ·
   obtain ⟨h14, h16, h12, _, -⟩ := hh
   have g14 : f 14 = _ := h14
   have g16 : f 16 = _ := h16
   have g12 : f 12 = _ := h12
   refine tab_yes g12 fun K Q hK => ?_
   simp only [puts, Za, Zb, Zc, Zd, Ze, g14, g16, g12]
   go_step
   go_at_call 11
   have hs := sameBools_any _ _ _ _ _ _ _ _ W (iF.later hC) (iF2.later hC)
   rw [decide_eq_true rfl] at hs
   refine (hs).mono ?_
   rintro e w' ⟨rfl, hb⟩
   exact fam_fin hK rfl rfl hb (hC.trans (hb.mono hC.size))
  ·
   obtain ⟨h17, h12, -⟩ := hh
   have g17 : f 17 = _ := h17
   have g12 : f 12 = _ := h12
   refine tab_yes g12 fun K Q hK => ?_
   simp only [puts, Za, Zb, Zc, Zd, Ze, g17, g12]
   go_step
   exact fam_e hK rfl rfl (Below.refl _ _) hC
  ·
   obtain ⟨h12, h18, -⟩ := hh
   have g12 : f 12 = _ := h12
   have g18 : f 18 = _ := h18
   refine tab_plain fun K Q hK => ?_
   simp only [puts, Za, Zb, Zc, Zd, Ze, g12, g18]
   go_step
   exact fam_e hK rfl rfl (Below.refl _ _) hC
  ·
   obtain ⟨h19, h17, -⟩ := hh
   have g19 : f 19 = _ := h19
   have g17 : f 17 = _ := h17
   refine tab_plain fun K Q hK => ?_
   simp only [puts, Za, Zb, Zc, Zd, Ze, g19, g17]
   go_step
   exact fam_e hK rfl rfl (Below.refl _ _) hC
  ·
   obtain ⟨h20, -⟩ := hh
   have g20 : f 20 = _ := h20
   refine tab_yes g20 fun K Q hK => ?_
   simp only [puts, Za, Zb, Zc, Zd, Ze, g20]
   go_step
   exact fam_e hK rfl rfl (Below.refl _ _) hC
  ·
   obtain ⟨h21, h20, -⟩ := hh
   have g21 : f 21 = _ := h21
   have g20 : f 20 = _ := h20
   refine tab_yes g20 fun K Q hK => ?_
   simp only [puts, Za, Zb, Zc, Zd, Ze, g21, g20]
   have mcs0 := cell_later hC cs0
   have mcs1 := cell_later hC cs1
   have mcs2 := cell_later hC cs2
   have mcr0 := cell_later hC cr0
   have mcr1 := cell_later hC cr1
   have mcr2 := cell_later hC cr2
   go_step
   exact fam_e hK rfl rfl (Below.refl _ _) hC
  ·
   obtain ⟨h22, h20, _, -⟩ := hh
   have g22 : f 22 = _ := h22
   have g20 : f 20 = _ := h20
   refine tab_yes g20 fun K Q hK => ?_
   simp only [puts, Za, Zb, Zc, Zd, Ze, g22, g20]
   go_step
   go_at_call 13
   refine (lawArcs_any (iA.later hC) m2).mono ?_
   rintro e w' ⟨⟨a', c', rfl, ho⟩, hb⟩
   exact fam_fin hK rfl ⟨a', c', rfl, ho.from_mono hC.size⟩ hb (hC.trans (hb.mono hC.size))
  ·
   obtain ⟨h20, -⟩ := hh
   have g20 : f 20 = _ := h20
   refine tab_yes g20 fun K Q hK => ?_
   simp only [puts, Za, Zb, Zc, Zd, Ze, g20]
   go_step
   exact fam_e hK rfl rfl (Below.refl _ _) hC
  ·
   obtain ⟨h24, h20, -⟩ := hh
   have g24 : f 24 = _ := h24
   have g20 : f 20 = _ := h20
   refine tab_yes g20 fun K Q hK => ?_
   simp only [puts, Za, Zb, Zc, Zd, Ze, g24, g20]
   have mcs0 := cell_later hC cs0
   have mcs1 := cell_later hC cs1
   have mcs2 := cell_later hC cs2
   have mcr0 := cell_later hC cr0
   have mcr1 := cell_later hC cr1
   have mcr2 := cell_later hC cr2
   go_step
   exact fam_e hK rfl rfl (Below.refl _ _) hC
  ·
   obtain ⟨h23, h25, _, h20, -⟩ := hh
   obtain ⟨a23, c23, g23, s23⟩ := h23
   have g25 : f 25 = _ := h25
   have g20 : f 20 = _ := h20
   refine tab_yes g20 fun K Q hK => ?_
   simp only [puts, Za, Zb, Zc, Zd, Ze, g23, g25, g20]
   go_step
   go_at_call 12
   have hs := sameArcs_any _ _ _ _ _ _ _ _ W (IsArcs.of_owns s23).1 (iA2.later hC)
   rw [decide_eq_true rfl] at hs
   refine (hs).mono ?_
   rintro e w' ⟨rfl, hb⟩
   exact fam_fin hK rfl rfl hb (hC.trans (hb.mono hC.size))
  ·
   obtain ⟨h26, h20, -⟩ := hh
   have g26 : f 26 = _ := h26
   have g20 : f 20 = _ := h20
   refine tab_yes g20 fun K Q hK => ?_
   simp only [puts, Za, Zb, Zc, Zd, Ze, g26, g20]
   go_step
   exact fam_e hK rfl rfl (Below.refl _ _) hC
  ·
   obtain ⟨h20, h27, -⟩ := hh
   have g20 : f 20 = _ := h20
   have g27 : f 27 = _ := h27
   refine tab_plain fun K Q hK => ?_
   simp only [puts, Za, Zb, Zc, Zd, Ze, g20, g27]
   go_step
   exact fam_e hK rfl rfl (Below.refl _ _) hC
 case erest =>
  intro f WE hC hh
  obtain ⟨h0, h1, h2, h3, h4, h5, h6, h7, h8, h9, h10, h11, h12, h13, h14, h15, h16, h17, h18, h19, h20, h21, h22, h23, h24, h25, h26, h27, h28, -⟩ := hh
  have g0 : f 0 = _ := h0
  have g1 : f 1 = _ := h1
  have g2 : f 2 = _ := h2
  have g3 : f 3 = _ := h3
  have g4 : f 4 = _ := h4
  have g5 : f 5 = _ := h5
  have g6 : f 6 = _ := h6
  have g7 : f 7 = _ := h7
  have g8 : f 8 = _ := h8
  have g9 : f 9 = _ := h9
  have g10 : f 10 = _ := h10
  have g11 : f 11 = _ := h11
  have g12 : f 12 = _ := h12
  have g13 : f 13 = _ := h13
  have g14 : f 14 = _ := h14
  have g15 : f 15 = _ := h15
  have g16 : f 16 = _ := h16
  have g17 : f 17 = _ := h17
  have g18 : f 18 = _ := h18
  have g19 : f 19 = _ := h19
  have g20 : f 20 = _ := h20
  have g21 : f 21 = _ := h21
  have g22 : f 22 = _ := h22
  obtain ⟨a23, c23, g23, s23⟩ := h23
  have g24 : f 24 = _ := h24
  have g25 : f 25 = _ := h25
  have g26 : f 26 = _ := h26
  have g27 : f 27 = _ := h27
  have g28 : f 28 = _ := h28
  simp only [puts, Za, Zb, Zc, Zd, Ze, g0, g1, g2, g3, g4, g5, g6, g7, g8, g9, g10, g11, g12, g13, g14, g15, g16, g17, g18, g19, g20, g21, g22, g23, g24, g25, g26, g27, g28]
  clear h0 h1 h2 h3 h4 h5 h6 h7 h8 h9 h10 h11 h12 h13 h14 h15 h16 h17 h18 h19 h20 h21 h22 h24 h25 h26 h27 h28 g0 g1 g2 g3 g4 g5 g6 g7 g8 g9 g10 g11 g12 g13 g14 g15 g16 g17 g18 g19 g20 g21 g22 g24 g25 g26 g27 g28
  have hb := hC
  clear hC
  replace c01 := cell_later hb c01
  replace c02 := cell_later hb c02
  replace c03 := cell_later hb c03
  replace c04 := cell_later hb c04
  replace cs0 := cell_later hb cs0
  replace cs1 := cell_later hb cs1
  replace cs2 := cell_later hb cs2
  replace cr0 := cell_later hb cr0
  replace cr1 := cell_later hb cr1
  replace cr2 := cell_later hb cr2
  replace ia := ia.later hb
  replace iT := iT.later hb
  replace ip := ip.later hb
  replace iS := iS.later hb
  replace iF := iF.later hb
  replace iA := iA.later hb
  replace iS2 := iS2.later hb
  replace iF2 := iF2.later hb
  replace iA2 := iA2.later hb
  replace HB := HB.trans (hb.mono HB.size)
  clear hb
  go_wp2_with (fail)
  have hb := Below.refl WE.heap.size WE
  go_loopw [60] (fun c W => (∃ i : Nat, i ≤ ql ∧ c = .int .i64 (i : Int)) ∧ Below WE.heap.size WE W) (fun c _ => ql - (intOf c).toNat)
  case atStart => exact ⟨⟨0, Nat.zero_le _, rfl⟩, Below.refl _ _⟩
  case round =>
   clear hb
   obtain ⟨⟨i, hi, rfl⟩, hb⟩ := hrel
   have HL := Lib.hid hb
   replace c01 := cell_later hb c01
   replace c02 := cell_later hb c02
   replace c03 := cell_later hb c03
   replace c04 := cell_later hb c04
   replace cs0 := cell_later hb cs0
   replace cs1 := cell_later hb cs1
   replace cs2 := cell_later hb cs2
   replace cr0 := cell_later hb cr0
   replace cr1 := cell_later hb cr1
   replace cr2 := cell_later hb cr2
   replace ia := ia.later hb
   replace iT := iT.later hb
   replace ip := ip.later hb
   replace iS := iS.later hb
   replace iF := iF.later hb
   replace iA := iA.later hb
   replace iS2 := iS2.later hb
   replace iF2 := iF2.later hb
   replace iA2 := iA2.later hb
   replace HB := HB.trans (hb.mono HB.size)
   clear hb
   rcases Nat.lt_or_ge i ql with hlt | hge
   ·have t1 : decide (i < ql) = true := decide_eq_true hlt
    obtain ⟨bs, os, gs, ts, cs, zs, haS, x1, x2, x3, x4⟩ := iS.at hlt
    subst haS
    obtain ⟨br, or, xr, yr, haR, y1, y2⟩ := iS2.at hlt
    subst haR
    obtain ⟨u1, u2⟩ := M3.out i hlt
    rw [gwl_gw] at y1 y2
    obtain ⟨S, hS⟩ : ∃ S, gw D.q i = S := ⟨_, rfl⟩
    rw [hS] at x3 y1 y2 u1 u2
    have X2 := Lib.hid x2
    have X3 := Lib.hid x3
    have Y2 := Lib.hid y2
    have U := Lib.hid (And.intro u1 u2)
    have IT := Lib.hid iT
    have HLL := Lib.hid HB
    clear x2 x3 y2 u1 u2 iS iF iA iS2 iF2 iA2 iT HB x4 hS
    go_wp2_with (fail)
    refine wp_region_grow mixed (by kernel_rfl) [[], [(0, 63)], [], [(1, 64), (2, 65)], [(3, 66)], [], [(5, 68)], [], [(6, 69), (7, 70)], [(8, 71)], [(4, 67), (9, 72)], [(10, 73)]] [(0, 63), (1, 64), (2, 65), (3, 66), (4, 67), (5, 68), (6, 69), (7, 70), (8, 71), (9, 72), (10, 73), (11, 74)] rfl rfl [Ex ?eg0, Ex ?eg1, Ex ?eg2, Ex ?eg3, Ex ?eg4, Ex ?eg5, Ex ?eg6, Ex ?eg7, Ex ?eg8, Ex ?eg9, Ex (.bool true), Ex ?eg11] ⟨stays_ex _, stays_ex _, stays_ex _, stays_ex _, stays_ex _, stays_ex _, stays_ex _, stays_ex _, stays_ex _, stays_ex _, stays_ex _, stays_ex _, trivial⟩ ?gsteps ?grest
    case gsteps =>
     refine ⟨fun f W hC hh => ?_, fun f W hC hh => ?_, fun f W hC hh => ?_, fun f W hC hh => ?_, fun f W hC hh => ?_, fun f W hC hh => ?_, fun f W hC hh => ?_, fun f W hC hh => ?_, fun f W hC hh => ?_, fun f W hC hh => ?_, fun f W hC hh => ?_, fun f W hC hh => ?_, trivial⟩
     ·
      refine tab_plain fun K Q hK => ?_
      simp only [puts, foldr_nil]
      go_step
      exact fam_e hK rfl rfl (Below.refl _ _) hC
     ·
      obtain ⟨h0, -⟩ := hh
      have g0 : f 0 = _ := h0
      refine tab_plain fun K Q hK => ?_
      simp only [puts, Za, Zb, Zc, Zd, Ze, g0]
      have mcs0 := cell_later hC cs0
      have mcr0 := cell_later hC cr0
      have mx1 := cell_later hC x1
      have my1 := cell_later hC y1
      go_step
      exact fam_e hK rfl rfl (Below.refl _ _) hC
     ·
      refine tab_plain fun K Q hK => ?_
      simp only [puts, foldr_nil]
      go_step
      exact fam_e hK rfl rfl (Below.refl _ _) hC
     ·
      obtain ⟨h1, h2, -⟩ := hh
      have g1 : f 1 = _ := h1
      have g2 : f 2 = _ := h2
      refine tab_plain fun K Q hK => ?_
      simp only [puts, Za, Zb, Zc, Zd, Ze, g1, g2]
      go_step
      exact fam_e hK rfl rfl (Below.refl _ _) hC
     ·
      obtain ⟨h3, -⟩ := hh
      have g3 : f 3 = _ := h3
      refine tab_plain fun K Q hK => ?_
      simp only [puts, Za, Zb, Zc, Zd, Ze, g3]
      have mcs0 := cell_later hC cs0
      have mcr0 := cell_later hC cr0
      have mx1 := cell_later hC x1
      have my1 := cell_later hC y1
      go_step
      exact fam_e hK rfl rfl (Below.refl _ _) hC
     ·
      refine tab_plain fun K Q hK => ?_
      simp only [puts, foldr_nil]
      go_step
      exact fam_e hK rfl rfl (Below.refl _ _) hC
     ·
      obtain ⟨h5, -⟩ := hh
      have g5 : f 5 = _ := h5
      refine tab_plain fun K Q hK => ?_
      simp only [puts, Za, Zb, Zc, Zd, Ze, g5]
      have mcs0 := cell_later hC cs0
      have mcr0 := cell_later hC cr0
      have mx1 := cell_later hC x1
      have my1 := cell_later hC y1
      go_step
      exact fam_e hK rfl rfl (Below.refl _ _) hC
     ·
      refine tab_plain fun K Q hK => ?_
      simp only [puts, foldr_nil]
      go_step
      exact fam_e hK rfl rfl (Below.refl _ _) hC
     ·
      obtain ⟨h6, h7, -⟩ := hh
      have g6 : f 6 = _ := h6
      have g7 : f 7 = _ := h7
      refine tab_plain fun K Q hK => ?_
      simp only [puts, Za, Zb, Zc, Zd, Ze, g6, g7]
      go_step
      exact fam_e hK rfl rfl (Below.refl _ _) hC
     ·
      obtain ⟨h8, -⟩ := hh
      have g8 : f 8 = _ := h8
      refine tab_plain fun K Q hK => ?_
      simp only [puts, Za, Zb, Zc, Zd, Ze, g8]
      have mcs0 := cell_later hC cs0
      have mcr0 := cell_later hC cr0
      have mx1 := cell_later hC x1
      have my1 := cell_later hC y1
      go_step
      exact fam_e hK rfl rfl (Below.refl _ _) hC
     ·
      obtain ⟨h4, h9, -⟩ := hh
      have g4 : f 4 = _ := h4
      have g9 : f 9 = _ := h9
      refine tab_plain fun K Q hK => ?_
      simp only [puts, Za, Zb, Zc, Zd, Ze, g4, g9]
      go_step
      go_at_call 14
      refine (lawSame_yes (n := 4096) (X2.out.later hC) X3.out U.out.1 U.out.2 (by omega) (Y2.out.later hC) (IT.out.later hC)).mono ?_
      rintro e w' ⟨rfl, hb⟩
      exact fam_fin hK rfl rfl hb (hC.trans (hb.mono hC.size))
     ·
      obtain ⟨h10, -⟩ := hh
      have g10 : f 10 = _ := h10
      refine tab_plain fun K Q hK => ?_
      simp only [puts, Za, Zb, Zc, Zd, Ze, g10]
      go_step
      exact fam_e hK rfl rfl (Below.refl _ _) hC
    case grest =>
     intro f WG hC hh
     obtain ⟨h0, h1, h2, h3, h4, h5, h6, h7, h8, h9, h10, h11, -⟩ := hh
     have g0 : f 0 = _ := h0
     have g1 : f 1 = _ := h1
     have g2 : f 2 = _ := h2
     have g3 : f 3 = _ := h3
     have g4 : f 4 = _ := h4
     have g5 : f 5 = _ := h5
     have g6 : f 6 = _ := h6
     have g7 : f 7 = _ := h7
     have g8 : f 8 = _ := h8
     have g9 : f 9 = _ := h9
     have g10 : f 10 = _ := h10
     have g11 : f 11 = _ := h11
     simp only [puts, Za, Zb, Zc, Zd, Ze, g0, g1, g2, g3, g4, g5, g6, g7, g8, g9, g10, g11]
     clear h0 h1 h2 h3 h4 h5 h6 h7 h8 h9 h10 h11 g0 g1 g2 g3 g4 g5 g6 g7 g8 g9 g10 g11
     go_wp2_with (fail)
     go_roundw
     case rel => exact ⟨⟨i + 1, hlt, by go_num⟩, HL.out.trans (hC.mono HL.out.size)⟩
     case measure => simp [intOf]; omega
   ·obtain rfl : i = ql := by omega
    have t1 : decide (i < i) = false := decide_eq_false (by omega)
    go_wp2_with (fail)
    go_ret
    exact ⟨rfl, HB⟩
theorem nfaSubsets_top (a : Nfa) (h : NH) (LM : Int) (w : World) (ia : IsNfa w h a) {P : Prop} (_ : P) (iT : TabW w) :
  Calls Tryd.prog 3 #[vNf a h, .int .i64 LM] w fun e w' => e = .returned (.bool true) ∧ Below w.heap.size w w' := nfaSubsets_walk a h LM w ia iT
end Go.Proofs.YtimboglagjbdjaaDoor
