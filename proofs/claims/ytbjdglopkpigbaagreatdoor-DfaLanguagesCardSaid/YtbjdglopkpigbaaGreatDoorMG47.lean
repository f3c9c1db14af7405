import Derived.Test.YtbjdglopkpigbaaGreatDoorMG36
import Derived.Test.YtbjdglopkpigbaaGreatDoorMG37
import Derived.Test.YtbjdglopkpigbaaGreatDoorMG39
import Derived.Test.YtbjdglopkpigbaaGreatDoorMG44
import Derived.Test.YtbjdglopkpigbaaGreatDoorMG45
import Derived.Test.YtbjdglopkpigbaaGreatDoorMG49
/-
  DfaLanguagesW
-/
set_option linter.unusedSimpArgs false
set_option linter.unusedVariables false
namespace Go.Proofs.YtbjdglopkpigbaaGreatDoor
open Go.RowKit
attribute [local go_sem] Oper.semAt_some
theorem cell_later {W W' : World} {b j : Nat} {v : Value} (hb : Below W.heap.size W W') (h : W.cell? ⟨b, j, none⟩ = some v) : W'.cell? ⟨b, j, none⟩ = some v := (hb.cell (p := ⟨b, j, none⟩) (lt_of_cell h)).trans h
theorem det_cases (a : Na.Nfa) (zs : List Int) : (Na.detE a 1000 = 1 ∧ Na.vN a = false) ∨ Na.detE a 1000 = 6 ∨ (Na.detE a 1000 = 0 ∧ Na.vN a = true ∧ ((Na.detR a 1000).a.length ≤ 20000 → ValidD (fromB a (Na.detR a 1000)) ∧ accD (fromB a (Na.detR a 1000)) zs = Na.accN a zs)) := by
 cases hv : Na.vN a with
 | false =>
  refine .inl ⟨?_, rfl⟩
  unfold Na.detE
  rw [hv]
  rfl
 | true =>
  cases ho : Na.detOk a 1000 with
  | false =>
   refine .inr (.inl ?_)
   unfold Na.detE
   rw [hv, ho]
   rfl
  | true =>
   have e1 : Na.detE a 1000 = 0 := by unfold Na.detE; rw [if_pos hv, if_pos ho]
   have e2 : Na.detR a 1000 = Na.detF a := by unfold Na.detR; rw [if_pos hv, if_pos ho]
   obtain ⟨D, hD⟩ : ∃ D, Na.detF a = D := ⟨_, rfl⟩
   rw [e2, hD]
   have hv' : Na.ValidN a := by
    by_cases h : Na.ValidN a
    ·exact h
    ·rw [Na.vN_no h] at hv; cases hv
   exact .inr (.inr ⟨e1, rfl, fun hl => ⟨fromB_valid hD hv' (Na.detOk_iff.1 ho) hl, fromB_acc hD hv' (Na.detOk_iff.1 ho) hl zs⟩⟩)
set_option maxRecDepth 20000 in
set_option maxHeartbeats 16000000 in
theorem dfaLanguages_walk (d : Dfa) (h : DH) (a : Na.Nfa) (k : Na.NH) (aw : Option Addr) (lw cw : Nat) (zs : List Int) (w : World) (ia : IsDfa w h d) (ib : Na.IsNfa w k a) (iw : IsInts .i64 w aw lw cw zs) (iT : Na.TabW w) :
  Calls Tryz.prog 3 #[vDf d h, Na.vNf a k, .slice aw lw cw] w fun e w' => e = .returned (.bool true) ∧ Below w.heap.size w w' := by
 obtain ⟨W0, hW0, hs0, hb0, hO0⟩ := boxRW d h w ia
 replace ib := ib.later hb0
 replace ia := (hO0 W0 (Below.refl _ _)).2.1
 replace iw := iw.later hb0
 obtain ⟨c01, c02, c03, c04⟩ := (hO0 W0 (Below.refl _ _)).1
 obtain ⟨W1, hW1, hs1, hb1, hO1⟩ := Na.boxRN a k W0 ib
 replace ia := ia.later hb1
 replace ib := (hO1 W1 (Below.refl _ _)).2.1
 replace iw := iw.later hb1
 replace c01 := cell_later hb1 c01
 replace c02 := cell_later hb1 c02
 replace c03 := cell_later hb1 c03
 replace c04 := cell_later hb1 c04
 obtain ⟨c11, c12, c13, c14⟩ := (hO1 W1 (Below.refl _ _)).1
 have HB : Below w.heap.size w W1 := (hb0.trans (hb1.mono (hb0).size))
 rw [hs0] at c11 c12 c13 c14
 clear hO0 hb0 hO1 hb1
 unfold vDf Na.vNf
 replace iT := iT.later HB
 by_cases fa : FewD d
 rotate_left
 ·have hx := fa
  go_enter Tryz.func3, Tryz.ntmps3
  go_wp2_with (fail)
  refine (awake_any _).mono ?_
  rintro e w1 ⟨rfl, hb⟩
  replace c01 := cell_later hb c01
  replace c02 := cell_later hb c02
  replace c03 := cell_later hb c03
  replace c04 := cell_later hb c04
  replace c11 := cell_later hb c11
  replace c12 := cell_later hb c12
  replace c13 := cell_later hb c13
  replace c14 := cell_later hb c14
  replace ia := ia.later hb
  replace ib := ib.later hb
  replace iw := iw.later hb
  replace iT := iT.later hb
  replace HB := HB.trans (hb.mono HB.size)
  clear hb
  go_wp2_with (fail)
  refine (few_no ia fa).mono ?_
  rintro e w2 ⟨rfl, hb⟩
  replace c01 := cell_later hb c01
  replace c02 := cell_later hb c02
  replace c03 := cell_later hb c03
  replace c04 := cell_later hb c04
  replace c11 := cell_later hb c11
  replace c12 := cell_later hb c12
  replace c13 := cell_later hb c13
  replace c14 := cell_later hb c14
  replace ia := ia.later hb
  replace ib := ib.later hb
  replace iw := iw.later hb
  replace iT := iT.later hb
  replace HB := HB.trans (hb.mono HB.size)
  clear hb
  go_wp2_with (fail)
  go_ret
  exact ⟨rfl, HB⟩
 by_cases va : ValidD d
 rotate_left
 ·have hx := va
  go_enter Tryz.func3, Tryz.ntmps3
  go_wp2_with (fail)
  refine (awake_any _).mono ?_
  rintro e w3 ⟨rfl, hb⟩
  replace c01 := cell_later hb c01
  replace c02 := cell_later hb c02
  replace c03 := cell_later hb c03
  replace c04 := cell_later hb c04
  replace c11 := cell_later hb c11
  replace c12 := cell_later hb c12
  replace c13 := cell_later hb c13
  replace c14 := cell_later hb c14
  replace ia := ia.later hb
  replace ib := ib.later hb
  replace iw := iw.later hb
  replace iT := iT.later hb
  replace HB := HB.trans (hb.mono HB.size)
  clear hb
  go_wp2_with (fail)
  refine (few_yes ia fa).mono ?_
  rintro e w4 ⟨rfl, hb⟩
  replace c01 := cell_later hb c01
  replace c02 := cell_later hb c02
  replace c03 := cell_later hb c03
  replace c04 := cell_later hb c04
  replace c11 := cell_later hb c11
  replace c12 := cell_later hb c12
  replace c13 := cell_later hb c13
  replace c14 := cell_later hb c14
  replace ia := ia.later hb
  replace ib := ib.later hb
  replace iw := iw.later hb
  replace iT := iT.later hb
  replace HB := HB.trans (hb.mono HB.size)
  clear hb
  go_wp2_with (fail)
  refine (refValid_no va ia).mono ?_
  rintro e w5 ⟨rfl, hb⟩
  replace c01 := cell_later hb c01
  replace c02 := cell_later hb c02
  replace c03 := cell_later hb c03
  replace c04 := cell_later hb c04
  replace c11 := cell_later hb c11
  replace c12 := cell_later hb c12
  replace c13 := cell_later hb c13
  replace c14 := cell_later hb c14
  replace ia := ia.later hb
  replace ib := ib.later hb
  replace iw := iw.later hb
  replace iT := iT.later hb
  replace HB := HB.trans (hb.mono HB.size)
  clear hb
  go_wp2_with (fail)
  go_ret
  exact ⟨rfl, HB⟩
 by_cases fb : Na.FewN a
 rotate_left
 ·have hx := fb
  go_enter Tryz.func3, Tryz.ntmps3
  go_wp2_with (fail)
  refine (awake_any _).mono ?_
  rintro e w6 ⟨rfl, hb⟩
  replace c01 := cell_later hb c01
  replace c02 := cell_later hb c02
  replace c03 := cell_later hb c03
  replace c04 := cell_later hb c04
  replace c11 := cell_later hb c11
  replace c12 := cell_later hb c12
  replace c13 := cell_later hb c13
  replace c14 := cell_later hb c14
  replace ia := ia.later hb
  replace ib := ib.later hb
  replace iw := iw.later hb
  replace iT := iT.later hb
  replace HB := HB.trans (hb.mono HB.size)
  clear hb
  go_wp2_with (fail)
  refine (few_yes ia fa).mono ?_
  rintro e w7 ⟨rfl, hb⟩
  replace c01 := cell_later hb c01
  replace c02 := cell_later hb c02
  replace c03 := cell_later hb c03
  replace c04 := cell_later hb c04
  replace c11 := cell_later hb c11
  replace c12 := cell_later hb c12
  replace c13 := cell_later hb c13
  replace c14 := cell_later hb c14
  replace ia := ia.later hb
  replace ib := ib.later hb
  replace iw := iw.later hb
  replace iT := iT.later hb
  replace HB := HB.trans (hb.mono HB.size)
  clear hb
  go_wp2_with (fail)
  refine (refValid_yes va ia).mono ?_
  rintro e w8 ⟨rfl, hb⟩
  replace c01 := cell_later hb c01
  replace c02 := cell_later hb c02
  replace c03 := cell_later hb c03
  replace c04 := cell_later hb c04
  replace c11 := cell_later hb c11
  replace c12 := cell_later hb c12
  replace c13 := cell_later hb c13
  replace c14 := cell_later hb c14
  replace ia := ia.later hb
  replace ib := ib.later hb
  replace iw := iw.later hb
  replace iT := iT.later hb
  replace HB := HB.trans (hb.mono HB.size)
  clear hb
  go_wp2_with (fail)
  refine (Na.few_no ib fb).mono ?_
  rintro e w9 ⟨rfl, hb⟩
  replace c01 := cell_later hb c01
  replace c02 := cell_later hb c02
  replace c03 := cell_later hb c03
  replace c04 := cell_later hb c04
  replace c11 := cell_later hb c11
  replace c12 := cell_later hb c12
  replace c13 := cell_later hb c13
  replace c14 := cell_later hb c14
  replace ia := ia.later hb
  replace ib := ib.later hb
  replace iw := iw.later hb
  replace iT := iT.later hb
  replace HB := HB.trans (hb.mono HB.size)
  clear hb
  go_wp2_with (fail)
  go_ret
  exact ⟨rfl, HB⟩
 by_cases hlw : 20 < lw
 ·have d1 : decide ((20 : Int) < (lw : Int)) = true := decide_eq_true (by omega)
  go_enter Tryz.func3, Tryz.ntmps3
  go_wp2_with (fail)
  refine (awake_any _).mono ?_
  rintro e w10 ⟨rfl, hb⟩
  replace c01 := cell_later hb c01
  replace c02 := cell_later hb c02
  replace c03 := cell_later hb c03
  replace c04 := cell_later hb c04
  replace c11 := cell_later hb c11
  replace c12 := cell_later hb c12
  replace c13 := cell_later hb c13
  replace c14 := cell_later hb c14
  replace ia := ia.later hb
  replace ib := ib.later hb
  replace iw := iw.later hb
  replace iT := iT.later hb
  replace HB := HB.trans (hb.mono HB.size)
  clear hb
  go_wp2_with (fail)
  refine (few_yes ia fa).mono ?_
  rintro e w11 ⟨rfl, hb⟩
  replace c01 := cell_later hb c01
  replace c02 := cell_later hb c02
  replace c03 := cell_later hb c03
  replace c04 := cell_later hb c04
  replace c11 := cell_later hb c11
  replace c12 := cell_later hb c12
  replace c13 := cell_later hb c13
  replace c14 := cell_later hb c14
  replace ia := ia.later hb
  replace ib := ib.later hb
  replace iw := iw.later hb
  replace iT := iT.later hb
  replace HB := HB.trans (hb.mono HB.size)
  clear hb
  go_wp2_with (fail)
  refine (refValid_yes va ia).mono ?_
  rintro e w12 ⟨rfl, hb⟩
  replace c01 := cell_later hb c01
  replace c02 := cell_later hb c02
  replace c03 := cell_later hb c03
  replace c04 := cell_later hb c04
  replace c11 := cell_later hb c11
  replace c12 := cell_later hb c12
  replace c13 := cell_later hb c13
  replace c14 := cell_later hb c14
  replace ia := ia.later hb
  replace ib := ib.later hb
  replace iw := iw.later hb
  replace iT := iT.later hb
  replace HB := HB.trans (hb.mono HB.size)
  clear hb
  go_wp2_with (fail)
  refine (Na.few_yes ib fb).mono ?_
  rintro e w13 ⟨rfl, hb⟩
  replace c01 := cell_later hb c01
  replace c02 := cell_later hb c02
  replace c03 := cell_later hb c03
  replace c04 := cell_later hb c04
  replace c11 := cell_later hb c11
  replace c12 := cell_later hb c12
  replace c13 := cell_later hb c13
  replace c14 := cell_later hb c14
  replace ia := ia.later hb
  replace ib := ib.later hb
  replace iw := iw.later hb
  replace iT := iT.later hb
  replace HB := HB.trans (hb.mono HB.size)
  clear hb
  go_wp2_with (fail)
  go_ret
  exact ⟨rfl, HB⟩
 have d1 : decide ((20 : Int) < (lw : Int)) = false := decide_eq_false (by omega)
 have fa3 : d.arcs.length ≤ 1000 := by have := fa.2.2; omega
 have fb3 : a.arcs.length ≤ 1000 := by have := fb.2.2.2; omega
 have hlw2 : lw ≤ 1000000 := by omega
 have vX : ValidD (canF d) := canD_valid va _
 have vY := trimD_valid va
 have vZ := (minD_facts va).1
 have aX : accD (canF d) zs = accD d zs := canA_acc va zs
 have aY := trimD_acc va zs
 have aZ := minD_acc va zs
 have nY : (trimD d).n ≤ (canF d).n := trimD_le va
 have nZ : (minD d).n ≤ (canF d).n := minD_le va
 have kx := fun W h' (hd : IsDfa W h' d) => Canonical_yes (w := W) (h := h') va hd
 have ky := fun W h' (hd : IsDfa W h' d) => Trim_yes (w := W) (h := h') va hd
 have kz := fun W h' (hd : IsDfa W h' d) => minimize_yes (w := W) (h := h') va hd
 have acc : ∀ D, ValidD D → ∀ W h', IsDfa W h' D → IsInts .i64 W aw lw cw zs → Calls Tryz.prog 8 #[vDf D h', .slice aw lw cw] W fun e w' => e = .returned (.tuple #[.bool (accD D zs), .int .i64 0]) ∧ Below W.heap.size W w' := fun D hv W h' hd hi => (accepts_any hd hi hlw2).mono fun e w' hh => ⟨by rw [hh.1]; unfold accV; rw [if_pos hv], hh.2⟩
 have k0 := acc d va
 have k1 := acc _ vX
 have k2 := acc _ vY
 have k3 := acc _ vZ
 obtain ⟨u, hu⟩ : ∃ u, accD d zs = u := ⟨_, rfl⟩
 rw [aX, hu] at k1
 rw [aY, hu] at k2
 rw [aZ, hu] at k3
 rw [hu] at k0
 obtain ⟨X, hX⟩ : ∃ x, canF d = x := ⟨_, rfl⟩
 obtain ⟨Y, hY⟩ : ∃ x, trimD d = x := ⟨_, rfl⟩
 obtain ⟨Z, hZ⟩ : ∃ x, minD d = x := ⟨_, rfl⟩
 rw [hX] at k1 kx nY nZ
 rw [hY] at k2 ky nY
 rw [hZ] at k3 kz nZ
 have d2 : decide (X.n < Z.n) = false := decide_eq_false (by omega)
 have d3 : decide (X.n < Y.n) = false := decide_eq_false (by omega)
 have q0 : (u != u) = false := by simp
 have ACC := Lib.hid acc
 have K0 := Lib.hid k0
 have K1 := Lib.hid k1
 have K2 := Lib.hid k2
 have K3 := Lib.hid k3
 have KX := Lib.hid kx
 have KY := Lib.hid ky
 have KZ := Lib.hid kz
 clear k0 k1 k2 k3 kx ky kz acc hX hY hZ hu nY nZ aX aY aZ vX vY vZ hlw2
 have hdt := fun W h' (hd : Na.IsNfa W h' a) (hT : Na.TabW W) => Na.Determinize_any (w := W) (h := h') (L := 1000) hd hT
 have hdc := det_cases a zs
 have kn : ∀ W h', Na.IsNfa W h' a → IsInts .i64 W aw lw cw zs → Na.TabW W → Calls Tryz.prog 16 #[Na.vNf a h', .slice aw lw cw] W fun e w' => e = .returned (.tuple #[.bool (Na.accN a zs), .int .i64 (if Na.vN a = true then 0 else 1)]) ∧ Below W.heap.size W w' := fun W h' hd hi hT => Na.accepts_any hd hi hT
 obtain ⟨D, hD⟩ : ∃ D, Na.detR a 1000 = D := ⟨_, rfl⟩
 obtain ⟨x, hx⟩ : ∃ x, Na.detE a 1000 = x := ⟨_, rfl⟩
 rw [hD, hx] at hdt hdc
 have kf : ∃ R c, (∀ W h', Na.IsNfa W h' a → Na.TabW W → Calls Tryz.prog 13 #[Na.vNf a h', .int .i64 1000] W (GivesDE R c W)) ∧ ((c = 1 ∧ Na.vN a = false) ∨ c = 6 ∨ (c = 0 ∧ Na.vN a = true ∧ ValidD R ∧ accD R zs = Na.accN a zs)) := by
  rcases hdc with ⟨h1, h2⟩ | h1 | ⟨h1, h2, h3⟩
  ·exact ⟨zeroD, x, fun W h' hd hT => From_err hdt (by omega) hd hT, .inl ⟨h1, h2⟩⟩
  ·exact ⟨zeroD, x, fun W h' hd hT => From_err hdt (by omega) hd hT, .inr (.inl h1)⟩
  ·by_cases hl : D.a.length ≤ 20000
   ·exact ⟨fromB a D, 0, fun W h' hd hT => From_ok hdt h1 hl hd hT, .inr (.inr ⟨rfl, h2, h3 hl⟩)⟩
   ·exact ⟨zeroD, 6, fun W h' hd hT => From_big hdt h1 (by omega) hd hT, .inr (.inl rfl)⟩
 clear hdt hdc hD hx
 obtain ⟨R, c, kf, hc⟩ := kf
 have KF := Lib.hid kf
 have KN := Lib.hid kn
 have KV := Lib.hid (fun W h' (hd : Na.IsNfa W h' a) => Na.refValid_any a h' W hd)
 have HC := Lib.hid hc
 clear kf kn hc
 go_enter Tryz.func3, Tryz.ntmps3
 go_wp2_with (fail)
 refine (awake_any _).mono ?_
 rintro e w14 ⟨rfl, hb⟩
 replace c01 := cell_later hb c01
 replace c02 := cell_later hb c02
 replace c03 := cell_later hb c03
 replace c04 := cell_later hb c04
 replace c11 := cell_later hb c11
 replace c12 := cell_later hb c12
 replace c13 := cell_later hb c13
 replace c14 := cell_later hb c14
 replace ia := ia.later hb
 replace ib := ib.later hb
 replace iw := iw.later hb
 replace iT := iT.later hb
 replace HB := HB.trans (hb.mono HB.size)
 clear hb
 go_wp2_with (fail)
 refine (few_yes ia fa).mono ?_
 rintro e w15 ⟨rfl, hb⟩
 replace c01 := cell_later hb c01
 replace c02 := cell_later hb c02
 replace c03 := cell_later hb c03
 replace c04 := cell_later hb c04
 replace c11 := cell_later hb c11
 replace c12 := cell_later hb c12
 replace c13 := cell_later hb c13
 replace c14 := cell_later hb c14
 replace ia := ia.later hb
 replace ib := ib.later hb
 replace iw := iw.later hb
 replace iT := iT.later hb
 replace HB := HB.trans (hb.mono HB.size)
 clear hb
 go_wp2_with (fail)
 refine (refValid_yes va ia).mono ?_
 rintro e w16 ⟨rfl, hb⟩
 replace c01 := cell_later hb c01
 replace c02 := cell_later hb c02
 replace c03 := cell_later hb c03
 replace c04 := cell_later hb c04
 replace c11 := cell_later hb c11
 replace c12 := cell_later hb c12
 replace c13 := cell_later hb c13
 replace c14 := cell_later hb c14
 replace ia := ia.later hb
 replace ib := ib.later hb
 replace iw := iw.later hb
 replace iT := iT.later hb
 replace HB := HB.trans (hb.mono HB.size)
 clear hb
 go_wp2_with (fail)
 refine (Na.few_yes ib fb).mono ?_
 rintro e w17 ⟨rfl, hb⟩
 replace c01 := cell_later hb c01
 replace c02 := cell_later hb c02
 replace c03 := cell_later hb c03
 replace c04 := cell_later hb c04
 replace c11 := cell_later hb c11
 replace c12 := cell_later hb c12
 replace c13 := cell_later hb c13
 replace c14 := cell_later hb c14
 replace ia := ia.later hb
 replace ib := ib.later hb
 replace iw := iw.later hb
 replace iT := iT.later hb
 replace HB := HB.trans (hb.mono HB.size)
 clear hb
 go_wp2_with (fail)
 refine (own_any ia fa3).mono ?_
 rintro e w18 ⟨⟨yp, rfl, ip⟩, hb⟩
 unfold vDf
 replace c01 := cell_later hb c01
 replace c02 := cell_later hb c02
 replace c03 := cell_later hb c03
 replace c04 := cell_later hb c04
 replace c11 := cell_later hb c11
 replace c12 := cell_later hb c12
 replace c13 := cell_later hb c13
 replace c14 := cell_later hb c14
 replace ia := ia.later hb
 replace ib := ib.later hb
 replace iw := iw.later hb
 replace iT := iT.later hb
 replace HB := HB.trans (hb.mono HB.size)
 clear hb
 go_wp2_with (fail)
 refine (K0.out _ _ ip iw).mono ?_
 rintro e w19 ⟨rfl, hb⟩
 replace c01 := cell_later hb c01
 replace c02 := cell_later hb c02
 replace c03 := cell_later hb c03
 replace c04 := cell_later hb c04
 replace c11 := cell_later hb c11
 replace c12 := cell_later hb c12
 replace c13 := cell_later hb c13
 replace c14 := cell_later hb c14
 replace ia := ia.later hb
 replace ib := ib.later hb
 replace iw := iw.later hb
 replace iT := iT.later hb
 replace ip := ip.later hb
 replace HB := HB.trans (hb.mono HB.size)
 clear hb
 go_wp2_with (fail)
 clear ip
 refine (own_any ia fa3).mono ?_
 rintro e w20 ⟨⟨yq, rfl, iq⟩, hb⟩
 unfold vDf
 replace c01 := cell_later hb c01
 replace c02 := cell_later hb c02
 replace c03 := cell_later hb c03
 replace c04 := cell_later hb c04
 replace c11 := cell_later hb c11
 replace c12 := cell_later hb c12
 replace c13 := cell_later hb c13
 replace c14 := cell_later hb c14
 replace ia := ia.later hb
 replace ib := ib.later hb
 replace iw := iw.later hb
 replace iT := iT.later hb
 replace HB := HB.trans (hb.mono HB.size)
 clear hb
 go_wp2_with (fail)
 refine (KX.out _ _ iq).mono ?_
 rintro e w21 ⟨⟨yx, rfl, ix⟩, hb⟩
 unfold vDf
 replace c01 := cell_later hb c01
 replace c02 := cell_later hb c02
 replace c03 := cell_later hb c03
 replace c04 := cell_later hb c04
 replace c11 := cell_later hb c11
 replace c12 := cell_later hb c12
 replace c13 := cell_later hb c13
 replace c14 := cell_later hb c14
 replace ia := ia.later hb
 replace ib := ib.later hb
 replace iw := iw.later hb
 replace iT := iT.later hb
 replace iq := iq.later hb
 replace HB := HB.trans (hb.mono HB.size)
 clear hb
 go_upto_region 7 with (fail)
 obtain ⟨Vx, hVx, -, hb, hOx⟩ := boxDW X yx _ ix
 rw [hVx]
 obtain ⟨⟨cx1, cx2, cx3, cx4⟩, -, -⟩ := hOx Vx (Below.refl _ _)
 clear hOx hVx
 replace c01 := cell_later hb c01
 replace c02 := cell_later hb c02
 replace c03 := cell_later hb c03
 replace c04 := cell_later hb c04
 replace c11 := cell_later hb c11
 replace c12 := cell_later hb c12
 replace c13 := cell_later hb c13
 replace c14 := cell_later hb c14
 replace ia := ia.later hb
 replace ib := ib.later hb
 replace iw := iw.later hb
 replace iT := iT.later hb
 replace iq := iq.later hb
 replace ix := ix.later hb
 replace HB := HB.trans (hb.mono HB.size)
 clear hb
 go_wp2_with (fail)
 clear iq
 refine (own_any ia fa3).mono ?_
 rintro e w22 ⟨⟨yr, rfl, ir⟩, hb⟩
 unfold vDf
 replace c01 := cell_later hb c01
 replace c02 := cell_later hb c02
 replace c03 := cell_later hb c03
 replace c04 := cell_later hb c04
 replace c11 := cell_later hb c11
 replace c12 := cell_later hb c12
 replace c13 := cell_later hb c13
 replace c14 := cell_later hb c14
 replace cx1 := cell_later hb cx1
 replace cx2 := cell_later hb cx2
 replace cx3 := cell_later hb cx3
 replace cx4 := cell_later hb cx4
 replace ia := ia.later hb
 replace ib := ib.later hb
 replace iw := iw.later hb
 replace iT := iT.later hb
 replace ix := ix.later hb
 replace HB := HB.trans (hb.mono HB.size)
 clear hb
 go_wp2_with (fail)
 refine (KY.out _ _ ir).mono ?_
 rintro e w23 ⟨⟨yy, rfl, iy⟩, hb⟩
 unfold vDf
 replace c01 := cell_later hb c01
 replace c02 := cell_later hb c02
 replace c03 := cell_later hb c03
 replace c04 := cell_later hb c04
 replace c11 := cell_later hb c11
 replace c12 := cell_later hb c12
 replace c13 := cell_later hb c13
 replace c14 := cell_later hb c14
 replace cx1 := cell_later hb cx1
 replace cx2 := cell_later hb cx2
 replace cx3 := cell_later hb cx3
 replace cx4 := cell_later hb cx4
 replace ia := ia.later hb
 replace ib := ib.later hb
 replace iw := iw.later hb
 replace iT := iT.later hb
 replace ix := ix.later hb
 replace ir := ir.later hb
 replace HB := HB.trans (hb.mono HB.size)
 clear hb
 go_upto_region 8 with (fail)
 obtain ⟨Vy, hVy, -, hb, hOy⟩ := boxDW Y yy _ iy
 rw [hVy]
 obtain ⟨⟨cy1, cy2, cy3, cy4⟩, -, -⟩ := hOy Vy (Below.refl _ _)
 clear hOy hVy
 replace c01 := cell_later hb c01
 replace c02 := cell_later hb c02
 replace c03 := cell_later hb c03
 replace c04 := cell_later hb c04
 replace c11 := cell_later hb c11
 replace c12 := cell_later hb c12
 replace c13 := cell_later hb c13
 replace c14 := cell_later hb c14
 replace cx1 := cell_later hb cx1
 replace cx2 := cell_later hb cx2
 replace cx3 := cell_later hb cx3
 replace cx4 := cell_later hb cx4
 replace ia := ia.later hb
 replace ib := ib.later hb
 replace iw := iw.later hb
 replace iT := iT.later hb
 replace ix := ix.later hb
 replace ir := ir.later hb
 replace iy := iy.later hb
 replace HB := HB.trans (hb.mono HB.size)
 clear hb
 go_wp2_with (fail)
 clear ir
 refine (own_any ia fa3).mono ?_
 rintro e w24 ⟨⟨ys, rfl, is⟩, hb⟩
 unfold vDf
 replace c01 := cell_later hb c01
 replace c02 := cell_later hb c02
 replace c03 := cell_later hb c03
 replace c04 := cell_later hb c04
 replace c11 := cell_later hb c11
 replace c12 := cell_later hb c12
 replace c13 := cell_later hb c13
 replace c14 := cell_later hb c14
 replace cx1 := cell_later hb cx1
 replace cx2 := cell_later hb cx2
 replace cx3 := cell_later hb cx3
 replace cx4 := cell_later hb cx4
 replace cy1 := cell_later hb cy1
 replace cy2 := cell_later hb cy2
 replace cy3 := cell_later hb cy3
 replace cy4 := cell_later hb cy4
 replace ia := ia.later hb
 replace ib := ib.later hb
 replace iw := iw.later hb
 replace iT := iT.later hb
 replace ix := ix.later hb
 replace iy := iy.later hb
 replace HB := HB.trans (hb.mono HB.size)
 clear hb
 go_wp2_with (fail)
 refine (KZ.out _ _ is).mono ?_
 rintro e w25 ⟨⟨yz, rfl, iz⟩, hb⟩
 unfold vDf
 replace c01 := cell_later hb c01
 replace c02 := cell_later hb c02
 replace c03 := cell_later hb c03
 replace c04 := cell_later hb c04
 replace c11 := cell_later hb c11
 replace c12 := cell_later hb c12
 replace c13 := cell_later hb c13
 replace c14 := cell_later hb c14
 replace cx1 := cell_later hb cx1
 replace cx2 := cell_later hb cx2
 replace cx3 := cell_later hb cx3
 replace cx4 := cell_later hb cx4
 replace cy1 := cell_later hb cy1
 replace cy2 := cell_later hb cy2
 replace cy3 := cell_later hb cy3
 replace cy4 := cell_later hb cy4
 replace ia := ia.later hb
 replace ib := ib.later hb
 replace iw := iw.later hb
 replace iT := iT.later hb
 replace ix := ix.later hb
 replace iy := iy.later hb
 replace is := is.later hb
 replace HB := HB.trans (hb.mono HB.size)
 clear hb
 go_upto_region 9 with (fail)
 obtain ⟨Vz, hVz, -, hb, hOz⟩ := boxDW Z yz _ iz
 rw [hVz]
 obtain ⟨⟨cz1, cz2, cz3, cz4⟩, -, -⟩ := hOz Vz (Below.refl _ _)
 clear hOz hVz
 replace c01 := cell_later hb c01
 replace c02 := cell_later hb c02
 replace c03 := cell_later hb c03
 replace c04 := cell_later hb c04
 replace c11 := cell_later hb c11
 replace c12 := cell_later hb c12
 replace c13 := cell_later hb c13
 replace c14 := cell_later hb c14
 replace cx1 := cell_later hb cx1
 replace cx2 := cell_later hb cx2
 replace cx3 := cell_later hb cx3
 replace cx4 := cell_later hb cx4
 replace cy1 := cell_later hb cy1
 replace cy2 := cell_later hb cy2
 replace cy3 := cell_later hb cy3
 replace cy4 := cell_later hb cy4
 replace ia := ia.later hb
 replace ib := ib.later hb
 replace iw := iw.later hb
 replace iT := iT.later hb
 replace ix := ix.later hb
 replace iy := iy.later hb
 replace is := is.later hb
 replace iz := iz.later hb
 replace HB := HB.trans (hb.mono HB.size)
 clear hb
 go_wp2_with (fail)
 clear is
 refine (K1.out _ _ ix iw).mono ?_
 rintro e w26 ⟨rfl, hb⟩
 replace c01 := cell_later hb c01
 replace c02 := cell_later hb c02
 replace c03 := cell_later hb c03
 replace c04 := cell_later hb c04
 replace c11 := cell_later hb c11
 replace c12 := cell_later hb c12
 replace c13 := cell_later hb c13
 replace c14 := cell_later hb c14
 replace cx1 := cell_later hb cx1
 replace cx2 := cell_later hb cx2
 replace cx3 := cell_later hb cx3
 replace cx4 := cell_later hb cx4
 replace cy1 := cell_later hb cy1
 replace cy2 := cell_later hb cy2
 replace cy3 := cell_later hb cy3
 replace cy4 := cell_later hb cy4
 replace cz1 := cell_later hb cz1
 replace cz2 := cell_later hb cz2
 replace cz3 := cell_later hb cz3
 replace cz4 := cell_later hb cz4
 replace ia := ia.later hb
 replace ib := ib.later hb
 replace iw := iw.later hb
 replace iT := iT.later hb
 replace ix := ix.later hb
 replace iy := iy.later hb
 replace iz := iz.later hb
 replace HB := HB.trans (hb.mono HB.size)
 clear hb
 go_wp2_with (fail)
 refine (K2.out _ _ iy iw).mono ?_
 rintro e w27 ⟨rfl, hb⟩
 replace c01 := cell_later hb c01
 replace c02 := cell_later hb c02
 replace c03 := cell_later hb c03
 replace c04 := cell_later hb c04
 replace c11 := cell_later hb c11
 replace c12 := cell_later hb c12
 replace c13 := cell_later hb c13
 replace c14 := cell_later hb c14
 replace cx1 := cell_later hb cx1
 replace cx2 := cell_later hb cx2
 replace cx3 := cell_later hb cx3
 replace cx4 := cell_later hb cx4
 replace cy1 := cell_later hb cy1
 replace cy2 := cell_later hb cy2
 replace cy3 := cell_later hb cy3
 replace cy4 := cell_later hb cy4
 replace cz1 := cell_later hb cz1
 replace cz2 := cell_later hb cz2
 replace cz3 := cell_later hb cz3
 replace cz4 := cell_later hb cz4
 replace ia := ia.later hb
 replace ib := ib.later hb
 replace iw := iw.later hb
 replace iT := iT.later hb
 replace ix := ix.later hb
 replace iy := iy.later hb
 replace iz := iz.later hb
 replace HB := HB.trans (hb.mono HB.size)
 clear hb
 go_wp2_with (fail)
 refine (K3.out _ _ iz iw).mono ?_
 rintro e w28 ⟨rfl, hb⟩
 replace c01 := cell_later hb c01
 replace c02 := cell_later hb c02
 replace c03 := cell_later hb c03
 replace c04 := cell_later hb c04
 replace c11 := cell_later hb c11
 replace c12 := cell_later hb c12
 replace c13 := cell_later hb c13
 replace c14 := cell_later hb c14
 replace cx1 := cell_later hb cx1
 replace cx2 := cell_later hb cx2
 replace cx3 := cell_later hb cx3
 replace cx4 := cell_later hb cx4
 replace cy1 := cell_later hb cy1
 replace cy2 := cell_later hb cy2
 replace cy3 := cell_later hb cy3
 replace cy4 := cell_later hb cy4
 replace cz1 := cell_later hb cz1
 replace cz2 := cell_later hb cz2
 replace cz3 := cell_later hb cz3
 replace cz4 := cell_later hb cz4
 replace ia := ia.later hb
 replace ib := ib.later hb
 replace iw := iw.later hb
 replace iT := iT.later hb
 replace ix := ix.later hb
 replace iy := iy.later hb
 replace iz := iz.later hb
 replace HB := HB.trans (hb.mono HB.size)
 clear hb
 go_wp2_with (fail)
 refine (Na.own_any ib fb3).mono ?_
 rintro e w29 ⟨⟨ym, rfl, im⟩, hb⟩
 unfold Na.vNf
 replace c01 := cell_later hb c01
 replace c02 := cell_later hb c02
 replace c03 := cell_later hb c03
 replace c04 := cell_later hb c04
 replace c11 := cell_later hb c11
 replace c12 := cell_later hb c12
 replace c13 := cell_later hb c13
 replace c14 := cell_later hb c14
 replace cx1 := cell_later hb cx1
 replace cx2 := cell_later hb cx2
 replace cx3 := cell_later hb cx3
 replace cx4 := cell_later hb cx4
 replace cy1 := cell_later hb cy1
 replace cy2 := cell_later hb cy2
 replace cy3 := cell_later hb cy3
 replace cy4 := cell_later hb cy4
 replace cz1 := cell_later hb cz1
 replace cz2 := cell_later hb cz2
 replace cz3 := cell_later hb cz3
 replace cz4 := cell_later hb cz4
 replace ia := ia.later hb
 replace ib := ib.later hb
 replace iw := iw.later hb
 replace iT := iT.later hb
 replace ix := ix.later hb
 replace iy := iy.later hb
 replace iz := iz.later hb
 replace HB := HB.trans (hb.mono HB.size)
 clear hb
 go_wp2_with (fail)
 refine (KF.out _ _ im iT).mono ?_
 rintro e w30 ⟨⟨yf, rfl, if1⟩, hb⟩
 unfold vDf
 replace c01 := cell_later hb c01
 replace c02 := cell_later hb c02
 replace c03 := cell_later hb c03
 replace c04 := cell_later hb c04
 replace c11 := cell_later hb c11
 replace c12 := cell_later hb c12
 replace c13 := cell_later hb c13
 replace c14 := cell_later hb c14
 replace cx1 := cell_later hb cx1
 replace cx2 := cell_later hb cx2
 replace cx3 := cell_later hb cx3
 replace cx4 := cell_later hb cx4
 replace cy1 := cell_later hb cy1
 replace cy2 := cell_later hb cy2
 replace cy3 := cell_later hb cy3
 replace cy4 := cell_later hb cy4
 replace cz1 := cell_later hb cz1
 replace cz2 := cell_later hb cz2
 replace cz3 := cell_later hb cz3
 replace cz4 := cell_later hb cz4
 replace ia := ia.later hb
 replace ib := ib.later hb
 replace iw := iw.later hb
 replace iT := iT.later hb
 replace ix := ix.later hb
 replace iy := iy.later hb
 replace iz := iz.later hb
 replace im := im.later hb
 replace HB := HB.trans (hb.mono HB.size)
 clear hb
 go_upto_region 15 with (fail)
 obtain ⟨Vf, hVf, -, hb, hOf⟩ := boxDW R yf _ if1
 rw [hVf]
 obtain ⟨⟨cf1, cf2, cf3, cf4⟩, -, -⟩ := hOf Vf (Below.refl _ _)
 clear hOf hVf
 replace c01 := cell_later hb c01
 replace c02 := cell_later hb c02
 replace c03 := cell_later hb c03
 replace c04 := cell_later hb c04
 replace c11 := cell_later hb c11
 replace c12 := cell_later hb c12
 replace c13 := cell_later hb c13
 replace c14 := cell_later hb c14
 replace cx1 := cell_later hb cx1
 replace cx2 := cell_later hb cx2
 replace cx3 := cell_later hb cx3
 replace cx4 := cell_later hb cx4
 replace cy1 := cell_later hb cy1
 replace cy2 := cell_later hb cy2
 replace cy3 := cell_later hb cy3
 replace cy4 := cell_later hb cy4
 replace cz1 := cell_later hb cz1
 replace cz2 := cell_later hb cz2
 replace cz3 := cell_later hb cz3
 replace cz4 := cell_later hb cz4
 replace ia := ia.later hb
 replace ib := ib.later hb
 replace iw := iw.later hb
 replace iT := iT.later hb
 replace ix := ix.later hb
 replace iy := iy.later hb
 replace iz := iz.later hb
 replace im := im.later hb
 replace if1 := if1.later hb
 replace HB := HB.trans (hb.mono HB.size)
 clear hb
 clear im
 rcases HC.out with ⟨hc, hv⟩ | hc | ⟨hc, hv, vR, aR⟩
 ·subst hc
  go_wp2_with (fail)
  refine (KV.out _ _ ib).mono ?_
  rintro e w31 ⟨rfl, hb⟩
  replace c01 := cell_later hb c01
  replace c02 := cell_later hb c02
  replace c03 := cell_later hb c03
  replace c04 := cell_later hb c04
  replace c11 := cell_later hb c11
  replace c12 := cell_later hb c12
  replace c13 := cell_later hb c13
  replace c14 := cell_later hb c14
  replace cx1 := cell_later hb cx1
  replace cx2 := cell_later hb cx2
  replace cx3 := cell_later hb cx3
  replace cx4 := cell_later hb cx4
  replace cy1 := cell_later hb cy1
  replace cy2 := cell_later hb cy2
  replace cy3 := cell_later hb cy3
  replace cy4 := cell_later hb cy4
  replace cz1 := cell_later hb cz1
  replace cz2 := cell_later hb cz2
  replace cz3 := cell_later hb cz3
  replace cz4 := cell_later hb cz4
  replace cf1 := cell_later hb cf1
  replace cf2 := cell_later hb cf2
  replace cf3 := cell_later hb cf3
  replace cf4 := cell_later hb cf4
  replace ia := ia.later hb
  replace ib := ib.later hb
  replace iw := iw.later hb
  replace iT := iT.later hb
  replace ix := ix.later hb
  replace iy := iy.later hb
  replace iz := iz.later hb
  replace if1 := if1.later hb
  replace HB := HB.trans (hb.mono HB.size)
  clear hb
  rw [hv]
  go_wp2_with (fail)
  go_ret
  exact ⟨rfl, HB⟩
 ·subst hc
  go_wp2_with (fail)
  go_ret
  exact ⟨rfl, HB⟩
 ·subst hc
  have hk := fun W h' => KN.out W h'
  rw [hv] at hk
  have ha := ACC.out R vR
  rw [aR] at ha
  obtain ⟨t, ht⟩ : ∃ t, Na.accN a zs = t := ⟨_, rfl⟩
  rw [ht] at hk ha
  clear ht aR hv
  have q1 : (t == t) = true := by simp
  have HK := Lib.hid hk
  have HA := Lib.hid ha
  clear hk ha
  go_wp2_with (fail)
  refine (Na.own_any ib fb3).mono ?_
  rintro e w32 ⟨⟨yn, rfl, inn⟩, hb⟩
  unfold Na.vNf
  replace c01 := cell_later hb c01
  replace c02 := cell_later hb c02
  replace c03 := cell_later hb c03
  replace c04 := cell_later hb c04
  replace c11 := cell_later hb c11
  replace c12 := cell_later hb c12
  replace c13 := cell_later hb c13
  replace c14 := cell_later hb c14
  replace cx1 := cell_later hb cx1
  replace cx2 := cell_later hb cx2
  replace cx3 := cell_later hb cx3
  replace cx4 := cell_later hb cx4
  replace cy1 := cell_later hb cy1
  replace cy2 := cell_later hb cy2
  replace cy3 := cell_later hb cy3
  replace cy4 := cell_later hb cy4
  replace cz1 := cell_later hb cz1
  replace cz2 := cell_later hb cz2
  replace cz3 := cell_later hb cz3
  replace cz4 := cell_later hb cz4
  replace cf1 := cell_later hb cf1
  replace cf2 := cell_later hb cf2
  replace cf3 := cell_later hb cf3
  replace cf4 := cell_later hb cf4
  replace ia := ia.later hb
  replace ib := ib.later hb
  replace iw := iw.later hb
  replace iT := iT.later hb
  replace ix := ix.later hb
  replace iy := iy.later hb
  replace iz := iz.later hb
  replace if1 := if1.later hb
  replace HB := HB.trans (hb.mono HB.size)
  clear hb
  go_wp2_with (fail)
  refine (HK.out _ _ inn iw iT).mono ?_
  rintro e w33 ⟨rfl, hb⟩
  replace c01 := cell_later hb c01
  replace c02 := cell_later hb c02
  replace c03 := cell_later hb c03
  replace c04 := cell_later hb c04
  replace c11 := cell_later hb c11
  replace c12 := cell_later hb c12
  replace c13 := cell_later hb c13
  replace c14 := cell_later hb c14
  replace cx1 := cell_later hb cx1
  replace cx2 := cell_later hb cx2
  replace cx3 := cell_later hb cx3
  replace cx4 := cell_later hb cx4
  replace cy1 := cell_later hb cy1
  replace cy2 := cell_later hb cy2
  replace cy3 := cell_later hb cy3
  replace cy4 := cell_later hb cy4
  replace cz1 := cell_later hb cz1
  replace cz2 := cell_later hb cz2
  replace cz3 := cell_later hb cz3
  replace cz4 := cell_later hb cz4
  replace cf1 := cell_later hb cf1
  replace cf2 := cell_later hb cf2
  replace cf3 := cell_later hb cf3
  replace cf4 := cell_later hb cf4
  replace ia := ia.later hb
  replace ib := ib.later hb
  replace iw := iw.later hb
  replace iT := iT.later hb
  replace ix := ix.later hb
  replace iy := iy.later hb
  replace iz := iz.later hb
  replace if1 := if1.later hb
  replace inn := inn.later hb
  replace HB := HB.trans (hb.mono HB.size)
  clear hb
  go_wp2_with (fail)
  refine (HA.out _ _ if1 iw).mono ?_
  rintro e w34 ⟨rfl, hb⟩
  replace c01 := cell_later hb c01
  replace c02 := cell_later hb c02
  replace c03 := cell_later hb c03
  replace c04 := cell_later hb c04
  replace c11 := cell_later hb c11
  replace c12 := cell_later hb c12
  replace c13 := cell_later hb c13
  replace c14 := cell_later hb c14
  replace cx1 := cell_later hb cx1
  replace cx2 := cell_later hb cx2
  replace cx3 := cell_later hb cx3
  replace cx4 := cell_later hb cx4
  replace cy1 := cell_later hb cy1
  replace cy2 := cell_later hb cy2
  replace cy3 := cell_later hb cy3
  replace cy4 := cell_later hb cy4
  replace cz1 := cell_later hb cz1
  replace cz2 := cell_later hb cz2
  replace cz3 := cell_later hb cz3
  replace cz4 := cell_later hb cz4
  replace cf1 := cell_later hb cf1
  replace cf2 := cell_later hb cf2
  replace cf3 := cell_later hb cf3
  replace cf4 := cell_later hb cf4
  replace ia := ia.later hb
  replace ib := ib.later hb
  replace iw := iw.later hb
  replace iT := iT.later hb
  replace ix := ix.later hb
  replace iy := iy.later hb
  replace iz := iz.later hb
  replace if1 := if1.later hb
  replace inn := inn.later hb
  replace HB := HB.trans (hb.mono HB.size)
  clear hb
  go_wp2_with (fail)
  refine (valid_yes vR if1).mono ?_
  rintro e w35 ⟨rfl, hb⟩
  replace c01 := cell_later hb c01
  replace c02 := cell_later hb c02
  replace c03 := cell_later hb c03
  replace c04 := cell_later hb c04
  replace c11 := cell_later hb c11
  replace c12 := cell_later hb c12
  replace c13 := cell_later hb c13
  replace c14 := cell_later hb c14
  replace cx1 := cell_later hb cx1
  replace cx2 := cell_later hb cx2
  replace cx3 := cell_later hb cx3
  replace cx4 := cell_later hb cx4
  replace cy1 := cell_later hb cy1
  replace cy2 := cell_later hb cy2
  replace cy3 := cell_later hb cy3
  replace cy4 := cell_later hb cy4
  replace cz1 := cell_later hb cz1
  replace cz2 := cell_later hb cz2
  replace cz3 := cell_later hb cz3
  replace cz4 := cell_later hb cz4
  replace cf1 := cell_later hb cf1
  replace cf2 := cell_later hb cf2
  replace cf3 := cell_later hb cf3
  replace cf4 := cell_later hb cf4
  replace ia := ia.later hb
  replace ib := ib.later hb
  replace iw := iw.later hb
  replace iT := iT.later hb
  replace ix := ix.later hb
  replace iy := iy.later hb
  replace iz := iz.later hb
  replace if1 := if1.later hb
  replace inn := inn.later hb
  replace HB := HB.trans (hb.mono HB.size)
  clear hb
  go_wp2_with (fail)
  go_ret
  exact ⟨rfl, HB⟩
theorem dfaLanguages_top (d : Dfa) (h : DH) (a : Na.Nfa) (k : Na.NH) (aw : Option Addr) (lw cw : Nat) (zs : List Int) (w : World) (ia : IsDfa w h d) (ib : Na.IsNfa w k a) (iw : IsInts .i64 w aw lw cw zs) {P Q : Prop} (_ : P) (_ : Q) (iT : Na.TabW w) :
  Calls Tryz.prog 3 #[vDf d h, Na.vNf a k, .slice aw lw cw] w fun e w' => e = .returned (.bool true) ∧ Below w.heap.size w w' := dfaLanguages_walk d h a k aw lw cw zs w ia ib iw iT
end Go.Proofs.YtbjdglopkpigbaaGreatDoor
