import Derived.WalkSmall
import Derived.Test.YtimboglagjbdjaaDoorMG33
import Derived.Test.YtimboglagjbdjaaDoorMG34
import Derived.Test.YtimboglagjbdjaaDoorMG36
import Derived.Test.YtimboglagjbdjaaDoorMG39
/-
  NfaShortestW
-/
set_option linter.unusedSimpArgs false
set_option linter.unusedVariables false
namespace Go.Proofs.YtimboglagjbdjaaDoor
open Go.RowKit
attribute [local go_sem] Oper.semAt_some

theorem sh_nil {a : Nfa} (h : ValidN a) (hn : ∀ u, ¬ AccF a a.s u) : shW a = [] ∧ shX a = 8 := sh_none h fun u hu => hn u ((accF_clo h.arcsIn h.startIn).1 hu)
theorem cell_later {w w' : World} {b j : Nat} {v : Value} (hb : Below w.heap.size w w') (h : w.cell? ⟨b, j, none⟩ = some v) : w'.cell? ⟨b, j, none⟩ = some v := (hb.cell (p := ⟨b, j, none⟩) (lt_of_cell h)).trans h
set_option maxRecDepth 20000 in
set_option maxHeartbeats 16000000 in
theorem nfaShortest_walk (a : Nfa) (h : NH) (aw : Option Addr) (lw cw : Nat) (zs : List Int) (w : World) (ia : IsNfa w h a) (iw : IsInts .i64 w aw lw cw zs) (iT : TabW w) :
  Calls Tryd.prog 4 #[vNf a h, .slice aw lw cw] w fun e w' => e = .returned (.bool true) ∧ Below w.heap.size w w' := by
 obtain ⟨W0, hW0, hs0, hb0, hO0⟩ := boxRN a h w ia
 replace ia := (hO0 W0 (Below.refl _ _)).2.1
 replace iw := iw.later hb0
 obtain ⟨c01, c02, c03, c04⟩ := (hO0 W0 (Below.refl _ _)).1
 have HB : Below w.heap.size w W0 := hb0
 clear hO0 hb0
 unfold vNf
 replace iT := iT.later HB
 by_cases fa : FewN a
 rotate_left
 ·have hx := fa
  go_enter Tryd.func4, Tryd.ntmps4
  go_wp2_with (fail)
  refine (awake_any iT).mono ?_
  rintro e w1 ⟨rfl, hb⟩
  replace c01 := cell_later hb c01
  replace c02 := cell_later hb c02
  replace c03 := cell_later hb c03
  replace c04 := cell_later hb c04
  replace ia := ia.later hb
  replace iw := iw.later hb
  replace iT := iT.later hb
  replace HB := HB.trans (hb.mono HB.size)
  clear hb
  go_wp2_with (fail)
  refine (few_no ia fa).mono ?_
  rintro e w2 ⟨rfl, hb⟩
  replace c01 := cell_later hb c01
  replace c02 := cell_later hb c02
  replace c03 := cell_later hb c03
  replace c04 := cell_later hb c04
  replace ia := ia.later hb
  replace iw := iw.later hb
  replace iT := iT.later hb
  replace HB := HB.trans (hb.mono HB.size)
  clear hb
  go_wp2_with (fail)
  go_ret
  exact ⟨rfl, HB⟩
 have rv := fun W h' (hd : IsNfa W h' a) => refValid_any a h' W hd
 by_cases hv : ValidN a
 rotate_left
 ·rw [vN_no hv] at rv
  go_enter Tryd.func4, Tryd.ntmps4
  go_wp2_with (fail)
  refine (awake_any iT).mono ?_
  rintro e w3 ⟨rfl, hb⟩
  replace c01 := cell_later hb c01
  replace c02 := cell_later hb c02
  replace c03 := cell_later hb c03
  replace c04 := cell_later hb c04
  replace ia := ia.later hb
  replace iw := iw.later hb
  replace iT := iT.later hb
  replace HB := HB.trans (hb.mono HB.size)
  clear hb
  go_wp2_with (fail)
  refine (few_yes ia fa).mono ?_
  rintro e w4 ⟨rfl, hb⟩
  replace c01 := cell_later hb c01
  replace c02 := cell_later hb c02
  replace c03 := cell_later hb c03
  replace c04 := cell_later hb c04
  replace ia := ia.later hb
  replace iw := iw.later hb
  replace iT := iT.later hb
  replace HB := HB.trans (hb.mono HB.size)
  clear hb
  go_wp2_with (fail)
  refine (rv _ _ ia).mono ?_
  rintro e w5 ⟨rfl, hb⟩
  replace c01 := cell_later hb c01
  replace c02 := cell_later hb c02
  replace c03 := cell_later hb c03
  replace c04 := cell_later hb c04
  replace ia := ia.later hb
  replace iw := iw.later hb
  replace iT := iT.later hb
  replace HB := HB.trans (hb.mono HB.size)
  clear hb
  go_wp2_with (fail)
  go_ret
  exact ⟨rfl, HB⟩
 rw [vN_yes hv] at rv
 by_cases hlw : 20 < lw
 ·have d1 : decide ((20 : Int) < (lw : Int)) = true := decide_eq_true (by omega)
  go_enter Tryd.func4, Tryd.ntmps4
  go_wp2_with (fail)
  refine (awake_any iT).mono ?_
  rintro e w6 ⟨rfl, hb⟩
  replace c01 := cell_later hb c01
  replace c02 := cell_later hb c02
  replace c03 := cell_later hb c03
  replace c04 := cell_later hb c04
  replace ia := ia.later hb
  replace iw := iw.later hb
  replace iT := iT.later hb
  replace HB := HB.trans (hb.mono HB.size)
  clear hb
  go_wp2_with (fail)
  refine (few_yes ia fa).mono ?_
  rintro e w7 ⟨rfl, hb⟩
  replace c01 := cell_later hb c01
  replace c02 := cell_later hb c02
  replace c03 := cell_later hb c03
  replace c04 := cell_later hb c04
  replace ia := ia.later hb
  replace iw := iw.later hb
  replace iT := iT.later hb
  replace HB := HB.trans (hb.mono HB.size)
  clear hb
  go_wp2_with (fail)
  refine (rv _ _ ia).mono ?_
  rintro e w8 ⟨rfl, hb⟩
  replace c01 := cell_later hb c01
  replace c02 := cell_later hb c02
  replace c03 := cell_later hb c03
  replace c04 := cell_later hb c04
  replace ia := ia.later hb
  replace iw := iw.later hb
  replace iT := iT.later hb
  replace HB := HB.trans (hb.mono HB.size)
  clear hb
  go_wp2_with (fail)
  go_ret
  exact ⟨rfl, HB⟩
 have d1 : decide ((20 : Int) < (lw : Int)) = false := decide_eq_false (by omega)
 have fa3 : a.arcs.length ≤ 1000 := by have := fa.2.2.2; omega
 have hzl : zs.length = lw := iw.length
 have hlw2 : lw ≤ 20 := by omega
 have HZL := Lib.hid hzl
 have HV := Lib.hid hv
 have hn1 : 0 ≤ a.n ∧ a.n ≤ 200 := hv.1
 have ka := fun W h' (l : List Int) (b : Bool) (aq : Option Addr) (lq cq : Nat) (hd : IsNfa W h' a) (hb : acN a l = b) (hi : IsInts .i64 W aq lq cq l) (hT : TabW W) => (show Calls Tryd.prog 17 #[vNf a h', .slice aq lq cq] W (fun e w' => e = .returned (.tuple #[.bool b, .int .i64 0]) ∧ Below W.heap.size W w') from by
  have h1 := accepts_any (w := W) (h := h') hd hi hT
  rw [accV_yes hv, hb] at h1
  exact h1)
 have KA := Lib.hid ka
 clear hzl hlw ka hv
 go_enter Tryd.func4, Tryd.ntmps4
 go_wp2_with (fail)
 refine (awake_any iT).mono ?_
 rintro e w9 ⟨rfl, hb⟩
 replace c01 := cell_later hb c01
 replace c02 := cell_later hb c02
 replace c03 := cell_later hb c03
 replace c04 := cell_later hb c04
 replace ia := ia.later hb
 replace iw := iw.later hb
 replace iT := iT.later hb
 replace HB := HB.trans (hb.mono HB.size)
 clear hb
 go_wp2_with (fail)
 refine (few_yes ia fa).mono ?_
 rintro e w10 ⟨rfl, hb⟩
 replace c01 := cell_later hb c01
 replace c02 := cell_later hb c02
 replace c03 := cell_later hb c03
 replace c04 := cell_later hb c04
 replace ia := ia.later hb
 replace iw := iw.later hb
 replace iT := iT.later hb
 replace HB := HB.trans (hb.mono HB.size)
 clear hb
 go_wp2_with (fail)
 refine (rv _ _ ia).mono ?_
 rintro e w11 ⟨rfl, hb⟩
 replace c01 := cell_later hb c01
 replace c02 := cell_later hb c02
 replace c03 := cell_later hb c03
 replace c04 := cell_later hb c04
 replace ia := ia.later hb
 replace iw := iw.later hb
 replace iT := iT.later hb
 replace HB := HB.trans (hb.mono HB.size)
 clear hb
 go_wp2_with (fail)
 refine (own_any ia fa3).mono ?_
 rintro e w12 ⟨⟨yp, rfl, ip⟩, hb⟩
 unfold vNf
 replace c01 := cell_later hb c01
 replace c02 := cell_later hb c02
 replace c03 := cell_later hb c03
 replace c04 := cell_later hb c04
 replace ia := ia.later hb
 replace iw := iw.later hb
 replace iT := iT.later hb
 replace HB := HB.trans (hb.mono HB.size)
 clear hb
 go_upto_region 6 with (fail)
 obtain ⟨Vp, hVp, -, hb, hOp⟩ := boxNW a yp _ ip
 rw [hVp]
 obtain ⟨⟨cp1, cp2, cp3, cp4⟩, -, -⟩ := hOp Vp (Below.refl _ _)
 clear hOp hVp
 replace c01 := cell_later hb c01
 replace c02 := cell_later hb c02
 replace c03 := cell_later hb c03
 replace c04 := cell_later hb c04
 replace ia := ia.later hb
 replace iw := iw.later hb
 replace iT := iT.later hb
 replace ip := ip.later hb
 replace HB := HB.trans (hb.mono HB.size)
 clear hb
 go_wp2_with (fail)
 refine (Shortest_any ip iT).mono ?_
 rintro e w13 ⟨⟨⟨aS, cS, rfl, iS⟩, hb⟩, hP⟩
 replace c01 := cell_later hb c01
 replace c02 := cell_later hb c02
 replace c03 := cell_later hb c03
 replace c04 := cell_later hb c04
 replace cp1 := cell_later hb cp1
 replace cp2 := cell_later hb cp2
 replace cp3 := cell_later hb cp3
 replace cp4 := cell_later hb cp4
 replace ia := ia.later hb
 replace iw := iw.later hb
 replace iT := iT.later hb
 replace ip := ip.later hb
 replace HB := HB.trans (hb.mono HB.size)
 clear hb
 rcases hP HV.out with hP | ⟨u, hu, hul⟩
 ·have hacc : acN a zs = false := by
   cases hx : acN a zs with
   | false => rfl
   | true => exact absurd ((acN_accF HV.out).1 hx) (hP zs)
  obtain ⟨e1, e2⟩ := sh_nil HV.out hP
  rw [e1] at iS ⊢
  rw [e2]
  clear hP e1 e2
  go_wp2_with (fail)
  refine (KA.out _ _ _ _ _ _ _ ip hacc iw iT).mono ?_
  rintro e w14 ⟨rfl, hb⟩
  replace c01 := cell_later hb c01
  replace c02 := cell_later hb c02
  replace c03 := cell_later hb c03
  replace c04 := cell_later hb c04
  replace cp1 := cell_later hb cp1
  replace cp2 := cell_later hb cp2
  replace cp3 := cell_later hb cp3
  replace cp4 := cell_later hb cp4
  replace ia := ia.later hb
  replace iw := iw.later hb
  replace iT := iT.later hb
  replace ip := ip.later hb
  replace iS := iS.later hb
  replace HB := HB.trans (hb.mono HB.size)
  clear hb
  go_wp2_with (fail)
  go_ret
  exact ⟨rfl, HB⟩
 ·obtain ⟨e1, e2⟩ := sh_some HV.out hu
  rw [e1] at iS ⊢
  rw [e2]
  have hau : acN a u = true := (acN_accF HV.out).2 hu.1
  obtain ⟨ul, hull⟩ : ∃ n, u.length = n := ⟨_, rfl⟩
  have HLE : Hid (acN a zs = true → ul < lw ∨ (ul = lw ∧ cmpL u zs ≤ 0)) := Lib.hid (fun hx => by
   have h1 := hu.2 zs ((acN_accF HV.out).1 hx)
   unfold SLe at h1
   rw [hull, HZL.out] at h1
   exact h1)
  rw [hull] at iS hul ⊢
  have q1 : decide ((if a.n < 1 then 1 else a.n) ≤ (ul : Int)) = false := decide_eq_false (by split <;> omega)
  have q2 : decide (max a.n 1 ≤ (ul : Int)) = false := decide_eq_false (by omega)
  have q3 : decide ((if 1 < a.n then a.n else 1) ≤ (ul : Int)) = false := decide_eq_false (by split <;> omega)
  have hul2 : ul ≤ 200 := by omega
  clear e1 e2 hu hull hul
  obtain ⟨b, hb1⟩ : ∃ b, acN a zs = b := ⟨_, rfl⟩
  go_wp2_with (fail)
  refine (KA.out _ _ _ _ _ _ _ ip hb1 iw iT).mono ?_
  rintro e w15 ⟨rfl, hb⟩
  replace c01 := cell_later hb c01
  replace c02 := cell_later hb c02
  replace c03 := cell_later hb c03
  replace c04 := cell_later hb c04
  replace cp1 := cell_later hb cp1
  replace cp2 := cell_later hb cp2
  replace cp3 := cell_later hb cp3
  replace cp4 := cell_later hb cp4
  replace ia := ia.later hb
  replace iw := iw.later hb
  replace iT := iT.later hb
  replace ip := ip.later hb
  replace iS := iS.later hb
  replace HB := HB.trans (hb.mono HB.size)
  clear hb
  rw [hb1] at HLE
  clear hb1
  go_wp2_with (fail)
  refine (KA.out _ _ _ _ _ _ _ ip hau iS iT).mono ?_
  rintro e w16 ⟨rfl, hb⟩
  replace c01 := cell_later hb c01
  replace c02 := cell_later hb c02
  replace c03 := cell_later hb c03
  replace c04 := cell_later hb c04
  replace cp1 := cell_later hb cp1
  replace cp2 := cell_later hb cp2
  replace cp3 := cell_later hb cp3
  replace cp4 := cell_later hb cp4
  replace ia := ia.later hb
  replace iw := iw.later hb
  replace iT := iT.later hb
  replace ip := ip.later hb
  replace iS := iS.later hb
  replace HB := HB.trans (hb.mono HB.size)
  clear hb
  cases b with
  | false =>
   go_wp2_with (fail)
   go_ret
   exact ⟨rfl, HB⟩
  | true =>
   rcases Nat.lt_or_ge ul lw with hlt | hge
   ·have q4 : decide (ul < lw) = true := decide_eq_true hlt
    go_wp2_with (fail)
    go_ret
    exact ⟨rfl, HB⟩
   ·obtain ⟨hle1, hle2⟩ : ul = lw ∧ cmpL u zs ≤ 0 := by
     rcases HLE.out rfl with h1 | h1
     ·omega
     ·exact h1
    subst hle1
    have q4 : decide (ul < ul) = false := decide_eq_false (by omega)
    have kq := compareQ _ _ _ u _ _ _ zs _ iS iw (by omega) (by omega)
    obtain ⟨cv, hcv⟩ : ∃ v, cmpL u zs = v := ⟨_, rfl⟩
    rw [hcv] at kq hle2
    have q5 : decide (cv ≤ 0) = true := decide_eq_true hle2
    clear hcv hle2
    go_wp2_with (fail)
    refine kq.mono ?_
    rintro e w9 ⟨rfl, m, rfl⟩
    go_wp2_with (fail)
    go_ret
    exact ⟨rfl, below_drewN HB m⟩
theorem nfaShortest_top (a : Nfa) (h : NH) (aw : Option Addr) (lw cw : Nat) (zs : List Int) (w : World) (ia : IsNfa w h a) (iw : IsInts .i64 w aw lw cw zs) {P Q : Prop} (_ : P) (_ : Q) (iT : TabW w) :
  Calls Tryd.prog 4 #[vNf a h, .slice aw lw cw] w fun e w' => e = .returned (.bool true) ∧ Below w.heap.size w w' := nfaShortest_walk a h aw lw cw zs w ia iw iT
end Go.Proofs.YtimboglagjbdjaaDoor
