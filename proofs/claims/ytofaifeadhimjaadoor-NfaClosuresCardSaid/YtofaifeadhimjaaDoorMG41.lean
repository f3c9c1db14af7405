import Derived.Test.YtofaifeadhimjaaDoorMG10
import Derived.Test.YtofaifeadhimjaaDoorMG33
import Derived.Test.YtofaifeadhimjaaDoorMG39
/-
  NfaClosuresW
-/
set_option linter.unusedSimpArgs false
set_option linter.unusedVariables false
namespace Go.Proofs.YtofaifeadhimjaaDoor
open List (foldr_cons foldr_nil setIfInBounds_toArray set_cons_succ set_cons_zero)
open Go.RowKit
attribute [local go_sem] Oper.semAt_some

def IntsV (l : List Int) : Value → World → Prop := fun v W => ∃ a c, v = .slice a l.length c ∧ IsInts .i64 W a l.length c l
theorem stays_intsV (l : List Int) : Stays (IntsV l) := fun _ _ _ hb ⟨a, c, e, h⟩ => ⟨a, c, e, h.later hb⟩
def SetT (S : List Int) (x : Int) : Value → World → Prop := fun v W => ∃ g t c zs, v = .tuple #[.slice g t c, .int .i64 x] ∧ IsInts .u64 W g t c zs ∧ Bt.SetIs zs (inL S) ∧ t ≤ 64
theorem stays_setT (S : List Int) (x : Int) : Stays (SetT S x) := fun _ _ _ hb ⟨g, t, c, zs, e, h, h1, h2⟩ => ⟨g, t, c, zs, e, h.later hb, h1, h2⟩
def SetW (S : List Int) : Value → World → Prop := fun v W => ∃ g t c zs, v = .slice g t c ∧ IsInts .u64 W g t c zs ∧ Bt.SetIs zs (inL S) ∧ t ≤ 64
theorem stays_setW (S : List Int) : Stays (SetW S) := fun _ _ _ hb ⟨g, t, c, zs, e, h, h1, h2⟩ => ⟨g, t, c, zs, e, h.later hb, h1, h2⟩
theorem one_new (W : World) (y : Int) (T : TypeId) : IsInts .i64 (W.alloc (.cells #[.int .i64 y] T)) (some ⟨W.heap.size, 0, none⟩) 1 1 [y] :=
 .inr ⟨W.heap.size, 0, rfl, Nat.le_refl _, by unfold maxLen; omega, rfl, fun i hi => by
  obtain rfl : i = 0 := by omega
  exact cell_of_row _ _ 0 _ _ _ (heap_alloc_new W _)⟩
theorem makeS {n : Int} {l : List Int} {w : World} {aq : Option Addr} {lq cq : Nat} (hs : IsInts .i64 w aq lq cq l) (hb : Bd n l) (hn : n ≤ 4096) :
  Calls Tryd.prog 30 #[.slice aq lq cq] w fun e w' => (∃ g t zs, e = .returned (.slice (some ⟨g, 0, none⟩) t t) ∧ IsInts .u64 w' (some ⟨g, 0, none⟩) t t zs ∧ Bt.SetIs zs (inL l)) ∧ Below w.heap.size w w' := by
 refine (make_S hs (fun z hz => by have := hb z hz; exact WalkArith.wf_i64 ⟨by omega, by omega⟩)).mono ?_
 rintro e w' ⟨g, t, zs, rfl, hp, hz, -, hb⟩
 exact ⟨⟨g, t, zs, rfl, hp.ints, hz⟩, hb⟩
theorem _root_.Go.RowKit.Below.later {w W W' : World} (h : Below w.heap.size w W) (hb : Below W.heap.size W W') : Below w.heap.size w W' := h.trans (hb.mono h.size)
theorem cell_later {w w' : World} {b j : Nat} {v : Value} (hb : Below w.heap.size w w') (h : w.cell? ⟨b, j, none⟩ = some v) : w'.cell? ⟨b, j, none⟩ = some v := (hb.cell (p := ⟨b, j, none⟩) (lt_of_cell h)).trans h
theorem stp_nil {n : Int} {es : List A3} (ha : ArcsIn n es) (c : Int) : ∀ z, z ∈ stpL es [] c ↔ z ∈ ([] : List Int) := fun z => by
 have h0 : cloL es [] = [] := List.eq_nil_iff_forall_not_mem.2 fun y hy => absurd ((clo_nil ha y).1 hy) List.not_mem_nil
 have h1 : tgtL es [] c = [] := List.eq_nil_iff_forall_not_mem.2 fun y hy => by
  obtain ⟨_, x, _, _, h, _⟩ := mem_tgtL.1 hy
  cases h
 unfold stpL movL
 rw [h0, h1]
 exact clo_nil ha z
set_option maxRecDepth 20000 in
set_option maxHeartbeats 4000000 in
theorem nfaClosures_walk (a : Nfa) (h : NH) (aw : Option Addr) (lw cw : Nat) (zs : List Int) (c : Int) (w : World) (ia : IsNfa w h a) (iw : IsInts .u8 w aw lw cw zs) (hw8 : ∀ z ∈ zs, 0 ≤ z ∧ z < 256) (iT : TabW w) :
  Calls Tryd.prog 5 #[vNf a h, .slice aw lw cw, .int .i64 c] w fun e w' => e = .returned (.bool true) ∧ Below w.heap.size w w' := by
 obtain ⟨W0, hW0, hs0, hb0, hO0⟩ := boxRN a h w ia
 replace ia := (hO0 W0 (Below.refl _ _)).2.1
 replace iw := iw.later hb0
 obtain ⟨c01, c02, c03, c04⟩ := (hO0 W0 (Below.refl _ _)).1
 have HB : Below w.heap.size w W0 := hb0
 clear hO0 hb0
 unfold vNf
 replace iT := iT.later HB
 by_cases fa : FewN a
 rotate_left
 ·have hx := fa
  go_enter Tryd.func5, Tryd.ntmps5
  go_wp2_with (fail)
  refine (awake_any iT).mono ?_
  rintro e w1 ⟨rfl, hb⟩
  replace c01 := cell_later hb c01
  replace c02 := cell_later hb c02
  replace c03 := cell_later hb c03
  replace c04 := cell_later hb c04
  replace ia := ia.later hb
  replace iw := iw.later hb
  replace iT := iT.later hb
  replace HB := HB.trans (hb.mono HB.size)
  clear hb
  go_wp2_with (fail)
  refine (few_no ia fa).mono ?_
  rintro e w2 ⟨rfl, hb⟩
  replace c01 := cell_later hb c01
  replace c02 := cell_later hb c02
  replace c03 := cell_later hb c03
  replace c04 := cell_later hb c04
  replace ia := ia.later hb
  replace iw := iw.later hb
  replace iT := iT.later hb
  replace HB := HB.trans (hb.mono HB.size)
  clear hb
  go_wp2_with (fail)
  go_ret
  exact ⟨rfl, HB⟩
 have rv := fun W h' (hd : IsNfa W h' a) => refValid_any a h' W hd
 by_cases hv : ValidN a
 rotate_left
 ·rw [vN_no hv] at rv
  go_enter Tryd.func5, Tryd.ntmps5
  go_wp2_with (fail)
  refine (awake_any iT).mono ?_
  rintro e w3 ⟨rfl, hb⟩
  replace c01 := cell_later hb c01
  replace c02 := cell_later hb c02
  replace c03 := cell_later hb c03
  replace c04 := cell_later hb c04
  replace ia := ia.later hb
  replace iw := iw.later hb
  replace iT := iT.later hb
  replace HB := HB.trans (hb.mono HB.size)
  clear hb
  go_wp2_with (fail)
  refine (few_yes ia fa).mono ?_
  rintro e w4 ⟨rfl, hb⟩
  replace c01 := cell_later hb c01
  replace c02 := cell_later hb c02
  replace c03 := cell_later hb c03
  replace c04 := cell_later hb c04
  replace ia := ia.later hb
  replace iw := iw.later hb
  replace iT := iT.later hb
  replace HB := HB.trans (hb.mono HB.size)
  clear hb
  go_wp2_with (fail)
  refine (rv _ _ ia).mono ?_
  rintro e w5 ⟨rfl, hb⟩
  replace c01 := cell_later hb c01
  replace c02 := cell_later hb c02
  replace c03 := cell_later hb c03
  replace c04 := cell_later hb c04
  replace ia := ia.later hb
  replace iw := iw.later hb
  replace iT := iT.later hb
  replace HB := HB.trans (hb.mono HB.size)
  clear hb
  go_wp2_with (fail)
  go_ret
  exact ⟨rfl, HB⟩
 rw [vN_yes hv] at rv
 by_cases h0 : a.n = 0
 ·have d0 : (a.n == 0) = true := by simp [h0]
  clear h0
  go_enter Tryd.func5, Tryd.ntmps5
  go_wp2_with (fail)
  refine (awake_any iT).mono ?_
  rintro e w6 ⟨rfl, hb⟩
  replace c01 := cell_later hb c01
  replace c02 := cell_later hb c02
  replace c03 := cell_later hb c03
  replace c04 := cell_later hb c04
  replace ia := ia.later hb
  replace iw := iw.later hb
  replace iT := iT.later hb
  replace HB := HB.trans (hb.mono HB.size)
  clear hb
  go_wp2_with (fail)
  refine (few_yes ia fa).mono ?_
  rintro e w7 ⟨rfl, hb⟩
  replace c01 := cell_later hb c01
  replace c02 := cell_later hb c02
  replace c03 := cell_later hb c03
  replace c04 := cell_later hb c04
  replace ia := ia.later hb
  replace iw := iw.later hb
  replace iT := iT.later hb
  replace HB := HB.trans (hb.mono HB.size)
  clear hb
  go_wp2_with (fail)
  refine (rv _ _ ia).mono ?_
  rintro e w8 ⟨rfl, hb⟩
  replace c01 := cell_later hb c01
  replace c02 := cell_later hb c02
  replace c03 := cell_later hb c03
  replace c04 := cell_later hb c04
  replace ia := ia.later hb
  replace iw := iw.later hb
  replace iT := iT.later hb
  replace HB := HB.trans (hb.mono HB.size)
  clear hb
  go_wp2_with (fail)
  go_ret
  exact ⟨rfl, HB⟩
 have d0 : (a.n == 0) = false := by simp [h0]
 by_cases hlw : 10 < lw
 ·have d1 : decide ((10 : Int) < (lw : Int)) = true := decide_eq_true (by omega)
  go_enter Tryd.func5, Tryd.ntmps5
  go_wp2_with (fail)
  refine (awake_any iT).mono ?_
  rintro e w9 ⟨rfl, hb⟩
  replace c01 := cell_later hb c01
  replace c02 := cell_later hb c02
  replace c03 := cell_later hb c03
  replace c04 := cell_later hb c04
  replace ia := ia.later hb
  replace iw := iw.later hb
  replace iT := iT.later hb
  replace HB := HB.trans (hb.mono HB.size)
  clear hb
  go_wp2_with (fail)
  refine (few_yes ia fa).mono ?_
  rintro e w10 ⟨rfl, hb⟩
  replace c01 := cell_later hb c01
  replace c02 := cell_later hb c02
  replace c03 := cell_later hb c03
  replace c04 := cell_later hb c04
  replace ia := ia.later hb
  replace iw := iw.later hb
  replace iT := iT.later hb
  replace HB := HB.trans (hb.mono HB.size)
  clear hb
  go_wp2_with (fail)
  refine (rv _ _ ia).mono ?_
  rintro e w11 ⟨rfl, hb⟩
  replace c01 := cell_later hb c01
  replace c02 := cell_later hb c02
  replace c03 := cell_later hb c03
  replace c04 := cell_later hb c04
  replace ia := ia.later hb
  replace iw := iw.later hb
  replace iT := iT.later hb
  replace HB := HB.trans (hb.mono HB.size)
  clear hb
  go_wp2_with (fail)
  go_ret
  exact ⟨rfl, HB⟩
 have d1 : decide ((10 : Int) < (lw : Int)) = false := decide_eq_false (by omega)
 have fa3 : a.arcs.length ≤ 1000 := by have := fa.2.2.2; omega
 have hzl : zs.length = lw := iw.length
 have hn1 : 1 ≤ a.n ∧ a.n ≤ 12 := ⟨by have := hv.1; omega, fa.1⟩
 obtain ⟨q, hq⟩ : ∃ q, zs.map (fun z => z % a.n) = q := ⟨_, rfl⟩
 have hql : q.length = lw := by rw [← hq, List.length_map, hzl]
 have hbq : Bd a.n q := by
  intro z hz
  rw [← hq] at hz
  obtain ⟨y, hy, rfl⟩ := List.mem_map.1 hz
  have hy0 := hw8 y hy
  exact ⟨Int.emod_nonneg _ (by omega), Int.emod_lt_of_pos _ (by omega)⟩
 have hqi : ∀ i, i < lw → gi q i = gi zs i % a.n ∧ 0 ≤ gi zs i ∧ gi zs i < 256 ∧ 0 ≤ gi q i ∧ gi q i < a.n := fun i hi => by
  have e : gi q i = gi zs i % a.n := by rw [gi_eq _ _ (by omega), gi_eq _ _ (by omega)]; simp only [← hq, List.getElem_map]
  have h1 := hw8 _ (gi_mem zs i (by omega))
  have h2 := hbq _ (gi_mem q i (by omega))
  exact ⟨e, h1.1, h1.2, h2.1, h2.2⟩
 obtain ⟨es, hes⟩ : ∃ es, a.arcs = es := ⟨_, rfl⟩
 have har := hv.arcsIn
 rw [hes] at har
 have kc := fun W h' (l : List Int) (S : List Int) (aq : Option Addr) (lq cq : Nat) (hd : IsNfa W h' a) (hb : Bd a.n l) (hS : cloL es l = S) (hi : IsInts .i64 W aq lq cq l) => (show Calls Tryd.prog 18 #[vNf a h', .slice aq lq cq] W (SetE S 0 W) from by
  have h1 := Closure_any (w := W) (h := h') hd hi
  rw [chk_yes hv hb, show cloV a l = S by unfold cloV; rw [if_pos (chk_yes hv hb), hes, hS]] at h1
  exact h1)
 have ks := fun W h' (l : List Int) (S : List Int) (aq : Option Addr) (lq cq : Nat) (hd : IsNfa W h' a) (hb : Bd a.n l) (hS : stpL es l c = S) (hi : IsInts .i64 W aq lq cq l) (hT : TabW W) => (show Calls Tryd.prog 20 #[vNf a h', .slice aq lq cq, .int .i64 c] W (SetE S 0 W) from by
  have h1 := Step_any (w := W) (h := h') (c := c) hd hi hT
  rw [chk_yes hv hb, show stpV a l c = S by unfold stpV; rw [if_pos (chk_yes hv hb), hes, hS]] at h1
  exact h1)
 have hC1 : Bd a.n (cloL es q) ∧ (cloL es q).Pairwise (· < ·) := ⟨cloL_bd har hbq, cloL_asc _ _⟩
 have e1 : cloL es (cloL es q) = cloL es q := cloL_cloL har hbq
 have e2 : stpL es (cloL es q) c = stpL es q c := stp_clo har hbq c
 have m0 : ∀ z ∈ q, z ∈ cloL es q := sub_clo har hbq
 have m1 : ∀ k, k < lw → ∀ z ∈ cloL es [gi q k], z ∈ cloL es q := fun k hk => clo_sub har hbq (by omega)
 have m2 : ∀ k, k < lw → ∀ z, z ∈ cloL es (q.take (k + 1)) ↔ z ∈ cloL es (q.take k) ∨ z ∈ cloL es [gi q k] := fun k hk => clo_take har hbq (by omega)
 have m3 : ∀ k, k < lw → ∀ z, z ∈ stpL es (q.take (k + 1)) c ↔ z ∈ stpL es (q.take k) c ∨ z ∈ stpL es [gi q k] c := fun k hk => stp_take har hbq (by omega) c
 have m4 : ∀ k, k < lw → Bd a.n [gi q k] := fun k hk => bd_one hbq (by omega)
 have m5 : Bt.SetIs [] (inL (cloL es (q.take 0))) := set_congr set_nil fun n hn => decide_eq_decide.2 (by rw [List.take_zero]; exact (clo_nil har n).symm)
 have m6 : Bt.SetIs [] (inL (stpL es (q.take 0) c)) := set_congr set_nil fun n hn => decide_eq_decide.2 (by rw [List.take_zero]; exact (stp_nil har c n).symm)
 have m7 : q.take lw = q := List.take_of_length_le (by omega)
 have KC := Lib.hid kc
 have KS := Lib.hid ks
 have M0 := Lib.hid m0
 have M1 := Lib.hid m1
 have M2 := Lib.hid m2
 have M3 := Lib.hid m3
 have M4 := Lib.hid m4
 have M5 := Lib.hid m5
 have M6 := Lib.hid m6
 have M7 := Lib.hid m7
 have HC1 := Lib.hid hC1
 have HQI := Lib.hid hqi
 have HBQ := Lib.hid hbq
 have HQL := Lib.hid hql
 have HE1 := Lib.hid e1
 have HE2 := Lib.hid e2
 have HN1 := Lib.hid hn1
 have HFA := Lib.hid hw8
 have hlw2 : lw ≤ 10 := by omega
 clear kc ks m0 m1 m2 m3 m4 m5 m6 m7 hC1 hqi hbq hql e1 e2 hn1 hq hzl har hes h0 hw8 hlw
 go_enter Tryd.func5, Tryd.ntmps5
 go_wp2_with (fail)
 refine (awake_any iT).mono ?_
 rintro e w12 ⟨rfl, hb⟩
 replace c01 := cell_later hb c01
 replace c02 := cell_later hb c02
 replace c03 := cell_later hb c03
 replace c04 := cell_later hb c04
 replace ia := ia.later hb
 replace iw := iw.later hb
 replace iT := iT.later hb
 replace HB := HB.trans (hb.mono HB.size)
 clear hb
 go_wp2_with (fail)
 refine (few_yes ia fa).mono ?_
 rintro e w13 ⟨rfl, hb⟩
 replace c01 := cell_later hb c01
 replace c02 := cell_later hb c02
 replace c03 := cell_later hb c03
 replace c04 := cell_later hb c04
 replace ia := ia.later hb
 replace iw := iw.later hb
 replace iT := iT.later hb
 replace HB := HB.trans (hb.mono HB.size)
 clear hb
 go_wp2_with (fail)
 refine (rv _ _ ia).mono ?_
 rintro e w14 ⟨rfl, hb⟩
 replace c01 := cell_later hb c01
 replace c02 := cell_later hb c02
 replace c03 := cell_later hb c03
 replace c04 := cell_later hb c04
 replace ia := ia.later hb
 replace iw := iw.later hb
 replace iT := iT.later hb
 replace HB := HB.trans (hb.mono HB.size)
 clear hb
 go_wp2_with (fail)
 refine (own_any ia fa3).mono ?_
 rintro e w15 ⟨⟨yp, rfl, ip⟩, hb⟩
 unfold vNf
 replace c01 := cell_later hb c01
 replace c02 := cell_later hb c02
 replace c03 := cell_later hb c03
 replace c04 := cell_later hb c04
 replace ia := ia.later hb
 replace iw := iw.later hb
 replace iT := iT.later hb
 replace HB := HB.trans (hb.mono HB.size)
 clear hb
 go_upto_region 6 with (fail)
 obtain ⟨Vp, hVp, -, hb, hOp⟩ := boxNW a yp _ ip
 rw [hVp]
 obtain ⟨⟨cp1, cp2, cp3, cp4⟩, -, -⟩ := hOp Vp (Below.refl _ _)
 clear hOp hVp
 replace c01 := cell_later hb c01
 replace c02 := cell_later hb c02
 replace c03 := cell_later hb c03
 replace c04 := cell_later hb c04
 replace ia := ia.later hb
 replace iw := iw.later hb
 replace iT := iT.later hb
 replace ip := ip.later hb
 replace HB := HB.trans (hb.mono HB.size)
 clear hb
 go_wp2_with (fail)
 go_loopw [8, 50] (fun v c W => ∃ (i : Nat) (ax : Option Addr) (cs : Nat), i ≤ lw ∧ c = .int .i64 (i : Int) ∧ v = .slice ax i cs ∧ W.ownsRow Vp.heap.size 3 1 (.slice ax i cs) i (ivs .i64 (q.take i)) ∧ Below Vp.heap.size Vp W) (fun _ c _ => lw - (intOf c).toNat)
 case atStart => exact ⟨0, none, 0, Nat.zero_le _, rfl, rfl, World.ownsRow_nil _ _ _ _, Below.refl _ _⟩
 case round =>
  obtain ⟨i, ax, cs, hi, rfl, rfl, ho, hbR⟩ := hrel
  rcases Nat.lt_or_ge i lw with hlt | hge
  ·have t4 : decide (i < lw) = true := decide_eq_true hlt
   obtain ⟨hq1, hq2, hq3, hq4, hq5⟩ := HQI.out i hlt
   obtain ⟨bz, oz, haz, hzc⟩ : ∃ b off, aw = some ⟨b, off, none⟩ ∧ Vp.cell? ⟨b, off + i, none⟩ = some (.int .u8 (gi zs i)) := by
    rcases iw with ⟨_, e, _⟩ | ⟨b, off, e, _, _, _, hc⟩
    ·omega
    ·exact ⟨b, off, e, hc i hlt⟩
   subst haz
   obtain ⟨z, hz⟩ : ∃ z, gi zs i = z := ⟨_, rfl⟩
   rw [hz] at hq1 hq2 hq3
   rw [hq1] at hq4 hq5
   have HZC : Hid (∀ W, Below Vp.heap.size Vp W → W.cell? ⟨bz, oz + i, none⟩ = some (.int .u8 z)) := Lib.hid (fun W hW => by rw [← hz]; exact cell_later hW hzc)
   have HTK : Hid (q.take (i + 1) = q.take i ++ [z % a.n]) := Lib.hid (by rw [← hq1]; exact take_one (by rw [HQL.out]; exact hlt))
   have HBR := Lib.hid hbR
   have HOR := Lib.hid ho
   have C01 := Lib.hid c01
   clear hbR ho hzc hz hq1
   go_upto_region 10 with (fail)
   obtain ⟨S, hSd⟩ : ∃ S : (Nat → Bool) → (Nat → Value) → World → Prop, S = fun L f W => (L 9 = true → L 10 = false → ∃ b, f 9 = .slice (some ⟨b, 0, none⟩) 1 1 ∧ BlkAt W b #[.int .i64 (z % a.n)]) ∧ Below Vp.heap.size Vp W ∧ (L 10 = false → W.ownsRow Vp.heap.size 3 1 (.slice ax i cs) i (ivs .i64 (q.take i))) ∧ (L 10 = true → ∃ a' c', f 10 = .slice a' (i + 1) c' ∧ W.ownsRow Vp.heap.size 3 1 (.slice a' (i + 1) c') (i + 1) (ivs .i64 (q.take (i + 1))) ∧ (L 11 = true → f 11 = .slice a' (i + 1) c')) := ⟨_, rfl⟩
   refine wp_region_st mixed (by kernel_rfl) [[], [], [], [(1, 54), (2, 55)], [(3, 56)], [(4, 57)], [], [(6, 59)], [(5, 58), (7, 60)], [(8, 61)], [(0, 53), (9, 62)], [(10, 63), (10, 63), (0, 53), (1, 54), (2, 55), (3, 56), (4, 57), (5, 58), (6, 59), (7, 60), (8, 61), (9, 62), (10, 63)]] [(0, 53), (1, 54), (2, 55), (3, 56), (4, 57), (5, 58), (6, 59), (7, 60), (8, 61), (9, 62), (10, 63), (11, 8)] rfl rfl [EV ?e0, EV ?e1, EV ?e2, EV ?e3, EV ?e4, EV ?e5, EV ?e6, EV ?e7, EV ?e8, fun v => ∃ b, v = .slice (some ⟨b, 0, none⟩) 1 1, fun v => ∃ a c, v = .slice a (i + 1) c, fun v => ∃ a c, v = .slice a (i + 1) c] S ?start ?steps ?rest
   case start =>
    intro f
    rw [hSd]
    exact ⟨fun h => (by cases h), HBR.out.drew, fun _ => HOR.out.kept_below ((Below.refl _ _).drew), fun h => (by cases h)⟩
   case steps =>
    refine ⟨fun L f W hi hd hdn hh hS => ?_, fun L f W hi hd hdn hh hS => ?_, fun L f W hi hd hdn hh hS => ?_, fun L f W hi hd hdn hh hS => ?_, fun L f W hi hd hdn hh hS => ?_, fun L f W hi hd hdn hh hS => ?_, fun L f W hi hd hdn hh hS => ?_, fun L f W hi hd hdn hh hS => ?_, fun L f W hi hd hdn hh hS => ?_, fun L f W hi hd hdn hh hS => ?_, fun L f W hi hd hdn hh hS => ?_, fun L f W hi hd hdn hh hS => ?_, trivial⟩
    ·
     unfold stStep
     rw [if_pos (by simp [Region.wanted])]
     intro K Q hK
     simp only [puts, foldr_nil]
     go_step
     refine st_ex hK rfl rfl (by simp only [Act.put, setIfInBounds_toArray, set_cons_succ, set_cons_zero, Array.getD_eq_getD_getElem?, List.getElem?_toArray, List.getElem?_cons_succ, List.getElem?_cons_zero, Option.getD_some] <;> rfl) rfl (by rw [hSd] at hS ⊢; exact hS)
    ·
     unfold stStep
     rw [if_pos (by simp [Region.wanted])]
     intro K Q hK
     simp only [puts, foldr_nil]
     go_step
     refine st_ex hK rfl rfl (by simp only [Act.put, setIfInBounds_toArray, set_cons_succ, set_cons_zero, Array.getD_eq_getD_getElem?, List.getElem?_toArray, List.getElem?_cons_succ, List.getElem?_cons_zero, Option.getD_some] <;> rfl) rfl (by rw [hSd] at hS ⊢; exact hS)
    ·
     unfold stStep
     rw [if_pos (by simp [Region.wanted])]
     intro K Q hK
     simp only [puts, foldr_nil]
     go_step
     refine st_ex hK rfl rfl (by simp only [Act.put, setIfInBounds_toArray, set_cons_succ, set_cons_zero, Array.getD_eq_getD_getElem?, List.getElem?_toArray, List.getElem?_cons_succ, List.getElem?_cons_zero, Option.getD_some] <;> rfl) rfl (by rw [hSd] at hS ⊢; exact hS)
    ·
     obtain ⟨h1, h2, -⟩ := hh
     have g1 : f 1 = _ := h1
     have g2 : f 2 = _ := h2
     unfold stStep
     rw [if_pos (by simp [Region.wanted])]
     intro K Q hK
     simp only [puts, Za, Zb, Zc, Zd, Ze, g1, g2]
     go_step
     refine st_ex hK rfl rfl (by simp only [Act.put, setIfInBounds_toArray, set_cons_succ, set_cons_zero, Array.getD_eq_getD_getElem?, List.getElem?_toArray, List.getElem?_cons_succ, List.getElem?_cons_zero, Option.getD_some] <;> rfl) rfl (by rw [hSd] at hS ⊢; exact hS)
    ·
     obtain ⟨h3, -⟩ := hh
     have g3 : f 3 = _ := h3
     have l5 : L 5 = false := Bool.eq_false_iff.2 fun h => by have q := hdn 5 _ h rfl 4 (by decide); rw [show L 4 = false from hi] at q; cases q
     have l8 : L 8 = false := Bool.eq_false_iff.2 fun h => by have q := hdn 8 _ h rfl 5 (by decide); rw [show L 5 = false from l5] at q; cases q
     have l9 : L 9 = false := Bool.eq_false_iff.2 fun h => by have q := hdn 9 _ h rfl 8 (by decide); rw [show L 8 = false from l8] at q; cases q
     have l10 : L 10 = false := Bool.eq_false_iff.2 fun h => by have q := hdn 10 _ h rfl 9 (by decide); rw [show L 9 = false from l9] at q; cases q
     unfold stStep
     rw [if_pos (by simp [Region.wanted])]
     intro K Q hK
     simp only [puts, Za, Zb, Zc, Zd, Ze, g3]
     have hS' := hS
     rw [hSd] at hS'
     have x4 := HZC.out W hS'.2.1
     go_step
     refine st_ex hK rfl rfl (by simp only [Act.put, setIfInBounds_toArray, set_cons_succ, set_cons_zero, Array.getD_eq_getD_getElem?, List.getElem?_toArray, List.getElem?_cons_succ, List.getElem?_cons_zero, Option.getD_some] <;> rfl) rfl (by rw [hSd] at hS ⊢; exact hS)
    ·
     obtain ⟨h4, -⟩ := hh
     have g4 : f 4 = _ := h4
     unfold stStep
     rw [if_pos (by simp [Region.wanted])]
     intro K Q hK
     simp only [puts, Za, Zb, Zc, Zd, Ze, g4]
     go_step
     refine st_ex hK rfl rfl (by simp only [Act.put, setIfInBounds_toArray, set_cons_succ, set_cons_zero, Array.getD_eq_getD_getElem?, List.getElem?_toArray, List.getElem?_cons_succ, List.getElem?_cons_zero, Option.getD_some] <;> rfl) rfl (by rw [hSd] at hS ⊢; exact hS)
    ·
     unfold stStep
     rw [if_pos (by simp [Region.wanted])]
     intro K Q hK
     simp only [puts, foldr_nil]
     go_step
     refine st_ex hK rfl rfl (by simp only [Act.put, setIfInBounds_toArray, set_cons_succ, set_cons_zero, Array.getD_eq_getD_getElem?, List.getElem?_toArray, List.getElem?_cons_succ, List.getElem?_cons_zero, Option.getD_some] <;> rfl) rfl (by rw [hSd] at hS ⊢; exact hS)
    ·
     obtain ⟨h6, -⟩ := hh
     have g6 : f 6 = _ := h6
     have l8 : L 8 = false := Bool.eq_false_iff.2 fun h => by have q := hdn 8 _ h rfl 7 (by decide); rw [show L 7 = false from hi] at q; cases q
     have l9 : L 9 = false := Bool.eq_false_iff.2 fun h => by have q := hdn 9 _ h rfl 8 (by decide); rw [show L 8 = false from l8] at q; cases q
     have l10 : L 10 = false := Bool.eq_false_iff.2 fun h => by have q := hdn 10 _ h rfl 9 (by decide); rw [show L 9 = false from l9] at q; cases q
     unfold stStep
     rw [if_pos (by simp [Region.wanted])]
     intro K Q hK
     simp only [puts, Za, Zb, Zc, Zd, Ze, g6]
     have hS' := hS
     rw [hSd] at hS'
     have x7 := cell_later hS'.2.1 C01.out
     go_step
     refine st_ex hK rfl rfl (by simp only [Act.put, setIfInBounds_toArray, set_cons_succ, set_cons_zero, Array.getD_eq_getD_getElem?, List.getElem?_toArray, List.getElem?_cons_succ, List.getElem?_cons_zero, Option.getD_some] <;> rfl) rfl (by rw [hSd] at hS ⊢; exact hS)
    ·
     obtain ⟨h5, h7, -⟩ := hh
     have g5 : f 5 = _ := h5
     have g7 : f 7 = _ := h7
     unfold stStep
     rw [if_pos (by simp [Region.wanted])]
     intro K Q hK
     simp only [puts, Za, Zb, Zc, Zd, Ze, g5, g7]
     go_step
     refine st_ex hK rfl rfl (by simp only [Act.put, setIfInBounds_toArray, set_cons_succ, set_cons_zero, Array.getD_eq_getD_getElem?, List.getElem?_toArray, List.getElem?_cons_succ, List.getElem?_cons_zero, Option.getD_some] <;> rfl) rfl (by rw [hSd] at hS ⊢; exact hS)
    ·
     obtain ⟨h8, -⟩ := hh
     have g8 : f 8 = _ := h8
     have l10 : L 10 = false := Bool.eq_false_iff.2 fun h => by have q := hdn 10 _ h rfl 9 (by decide); rw [show L 9 = false from hi] at q; cases q
     have l11 : L 11 = false := Bool.eq_false_iff.2 fun h => by have q := hdn 11 _ h rfl 10 (by decide); rw [show L 10 = false from l10] at q; cases q
     unfold stStep
     rw [if_pos (by simp [Region.wanted])]
     intro K Q hK
     simp only [puts, Za, Zb, Zc, Zd, Ze, g8]
     rw [hSd] at hS hK
     have l9 : L 9 = false := hi
     try simp only [stage, l10, l11, l9, if_true, if_false, Bool.false_eq_true] at hS
     obtain ⟨-, hbW, ho, -⟩ := hS
     have ho2 : W.ownsRow Vp.heap.size 3 1 (.slice ax i cs) i (ivs .i64 (q.take i)) := by first | exact ho | exact ho trivial | exact ho rfl
     go_step
     refine hK.out _ _ rfl ⟨_, rfl⟩ ?_
     refine ⟨fun _ _ => ⟨_, rfl, BlkAt.new W _ _⟩, hbW.alloc hbW.size _, fun _ => ho2.kept_below ((Below.refl _ _).alloc (Nat.le_refl _) _), fun h => (by simp [l10] at h)⟩
    ·
     obtain ⟨h0, h9, -⟩ := hh
     have g0 : f 0 = _ := h0
     obtain ⟨b9, (g9 : f 9 = _)⟩ := h9
     have l9 : L 9 = true := hd 9 (by decide)
     have l11 : L 11 = false := Bool.eq_false_iff.2 fun h => by have q := hdn 11 _ h rfl 10 (by decide); rw [show L 10 = false from hi] at q; cases q
     unfold stStep
     rw [if_pos (by simp [Region.wanted])]
     intro K Q hK
     simp only [puts, Za, Zb, Zc, Zd, Ze, g0, g9]
     rw [hSd] at hS hK
     have l10 : L 10 = false := hi
     try simp only [stage, l11, l10, l9, if_true, if_false, Bool.false_eq_true] at hS
     obtain ⟨h9, hbW, ho, -⟩ := hS
     have ho2 : W.ownsRow Vp.heap.size 3 1 (.slice ax i cs) i (ivs .i64 (q.take i)) := by first | exact ho | exact ho trivial | exact ho rfl
     obtain ⟨b, e9, hq9⟩ := h9 trivial trivial
     rw [g9] at e9
     obtain rfl : b9 = b := by simpa using e9
     refine wp_app_blk elI64 _ _ rfl rfl ho2 rfl (news := [.int .i64 (z % a.n)]) ⟨rfl, fun ad e j u hj => by injection e with e; subst e; rw [addr_add, Nat.zero_add, (hq9.cell j).1, ← hj]; simp, fun e => by cases e⟩ (by intro u hu; rw [List.mem_singleton.1 hu]; rfl) (by omega) hbW.size ?_
     intro a' c' w' ho3 _ hbw _
     refine hK.out _ _ rfl ⟨a', c', rfl⟩ ?_
     have e1 : ivs .i64 (q.take (i + 1)) = ivs .i64 (q.take i) ++ [.int .i64 (z % a.n)] := by rw [HTK.out]; simp [ivs]
     refine ⟨fun _ h => (by simp at h), hbW.trans hbw, fun h => (by simp at h), fun _ => ⟨a', c', rfl, by rw [e1]; exact ho3, fun h => (by simp [l11] at h)⟩⟩
    ·
     obtain ⟨h10, _, h0, h1, h2, h3, h4, h5, h6, h7, h8, h9, _, -⟩ := hh
     obtain ⟨a10, c10, (g10 : f 10 = _)⟩ := h10
     have g0 : f 0 = _ := h0
     have g1 : f 1 = _ := h1
     have g2 : f 2 = _ := h2
     have g3 : f 3 = _ := h3
     have g4 : f 4 = _ := h4
     have g5 : f 5 = _ := h5
     have g6 : f 6 = _ := h6
     have g7 : f 7 = _ := h7
     have g8 : f 8 = _ := h8
     obtain ⟨b9, (g9 : f 9 = _)⟩ := h9
     have l10 : L 10 = true := hd 10 (by decide)
     unfold stStep
     rw [if_pos (by simp [Region.wanted])]
     intro K Q hK
     simp only [puts, Za, Zb, Zc, Zd, Ze, g10, g0, g1, g2, g3, g4, g5, g6, g7, g8, g9]
     rw [hSd] at hS hK
     have l11 : L 11 = false := hi
     try simp only [stage, l11, l10, if_true, if_false, Bool.false_eq_true] at hS
     obtain ⟨-, hbW, -, h10⟩ := hS
     obtain ⟨a, c, e10, ho, -⟩ := h10 trivial
     rw [g10] at e10
     obtain ⟨rfl, rfl⟩ : a10 = a ∧ c10 = c := by simpa using e10
     go_step
     refine hK.out _ _ rfl ⟨_, _, rfl⟩ ?_
     exact ⟨fun _ h => (by simp [l10] at h), hbW, fun h => (by simp [l10] at h), fun _ => ⟨a10, c10, by simpa using g10, ho, fun _ => rfl⟩⟩
   case rest =>
    intro L f WB hL hh hS
    rw [hSd] at hS
    clear hSd
    have l10 : L 10 = true := hL 10 (by decide)
    have l11 : L 11 = true := hL 11 (by decide)
    simp only [stage, l10, l11, if_true] at hS
    clear hL l10 l11
    obtain ⟨h0, h1, h2, h3, h4, h5, h6, h7, h8, h9, h10, h11, -⟩ := hh
    have g0 : f 0 = _ := h0
    have g1 : f 1 = _ := h1
    have g2 : f 2 = _ := h2
    have g3 : f 3 = _ := h3
    have g4 : f 4 = _ := h4
    have g5 : f 5 = _ := h5
    have g6 : f 6 = _ := h6
    have g7 : f 7 = _ := h7
    have g8 : f 8 = _ := h8
    obtain ⟨b9, (g9 : f 9 = _)⟩ := h9
    obtain ⟨a10, c10, (g10 : f 10 = _)⟩ := h10
    obtain ⟨a11, c11, (g11 : f 11 = _)⟩ := h11
    simp only [puts, Za, Zb, Zc, Zd, Ze, g0, g1, g2, g3, g4, g5, g6, g7, g8, g9, g10, g11]
    clear h0 h1 h2 h3 h4 h5 h6 h7 h8 g0 g1 g2 g3 g4 g5 g6 g7 g8
    obtain ⟨-, hbW, -, h10⟩ := hS
    obtain ⟨a', c', e10, ho3, e11⟩ := h10 trivial
    have e12 : f 11 = .slice a' (i + 1) c' := by first | exact e11 trivial | exact e11 rfl | exact e11
    rw [g11] at e12
    obtain ⟨rfl, rfl⟩ : a11 = a' ∧ c11 = c' := by simpa using e12
    have HOA := Lib.hid ho3
    have HBA := Lib.hid hbW
    clear ho3 hbW h10 e10 e11 e12
    go_wp2_with (fail)
    go_roundw
    case rel => exact ⟨i + 1, a11, c11, hlt, by go_num, rfl, HOA.out, HBA.out⟩
    case measure => simp [intOf]; omega
  ·have t4 : decide (i < lw) = false := decide_eq_false (by omega)
   obtain rfl : i = lw := by omega
   rw [M7.out] at ho
   have iq := (IsInts.of_owns ho).1
   have hb := hbR
   clear ho hbR
   replace c01 := cell_later hb c01
   replace c02 := cell_later hb c02
   replace c03 := cell_later hb c03
   replace c04 := cell_later hb c04
   replace cp1 := cell_later hb cp1
   replace cp2 := cell_later hb cp2
   replace cp3 := cell_later hb cp3
   replace cp4 := cell_later hb cp4
   replace ia := ia.later hb
   replace iw := iw.later hb
   replace iT := iT.later hb
   replace ip := ip.later hb
   replace HB := HB.trans (hb.mono HB.size)
   clear hb
   go_wp2_with (fail)
   refine (KC.out _ yp q (cloL es q) ax _ cs ip HBQ.out rfl iq).mono ?_
   rintro e w16 ⟨⟨g1, t1, e1, z1, rfl, i1, s1, l1⟩, hb⟩
   replace c01 := cell_later hb c01
   replace c02 := cell_later hb c02
   replace c03 := cell_later hb c03
   replace c04 := cell_later hb c04
   replace cp1 := cell_later hb cp1
   replace cp2 := cell_later hb cp2
   replace cp3 := cell_later hb cp3
   replace cp4 := cell_later hb cp4
   replace ia := ia.later hb
   replace iw := iw.later hb
   replace iT := iT.later hb
   replace ip := ip.later hb
   replace iq := iq.later hb
   replace HB := HB.trans (hb.mono HB.size)
   clear hb
   go_upto_region 13 with (fail)
   refine wp_region_grow mixed (by kernel_rfl) [[], [], [(1, 73)], [(0, 72), (2, 74), (2, 74)], [(3, 75)], [(4, 71)], [(4, 71)], [(5, 76), (3, 75), (0, 72), (1, 73), (2, 74), (3, 75), (4, 71), (5, 76)], [(6, 77), (7, 12), (0, 72), (1, 73), (2, 74), (3, 75), (4, 71), (5, 76), (6, 77), (7, 12)]] [(0, 72), (1, 73), (2, 74), (3, 75), (4, 71), (5, 76), (6, 77), (7, 12), (8, 13)] rfl rfl [Ex ?ec0, Ex ?ec1, IntsV (cloL es q), SetT (cloL es q) 0, SetT (cloL es q) 0, SetW (cloL es q), Ex ?ec6, SetW (cloL es q), Ex ?ec8] ⟨stays_ex _, stays_ex _, stays_intsV _, stays_setT _ _, stays_setT _ _, stays_setW _, stays_ex _, stays_setW _, stays_ex _, trivial⟩ ?csteps ?crest
   case csteps =>
    refine ⟨fun f W hC hh => ?_, fun f W hC hh => ?_, fun f W hC hh => ?_, fun f W hC hh => ?_, fun f W hC hh => ?_, fun f W hC hh => ?_, fun f W hC hh => ?_, fun f W hC hh => ?_, fun f W hC hh => ?_, trivial⟩
    ·
     refine tab_plain fun K Q hK => ?_
     simp only [puts, foldr_nil]
     have mp1 := cell_later hC cp1
     have mp2 := cell_later hC cp2
     have mp3 := cell_later hC cp3
     have mp4 := cell_later hC cp4
     go_step
     exact fam_e hK rfl rfl (Below.refl _ _) hC
    ·
     refine tab_plain fun K Q hK => ?_
     simp only [puts, foldr_nil]
     go_step
     exact fam_e hK rfl rfl (Below.refl _ _) hC
    ·
     obtain ⟨h1, -⟩ := hh
     have g1 : f 1 = _ := h1
     refine tab_plain fun K Q hK => ?_
     simp only [puts, Za, Zb, Zc, Zd, Ze, g1]
     go_step
     go_at_call 27
     refine (list_S (i1.later hC) s1 HC1.out.2 HC1.out.1 (by have := HN1.out; omega) (iT.later hC)).mono ?_
     rintro e w' ⟨⟨a', c', rfl, hI⟩, hb⟩
     exact fam_fin hK rfl ⟨a', c', rfl, hI⟩ hb (hC.trans (hb.mono hC.size))
    ·
     obtain ⟨h0, h2, _, -⟩ := hh
     have g0 : f 0 = _ := h0
     obtain ⟨a2, c2, g2, s2⟩ := h2
     refine tab_plain fun K Q hK => ?_
     simp only [puts, Za, Zb, Zc, Zd, Ze, g0, g2]
     go_step
     go_at_call 18
     refine (KC.out _ yp (cloL es q) (cloL es q) _ _ _ (ip.later hC) HC1.out.1 HE1.out s2).mono ?_
     rintro e w' ⟨⟨g, t, c, zs, rfl, i, s, l⟩, hb⟩
     exact fam_fin hK rfl ⟨g, t, c, zs, rfl, i, s, l⟩ hb (hC.trans (hb.mono hC.size))
    ·
     obtain ⟨h3, -⟩ := hh
     obtain ⟨ga3, ta3, ca3, za3, g3, ia3, sa3, la3⟩ := h3
     refine tab_plain fun K Q hK => ?_
     simp only [puts, Za, Zb, Zc, Zd, Ze, g3]
     go_step
     exact fam_fin hK rfl ⟨_, _, _, _, rfl, ia3, sa3, la3⟩ (Below.refl _ _) hC
    ·
     obtain ⟨h4, -⟩ := hh
     obtain ⟨ga4, ta4, ca4, za4, g4, ia4, sa4, la4⟩ := h4
     refine tab_plain fun K Q hK => ?_
     simp only [puts, Za, Zb, Zc, Zd, Ze, g4]
     go_step
     exact fam_fin hK rfl ⟨_, _, _, _, rfl, ia4, sa4, la4⟩ (Below.refl _ _) hC
    ·
     obtain ⟨h4, -⟩ := hh
     obtain ⟨ga4, ta4, ca4, za4, g4, ia4, sa4, la4⟩ := h4
     refine tab_plain fun K Q hK => ?_
     simp only [puts, Za, Zb, Zc, Zd, Ze, g4]
     go_step
     exact fam_e hK rfl rfl (Below.refl _ _) hC
    ·
     obtain ⟨h5, h3, h0, h1, h2, _, h4, _, -⟩ := hh
     obtain ⟨ga5, ta5, ca5, za5, g5, ia5, sa5, la5⟩ := h5
     obtain ⟨ga3, ta3, ca3, za3, g3, ia3, sa3, la3⟩ := h3
     have g0 : f 0 = _ := h0
     have g1 : f 1 = _ := h1
     obtain ⟨a2, c2, g2, s2⟩ := h2
     obtain ⟨ga4, ta4, ca4, za4, g4, ia4, sa4, la4⟩ := h4
     refine tab_plain fun K Q hK => ?_
     simp only [puts, Za, Zb, Zc, Zd, Ze, g5, g3, g0, g1, g2, g4]
     go_step
     exact fam_fin hK rfl ⟨_, _, _, _, rfl, ia5, sa5, la5⟩ (Below.refl _ _) hC
    ·
     obtain ⟨h6, h7, h0, h1, h2, h3, h4, h5, _, _, -⟩ := hh
     have g6 : f 6 = _ := h6
     obtain ⟨ga7, ta7, ca7, za7, g7, ia7, sa7, la7⟩ := h7
     have g0 : f 0 = _ := h0
     have g1 : f 1 = _ := h1
     obtain ⟨a2, c2, g2, s2⟩ := h2
     obtain ⟨ga3, ta3, ca3, za3, g3, ia3, sa3, la3⟩ := h3
     obtain ⟨ga4, ta4, ca4, za4, g4, ia4, sa4, la4⟩ := h4
     obtain ⟨ga5, ta5, ca5, za5, g5, ia5, sa5, la5⟩ := h5
     refine tab_plain fun K Q hK => ?_
     simp only [puts, Za, Zb, Zc, Zd, Ze, g6, g7, g0, g1, g2, g3, g4, g5]
     go_step
     exact fam_e hK rfl rfl (Below.refl _ _) hC
   case crest =>
    intro f WC hC hh
    obtain ⟨h0, h1, h2, h3, h4, h5, h6, h7, h8, -⟩ := hh
    have g0 : f 0 = _ := h0
    have g1 : f 1 = _ := h1
    obtain ⟨a2, c2, g2, s2⟩ := h2
    obtain ⟨ga3, ta3, ca3, za3, g3, ia3, sa3, la3⟩ := h3
    obtain ⟨ga4, ta4, ca4, za4, g4, ia4, sa4, la4⟩ := h4
    obtain ⟨ga5, ta5, ca5, za5, g5, ia5, sa5, la5⟩ := h5
    have g6 : f 6 = _ := h6
    obtain ⟨ga7, ta7, ca7, za7, g7, ia7, sa7, la7⟩ := h7
    have g8 : f 8 = _ := h8
    simp only [puts, Za, Zb, Zc, Zd, Ze, g0, g1, g2, g3, g4, g5, g6, g7, g8]
    clear h0 h1 h6 h8 g0 g1 g6 g8
    have i2 := ia7
    have s2x := sa7
    clear ia3 ia4 ia5 ia7 sa3 sa4 sa5 sa7 s2 la3 la4 la5
    have hb := hC
    clear hC
    replace c01 := cell_later hb c01
    replace c02 := cell_later hb c02
    replace c03 := cell_later hb c03
    replace c04 := cell_later hb c04
    replace cp1 := cell_later hb cp1
    replace cp2 := cell_later hb cp2
    replace cp3 := cell_later hb cp3
    replace cp4 := cell_later hb cp4
    replace ia := ia.later hb
    replace iw := iw.later hb
    replace iT := iT.later hb
    replace ip := ip.later hb
    replace iq := iq.later hb
    replace i1 := i1.later hb
    replace HB := HB.trans (hb.mono HB.size)
    clear hb
    go_wp2_with (fail)
    refine (KS.out _ yp q (stpL es q c) ax _ cs ip HBQ.out rfl iq iT).mono ?_
    rintro e w17 ⟨⟨g3, t3, e3, z3, rfl, i3, s3, l3⟩, hb⟩
    replace c01 := cell_later hb c01
    replace c02 := cell_later hb c02
    replace c03 := cell_later hb c03
    replace c04 := cell_later hb c04
    replace cp1 := cell_later hb cp1
    replace cp2 := cell_later hb cp2
    replace cp3 := cell_later hb cp3
    replace cp4 := cell_later hb cp4
    replace ia := ia.later hb
    replace iw := iw.later hb
    replace iT := iT.later hb
    replace ip := ip.later hb
    replace iq := iq.later hb
    replace i1 := i1.later hb
    replace i2 := i2.later hb
    replace HB := HB.trans (hb.mono HB.size)
    clear hb
    go_upto_region 15 with (fail)
    refine wp_region_grow mixed (by kernel_rfl) [[], [], [(1, 87)], [], [(0, 86), (2, 88), (3, 89), (2, 88)], [(4, 90)], [(5, 85)], [(5, 85)], [(6, 91), (4, 90), (0, 86), (1, 87), (2, 88), (3, 89), (4, 90), (5, 85), (6, 91)], [(7, 92), (8, 16), (0, 86), (1, 87), (2, 88), (3, 89), (4, 90), (5, 85), (6, 91), (7, 92), (8, 16)]] [(0, 86), (1, 87), (2, 88), (3, 89), (4, 90), (5, 85), (6, 91), (7, 92), (8, 16), (9, 17)] rfl rfl [Ex ?ed0, Ex ?ed1, IntsV (cloL es q), Ex ?ed3, SetT (stpL es q c) 0, SetT (stpL es q c) 0, SetW (stpL es q c), Ex ?ed7, SetW (stpL es q c), Ex ?ed9] ⟨stays_ex _, stays_ex _, stays_intsV _, stays_ex _, stays_setT _ _, stays_setT _ _, stays_setW _, stays_ex _, stays_setW _, stays_ex _, trivial⟩ ?dsteps ?drest
    case dsteps =>
     refine ⟨fun f W hC hh => ?_, fun f W hC hh => ?_, fun f W hC hh => ?_, fun f W hC hh => ?_, fun f W hC hh => ?_, fun f W hC hh => ?_, fun f W hC hh => ?_, fun f W hC hh => ?_, fun f W hC hh => ?_, fun f W hC hh => ?_, trivial⟩
     ·
      refine tab_plain fun K Q hK => ?_
      simp only [puts, foldr_nil]
      have mp1 := cell_later hC cp1
      have mp2 := cell_later hC cp2
      have mp3 := cell_later hC cp3
      have mp4 := cell_later hC cp4
      go_step
      exact fam_e hK rfl rfl (Below.refl _ _) hC
     ·
      refine tab_plain fun K Q hK => ?_
      simp only [puts, foldr_nil]
      go_step
      exact fam_e hK rfl rfl (Below.refl _ _) hC
     ·
      obtain ⟨h1, -⟩ := hh
      have g1 : f 1 = _ := h1
      refine tab_plain fun K Q hK => ?_
      simp only [puts, Za, Zb, Zc, Zd, Ze, g1]
      go_step
      go_at_call 27
      refine (list_S (i1.later hC) s1 HC1.out.2 HC1.out.1 (by have := HN1.out; omega) (iT.later hC)).mono ?_
      rintro e w' ⟨⟨a', c', rfl, hI⟩, hb⟩
      exact fam_fin hK rfl ⟨a', c', rfl, hI⟩ hb (hC.trans (hb.mono hC.size))
     ·
      refine tab_plain fun K Q hK => ?_
      simp only [puts, foldr_nil]
      go_step
      exact fam_e hK rfl rfl (Below.refl _ _) hC
     ·
      obtain ⟨h0, h2, h3, _, -⟩ := hh
      have g0 : f 0 = _ := h0
      obtain ⟨a2, c2, g2, s2⟩ := h2
      have g3 : f 3 = _ := h3
      refine tab_plain fun K Q hK => ?_
      simp only [puts, Za, Zb, Zc, Zd, Ze, g0, g2, g3]
      go_step
      go_at_call 20
      refine (KS.out _ yp (cloL es q) (stpL es q c) _ _ _ (ip.later hC) HC1.out.1 HE2.out s2 (iT.later hC)).mono ?_
      rintro e w' ⟨⟨g, t, c, zs, rfl, i, s, l⟩, hb⟩
      exact fam_fin hK rfl ⟨g, t, c, zs, rfl, i, s, l⟩ hb (hC.trans (hb.mono hC.size))
     ·
      obtain ⟨h4, -⟩ := hh
      obtain ⟨ga4, ta4, ca4, za4, g4, ia4, sa4, la4⟩ := h4
      refine tab_plain fun K Q hK => ?_
      simp only [puts, Za, Zb, Zc, Zd, Ze, g4]
      go_step
      exact fam_fin hK rfl ⟨_, _, _, _, rfl, ia4, sa4, la4⟩ (Below.refl _ _) hC
     ·
      obtain ⟨h5, -⟩ := hh
      obtain ⟨ga5, ta5, ca5, za5, g5, ia5, sa5, la5⟩ := h5
      refine tab_plain fun K Q hK => ?_
      simp only [puts, Za, Zb, Zc, Zd, Ze, g5]
      go_step
      exact fam_fin hK rfl ⟨_, _, _, _, rfl, ia5, sa5, la5⟩ (Below.refl _ _) hC
     ·
      obtain ⟨h5, -⟩ := hh
      obtain ⟨ga5, ta5, ca5, za5, g5, ia5, sa5, la5⟩ := h5
      refine tab_plain fun K Q hK => ?_
      simp only [puts, Za, Zb, Zc, Zd, Ze, g5]
      go_step
      exact fam_e hK rfl rfl (Below.refl _ _) hC
     ·
      obtain ⟨h6, h4, h0, h1, h2, h3, _, h5, _, -⟩ := hh
      obtain ⟨ga6, ta6, ca6, za6, g6, ia6, sa6, la6⟩ := h6
      obtain ⟨ga4, ta4, ca4, za4, g4, ia4, sa4, la4⟩ := h4
      have g0 : f 0 = _ := h0
      have g1 : f 1 = _ := h1
      obtain ⟨a2, c2, g2, s2⟩ := h2
      have g3 : f 3 = _ := h3
      obtain ⟨ga5, ta5, ca5, za5, g5, ia5, sa5, la5⟩ := h5
      refine tab_plain fun K Q hK => ?_
      simp only [puts, Za, Zb, Zc, Zd, Ze, g6, g4, g0, g1, g2, g3, g5]
      go_step
      exact fam_fin hK rfl ⟨_, _, _, _, rfl, ia6, sa6, la6⟩ (Below.refl _ _) hC
     ·
      obtain ⟨h7, h8, h0, h1, h2, h3, h4, h5, h6, _, _, -⟩ := hh
      have g7 : f 7 = _ := h7
      obtain ⟨ga8, ta8, ca8, za8, g8, ia8, sa8, la8⟩ := h8
      have g0 : f 0 = _ := h0
      have g1 : f 1 = _ := h1
      obtain ⟨a2, c2, g2, s2⟩ := h2
      have g3 : f 3 = _ := h3
      obtain ⟨ga4, ta4, ca4, za4, g4, ia4, sa4, la4⟩ := h4
      obtain ⟨ga5, ta5, ca5, za5, g5, ia5, sa5, la5⟩ := h5
      obtain ⟨ga6, ta6, ca6, za6, g6, ia6, sa6, la6⟩ := h6
      refine tab_plain fun K Q hK => ?_
      simp only [puts, Za, Zb, Zc, Zd, Ze, g7, g8, g0, g1, g2, g3, g4, g5, g6]
      go_step
      exact fam_e hK rfl rfl (Below.refl _ _) hC
    case drest =>
     intro f WD hC hh
     obtain ⟨h0, h1, h2, h3, h4, h5, h6, h7, h8, h9, -⟩ := hh
     have g0 : f 0 = _ := h0
     have g1 : f 1 = _ := h1
     obtain ⟨a2, c2, g2, s2⟩ := h2
     have g3 : f 3 = _ := h3
     obtain ⟨ga4, ta4, ca4, za4, g4, ia4, sa4, la4⟩ := h4
     obtain ⟨ga5, ta5, ca5, za5, g5, ia5, sa5, la5⟩ := h5
     obtain ⟨ga6, ta6, ca6, za6, g6, ia6, sa6, la6⟩ := h6
     have g7 : f 7 = _ := h7
     obtain ⟨ga8, ta8, ca8, za8, g8, ia8, sa8, la8⟩ := h8
     have g9 : f 9 = _ := h9
     simp only [puts, Za, Zb, Zc, Zd, Ze, g0, g1, g2, g3, g4, g5, g6, g7, g8, g9]
     clear h0 h1 h3 h7 h9 g0 g1 g3 g7 g9
     have i4 := ia8
     have s4 := sa8
     clear ia4 ia5 ia6 ia8 sa4 sa5 sa6 sa8 s2 la4 la5 la6
     have hb := hC
     clear hC
     replace c01 := cell_later hb c01
     replace c02 := cell_later hb c02
     replace c03 := cell_later hb c03
     replace c04 := cell_later hb c04
     replace cp1 := cell_later hb cp1
     replace cp2 := cell_later hb cp2
     replace cp3 := cell_later hb cp3
     replace cp4 := cell_later hb cp4
     replace ia := ia.later hb
     replace iw := iw.later hb
     replace iT := iT.later hb
     replace ip := ip.later hb
     replace iq := iq.later hb
     replace i1 := i1.later hb
     replace i2 := i2.later hb
     replace i3 := i3.later hb
     replace HB := HB.trans (hb.mono HB.size)
     clear hb
     go_wp2_with (fail)
     refine (equalS i1 s1 i2 s2x (fun z => Iff.rfl)).mono ?_
     rintro e w18 ⟨rfl, hb⟩
     replace c01 := cell_later hb c01
     replace c02 := cell_later hb c02
     replace c03 := cell_later hb c03
     replace c04 := cell_later hb c04
     replace cp1 := cell_later hb cp1
     replace cp2 := cell_later hb cp2
     replace cp3 := cell_later hb cp3
     replace cp4 := cell_later hb cp4
     replace ia := ia.later hb
     replace iw := iw.later hb
     replace iT := iT.later hb
     replace ip := ip.later hb
     replace iq := iq.later hb
     replace i1 := i1.later hb
     replace i2 := i2.later hb
     replace i3 := i3.later hb
     replace i4 := i4.later hb
     replace HB := HB.trans (hb.mono HB.size)
     clear hb
     go_wp2_with (fail)
     refine (equalS i3 s3 i4 s4 (fun z => Iff.rfl)).mono ?_
     rintro e w19 ⟨rfl, hb⟩
     replace c01 := cell_later hb c01
     replace c02 := cell_later hb c02
     replace c03 := cell_later hb c03
     replace c04 := cell_later hb c04
     replace cp1 := cell_later hb cp1
     replace cp2 := cell_later hb cp2
     replace cp3 := cell_later hb cp3
     replace cp4 := cell_later hb cp4
     replace ia := ia.later hb
     replace iw := iw.later hb
     replace iT := iT.later hb
     replace ip := ip.later hb
     replace iq := iq.later hb
     replace i1 := i1.later hb
     replace i2 := i2.later hb
     replace i3 := i3.later hb
     replace i4 := i4.later hb
     replace HB := HB.trans (hb.mono HB.size)
     clear hb
     go_wp2_with (fail)
     refine (makeS (n := a.n) iq HBQ.out (by have := HN1.out; omega)).mono ?_
     rintro e w20 ⟨⟨gM, tM, zM, rfl, iM, sM⟩, hb⟩
     replace c01 := cell_later hb c01
     replace c02 := cell_later hb c02
     replace c03 := cell_later hb c03
     replace c04 := cell_later hb c04
     replace cp1 := cell_later hb cp1
     replace cp2 := cell_later hb cp2
     replace cp3 := cell_later hb cp3
     replace cp4 := cell_later hb cp4
     replace ia := ia.later hb
     replace iw := iw.later hb
     replace iT := iT.later hb
     replace ip := ip.later hb
     replace iq := iq.later hb
     replace i1 := i1.later hb
     replace i2 := i2.later hb
     replace i3 := i3.later hb
     replace i4 := i4.later hb
     replace HB := HB.trans (hb.mono HB.size)
     clear hb
     go_wp2_with (fail)
     refine (subS iM sM i1 s1 M0.out).mono ?_
     rintro e w21 ⟨rfl, hb⟩
     replace c01 := cell_later hb c01
     replace c02 := cell_later hb c02
     replace c03 := cell_later hb c03
     replace c04 := cell_later hb c04
     replace cp1 := cell_later hb cp1
     replace cp2 := cell_later hb cp2
     replace cp3 := cell_later hb cp3
     replace cp4 := cell_later hb cp4
     replace ia := ia.later hb
     replace iw := iw.later hb
     replace iT := iT.later hb
     replace ip := ip.later hb
     replace iq := iq.later hb
     replace i1 := i1.later hb
     replace i2 := i2.later hb
     replace i3 := i3.later hb
     replace i4 := i4.later hb
     replace iM := iM.later hb
     replace HB := HB.trans (hb.mono HB.size)
     clear hb
     clear iM sM
     go_wp2_with (fail)
     have hb := Below.refl w21.heap.size w21
     go_loopw [18, 19, 128] (fun u v c' W => ∃ (j : Nat) (ga : Option Addr) (ta ca : Nat) (za : List Int) (gb : Option Addr) (tb cb : Nat) (zb : List Int), j ≤ i ∧ c' = .int .i64 (j : Int) ∧ u = .slice ga ta ca ∧ v = .slice gb tb cb ∧ IsInts .u64 W ga ta ca za ∧ Bt.SetIs za (inL (stpL es (q.take j) c)) ∧ ta ≤ 64 ∧ IsInts .u64 W gb tb cb zb ∧ Bt.SetIs zb (inL (cloL es (q.take j))) ∧ tb ≤ 64 ∧ Below w21.heap.size w21 W) (fun _ _ c' _ => i - (intOf c').toNat)
     case atStart => exact ⟨0, none, 0, 0, [], none, 0, 0, [], Nat.zero_le _, rfl, rfl, rfl, .inl ⟨rfl, rfl, rfl, rfl⟩, M6.out, by omega, .inl ⟨rfl, rfl, rfl, rfl⟩, M5.out, by omega, Below.refl _ _⟩
     case round =>
      clear hb
      obtain ⟨j, ga, ta, ca, za, gb, tb, cb, zb, hj, rfl, rfl, rfl, iA, sA, lA, iB, sB, lB, hb⟩ := hrel
      have HL := hb
      replace c01 := cell_later hb c01
      replace c02 := cell_later hb c02
      replace c03 := cell_later hb c03
      replace c04 := cell_later hb c04
      replace cp1 := cell_later hb cp1
      replace cp2 := cell_later hb cp2
      replace cp3 := cell_later hb cp3
      replace cp4 := cell_later hb cp4
      replace ia := ia.later hb
      replace iw := iw.later hb
      replace iT := iT.later hb
      replace ip := ip.later hb
      replace iq := iq.later hb
      replace i1 := i1.later hb
      replace i2 := i2.later hb
      replace i3 := i3.later hb
      replace i4 := i4.later hb
      replace HB := HB.trans (hb.mono HB.size)
      clear hb
      rcases Nat.lt_or_ge j i with hlt | hge2
      ·have t5 : decide (j < i) = true := decide_eq_true hlt
       obtain ⟨bq, oq, haq, hcq⟩ : ∃ b off, ax = some ⟨b, off, none⟩ ∧ wr.cell? ⟨b, off + j, none⟩ = some (.int .i64 (gi q j)) := by
        rcases iq with ⟨_, e, _⟩ | ⟨b, off, e, _, _, _, hc⟩
        ·omega
        ·exact ⟨b, off, e, hc j hlt⟩
       subst haq
       have n1 := M1.out j hlt
       have n2 := M2.out j hlt
       have n3 := M3.out j hlt
       have n4 := M4.out j hlt
       obtain ⟨y, hy⟩ : ∃ y, gi q j = y := ⟨_, rfl⟩
       rw [hy] at n1 n2 n3 n4 hcq
       clear hy
       obtain ⟨Wn, hWn⟩ : ∃ Wn, wr.alloc (.cells #[.int .i64 y] 3) = Wn := ⟨_, rfl⟩
       have hbn : Below wr.heap.size wr Wn := by rw [← hWn]; exact (Below.refl _ _).alloc (Nat.le_refl _) _
       have iN : IsInts .i64 Wn (some ⟨wr.heap.size, 0, none⟩) 1 1 [y] := by rw [← hWn]; exact one_new wr y _
       go_wp2_with (fail)
       have hb := hbn
       clear hbn
       replace c01 := cell_later hb c01
       replace c02 := cell_later hb c02
       replace c03 := cell_later hb c03
       replace c04 := cell_later hb c04
       replace cp1 := cell_later hb cp1
       replace cp2 := cell_later hb cp2
       replace cp3 := cell_later hb cp3
       replace cp4 := cell_later hb cp4
       replace ia := ia.later hb
       replace iw := iw.later hb
       replace iT := iT.later hb
       replace ip := ip.later hb
       replace iq := iq.later hb
       replace i1 := i1.later hb
       replace i2 := i2.later hb
       replace i3 := i3.later hb
       replace i4 := i4.later hb
       replace HL := HL.later hb
       replace iA := iA.later hb
       replace iB := iB.later hb
       replace HB := HB.trans (hb.mono HB.size)
       clear hb
       refine (KS.out _ yp [y] _ _ _ _ ip n4 rfl iN iT).mono ?_
       rintro e w22 ⟨⟨g5, t5s, e5, z5, rfl, i5, s5, l5⟩, hb⟩
       replace c01 := cell_later hb c01
       replace c02 := cell_later hb c02
       replace c03 := cell_later hb c03
       replace c04 := cell_later hb c04
       replace cp1 := cell_later hb cp1
       replace cp2 := cell_later hb cp2
       replace cp3 := cell_later hb cp3
       replace cp4 := cell_later hb cp4
       replace ia := ia.later hb
       replace iw := iw.later hb
       replace iT := iT.later hb
       replace ip := ip.later hb
       replace iq := iq.later hb
       replace i1 := i1.later hb
       replace i2 := i2.later hb
       replace i3 := i3.later hb
       replace i4 := i4.later hb
       replace HL := HL.later hb
       replace iA := iA.later hb
       replace iB := iB.later hb
       replace HB := HB.trans (hb.mono HB.size)
       clear hb
       clear iN
       obtain ⟨Wm, hWm⟩ : ∃ Wm, w22.alloc (.cells #[.int .i64 y] 3) = Wm := ⟨_, rfl⟩
       have hbn : Below w22.heap.size w22 Wm := by rw [← hWm]; exact (Below.refl _ _).alloc (Nat.le_refl _) _
       have iN : IsInts .i64 Wm (some ⟨w22.heap.size, 0, none⟩) 1 1 [y] := by rw [← hWm]; exact one_new w22 y _
       go_wp2_with (fail)
       have hb := hbn
       clear hbn
       replace c01 := cell_later hb c01
       replace c02 := cell_later hb c02
       replace c03 := cell_later hb c03
       replace c04 := cell_later hb c04
       replace cp1 := cell_later hb cp1
       replace cp2 := cell_later hb cp2
       replace cp3 := cell_later hb cp3
       replace cp4 := cell_later hb cp4
       replace ia := ia.later hb
       replace iw := iw.later hb
       replace iT := iT.later hb
       replace ip := ip.later hb
       replace iq := iq.later hb
       replace i1 := i1.later hb
       replace i2 := i2.later hb
       replace i3 := i3.later hb
       replace i4 := i4.later hb
       replace HL := HL.later hb
       replace iA := iA.later hb
       replace iB := iB.later hb
       replace i5 := i5.later hb
       replace HB := HB.trans (hb.mono HB.size)
       clear hb
       refine (KC.out _ yp [y] _ _ _ _ ip n4 rfl iN).mono ?_
       rintro e w23 ⟨⟨g6, t6, e6, z6, rfl, i6, s6, l6⟩, hb⟩
       replace c01 := cell_later hb c01
       replace c02 := cell_later hb c02
       replace c03 := cell_later hb c03
       replace c04 := cell_later hb c04
       replace cp1 := cell_later hb cp1
       replace cp2 := cell_later hb cp2
       replace cp3 := cell_later hb cp3
       replace cp4 := cell_later hb cp4
       replace ia := ia.later hb
       replace iw := iw.later hb
       replace iT := iT.later hb
       replace ip := ip.later hb
       replace iq := iq.later hb
       replace i1 := i1.later hb
       replace i2 := i2.later hb
       replace i3 := i3.later hb
       replace i4 := i4.later hb
       replace HL := HL.later hb
       replace iA := iA.later hb
       replace iB := iB.later hb
       replace i5 := i5.later hb
       replace HB := HB.trans (hb.mono HB.size)
       clear hb
       go_wp2_with (fail)
       refine (subS i6 s6 i1 s1 n1).mono ?_
       rintro e w24 ⟨rfl, hb⟩
       replace c01 := cell_later hb c01
       replace c02 := cell_later hb c02
       replace c03 := cell_later hb c03
       replace c04 := cell_later hb c04
       replace cp1 := cell_later hb cp1
       replace cp2 := cell_later hb cp2
       replace cp3 := cell_later hb cp3
       replace cp4 := cell_later hb cp4
       replace ia := ia.later hb
       replace iw := iw.later hb
       replace iT := iT.later hb
       replace ip := ip.later hb
       replace iq := iq.later hb
       replace i1 := i1.later hb
       replace i2 := i2.later hb
       replace i3 := i3.later hb
       replace i4 := i4.later hb
       replace HL := HL.later hb
       replace iA := iA.later hb
       replace iB := iB.later hb
       replace i5 := i5.later hb
       replace i6 := i6.later hb
       replace HB := HB.trans (hb.mono HB.size)
       clear hb
       go_wp2_with (fail)
       refine (unionS (U := stpL es (q.take (j + 1)) c) iA sA i5 s5 (by omega) (by omega) n3).mono ?_
       rintro e w25 ⟨⟨g7, t7, e7, z7, rfl, i7, s7, l7⟩, hb⟩
       replace c01 := cell_later hb c01
       replace c02 := cell_later hb c02
       replace c03 := cell_later hb c03
       replace c04 := cell_later hb c04
       replace cp1 := cell_later hb cp1
       replace cp2 := cell_later hb cp2
       replace cp3 := cell_later hb cp3
       replace cp4 := cell_later hb cp4
       replace ia := ia.later hb
       replace iw := iw.later hb
       replace iT := iT.later hb
       replace ip := ip.later hb
       replace iq := iq.later hb
       replace i1 := i1.later hb
       replace i2 := i2.later hb
       replace i3 := i3.later hb
       replace i4 := i4.later hb
       replace HL := HL.later hb
       replace iA := iA.later hb
       replace iB := iB.later hb
       replace i5 := i5.later hb
       replace i6 := i6.later hb
       replace HB := HB.trans (hb.mono HB.size)
       clear hb
       go_wp2_with (fail)
       refine (unionS (U := cloL es (q.take (j + 1))) iB sB i6 s6 (by omega) (by omega) n2).mono ?_
       rintro e w26 ⟨⟨g8, t8, e8, z8, rfl, i8, s8, l8⟩, hb⟩
       replace c01 := cell_later hb c01
       replace c02 := cell_later hb c02
       replace c03 := cell_later hb c03
       replace c04 := cell_later hb c04
       replace cp1 := cell_later hb cp1
       replace cp2 := cell_later hb cp2
       replace cp3 := cell_later hb cp3
       replace cp4 := cell_later hb cp4
       replace ia := ia.later hb
       replace iw := iw.later hb
       replace iT := iT.later hb
       replace ip := ip.later hb
       replace iq := iq.later hb
       replace i1 := i1.later hb
       replace i2 := i2.later hb
       replace i3 := i3.later hb
       replace i4 := i4.later hb
       replace HL := HL.later hb
       replace iA := iA.later hb
       replace iB := iB.later hb
       replace i5 := i5.later hb
       replace i6 := i6.later hb
       replace i7 := i7.later hb
       replace HB := HB.trans (hb.mono HB.size)
       clear hb
       go_wp2_with (fail)
       have HX7 := Lib.hid (And.intro i7 (And.intro s7 (And.intro l7 (And.intro i8 (And.intro s8 (And.intro l8 HL))))))
       clear i7 s7 l7 i8 s8 l8
       go_roundw
       case rel => exact ⟨j + 1, g7, t7, e7, z7, g8, t8, e8, z8, hlt, by go_num, rfl, rfl, HX7.out.1, HX7.out.2.1, HX7.out.2.2.1, HX7.out.2.2.2.1, HX7.out.2.2.2.2.1, HX7.out.2.2.2.2.2.1, HX7.out.2.2.2.2.2.2⟩
       case measure => simp [intOf]; omega
      ·have t5 : decide (j < i) = false := decide_eq_false (by omega)
       obtain rfl : j = i := by omega
       rw [M7.out] at sA sB
       go_wp2_with (fail)
       refine (equalS iA sA i3 s3 (fun z => Iff.rfl)).mono ?_
       rintro e w27 ⟨rfl, hb⟩
       replace c01 := cell_later hb c01
       replace c02 := cell_later hb c02
       replace c03 := cell_later hb c03
       replace c04 := cell_later hb c04
       replace cp1 := cell_later hb cp1
       replace cp2 := cell_later hb cp2
       replace cp3 := cell_later hb cp3
       replace cp4 := cell_later hb cp4
       replace ia := ia.later hb
       replace iw := iw.later hb
       replace iT := iT.later hb
       replace ip := ip.later hb
       replace iq := iq.later hb
       replace i1 := i1.later hb
       replace i2 := i2.later hb
       replace i3 := i3.later hb
       replace i4 := i4.later hb
       replace iA := iA.later hb
       replace iB := iB.later hb
       replace HB := HB.trans (hb.mono HB.size)
       clear hb
       go_wp2_with (fail)
       refine (equalS iB sB i1 s1 (fun z => Iff.rfl)).mono ?_
       rintro e w28 ⟨rfl, hb⟩
       replace c01 := cell_later hb c01
       replace c02 := cell_later hb c02
       replace c03 := cell_later hb c03
       replace c04 := cell_later hb c04
       replace cp1 := cell_later hb cp1
       replace cp2 := cell_later hb cp2
       replace cp3 := cell_later hb cp3
       replace cp4 := cell_later hb cp4
       replace ia := ia.later hb
       replace iw := iw.later hb
       replace iT := iT.later hb
       replace ip := ip.later hb
       replace iq := iq.later hb
       replace i1 := i1.later hb
       replace i2 := i2.later hb
       replace i3 := i3.later hb
       replace i4 := i4.later hb
       replace iA := iA.later hb
       replace iB := iB.later hb
       replace HB := HB.trans (hb.mono HB.size)
       clear hb
       go_wp2_with (fail)
       go_ret
       exact ⟨rfl, HB⟩
theorem nfaClosures_top (a : Nfa) (h : NH) (aw : Option Addr) (lw cw : Nat) (zs : List Int) (c : Int) (w : World) (ia : IsNfa w h a) (iw : IsInts .u8 w aw lw cw zs) (hw8 : ∀ n ∈ zs, (Lit.int .u8 n).wf = true) {Q R : Prop} (_ : Q) (_ : R) (iT : TabW w) :
  Calls Tryd.prog 5 #[vNf a h, .slice aw lw cw, .int .i64 c] w fun e w' => e = .returned (.bool true) ∧ Below w.heap.size w w' :=
 nfaClosures_walk a h aw lw cw zs c w ia iw (fun z hz => by have := hw8 z hz; simp [Lit.wf, IntKind.min, IntKind.max, IntKind.signed, IntKind.bits] at this; omega) iT
end Go.Proofs.YtofaifeadhimjaaDoor
