import Derived.Test.YtofaifeadhimjaaDoorMG10
import Derived.Test.YtofaifeadhimjaaDoorMG29
import Derived.Test.YtofaifeadhimjaaDoorMG33
import Derived.Test.YtofaifeadhimjaaDoorMG39
/-
  NfaDl, NfaDeterministicW
-/
set_option linter.unusedVariables false
namespace Go.Proofs.YtofaifeadhimjaaDoor

def tv1 (p c : Int) (to : Int) (x : A3) : Int := if x.f = p ∧ x.l = c then x.t else to
def tvJ (ar : List A3) (p c : Int) (j : Nat) : Int := (ar.take j).foldl (tv1 p c) (-1)
theorem tvJ_zero (ar : List A3) (p c : Int) : tvJ ar p c 0 = -1 := rfl
theorem tvJ_succ {ar : List A3} {p c : Int} {j : Nat} (hj : j < ar.length) : tvJ ar p c (j + 1) = tv1 p c (tvJ ar p c j) (g3 ar j) := by
 unfold tvJ
 rw [List.take_add_one, List.getElem?_eq_getElem hj, Option.toList_some, List.foldl_append, g3_eq _ _ hj]
 rfl
theorem tv_fold_no (p c : Int) : ∀ (l : List A3) (v : Int), (∀ x ∈ l, ¬ (x.f = p ∧ x.l = c)) → l.foldl (tv1 p c) v = v
 | [], v, _ => rfl
 | x :: l, v, h => by
  rw [List.foldl_cons, show tv1 p c v x = v from if_neg (h x List.mem_cons_self)]
  exact tv_fold_no p c l v fun y hy => h y (List.mem_cons_of_mem _ hy)
theorem tv_fold_t (p c t : Int) : ∀ (l : List A3), (∀ x ∈ l, x.f = p → x.l = c → x.t = t) → l.foldl (tv1 p c) t = t
 | [], _ => rfl
 | x :: l, h => by
  have e : tv1 p c t x = t := by
   unfold tv1
   split
   ·rename_i hm; exact h x List.mem_cons_self hm.1 hm.2
   ·rfl
  rw [List.foldl_cons, e]
  exact tv_fold_t p c t l fun y hy => h y (List.mem_cons_of_mem _ hy)
theorem tv_fold_yes (p c t : Int) : ∀ (l : List A3) (v : Int), (∃ x ∈ l, x.f = p ∧ x.l = c) → (∀ x ∈ l, x.f = p → x.l = c → x.t = t) → l.foldl (tv1 p c) v = t
 | [], v, h, _ => by obtain ⟨x, hx, _⟩ := h; cases hx
 | x :: l, v, h, h' => by
  rw [List.foldl_cons]
  by_cases hm : x.f = p ∧ x.l = c
  ·rw [show tv1 p c v x = t by unfold tv1; rw [if_pos hm]; exact h' x List.mem_cons_self hm.1 hm.2]
   exact tv_fold_t p c t l fun y hy => h' y (List.mem_cons_of_mem _ hy)
  ·rw [show tv1 p c v x = v from if_neg hm]
   obtain ⟨y, hy, hh⟩ := h
   rcases List.mem_cons.1 hy with rfl | hy
   ·exact absurd hh hm
   ·exact tv_fold_yes p c t l v ⟨y, hy, hh⟩ fun z hz => h' z (List.mem_cons_of_mem _ hz)
section
variable {a : Nfa} {lim : Int}
theorem det_step (hv : ValidN a) (h : DetOk a lim) {p : Nat} (hp : p < (detF a).q.length) {S : List Int} (hS : gw (detF a).q p = S) (c : Int) :
  (movL a.arcs S c = [] ∧ tvJ (detF a).a p c (detF a).a.length = -1) ∨ (movL a.arcs S c ≠ [] ∧ ∃ t : Nat, t < (detF a).q.length ∧ tvJ (detF a).a p c (detF a).a.length = t ∧ gw (detF a).q t = movL a.arcs S c) := by
 unfold tvJ
 rw [List.take_length, ← hS]
 by_cases hm : movL a.arcs (gw (detF a).q p) c = []
 ·exact .inl ⟨hm, tv_fold_no _ _ _ _ (detF_noarc hv h hm)⟩
 ·obtain ⟨t, ht, h1, h2, h3⟩ := detF_arc hv h hp hm
  exact .inr ⟨hm, t, ht, tv_fold_yes _ _ _ _ _ ⟨_, h2, rfl, rfl⟩ h3, h1⟩
theorem det_arc (hv : ValidN a) (h : DetOk a lim) {i : Nat} (hi : i < (detF a).a.length) : 0 ≤ (g3 (detF a).a i).f ∧ (g3 (detF a).a i).f < ((detF a).q.length : Int) ∧ 0 ≤ (g3 (detF a).a i).t ∧ (g3 (detF a).a i).t < ((detF a).q.length : Int) := by
 obtain ⟨p, hp, h1, _, t, ht, h2, _⟩ := (mem_detF hv h).1 (g3_mem _ _ hi)
 rw [h1, h2]
 omega
theorem det_asc {i j : Nat} (hij : i < j) (hj : j < (detF a).a.length) : (g3 (detF a).a i).f < (g3 (detF a).a j).f ∨ ((g3 (detF a).a i).f = (g3 (detF a).a j).f ∧ (g3 (detF a).a i).l < (g3 (detF a).a j).l) := by
 have h1 := detF_sorted a
 unfold SortedA at h1
 rw [List.pairwise_iff_getElem] at h1
 have h2 := h1 i j (by omega) hj hij
 rw [← g3_eq, ← g3_eq] at h2
 exact h2
theorem run_take (zs : List Int) {i : Nat} (hi : i < zs.length) : runL a.arcs a.s (zs.take (i + 1)) = movL a.arcs (runL a.arcs a.s (zs.take i)) (gi zs i) := by
 rw [List.take_add_one, List.getElem?_eq_getElem hi, Option.toList_some, runL_snoc, gi_eq _ _ hi]
theorem run_cs (hv : ValidN a) (zs : List Int) : CS a (runL a.arcs a.s zs) := by
 rcases List.eq_nil_or_concat zs with rfl | ⟨w, c, rfl⟩
 ·rw [runL_nil]; exact cs_clo hv hv.startIn
 ·rw [List.concat_eq_append, runL_snoc]; exact cs_mov hv _ _
end
end Go.Proofs.YtofaifeadhimjaaDoor

set_option linter.unusedSimpArgs false
set_option linter.unusedVariables false
namespace Go.Proofs.YtofaifeadhimjaaDoor
open List (foldr_cons foldr_nil setIfInBounds_toArray set_cons_succ set_cons_zero)
open Go.RowKit
attribute [local go_sem] Oper.semAt_some

theorem _root_.Go.RowKit.Below.later {w w' w'' : World} (h : Below w.heap.size w w') (hb : Below w'.heap.size w' w'') : Below w.heap.size w w'' := h.trans (hb.mono h.size)
theorem cell_later {w w' : World} {b j : Nat} {v : Value} (hb : Below w.heap.size w w') (h : w.cell? ⟨b, j, none⟩ = some v) : w'.cell? ⟨b, j, none⟩ = some v := (hb.cell (p := ⟨b, j, none⟩) (lt_of_cell h)).trans h
def IntsV (l : List Int) : Value → World → Prop := fun v W => ∃ a c, v = .slice a l.length c ∧ IsInts .i64 W a l.length c l
theorem stays_intsV (l : List Int) : Stays (IntsV l) := fun _ _ _ hb ⟨a, c, e, h⟩ => ⟨a, c, e, h.later hb⟩
def SetT (S : List Int) (x : Int) : Value → World → Prop := fun v W => ∃ g t c zs, v = .tuple #[.slice g t c, .int .i64 x] ∧ IsInts .u64 W g t c zs ∧ Bt.SetIs zs (inL S) ∧ t ≤ 64
theorem stays_setT (S : List Int) (x : Int) : Stays (SetT S x) := fun _ _ _ hb ⟨g, t, c, zs, e, h, h1, h2⟩ => ⟨g, t, c, zs, e, h.later hb, h1, h2⟩
def SetW (S : List Int) : Value → World → Prop := fun v W => ∃ g t c zs, v = .slice g t c ∧ IsInts .u64 W g t c zs ∧ Bt.SetIs zs (inL S) ∧ t ≤ 64
theorem stays_setW (S : List Int) : Stays (SetW S) := fun _ _ _ hb ⟨g, t, c, zs, e, h, h1, h2⟩ => ⟨g, t, c, zs, e, h.later hb, h1, h2⟩
theorem sets_at {w : World} {a : Option Addr} {len cap : Nat} {Q : List (List Int)} (h : IsSets w a len cap Q) {i : Nat} (hi : i < len) : ∃ (b off : Nat) (g : Option Addr) (t c : Nat) (zs : List Int), a = some ⟨b, off, none⟩ ∧ w.cell? ⟨b, off + i, none⟩ = some (.slice g t c) ∧ IsInts .u64 w g t c zs ∧ Bt.SetIs zs (inL (gw Q i)) := by
 rcases h with ⟨h1, _, _⟩ | ⟨b, off, h1, h2, h3, h4, h5⟩
 ·omega
 ·obtain ⟨g, t, c, zs, k1, k2, k3, _⟩ := h5 i hi
  exact ⟨b, off, some g, t, c, zs, h1, k1, k2, k3⟩
theorem sets_cap {w : World} {a : Option Addr} {len cap : Nat} {Q : List (List Int)} (h : IsSets w a len cap Q) : len ≤ cap := by
 rcases h with ⟨h1, h2, _⟩ | ⟨b, off, h1, h2, h3, h4, h5⟩
 ·omega
 ·exact h2
theorem movL_nil0 {n : Int} {es : List A3} (ha : ArcsIn n es) (c : Int) : movL es [] c = [] := by
 have h1 : tgtL es [] c = [] := List.eq_nil_iff_forall_not_mem.2 fun y hy => by
  obtain ⟨_, x, _, _, h, _⟩ := mem_tgtL.1 hy
  cases h
 unfold movL
 rw [h1]
 exact List.eq_nil_iff_forall_not_mem.2 fun y hy => absurd ((clo_nil ha y).1 hy) List.not_mem_nil
theorem equalS_no {n : Int} {w : World} {a a' : Option Addr} {len len' cap cap' : Nat} {xs ys S T : List Int} (hs : IsInts .u64 w a len cap xs) (hz : Bt.SetIs xs (inL S)) (hs' : IsInts .u64 w a' len' cap' ys) (hz' : Bt.SetIs ys (inL T)) (hS : S.Pairwise (· < ·)) (hT : T.Pairwise (· < ·)) (hbS : Bd n S) (hbT : Bd n T) (hn : n ≤ 4096) (h : S ≠ T) :
  Calls Tryd.prog 28 #[.slice a len cap, .slice a' len' cap'] w fun e w' => e = .returned (.bool false) ∧ Below w.heap.size w w' := by
 have h1 := Bt.equal_s hs hs'
 rw [show Bt.eqB xs ys = false by
  rw [Bool.eq_false_iff]
  intro he
  have h2 := (Bt.eqB_iff hz.1 hz'.1).1 he
  refine h (pairwise_ext hS hT fun z => ?_)
  constructor
  ·intro hm
   have h3 := hbS z hm
   have h4 := h2 z.toNat (by omega)
   rw [hz.2.2 _ (by omega), hz'.2.2 _ (by omega)] at h4
   unfold inL at h4
   rw [Int.toNat_of_nonneg h3.1] at h4
   exact of_decide_eq_true (by rw [← h4]; exact decide_eq_true hm)
  ·intro hm
   have h3 := hbT z hm
   have h4 := h2 z.toNat (by omega)
   rw [hz.2.2 _ (by omega), hz'.2.2 _ (by omega)] at h4
   unfold inL at h4
   rw [Int.toNat_of_nonneg h3.1] at h4
   exact of_decide_eq_true (by rw [h4]; exact decide_eq_true hm)] at h1
 exact h1
set_option maxRecDepth 20000 in
set_option maxHeartbeats 4000000 in
theorem nfaDeterministic_walk (a : Nfa) (h : NH) (aw : Option Addr) (lw cw : Nat) (zs : List Int) (w : World) (ia : IsNfa w h a) (iw : IsInts .i64 w aw lw cw zs) (iT : TabW w) :
  Calls Tryd.prog 7 #[vNf a h, .slice aw lw cw] w fun e w' => e = .returned (.bool true) ∧ Below w.heap.size w w' := by
 obtain ⟨W0, hW0, hs0, hb0, hO0⟩ := boxRN a h w ia
 replace ia := (hO0 W0 (Below.refl _ _)).2.1
 replace iw := iw.later hb0
 obtain ⟨c01, c02, c03, c04⟩ := (hO0 W0 (Below.refl _ _)).1
 have HB : Below w.heap.size w W0 := hb0
 clear hO0 hb0
 unfold vNf
 replace iT := iT.later HB
 by_cases fa : FewN a
 rotate_left
 ·have hx := fa
  go_enter Tryd.func7, Tryd.ntmps7
  go_wp2_with (fail)
  refine (awake_any iT).mono ?_
  rintro e w1 ⟨rfl, hb⟩
  replace c01 := cell_later hb c01
  replace c02 := cell_later hb c02
  replace c03 := cell_later hb c03
  replace c04 := cell_later hb c04
  replace ia := ia.later hb
  replace iw := iw.later hb
  replace iT := iT.later hb
  replace HB := HB.trans (hb.mono HB.size)
  clear hb
  go_wp2_with (fail)
  refine (few_no ia fa).mono ?_
  rintro e w2 ⟨rfl, hb⟩
  replace c01 := cell_later hb c01
  replace c02 := cell_later hb c02
  replace c03 := cell_later hb c03
  replace c04 := cell_later hb c04
  replace ia := ia.later hb
  replace iw := iw.later hb
  replace iT := iT.later hb
  replace HB := HB.trans (hb.mono HB.size)
  clear hb
  go_wp2_with (fail)
  go_ret
  exact ⟨rfl, HB⟩
 have rv := fun W h' (hd : IsNfa W h' a) => refValid_any a h' W hd
 by_cases hv : ValidN a
 rotate_left
 ·rw [vN_no hv] at rv
  go_enter Tryd.func7, Tryd.ntmps7
  go_wp2_with (fail)
  refine (awake_any iT).mono ?_
  rintro e w3 ⟨rfl, hb⟩
  replace c01 := cell_later hb c01
  replace c02 := cell_later hb c02
  replace c03 := cell_later hb c03
  replace c04 := cell_later hb c04
  replace ia := ia.later hb
  replace iw := iw.later hb
  replace iT := iT.later hb
  replace HB := HB.trans (hb.mono HB.size)
  clear hb
  go_wp2_with (fail)
  refine (few_yes ia fa).mono ?_
  rintro e w4 ⟨rfl, hb⟩
  replace c01 := cell_later hb c01
  replace c02 := cell_later hb c02
  replace c03 := cell_later hb c03
  replace c04 := cell_later hb c04
  replace ia := ia.later hb
  replace iw := iw.later hb
  replace iT := iT.later hb
  replace HB := HB.trans (hb.mono HB.size)
  clear hb
  go_wp2_with (fail)
  refine (rv _ _ ia).mono ?_
  rintro e w5 ⟨rfl, hb⟩
  replace c01 := cell_later hb c01
  replace c02 := cell_later hb c02
  replace c03 := cell_later hb c03
  replace c04 := cell_later hb c04
  replace ia := ia.later hb
  replace iw := iw.later hb
  replace iT := iT.later hb
  replace HB := HB.trans (hb.mono HB.size)
  clear hb
  go_wp2_with (fail)
  go_ret
  exact ⟨rfl, HB⟩
 rw [vN_yes hv] at rv
 by_cases hlw : 20 < lw
 ·have d1 : decide ((20 : Int) < (lw : Int)) = true := decide_eq_true (by omega)
  go_enter Tryd.func7, Tryd.ntmps7
  go_wp2_with (fail)
  refine (awake_any iT).mono ?_
  rintro e w6 ⟨rfl, hb⟩
  replace c01 := cell_later hb c01
  replace c02 := cell_later hb c02
  replace c03 := cell_later hb c03
  replace c04 := cell_later hb c04
  replace ia := ia.later hb
  replace iw := iw.later hb
  replace iT := iT.later hb
  replace HB := HB.trans (hb.mono HB.size)
  clear hb
  go_wp2_with (fail)
  refine (few_yes ia fa).mono ?_
  rintro e w7 ⟨rfl, hb⟩
  replace c01 := cell_later hb c01
  replace c02 := cell_later hb c02
  replace c03 := cell_later hb c03
  replace c04 := cell_later hb c04
  replace ia := ia.later hb
  replace iw := iw.later hb
  replace iT := iT.later hb
  replace HB := HB.trans (hb.mono HB.size)
  clear hb
  go_wp2_with (fail)
  refine (rv _ _ ia).mono ?_
  rintro e w8 ⟨rfl, hb⟩
  replace c01 := cell_later hb c01
  replace c02 := cell_later hb c02
  replace c03 := cell_later hb c03
  replace c04 := cell_later hb c04
  replace ia := ia.later hb
  replace iw := iw.later hb
  replace iT := iT.later hb
  replace HB := HB.trans (hb.mono HB.size)
  clear hb
  go_wp2_with (fail)
  go_ret
  exact ⟨rfl, HB⟩
 have d1 : decide ((20 : Int) < (lw : Int)) = false := decide_eq_false (by omega)
 have fa3 : a.arcs.length ≤ 1000 := by have := fa.2.2.2; omega
 have hzl : zs.length = lw := iw.length
 have hvn := vN_yes hv
 obtain ⟨O, hO⟩ : ∃ O, detOk a 1000 = O := ⟨_, rfl⟩
 have kd := fun W h' (hd : IsNfa W h' a) (hT : TabW W) => Determinize_any (w := W) (h := h') (L := 1000) hd hT
 rw [show detE a 1000 = (if O = true then 0 else 6) by unfold detE; rw [hvn, hO]; rfl, show detR a 1000 = (if O = true then detF a else ⟨[], [], []⟩) by unfold detR; rw [hvn, hO]; rfl] at kd
 have kc := fun W h' (l : List Int) (S : List Int) (aq : Option Addr) (lq cq : Nat) (hd : IsNfa W h' a) (hb : Bd a.n l) (hS : cloL a.arcs l = S) (hi : IsInts .i64 W aq lq cq l) => (show Calls Tryd.prog 18 #[vNf a h', .slice aq lq cq] W (SetE S 0 W) from by
  have h1 := Closure_any (w := W) (h := h') hd hi
  rw [chk_yes hv hb, show cloV a l = S by unfold cloV; rw [if_pos (chk_yes hv hb), hS]] at h1
  exact h1)
 have ks := fun W h' (l : List Int) (S : List Int) (c : Int) (aq : Option Addr) (lq cq : Nat) (hd : IsNfa W h' a) (hb : Bd a.n l) (hS : stpL a.arcs l c = S) (hi : IsInts .i64 W aq lq cq l) (hT : TabW W) => (show Calls Tryd.prog 20 #[vNf a h', .slice aq lq cq, .int .i64 c] W (SetE S 0 W) from by
  have h1 := Step_any (w := W) (h := h') (c := c) hd hi hT
  rw [chk_yes hv hb, show stpV a l c = S by unfold stpV; rw [if_pos (chk_yes hv hb), hS]] at h1
  exact h1)
 have KD := Lib.hid kd
 have KC := Lib.hid kc
 have KS := Lib.hid ks
 have HO := Lib.hid hO
 have HZL := Lib.hid hzl
 clear kd kc ks hO hvn hzl
 cases O with
 | false =>
  simp only [Bool.false_eq_true, ↓reduceIte] at KD
  go_enter Tryd.func7, Tryd.ntmps7
  go_wp2_with (fail)
  refine (awake_any iT).mono ?_
  rintro e w9 ⟨rfl, hb⟩
  replace c01 := cell_later hb c01
  replace c02 := cell_later hb c02
  replace c03 := cell_later hb c03
  replace c04 := cell_later hb c04
  replace ia := ia.later hb
  replace iw := iw.later hb
  replace iT := iT.later hb
  replace HB := HB.trans (hb.mono HB.size)
  clear hb
  go_wp2_with (fail)
  refine (few_yes ia fa).mono ?_
  rintro e w10 ⟨rfl, hb⟩
  replace c01 := cell_later hb c01
  replace c02 := cell_later hb c02
  replace c03 := cell_later hb c03
  replace c04 := cell_later hb c04
  replace ia := ia.later hb
  replace iw := iw.later hb
  replace iT := iT.later hb
  replace HB := HB.trans (hb.mono HB.size)
  clear hb
  go_wp2_with (fail)
  refine (rv _ _ ia).mono ?_
  rintro e w11 ⟨rfl, hb⟩
  replace c01 := cell_later hb c01
  replace c02 := cell_later hb c02
  replace c03 := cell_later hb c03
  replace c04 := cell_later hb c04
  replace ia := ia.later hb
  replace iw := iw.later hb
  replace iT := iT.later hb
  replace HB := HB.trans (hb.mono HB.size)
  clear hb
  go_wp2_with (fail)
  refine (own_any ia fa3).mono ?_
  rintro e w12 ⟨⟨yp, rfl, ip⟩, hb⟩
  unfold vNf
  replace c01 := cell_later hb c01
  replace c02 := cell_later hb c02
  replace c03 := cell_later hb c03
  replace c04 := cell_later hb c04
  replace ia := ia.later hb
  replace iw := iw.later hb
  replace iT := iT.later hb
  replace HB := HB.trans (hb.mono HB.size)
  clear hb
  go_upto_region 6 with (fail)
  obtain ⟨Vp, hVp, -, hb, hOp⟩ := boxNW a yp _ ip
  rw [hVp]
  obtain ⟨⟨cp1, cp2, cp3, cp4⟩, -, -⟩ := hOp Vp (Below.refl _ _)
  clear hOp hVp
  replace c01 := cell_later hb c01
  replace c02 := cell_later hb c02
  replace c03 := cell_later hb c03
  replace c04 := cell_later hb c04
  replace ia := ia.later hb
  replace iw := iw.later hb
  replace iT := iT.later hb
  replace ip := ip.later hb
  replace HB := HB.trans (hb.mono HB.size)
  clear hb
  go_wp2_with (fail)
  refine (KD.out _ _ ip iT).mono ?_
  rintro e w13 ⟨⟨v, rfl, sv⟩, hb⟩
  obtain ⟨aS, cS, aF, cF, aA, cA, rfl, -, -, -⟩ := sv
  replace c01 := cell_later hb c01
  replace c02 := cell_later hb c02
  replace c03 := cell_later hb c03
  replace c04 := cell_later hb c04
  replace cp1 := cell_later hb cp1
  replace cp2 := cell_later hb cp2
  replace cp3 := cell_later hb cp3
  replace cp4 := cell_later hb cp4
  replace ia := ia.later hb
  replace iw := iw.later hb
  replace iT := iT.later hb
  replace ip := ip.later hb
  replace HB := HB.trans (hb.mono HB.size)
  clear hb
  go_wp2_with (fail)
  go_ret
  exact ⟨rfl, HB.alloc HB.size _⟩
 | true =>
  simp only [↓reduceIte] at KD
  have hok : DetOk a 1000 := detOk_iff.1 HO.out
  obtain ⟨D, hD⟩ : ∃ D, detF a = D := ⟨_, rfl⟩
  have m0 := detF_start a
  have m1 : ∀ i, i < D.a.length → 0 ≤ (g3 D.a i).f ∧ (g3 D.a i).f < (D.q.length : Int) ∧ 0 ≤ (g3 D.a i).t ∧ (g3 D.a i).t < (D.q.length : Int) := fun i hi => by rw [← hD] at hi ⊢; exact det_arc hv hok hi
  have m2 : ∀ i j, i < j → j < D.a.length → (g3 D.a i).f < (g3 D.a j).f ∨ ((g3 D.a i).f = (g3 D.a j).f ∧ (g3 D.a i).l < (g3 D.a j).l) := fun i j h1 h2 => by rw [← hD] at h2 ⊢; exact det_asc h1 h2
  have m3 : ∀ i k, i < D.q.length → k < i → gw D.q i ≠ gw D.q k := fun i k h1 h2 => by rw [← hD] at h1 ⊢; exact detF_distinct h1 h2
  have m4 : ∀ i, i < D.q.length → CS a (gw D.q i) := fun i h1 => by rw [← hD] at h1 ⊢; exact detF_cs hv h1
  have m5 : ∀ (p : Nat), p < D.q.length → ∀ (T : List Int), gw D.q p = T → ∀ c, (movL a.arcs T c = [] ∧ tvJ D.a p c D.a.length = -1) ∨ (movL a.arcs T c ≠ [] ∧ ∃ t : Nat, t < D.q.length ∧ tvJ D.a p c D.a.length = t ∧ gw D.q t = movL a.arcs T c) := fun p hp T hT c => by rw [← hD] at hp hT ⊢; exact det_step hv hok hp hT c
  have m6 : D.q.length ≤ 1000 := by rw [← hD]; exact hok.len
  have m7 : D.a.length ≤ 10000000 := by rw [← hD]; have h9 := detB_alen a 1000; exact h9
  rw [hD] at KD m0
  obtain ⟨ql, hql⟩ : ∃ n, D.q.length = n := ⟨_, rfl⟩
  obtain ⟨al, hal⟩ : ∃ n, D.a.length = n := ⟨_, rfl⟩
  rw [hql] at m0 m1 m3 m4 m6
  rw [hal] at m1 m2 m7
  have m5' : ∀ (p : Nat), p < ql → ∀ (T : List Int), gw D.q p = T → ∀ c, (movL a.arcs T c = [] ∧ tvJ D.a p c al = -1) ∨ (movL a.arcs T c ≠ [] ∧ ∃ t : Nat, t < ql ∧ tvJ D.a p c al = t ∧ gw D.q t = movL a.arcs T c) := fun p hp => by
   have h9 := m5 p (by rw [hql]; exact hp)
   rw [hql, hal] at h9
   exact h9
  have hq0 := m0.1
  have M0 := Lib.hid m0.2
  have M1 := Lib.hid m1
  have M2 := Lib.hid m2
  have M3 := Lib.hid m3
  have M4 := Lib.hid m4
  have M5 := Lib.hid m5'
  have HQL := Lib.hid hql
  have HAL := Lib.hid hal
  have HV := Lib.hid hv
  have hq1 : ((ql : Int) == 0) = false := by simp; omega
  have hlw2 : lw ≤ 20 := by omega
  clear m0 m1 m2 m3 m4 m5 m5' hD hok hlw
  go_enter Tryd.func7, Tryd.ntmps7
  go_wp2_with (fail)
  refine (awake_any iT).mono ?_
  rintro e w14 ⟨rfl, hb⟩
  replace c01 := cell_later hb c01
  replace c02 := cell_later hb c02
  replace c03 := cell_later hb c03
  replace c04 := cell_later hb c04
  replace ia := ia.later hb
  replace iw := iw.later hb
  replace iT := iT.later hb
  replace HB := HB.trans (hb.mono HB.size)
  clear hb
  go_wp2_with (fail)
  refine (few_yes ia fa).mono ?_
  rintro e w15 ⟨rfl, hb⟩
  replace c01 := cell_later hb c01
  replace c02 := cell_later hb c02
  replace c03 := cell_later hb c03
  replace c04 := cell_later hb c04
  replace ia := ia.later hb
  replace iw := iw.later hb
  replace iT := iT.later hb
  replace HB := HB.trans (hb.mono HB.size)
  clear hb
  go_wp2_with (fail)
  refine (rv _ _ ia).mono ?_
  rintro e w16 ⟨rfl, hb⟩
  replace c01 := cell_later hb c01
  replace c02 := cell_later hb c02
  replace c03 := cell_later hb c03
  replace c04 := cell_later hb c04
  replace ia := ia.later hb
  replace iw := iw.later hb
  replace iT := iT.later hb
  replace HB := HB.trans (hb.mono HB.size)
  clear hb
  go_wp2_with (fail)
  refine (own_any ia fa3).mono ?_
  rintro e w17 ⟨⟨yp, rfl, ip⟩, hb⟩
  unfold vNf
  replace c01 := cell_later hb c01
  replace c02 := cell_later hb c02
  replace c03 := cell_later hb c03
  replace c04 := cell_later hb c04
  replace ia := ia.later hb
  replace iw := iw.later hb
  replace iT := iT.later hb
  replace HB := HB.trans (hb.mono HB.size)
  clear hb
  go_upto_region 6 with (fail)
  obtain ⟨Vp, hVp, -, hb, hOp⟩ := boxNW a yp _ ip
  rw [hVp]
  obtain ⟨⟨cp1, cp2, cp3, cp4⟩, -, -⟩ := hOp Vp (Below.refl _ _)
  clear hOp hVp
  replace c01 := cell_later hb c01
  replace c02 := cell_later hb c02
  replace c03 := cell_later hb c03
  replace c04 := cell_later hb c04
  replace ia := ia.later hb
  replace iw := iw.later hb
  replace iT := iT.later hb
  replace ip := ip.later hb
  replace HB := HB.trans (hb.mono HB.size)
  clear hb
  go_wp2_with (fail)
  refine (KD.out _ _ ip iT).mono ?_
  rintro e w18 ⟨⟨v, rfl, sv⟩, hb⟩
  obtain ⟨aS, cS, aF, cF, aA, cA, rfl, iS, iF, iA⟩ := sv
  rw [hql] at iS iF ⊢
  rw [hal] at iA ⊢
  replace c01 := cell_later hb c01
  replace c02 := cell_later hb c02
  replace c03 := cell_later hb c03
  replace c04 := cell_later hb c04
  replace cp1 := cell_later hb cp1
  replace cp2 := cell_later hb cp2
  replace cp3 := cell_later hb cp3
  replace cp4 := cell_later hb cp4
  replace ia := ia.later hb
  replace iw := iw.later hb
  replace iT := iT.later hb
  replace ip := ip.later hb
  replace HB := HB.trans (hb.mono HB.size)
  clear hb
  obtain ⟨WB, hWB⟩ : ∃ WB, w18.alloc (.cells #[.slice aS ql cS, .slice aF ql cF, .slice aA al cA] 32) = WB := ⟨_, rfl⟩
  have hb : Below w18.heap.size w18 WB := by rw [← hWB]; exact (Below.refl _ _).alloc (Nat.le_refl _) _
  have hz := heap_alloc_new w18 (.cells #[.slice aS ql cS, .slice aF ql cF, .slice aA al cA] 32 (0, 0))
  go_upto_region 7 with (fail)
  try rw [hWB]
  have cs0 : WB.cell? ⟨w18.heap.size, 0, none⟩ = some (.slice aS ql cS) := by rw [← hWB]; exact cell_of_row _ _ 0 _ _ _ (heap_alloc_new w18 _)
  have cs1 : WB.cell? ⟨w18.heap.size, 1, none⟩ = some (.slice aF ql cF) := by rw [← hWB]; exact cell_of_row _ _ 1 _ _ _ (heap_alloc_new w18 _)
  have cs2 : WB.cell? ⟨w18.heap.size, 2, none⟩ = some (.slice aA al cA) := by rw [← hWB]; exact cell_of_row _ _ 2 _ _ _ (heap_alloc_new w18 _)
  clear hz
  replace c01 := cell_later hb c01
  replace c02 := cell_later hb c02
  replace c03 := cell_later hb c03
  replace c04 := cell_later hb c04
  replace cp1 := cell_later hb cp1
  replace cp2 := cell_later hb cp2
  replace cp3 := cell_later hb cp3
  replace cp4 := cell_later hb cp4
  replace ia := ia.later hb
  replace iw := iw.later hb
  replace iT := iT.later hb
  replace ip := ip.later hb
  replace iS := iS.later hb
  replace iF := iF.later hb
  replace iA := iA.later hb
  replace HB := HB.trans (hb.mono HB.size)
  clear hb
  clear hql hal
  go_wp2_with (fail)
  obtain ⟨sb, hsb⟩ : ∃ x, w18.heap.size = x := ⟨_, rfl⟩
  rw [hsb] at cs0 cs1 cs2 ⊢
  clear hsb
  have hb := Below.refl WB.heap.size WB
  go_loopw [65] (fun c W => (∃ i : Nat, i ≤ al ∧ c = .int .i64 (i : Int) ∧ True) ∧ Below WB.heap.size WB W) (fun c _ => al - (intOf c).toNat)
  case atStart => exact ⟨⟨0, Nat.zero_le _, rfl, trivial⟩, Below.refl _ _⟩
  case round =>
   clear hb
   obtain ⟨⟨i, hi, rfl, -⟩, hb⟩ := hrel
   have HL := Lib.hid hb
   replace c01 := cell_later hb c01
   replace c02 := cell_later hb c02
   replace c03 := cell_later hb c03
   replace c04 := cell_later hb c04
   replace cp1 := cell_later hb cp1
   replace cp2 := cell_later hb cp2
   replace cp3 := cell_later hb cp3
   replace cp4 := cell_later hb cp4
   replace cs0 := cell_later hb cs0
   replace cs1 := cell_later hb cs1
   replace cs2 := cell_later hb cs2
   replace ia := ia.later hb
   replace iw := iw.later hb
   replace iT := iT.later hb
   replace ip := ip.later hb
   replace iS := iS.later hb
   replace iF := iF.later hb
   replace iA := iA.later hb
   replace HB := HB.trans (hb.mono HB.size)
   clear hb
   rcases Nat.lt_or_ge i al with hlt | hge
   ·have t1 : decide (i < al) = true := decide_eq_true hlt
    obtain ⟨ba, oa, haa, hac⟩ := iA.fix (by omega)
    obtain ⟨y1, y2, y3⟩ := hac wr (Below.refl _ _) i hlt
    obtain ⟨n1, n2, n3, n4⟩ := M1.out i hlt
    have hps := fun j (hj : j < i) => M2.out j i hj hlt
    obtain ⟨⟨x1, x2, x3⟩, hx⟩ : ∃ x, g3 D.a i = x := ⟨_, rfl⟩
    rw [hx] at y1 y2 y3 n1 n2 n3 n4 hps
    simp only at y1 y2 y3 n1 n2 n3 n4 hps
    have r1 : decide (x1 < 0) = false := decide_eq_false (by omega)
    have r2 : decide ((ql : Int) ≤ x1) = false := decide_eq_false (by omega)
    have r3 : decide (x3 < 0) = false := decide_eq_false (by omega)
    have r4 : decide ((ql : Int) ≤ x3) = false := decide_eq_false (by omega)
    have HPS := Lib.hid hps
    have HAC := Lib.hid (fun W hW j hj => hac W hW j hj)
    subst haa
    obtain ⟨Wn, hWn⟩ : ∃ Wn, wr.alloc (.cells #[.int .i64 x1, .int .i64 x2, .int .i64 x3] 73) = Wn := ⟨_, rfl⟩
    have hbn : Below wr.heap.size wr Wn := by rw [← hWn]; exact (Below.refl _ _).alloc (Nat.le_refl _) _
    have z1 : Wn.cell? ⟨wr.heap.size, 0, none⟩ = some (.int .i64 x1) := by rw [← hWn]; exact cell_of_row _ _ 0 _ _ _ (heap_alloc_new wr _)
    have z2 : Wn.cell? ⟨wr.heap.size, 1, none⟩ = some (.int .i64 x2) := by rw [← hWn]; exact cell_of_row _ _ 1 _ _ _ (heap_alloc_new wr _)
    have z3 : Wn.cell? ⟨wr.heap.size, 2, none⟩ = some (.int .i64 x3) := by rw [← hWn]; exact cell_of_row _ _ 2 _ _ _ (heap_alloc_new wr _)
    have HLN : Hid (Below WB.heap.size WB Wn) := Lib.hid (HL.out.trans (hbn.mono HL.out.size))
    have HWN := Lib.hid hWn
    have m2 := cell_later hbn cs2
    have m0 := cell_later hbn cs0
    clear hx hac hps n1 n2 n3 n4 hWn
    go_upto_region 15 with (fail)
    rw [HWN.out]
    rcases Nat.eq_zero_or_pos i with hi0 | hi0
    ·have q1 : decide ((0 : Int) < (i : Int)) = false := decide_eq_false (by omega)
     have q1n : decide (0 < i) = false := decide_eq_false (by omega)
     clear hi0
     go_quiet (fail)
     go_wp2_with (fail)
     go_roundw
     case rel => exact ⟨⟨i + 1, hlt, by go_num, trivial⟩, HLN.out.trans ((below_drew_n Wn nq).mono HLN.out.size)⟩
     case measure => simp [intOf]; omega
    have q1 : decide ((0 : Int) < (i : Int)) = true := decide_eq_true (by omega)
    have q1n : decide (0 < i) = true := decide_eq_true (by omega)
    obtain ⟨j, hj⟩ : ∃ j, i = j + 1 := ⟨i - 1, by omega⟩
    have hij : (i : Int) - 1 = (j : Int) := by omega
    have hjl : j < al := by omega
    obtain ⟨v1, v2, v3⟩ := HAC.out Wn hbn j hjl
    have hps := HPS.out j (by omega)
    obtain ⟨⟨p1, p2, p3⟩, hp⟩ : ∃ x, g3 D.a j = x := ⟨_, rfl⟩
    rw [hp] at v1 v2 v3 hps
    simp only at v1 v2 v3 hps
    have r5 : decide (x1 < p1) = false := decide_eq_false (by omega)
    clear hj hp hi0
    by_cases hpe : p1 < x1
    ·have r6 : (x1 == p1) = false := by simp; omega
     clear hpe hps
     go_quiet (fail)
     go_wp2_with (fail)
     go_roundw
     case rel => exact ⟨⟨i + 1, hlt, by go_num, trivial⟩, HLN.out.trans ((below_drew_n Wn nq).mono HLN.out.size)⟩
     case measure => simp [intOf]; omega
    have hpx : p1 = x1 := by omega
    have r7 : decide (x2 ≤ p2) = false := decide_eq_false (by omega)
    subst hpx
    have r6 : (p1 == p1) = true := by simp
    clear hpe hps
    go_quiet (fail)
    go_wp2_with (fail)
    go_roundw
    case rel => exact ⟨⟨i + 1, hlt, by go_num, trivial⟩, HLN.out.trans ((below_drew_n Wn nq).mono HLN.out.size)⟩
    case measure => simp [intOf]; omega
   ·have t1 : decide (i < al) = false := decide_eq_false (by omega)
    go_wp2_with (fail)
    obtain ⟨wA, hwx⟩ : ∃ x : World, x = wr := ⟨_, rfl⟩
    subst hwx
    have hb := Below.refl wA.heap.size wA
    go_loopw [141] (fun c W => (∃ i : Nat, i ≤ ql ∧ c = .int .i64 (i : Int)) ∧ Below wA.heap.size wA W) (fun c _ => ql - (intOf c).toNat)
    case atStart => exact ⟨⟨0, Nat.zero_le _, rfl⟩, Below.refl _ _⟩
    case round =>
     clear hb
     obtain ⟨⟨i, hi, rfl⟩, hb⟩ := hrel
     have HLA := Lib.hid hb
     replace c01 := cell_later hb c01
     replace c02 := cell_later hb c02
     replace c03 := cell_later hb c03
     replace c04 := cell_later hb c04
     replace cp1 := cell_later hb cp1
     replace cp2 := cell_later hb cp2
     replace cp3 := cell_later hb cp3
     replace cp4 := cell_later hb cp4
     replace cs0 := cell_later hb cs0
     replace cs1 := cell_later hb cs1
     replace cs2 := cell_later hb cs2
     replace ia := ia.later hb
     replace iw := iw.later hb
     replace iT := iT.later hb
     replace ip := ip.later hb
     replace iS := iS.later hb
     replace iF := iF.later hb
     replace iA := iA.later hb
     replace HB := HB.trans (hb.mono HB.size)
     clear hb
     rcases Nat.lt_or_ge i ql with hlt | hge
     ·have t1 : decide (i < ql) = true := decide_eq_true hlt
      obtain ⟨bS, oS, gi1, ti1, ci1, zi1, haS, ki1, ii1, si1⟩ := sets_at iS hlt
      have hci := sets_cap iS
      subst haS
      go_wp2_with (fail)
      obtain ⟨wC, hwx⟩ : ∃ x : World, x = wr := ⟨_, rfl⟩
      subst hwx
      have hb := Below.refl wC.heap.size wC
      go_loopw [149] (fun c W => (∃ k : Nat, k ≤ i ∧ c = .int .i64 (k : Int)) ∧ Below wC.heap.size wC W) (fun c _ => i - (intOf c).toNat)
      case atStart => exact ⟨⟨0, Nat.zero_le _, rfl⟩, Below.refl _ _⟩
      case round =>
       clear hb
       obtain ⟨⟨k, hk, rfl⟩, hb⟩ := hrel
       have HLC := Lib.hid hb
       replace c01 := cell_later hb c01
       replace c02 := cell_later hb c02
       replace c03 := cell_later hb c03
       replace c04 := cell_later hb c04
       replace cp1 := cell_later hb cp1
       replace cp2 := cell_later hb cp2
       replace cp3 := cell_later hb cp3
       replace cp4 := cell_later hb cp4
       replace cs0 := cell_later hb cs0
       replace cs1 := cell_later hb cs1
       replace cs2 := cell_later hb cs2
       replace ki1 := cell_later hb ki1
       replace ia := ia.later hb
       replace iw := iw.later hb
       replace iT := iT.later hb
       replace ip := ip.later hb
       replace iS := iS.later hb
       replace iF := iF.later hb
       replace iA := iA.later hb
       replace ii1 := ii1.later hb
       replace HB := HB.trans (hb.mono HB.size)
       clear hb
       rcases Nat.lt_or_ge k i with hkt | hkge
       ·have t2 : decide (k < i) = true := decide_eq_true hkt
        obtain ⟨bS2, oS2, gk1, tk1, ck1, zk1, haS2, kk1, ik1, sk1⟩ := sets_at iS (i := k) (by omega)
        obtain ⟨rfl, rfl⟩ : bS = bS2 ∧ oS = oS2 := by simpa using haS2
        have hne := M3.out i k hlt hkt
        have hc1 := M4.out i hlt
        have hc2 := M4.out k (by omega)
        have HNE := Lib.hid (And.intro hne (And.intro hc1 hc2))
        clear hne hc1 hc2 haS2
        go_upto_region 24 with (fail)
        refine wp_region_grow mixed (by kernel_rfl) [[], [(0, 152)], [], [(1, 153), (2, 154)], [(3, 155)], [], [(5, 157)], [], [(6, 158), (7, 159)], [(8, 160)], [(4, 156), (9, 161)]] [(0, 152), (1, 153), (2, 154), (3, 155), (4, 156), (5, 157), (6, 158), (7, 159), (8, 160), (9, 161), (10, 162)] rfl rfl [Ex ?ee0, Ex ?ee1, Ex ?ee2, Ex ?ee3, Ex ?ee4, Ex ?ee5, Ex ?ee6, Ex ?ee7, Ex ?ee8, Ex ?ee9, Ex (.bool false)] ⟨stays_ex _, stays_ex _, stays_ex _, stays_ex _, stays_ex _, stays_ex _, stays_ex _, stays_ex _, stays_ex _, stays_ex _, stays_ex _, trivial⟩ ?esteps ?erest
        case esteps =>
         refine ⟨fun f W hC hh => ?_, fun f W hC hh => ?_, fun f W hC hh => ?_, fun f W hC hh => ?_, fun f W hC hh => ?_, fun f W hC hh => ?_, fun f W hC hh => ?_, fun f W hC hh => ?_, fun f W hC hh => ?_, fun f W hC hh => ?_, fun f W hC hh => ?_, trivial⟩
         ·
          refine tab_plain fun K Q hK => ?_
          simp only [puts, foldr_nil]
          go_step
          exact fam_e hK rfl rfl (Below.refl _ _) hC
         ·
          obtain ⟨h0, -⟩ := hh
          have g0 : f 0 = _ := h0
          refine tab_plain fun K Q hK => ?_
          simp only [puts, Za, Zb, Zc, Zd, Ze, g0]
          have e0 := cell_later hC cs0
          have e1 := cell_later hC ki1
          have e2 := cell_later hC kk1
          go_step
          exact fam_e hK rfl rfl (Below.refl _ _) hC
         ·
          refine tab_plain fun K Q hK => ?_
          simp only [puts, foldr_nil]
          go_step
          exact fam_e hK rfl rfl (Below.refl _ _) hC
         ·
          obtain ⟨h1, h2, -⟩ := hh
          have g1 : f 1 = _ := h1
          have g2 : f 2 = _ := h2
          refine tab_plain fun K Q hK => ?_
          simp only [puts, Za, Zb, Zc, Zd, Ze, g1, g2]
          go_step
          exact fam_e hK rfl rfl (Below.refl _ _) hC
         ·
          obtain ⟨h3, -⟩ := hh
          have g3 : f 3 = _ := h3
          refine tab_plain fun K Q hK => ?_
          simp only [puts, Za, Zb, Zc, Zd, Ze, g3]
          have e0 := cell_later hC cs0
          have e1 := cell_later hC ki1
          have e2 := cell_later hC kk1
          go_step
          exact fam_e hK rfl rfl (Below.refl _ _) hC
         ·
          refine tab_plain fun K Q hK => ?_
          simp only [puts, foldr_nil]
          go_step
          exact fam_e hK rfl rfl (Below.refl _ _) hC
         ·
          obtain ⟨h5, -⟩ := hh
          have g5 : f 5 = _ := h5
          refine tab_plain fun K Q hK => ?_
          simp only [puts, Za, Zb, Zc, Zd, Ze, g5]
          have e0 := cell_later hC cs0
          have e1 := cell_later hC ki1
          have e2 := cell_later hC kk1
          go_step
          exact fam_e hK rfl rfl (Below.refl _ _) hC
         ·
          refine tab_plain fun K Q hK => ?_
          simp only [puts, foldr_nil]
          go_step
          exact fam_e hK rfl rfl (Below.refl _ _) hC
         ·
          obtain ⟨h6, h7, -⟩ := hh
          have g6 : f 6 = _ := h6
          have g7 : f 7 = _ := h7
          refine tab_plain fun K Q hK => ?_
          simp only [puts, Za, Zb, Zc, Zd, Ze, g6, g7]
          go_step
          exact fam_e hK rfl rfl (Below.refl _ _) hC
         ·
          obtain ⟨h8, -⟩ := hh
          have g8 : f 8 = _ := h8
          refine tab_plain fun K Q hK => ?_
          simp only [puts, Za, Zb, Zc, Zd, Ze, g8]
          have e0 := cell_later hC cs0
          have e1 := cell_later hC ki1
          have e2 := cell_later hC kk1
          go_step
          exact fam_e hK rfl rfl (Below.refl _ _) hC
         ·
          obtain ⟨h4, h9, -⟩ := hh
          have g4 : f 4 = _ := h4
          have g9 : f 9 = _ := h9
          refine tab_plain fun K Q hK => ?_
          simp only [puts, Za, Zb, Zc, Zd, Ze, g4, g9]
          go_step
          go_at_call 28
          refine (equalS_no (n := a.n) (ii1.later hC) si1 (ik1.later hC) sk1 HNE.out.2.1.2.2 HNE.out.2.2.2.2 HNE.out.2.1.1 HNE.out.2.2.1 (by have := HV.out.1; omega) HNE.out.1).mono ?_
          rintro e w' ⟨rfl, hb⟩
          exact fam_fin hK rfl rfl hb (hC.trans (hb.mono hC.size))
        case erest =>
         intro f WE hC hh
         obtain ⟨h0, h1, h2, h3, h4, h5, h6, h7, h8, h9, h10, -⟩ := hh
         have g0 : f 0 = _ := h0
         have g1 : f 1 = _ := h1
         have g2 : f 2 = _ := h2
         have g3 : f 3 = _ := h3
         have g4 : f 4 = _ := h4
         have g5 : f 5 = _ := h5
         have g6 : f 6 = _ := h6
         have g7 : f 7 = _ := h7
         have g8 : f 8 = _ := h8
         have g9 : f 9 = _ := h9
         have g10 : f 10 = _ := h10
         simp only [puts, Za, Zb, Zc, Zd, Ze, g0, g1, g2, g3, g4, g5, g6, g7, g8, g9, g10]
         clear h0 h1 h2 h3 h4 h5 h6 h7 h8 h9 h10 g0 g1 g2 g3 g4 g5 g6 g7 g8 g9 g10
         have HLE := Lib.hid (HLC.out.trans (hC.mono HLC.out.size))
         clear hC
         go_wp2_with (fail)
         go_roundw
         case rel => exact ⟨⟨k + 1, hkt, by go_num⟩, HLE.out⟩
         case measure => simp [intOf]; omega
       ·have t2 : decide (k < i) = false := decide_eq_false (by omega)
        have HLD := Lib.hid (HLA.out.trans (HLC.out.mono HLA.out.size))
        go_wp2_with (fail)
        go_roundw
        case rel => exact ⟨⟨i + 1, hlt, by go_num⟩, HLD.out⟩
        case measure => simp [intOf]; omega
     ·have t1 : decide (i < ql) = false := decide_eq_false (by omega)
      obtain ⟨bS, oS, g01, t01, c01', z01, haS, k01, i01, s01⟩ := sets_at iS hq0
      have k02 := k01
      rw [Nat.add_zero] at k02
      have h00 := M0.out
      subst haS
      clear hge hi
      go_wp2_with (fail)
      refine (KC.out _ yp a.s (cloL a.arcs a.s) _ _ _ ip HV.out.startIn rfl ia.start).mono ?_
      rintro e w19 ⟨⟨gN, tN, cN, zN, rfl, iN, sN, lN⟩, hb⟩
      replace c01 := cell_later hb c01
      replace c02 := cell_later hb c02
      replace c03 := cell_later hb c03
      replace c04 := cell_later hb c04
      replace cp1 := cell_later hb cp1
      replace cp2 := cell_later hb cp2
      replace cp3 := cell_later hb cp3
      replace cp4 := cell_later hb cp4
      replace cs0 := cell_later hb cs0
      replace cs1 := cell_later hb cs1
      replace cs2 := cell_later hb cs2
      replace k01 := cell_later hb k01
      replace k02 := cell_later hb k02
      replace ia := ia.later hb
      replace iw := iw.later hb
      replace iT := iT.later hb
      replace ip := ip.later hb
      replace iS := iS.later hb
      replace iF := iF.later hb
      replace iA := iA.later hb
      replace i01 := i01.later hb
      replace HB := HB.trans (hb.mono HB.size)
      clear hb
      go_wp2_with (fail)
      refine (equalS iN sN i01 s01 (fun z => by rw [h00])).mono ?_
      rintro e w20 ⟨rfl, hb⟩
      replace c01 := cell_later hb c01
      replace c02 := cell_later hb c02
      replace c03 := cell_later hb c03
      replace c04 := cell_later hb c04
      replace cp1 := cell_later hb cp1
      replace cp2 := cell_later hb cp2
      replace cp3 := cell_later hb cp3
      replace cp4 := cell_later hb cp4
      replace cs0 := cell_later hb cs0
      replace cs1 := cell_later hb cs1
      replace cs2 := cell_later hb cs2
      replace k01 := cell_later hb k01
      replace k02 := cell_later hb k02
      replace ia := ia.later hb
      replace iw := iw.later hb
      replace iT := iT.later hb
      replace ip := ip.later hb
      replace iS := iS.later hb
      replace iF := iF.later hb
      replace iA := iA.later hb
      replace i01 := i01.later hb
      replace iN := iN.later hb
      replace HB := HB.trans (hb.mono HB.size)
      clear hb
      go_wp2_with (fail)
      have sN0 : Bt.SetIs zN (inL (runL a.arcs a.s (zs.take 0))) := by rw [List.take_zero, runL_nil]; exact sN
      have HP0 : Hid (0 < ql ∧ (false = false → gw D.q 0 = runL a.arcs a.s (zs.take 0)) ∧ (false = true → runL a.arcs a.s (zs.take 0) = [])) := Lib.hid ⟨hq0, fun _ => by rw [List.take_zero, runL_nil]; exact h00, fun h => by cases h⟩
      clear h00 sN
      have hb := Below.refl w20.heap.size w20
      go_loopw [12, 13, 14, 185] (fun fp fl fn c W => (∃ (i : Nat) (lost : Bool) (p : Nat) (gn : Option Addr) (tn cn : Nat) (zn : List Int), i ≤ lw ∧ c = .int .i64 (i : Int) ∧ fl = .bool lost ∧ fp = .int .i64 (p : Int) ∧ fn = .slice gn tn cn ∧ IsInts .u64 W gn tn cn zn ∧ Bt.SetIs zn (inL (runL a.arcs a.s (zs.take i))) ∧ tn ≤ 64 ∧ Hid (p < ql ∧ (lost = false → gw D.q p = runL a.arcs a.s (zs.take i)) ∧ (lost = true → runL a.arcs a.s (zs.take i) = []))) ∧ Below w20.heap.size w20 W) (fun _ _ _ c _ => lw - (intOf c).toNat)
      case atStart => exact ⟨⟨0, false, 0, gN, tN, cN, zN, Nat.zero_le _, rfl, rfl, rfl, rfl, iN, sN0, lN, HP0⟩, Below.refl _ _⟩
      case round =>
       clear hb
       obtain ⟨⟨i, lost, p, gn, tn, cn, zn, hi, rfl, rfl, rfl, rfl, in1, sn1, ln1, HP⟩, hb⟩ := hrel
       have HLW := Lib.hid hb
       replace c01 := cell_later hb c01
       replace c02 := cell_later hb c02
       replace c03 := cell_later hb c03
       replace c04 := cell_later hb c04
       replace cp1 := cell_later hb cp1
       replace cp2 := cell_later hb cp2
       replace cp3 := cell_later hb cp3
       replace cp4 := cell_later hb cp4
       replace cs0 := cell_later hb cs0
       replace cs1 := cell_later hb cs1
       replace cs2 := cell_later hb cs2
       replace k01 := cell_later hb k01
       replace k02 := cell_later hb k02
       replace ia := ia.later hb
       replace iw := iw.later hb
       replace iT := iT.later hb
       replace ip := ip.later hb
       replace iS := iS.later hb
       replace iF := iF.later hb
       replace iA := iA.later hb
       replace i01 := i01.later hb
       replace HB := HB.trans (hb.mono HB.size)
       clear hb
       rcases Nat.lt_or_ge i lw with hlt | hge
       ·have t1 : decide (i < lw) = true := decide_eq_true hlt
        obtain ⟨bw, ow, hcw, kw⟩ : ∃ b off, aw = some ⟨b, off, none⟩ ∧ wr.cell? ⟨b, off + i, none⟩ = some (.int .i64 (gi zs i)) := by
         rcases iw with ⟨_, e, _⟩ | ⟨b, off, e, _, _, _, hc⟩
         ·omega
         ·exact ⟨b, off, e, hc i hlt⟩
        subst hcw
        obtain ⟨c, hc⟩ : ∃ c, gi zs i = c := ⟨_, rfl⟩
        have hrt := run_take (a := a) zs (i := i) (by rw [HZL.out]; exact hlt)
        rw [hc] at hrt kw
        have hcsR := run_cs HV.out (zs.take i)
        obtain ⟨Rc, hRc⟩ : ∃ Rc, runL a.arcs a.s (zs.take i) = Rc := ⟨_, rfl⟩
        rw [hRc] at hrt sn1 HP hcsR
        have hstp := hcsR.stp c
        obtain ⟨Nx, hNx⟩ : ∃ Nx, movL a.arcs Rc c = Nx := ⟨_, rfl⟩
        have hcsN : CS a Nx := by rw [← hNx]; exact cs_mov HV.out _ _
        have m5p := fun h0 => M5.out p HP.out.1 Rc (HP.out.2.1 h0) c
        have hmn : Rc = [] → Nx = [] := fun h0 => by rw [← hNx, h0]; exact movL_nil0 HV.out.arcsIn c
        rw [hNx] at hrt hstp m5p
        have HRT := Lib.hid hrt
        have HST := Lib.hid hstp
        have HCR := Lib.hid hcsR
        have HCN := Lib.hid hcsN
        have HM5 := Lib.hid m5p
        have HMN := Lib.hid hmn
        clear hc hrt hcsR hRc hstp hNx hcsN m5p hmn
        go_upto_region 35 with (fail)
        refine wp_region_grow mixed (by kernel_rfl) [[], [], [(1, 191)], [], [(0, 190), (2, 192), (3, 193), (2, 192)], [(4, 194)], [(5, 189)], [(5, 189)], [(6, 195), (4, 194), (0, 190), (1, 191), (2, 192), (3, 193), (4, 194), (5, 189), (6, 195)], [(7, 196), (8, 17), (0, 190), (1, 191), (2, 192), (3, 193), (4, 194), (5, 189), (6, 195), (7, 196), (8, 17)]] [(0, 190), (1, 191), (2, 192), (3, 193), (4, 194), (5, 189), (6, 195), (7, 196), (8, 17), (9, 18)] rfl rfl [Ex ?ef0, Ex ?ef1, IntsV Rc, Ex ?ef3, SetT (Nx) 0, SetT (Nx) 0, SetW (Nx), Ex ?ef7, SetW (Nx), Ex ?ef9] ⟨stays_ex _, stays_ex _, stays_intsV _, stays_ex _, stays_setT _ _, stays_setT _ _, stays_setW _, stays_ex _, stays_setW _, stays_ex _, trivial⟩ ?fsteps ?frest
        case fsteps =>
         refine ⟨fun f W hC hh => ?_, fun f W hC hh => ?_, fun f W hC hh => ?_, fun f W hC hh => ?_, fun f W hC hh => ?_, fun f W hC hh => ?_, fun f W hC hh => ?_, fun f W hC hh => ?_, fun f W hC hh => ?_, fun f W hC hh => ?_, trivial⟩
         ·
          refine tab_plain fun K Q hK => ?_
          simp only [puts, foldr_nil]
          have mp1 := cell_later hC cp1
          have mp2 := cell_later hC cp2
          have mp3 := cell_later hC cp3
          have mp4 := cell_later hC cp4
          go_step
          exact fam_e hK rfl rfl (Below.refl _ _) hC
         ·
          refine tab_plain fun K Q hK => ?_
          simp only [puts, foldr_nil]
          go_step
          exact fam_e hK rfl rfl (Below.refl _ _) hC
         ·
          obtain ⟨h1, -⟩ := hh
          have g1 : f 1 = _ := h1
          refine tab_plain fun K Q hK => ?_
          simp only [puts, Za, Zb, Zc, Zd, Ze, g1]
          go_step
          go_at_call 27
          refine (list_S (in1.later hC) sn1 HCR.out.2.2 HCR.out.1 (by have := HV.out.1; omega) (iT.later hC)).mono ?_
          rintro e w' ⟨⟨a', c', rfl, hI⟩, hb⟩
          exact fam_fin hK rfl ⟨a', c', rfl, hI⟩ hb (hC.trans (hb.mono hC.size))
         ·
          refine tab_plain fun K Q hK => ?_
          simp only [puts, foldr_nil]
          go_step
          exact fam_e hK rfl rfl (Below.refl _ _) hC
         ·
          obtain ⟨h0, h2, h3, _, -⟩ := hh
          have g0 : f 0 = _ := h0
          obtain ⟨a2, c2, g2, s2⟩ := h2
          have g3 : f 3 = _ := h3
          refine tab_plain fun K Q hK => ?_
          simp only [puts, Za, Zb, Zc, Zd, Ze, g0, g2, g3]
          go_step
          go_at_call 20
          refine (KS.out _ yp Rc Nx c _ _ _ (ip.later hC) HCR.out.1 HST.out s2 (iT.later hC)).mono ?_
          rintro e w' ⟨⟨g, t, c', zs', rfl, i', s, l⟩, hb⟩
          exact fam_fin hK rfl ⟨g, t, c', zs', rfl, i', s, l⟩ hb (hC.trans (hb.mono hC.size))
         ·
          obtain ⟨h4, -⟩ := hh
          obtain ⟨ga4, ta4, ca4, za4, g4, ia4, sa4, la4⟩ := h4
          refine tab_plain fun K Q hK => ?_
          simp only [puts, Za, Zb, Zc, Zd, Ze, g4]
          go_step
          exact fam_fin hK rfl ⟨_, _, _, _, rfl, ia4, sa4, la4⟩ (Below.refl _ _) hC
         ·
          obtain ⟨h5, -⟩ := hh
          obtain ⟨ga5, ta5, ca5, za5, g5, ia5, sa5, la5⟩ := h5
          refine tab_plain fun K Q hK => ?_
          simp only [puts, Za, Zb, Zc, Zd, Ze, g5]
          go_step
          exact fam_fin hK rfl ⟨_, _, _, _, rfl, ia5, sa5, la5⟩ (Below.refl _ _) hC
         ·
          obtain ⟨h5, -⟩ := hh
          obtain ⟨ga5, ta5, ca5, za5, g5, ia5, sa5, la5⟩ := h5
          refine tab_plain fun K Q hK => ?_
          simp only [puts, Za, Zb, Zc, Zd, Ze, g5]
          go_step
          exact fam_e hK rfl rfl (Below.refl _ _) hC
         ·
          obtain ⟨h6, h4, h0, h1, h2, h3, _, h5, _, -⟩ := hh
          obtain ⟨ga6, ta6, ca6, za6, g6, ia6, sa6, la6⟩ := h6
          obtain ⟨ga4, ta4, ca4, za4, g4, ia4, sa4, la4⟩ := h4
          have g0 : f 0 = _ := h0
          have g1 : f 1 = _ := h1
          obtain ⟨a2, c2, g2, s2⟩ := h2
          have g3 : f 3 = _ := h3
          obtain ⟨ga5, ta5, ca5, za5, g5, ia5, sa5, la5⟩ := h5
          refine tab_plain fun K Q hK => ?_
          simp only [puts, Za, Zb, Zc, Zd, Ze, g6, g4, g0, g1, g2, g3, g5]
          go_step
          exact fam_fin hK rfl ⟨_, _, _, _, rfl, ia6, sa6, la6⟩ (Below.refl _ _) hC
         ·
          obtain ⟨h7, h8, h0, h1, h2, h3, h4, h5, h6, _, _, -⟩ := hh
          have g7 : f 7 = _ := h7
          obtain ⟨ga8, ta8, ca8, za8, g8, ia8, sa8, la8⟩ := h8
          have g0 : f 0 = _ := h0
          have g1 : f 1 = _ := h1
          obtain ⟨a2, c2, g2, s2⟩ := h2
          have g3 : f 3 = _ := h3
          obtain ⟨ga4, ta4, ca4, za4, g4, ia4, sa4, la4⟩ := h4
          obtain ⟨ga5, ta5, ca5, za5, g5, ia5, sa5, la5⟩ := h5
          obtain ⟨ga6, ta6, ca6, za6, g6, ia6, sa6, la6⟩ := h6
          refine tab_plain fun K Q hK => ?_
          simp only [puts, Za, Zb, Zc, Zd, Ze, g7, g8, g0, g1, g2, g3, g4, g5, g6]
          go_step
          exact fam_e hK rfl rfl (Below.refl _ _) hC
        case frest =>
         intro f WF hC hh
         obtain ⟨h0, h1, h2, h3, h4, h5, h6, h7, h8, h9, -⟩ := hh
         have g0 : f 0 = _ := h0
         have g1 : f 1 = _ := h1
         obtain ⟨a2, c2, g2, s2⟩ := h2
         have g3 : f 3 = _ := h3
         obtain ⟨ga4, ta4, ca4, za4, g4, ia4, sa4, la4⟩ := h4
         obtain ⟨ga5, ta5, ca5, za5, g5, ia5, sa5, la5⟩ := h5
         obtain ⟨ga6, ta6, ca6, za6, g6, ia6, sa6, la6⟩ := h6
         have g7 : f 7 = _ := h7
         obtain ⟨ga8, ta8, ca8, za8, g8, ia8, sa8, la8⟩ := h8
         have g9 : f 9 = _ := h9
         simp only [puts, Za, Zb, Zc, Zd, Ze, g0, g1, g2, g3, g4, g5, g6, g7, g8, g9]
         clear h0 h1 h3 h7 h9 g0 g1 g3 g7 g9
         have iX := ia8
         have sX := sa8
         have lX := la8
         clear ia4 ia5 ia6 ia8 sa4 sa5 sa6 sa8 s2 la4 la5 la6 la8
         have HLX := Lib.hid (HLW.out.trans (hC.mono HLW.out.size))
         have hb := hC
         clear hC
         replace c01 := cell_later hb c01
         replace c02 := cell_later hb c02
         replace c03 := cell_later hb c03
         replace c04 := cell_later hb c04
         replace cp1 := cell_later hb cp1
         replace cp2 := cell_later hb cp2
         replace cp3 := cell_later hb cp3
         replace cp4 := cell_later hb cp4
         replace cs0 := cell_later hb cs0
         replace cs1 := cell_later hb cs1
         replace cs2 := cell_later hb cs2
         replace k01 := cell_later hb k01
         replace k02 := cell_later hb k02
         replace ia := ia.later hb
         replace iw := iw.later hb
         replace iT := iT.later hb
         replace ip := ip.later hb
         replace iS := iS.later hb
         replace iF := iF.later hb
         replace iA := iA.later hb
         replace i01 := i01.later hb
         replace in1 := in1.later hb
         replace HB := HB.trans (hb.mono HB.size)
         clear hb
         go_wp2_with (fail)
         have hb := Below.refl WF.heap.size WF
         go_loopw [19, 200] (fun ft c' W => (∃ j : Nat, j ≤ al ∧ c' = .int .i64 (j : Int) ∧ ft = .int .i64 (if lost = true then -1 else tvJ D.a p c j)) ∧ Below WF.heap.size WF W) (fun _ c _ => al - (intOf c).toNat)
         case atStart => exact ⟨⟨0, Nat.zero_le _, rfl, by rw [tvJ_zero]; cases lost <;> rfl⟩, Below.refl _ _⟩
         case round =>
          clear hb
          obtain ⟨⟨j, hj, rfl, rfl⟩, hb⟩ := hrel
          have HLF := Lib.hid hb
          replace c01 := cell_later hb c01
          replace c02 := cell_later hb c02
          replace c03 := cell_later hb c03
          replace c04 := cell_later hb c04
          replace cp1 := cell_later hb cp1
          replace cp2 := cell_later hb cp2
          replace cp3 := cell_later hb cp3
          replace cp4 := cell_later hb cp4
          replace cs0 := cell_later hb cs0
          replace cs1 := cell_later hb cs1
          replace cs2 := cell_later hb cs2
          replace k01 := cell_later hb k01
          replace k02 := cell_later hb k02
          replace ia := ia.later hb
          replace iw := iw.later hb
          replace iT := iT.later hb
          replace ip := ip.later hb
          replace iS := iS.later hb
          replace iF := iF.later hb
          replace iA := iA.later hb
          replace i01 := i01.later hb
          replace in1 := in1.later hb
          replace iX := iX.later hb
          replace HB := HB.trans (hb.mono HB.size)
          clear hb
          rcases Nat.lt_or_ge j al with hjt | hjge
          ·have t2 : decide (j < al) = true := decide_eq_true hjt
           obtain ⟨ba, oa, haa, hac⟩ := iA.fix (by omega)
           obtain ⟨y1, y2, y3⟩ := hac wr (Below.refl _ _) j hjt
           have hts := tvJ_succ (ar := D.a) (p := p) (c := c) (j := j) (by rw [HAL.out]; exact hjt)
           obtain ⟨⟨x1, x2, x3⟩, hx⟩ : ∃ x, g3 D.a j = x := ⟨_, rfl⟩
           rw [hx] at y1 y2 y3 hts
           simp only at y1 y2 y3
           unfold tv1 at hts
           simp only at hts
           have HTS := Lib.hid hts
           subst haa
           clear hx hac hts
           cases lost with
           | true =>
            go_wp2_with (fail)
            go_roundw
            case rel => exact ⟨⟨j + 1, hjt, by go_num, by simp⟩, HLF.out⟩
            case measure => simp [intOf]; omega
           | false =>
            by_cases hm1 : x1 = (p : Int)
            ·have q1 : (x1 == (p : Int)) = true := by simp [hm1]
             by_cases hm2 : x2 = c
             ·have q2 : (x2 == c) = true := by simp [hm2]
              have HE : Hid (tvJ D.a p c (j + 1) = x3) := Lib.hid (by rw [HTS.out, if_pos ⟨hm1, hm2⟩])
              clear hm1 hm2
              go_wp2_with (fail)
              go_roundw
              case rel => exact ⟨⟨j + 1, hjt, by go_num, by simp [HE.out]⟩, HLF.out⟩
              case measure => simp [intOf]; omega
             ·have q2 : (x2 == c) = false := by simp [hm2]
              have HE : Hid (tvJ D.a p c (j + 1) = tvJ D.a p c j) := Lib.hid (by rw [HTS.out, if_neg (fun h => hm2 h.2)])
              clear hm1 hm2
              go_wp2_with (fail)
              go_roundw
              case rel => exact ⟨⟨j + 1, hjt, by go_num, by simp [HE.out]⟩, HLF.out⟩
              case measure => simp [intOf]; omega
            ·have q1 : (x1 == (p : Int)) = false := by simp [hm1]
             have HE : Hid (tvJ D.a p c (j + 1) = tvJ D.a p c j) := Lib.hid (by rw [HTS.out, if_neg (fun h => hm1 h.1)])
             clear hm1
             go_wp2_with (fail)
             go_roundw
             case rel => exact ⟨⟨j + 1, hjt, by go_num, by simp [HE.out]⟩, HLF.out⟩
             case measure => simp [intOf]; omega
          ·have t2 : decide (j < al) = false := decide_eq_false (by omega)
           obtain rfl : j = al := by omega
           have hTC : (Nx = [] ∧ (if lost = true then (-1 : Int) else tvJ D.a p c j) = -1) ∨ (Nx ≠ [] ∧ ∃ t : Nat, t < ql ∧ (if lost = true then (-1 : Int) else tvJ D.a p c j) = (t : Int) ∧ gw D.q t = Nx) := by
            cases hl : lost with
            | true => exact .inl ⟨HMN.out (HP.out.2.2 hl), by simp⟩
            | false =>
             rcases HM5.out hl with ⟨h1, h2⟩ | ⟨h1, t, h2, h3, h4⟩
             ·exact .inl ⟨h1, by simp [h2]⟩
             ·exact .inr ⟨h1, t, h2, by simp [h3], h4⟩
           obtain ⟨T, hT⟩ : ∃ T, (if lost = true then (-1 : Int) else tvJ D.a p c j) = T := ⟨_, rfl⟩
           rw [hT] at hTC ⊢
           have HLY := Lib.hid (HLX.out.trans (HLF.out.mono HLX.out.size))
           clear hT
           rcases hTC with ⟨hN, rfl⟩ | ⟨hN, t, htq, rfl, hgt⟩
           ·subst hN
            have HLQ := HLY.out
            go_wp2_with (fail)
            refine (Bt.len_zero iX sX.1 (fun n hn => by rw [sX.2.2 n hn]; rfl)).mono ?_
            rintro e w21 ⟨rfl, hb⟩
            replace c01 := cell_later hb c01
            replace c02 := cell_later hb c02
            replace c03 := cell_later hb c03
            replace c04 := cell_later hb c04
            replace cp1 := cell_later hb cp1
            replace cp2 := cell_later hb cp2
            replace cp3 := cell_later hb cp3
            replace cp4 := cell_later hb cp4
            replace cs0 := cell_later hb cs0
            replace cs1 := cell_later hb cs1
            replace cs2 := cell_later hb cs2
            replace k01 := cell_later hb k01
            replace k02 := cell_later hb k02
            replace ia := ia.later hb
            replace iw := iw.later hb
            replace iT := iT.later hb
            replace ip := ip.later hb
            replace iS := iS.later hb
            replace iF := iF.later hb
            replace iA := iA.later hb
            replace i01 := i01.later hb
            replace in1 := in1.later hb
            replace iX := iX.later hb
            replace HLQ := HLQ.later hb
            replace HB := HB.trans (hb.mono HB.size)
            clear hb
            skip
            go_wp2_with (fail)
            go_roundw
            case rel => exact ⟨⟨i + 1, true, 0, _, _, _, _, hlt, by go_num, rfl, rfl, rfl, iX, by rw [HRT.out]; exact sX, lX, Lib.hid ⟨hq0, fun h => (by cases h), fun _ => HRT.out⟩⟩, HLQ⟩
            case measure => simp [intOf]; omega
           have HLQ := HLY.out
           have q5 : decide ((t : Int) < 0) = false := decide_eq_false (by omega)
           obtain ⟨bS2, oS2, gt1, tt1, ct1, zt1, haS2, kt1, it1, st1⟩ := sets_at iS htq
           obtain ⟨rfl, rfl⟩ : bS = bS2 ∧ oS = oS2 := by simpa using haS2
           have hcnt : ((Bt.cnt (Bt.bt za8) : Nat) : Int) ≠ 0 := fun h0 => by
            obtain ⟨z, hz⟩ := List.exists_mem_of_ne_nil _ hN
            have h1 := HCN.out.1 z hz
            have h2 := Bt.cnt_zero.1 (by omega : Bt.cnt (Bt.bt za8) = 0) z.toNat (by have := HV.out.1; omega)
            rw [sX.2.2 _ (by have := HV.out.1; omega)] at h2
            unfold inL at h2
            rw [Int.toNat_of_nonneg h1.1, decide_eq_true hz] at h2
            cases h2
           obtain ⟨cnt, hcn⟩ : ∃ n, Bt.cnt (Bt.bt za8) = n := ⟨_, rfl⟩
           rw [hcn] at hcnt
           have q6 : ((cnt : Int) == 0) = false := by simp; omega
           have hlen := Bt.len_s iX sX.1
           rw [hcn] at hlen
           clear haS2 hcnt hcn
           go_wp2_with (fail)
           refine (hlen).mono ?_
           rintro e w22 ⟨rfl, hb⟩
           replace c01 := cell_later hb c01
           replace c02 := cell_later hb c02
           replace c03 := cell_later hb c03
           replace c04 := cell_later hb c04
           replace cp1 := cell_later hb cp1
           replace cp2 := cell_later hb cp2
           replace cp3 := cell_later hb cp3
           replace cp4 := cell_later hb cp4
           replace cs0 := cell_later hb cs0
           replace cs1 := cell_later hb cs1
           replace cs2 := cell_later hb cs2
           replace k01 := cell_later hb k01
           replace k02 := cell_later hb k02
           replace kt1 := cell_later hb kt1
           replace ia := ia.later hb
           replace iw := iw.later hb
           replace iT := iT.later hb
           replace ip := ip.later hb
           replace iS := iS.later hb
           replace iF := iF.later hb
           replace iA := iA.later hb
           replace i01 := i01.later hb
           replace in1 := in1.later hb
           replace iX := iX.later hb
           replace HLQ := HLQ.later hb
           replace it1 := it1.later hb
           replace HB := HB.trans (hb.mono HB.size)
           clear hb
           go_wp2_with (fail)
           refine (equalS it1 st1 iX sX (fun z => by rw [hgt])).mono ?_
           rintro e w23 ⟨rfl, hb⟩
           replace c01 := cell_later hb c01
           replace c02 := cell_later hb c02
           replace c03 := cell_later hb c03
           replace c04 := cell_later hb c04
           replace cp1 := cell_later hb cp1
           replace cp2 := cell_later hb cp2
           replace cp3 := cell_later hb cp3
           replace cp4 := cell_later hb cp4
           replace cs0 := cell_later hb cs0
           replace cs1 := cell_later hb cs1
           replace cs2 := cell_later hb cs2
           replace k01 := cell_later hb k01
           replace k02 := cell_later hb k02
           replace kt1 := cell_later hb kt1
           replace ia := ia.later hb
           replace iw := iw.later hb
           replace iT := iT.later hb
           replace ip := ip.later hb
           replace iS := iS.later hb
           replace iF := iF.later hb
           replace iA := iA.later hb
           replace i01 := i01.later hb
           replace in1 := in1.later hb
           replace iX := iX.later hb
           replace HLQ := HLQ.later hb
           replace it1 := it1.later hb
           replace HB := HB.trans (hb.mono HB.size)
           clear hb
           go_wp2_with (fail)
           go_roundw
           case rel => exact ⟨⟨i + 1, false, t, _, _, _, _, hlt, by go_num, rfl, rfl, rfl, iX, by rw [HRT.out]; exact sX, lX, Lib.hid ⟨htq, fun _ => by rw [HRT.out]; exact hgt, fun h => (by cases h)⟩⟩, HLQ⟩
           case measure => simp [intOf]; omega
       ·have t1 : decide (i < lw) = false := decide_eq_false (by omega)
        obtain rfl : i = lw := by omega
        have hac := accepts_any ip iw iT
        rw [accV_yes HV.out, show acN a zs = finL a.fin (runL a.arcs a.s (zs.take i)) by rw [List.take_of_length_le (by rw [HZL.out]; exact Nat.le_refl _)]; rfl] at hac
        go_wp2_with (fail)
        refine (hac).mono ?_
        rintro e w24 ⟨rfl, hb⟩
        replace c01 := cell_later hb c01
        replace c02 := cell_later hb c02
        replace c03 := cell_later hb c03
        replace c04 := cell_later hb c04
        replace cp1 := cell_later hb cp1
        replace cp2 := cell_later hb cp2
        replace cp3 := cell_later hb cp3
        replace cp4 := cell_later hb cp4
        replace cs0 := cell_later hb cs0
        replace cs1 := cell_later hb cs1
        replace cs2 := cell_later hb cs2
        replace k01 := cell_later hb k01
        replace k02 := cell_later hb k02
        replace ia := ia.later hb
        replace iw := iw.later hb
        replace iT := iT.later hb
        replace ip := ip.later hb
        replace iS := iS.later hb
        replace iF := iF.later hb
        replace iA := iA.later hb
        replace i01 := i01.later hb
        replace in1 := in1.later hb
        replace HB := HB.trans (hb.mono HB.size)
        clear hb
        cases lost with
        | true =>
         rw [HP.out.2.2 rfl]
         have hfn : finL a.fin [] = false := rfl
         rw [hfn]
         go_wp2_with (fail)
         go_ret
         exact ⟨rfl, HB⟩
        | false =>
         obtain ⟨bf, of, hfa, hfc⟩ := iF.fix (by omega)
         have kf := hfc _ (Below.refl _ _) p HP.out.1
         rw [show gb (D.q.map (finL a.fin)) p = finL a.fin (runL a.arcs a.s (zs.take i)) by rw [gb_eq _ _ (by rw [List.length_map, HQL.out]; exact HP.out.1), List.getElem_map, ← gw_eq, HP.out.2.1 rfl]] at kf
         obtain ⟨V, hVV⟩ : ∃ V, finL a.fin (runL a.arcs a.s (zs.take i)) = V := ⟨_, rfl⟩
         rw [hVV] at kf ⊢
         subst hfa
         have hpq := HP.out.1
         clear hVV hfc
         cases V with
         | true =>
          go_wp2_with (fail)
          go_ret
          exact ⟨rfl, HB⟩
         | false =>
          go_wp2_with (fail)
          go_ret
          exact ⟨rfl, HB⟩
theorem nfaDeterministic_top (a : Nfa) (h : NH) (aw : Option Addr) (lw cw : Nat) (zs : List Int) (w : World) (ia : IsNfa w h a) (iw : IsInts .i64 w aw lw cw zs) {P Q : Prop} (_ : P) (_ : Q) (iT : TabW w) :
  Calls Tryd.prog 7 #[vNf a h, .slice aw lw cw] w fun e w' => e = .returned (.bool true) ∧ Below w.heap.size w w' := nfaDeterministic_walk a h aw lw cw zs w ia iw iT
end Go.Proofs.YtofaifeadhimjaaDoor
