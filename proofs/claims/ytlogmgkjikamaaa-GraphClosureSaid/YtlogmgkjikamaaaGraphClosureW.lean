/-
  GraphClosure: the walk.
-/
import Derived.Test.YtlogmgkjikamaaaGraSt
import Derived.Test.YtlogmgkjikamaaaGraOd
import Derived.Test.YtlogmgkjikamaaaGraPb
set_option linter.unusedSimpArgs false
set_option linter.unusedVariables false
set_option maxHeartbeats 4000000
namespace Go.Proofs.Ytlogmgkjikamaaa
open Go.RowKit Go.ChangeShapes
attribute [local go_sem] Oper.semAt_some

variable {a : Option Addr} {len cap : Nat} {g : List (List Int)} {w : World}
/-- Numbers turned to nodes. -/
def nodL (N : Nat) (l : List Int) : List Int := if N = 0 then [] else l.map fun z => Int.tmod z (N : Int)
theorem nodL_ok {N : Nat} {l : List Int} (hu : ∀ n ∈ l, (Lit.int .u8 n).wf = true) : NodesOk N (nodL N l) := by
  unfold nodL
  split
  · intro z hz; cases hz
  · rename_i h0
    intro z hz
    obtain ⟨y, hy, rfl⟩ := List.mem_map.1 hz
    obtain ⟨x, hx, e, -⟩ := u8_node (hu y hy) (N := N) (by omega)
    omega
set_option maxRecDepth 20000 in
theorem nodes_any {al : Option Addr} {ll cl : Nat} {l : List Int} (hg : IsRows w a len cap g) (hl : IsRow .u8 w al ll cl l) (hu : ∀ n ∈ l, (Lit.int .u8 n).wf = true) (h10 : ll ≤ 10) (hN : len ≤ 60) :
    Calls Try.prog 28 #[.slice a len cap, .slice al ll cl] w fun e w' => (∃ ar n c, e = .returned (.slice ar n c) ∧ IsInts .i64 w' ar n c (nodL len l) ∧ n ≤ 10) ∧ Below w.heap.size w w' := by
  have HL := Lib.hid hl.length
  have HU := Lib.hid hu
  clear hu
  go_enter Try.func28, Try.ntmps28
  go_wp2_with (fail)
  by_cases h0 : len = 0
  · subst h0
    have HE : Hid (nodL 0 l = []) := Lib.hid rfl
    go_loopw [5, 6] (fun v c W => v = .slice none 0 0 ∧ c = .int .i64 0 ∧ Below w.heap.size w W) (fun _ _ _ => 0)
    case atStart => exact ⟨rfl, rfl, Below.refl _ _⟩
    case round =>
      obtain ⟨rfl, rfl, hB⟩ := hrel
      by_cases h1 : 0 < ll
      · have d1 : decide (0 < (ll : Int)) = true := decide_eq_true (by omega)
        go_wp2
        go_ret
        exact ⟨⟨_, _, _, rfl, by rw [HE.out]; exact .inl ⟨rfl, rfl, rfl, rfl⟩, by omega⟩, hB⟩
      · have d1 : decide (0 < (ll : Int)) = false := decide_eq_false (by omega)
        go_wp2
        go_ret
        exact ⟨⟨_, _, _, rfl, by rw [HE.out]; exact .inl ⟨rfl, rfl, rfl, rfl⟩, by omega⟩, hB⟩
  · have d0 : decide (0 < (len : Int)) = true := decide_eq_true (by omega)
    have HE : Hid (nodL len l = l.map fun z => Int.tmod z (len : Int)) := Lib.hid (by unfold nodL; rw [if_neg h0])
    go_loopw [5, 6] (fun v c W => ∃ (k : Nat) (ar : Option Addr) (cr : Nat), k ≤ ll ∧ c = .int .i64 (k : Int) ∧ v = .slice ar k cr ∧ W.ownsRow w.heap.size 3 1 (.slice ar k cr) k (ivs .i64 ((l.take k).map fun z => Int.tmod z (len : Int))) ∧ Below w.heap.size w W) (fun _ c _ => ll - (intOf c).toNat)
    case atStart => exact ⟨0, none, 0, Nat.zero_le _, rfl, rfl, World.ownsRow_nil _ _ _ _, Below.refl _ _⟩
    case round =>
      obtain ⟨k, ar, cr, hk, rfl, rfl, ho, hB⟩ := hrel
      rcases Nat.lt_or_ge k ll with hlt | hge
      · have d1 : decide ((k : Int) < ll) = true := decide_eq_true (by omega)
        obtain ⟨bl, ol, rfl, hc⟩ := hl.fix k hlt
        have hcz := hc wr hB
        have hkL : k < l.length := by rw [HL.out]; exact hlt
        obtain ⟨z, hz⟩ : ∃ z, gi l k = z := ⟨_, rfl⟩
        rw [hz] at hcz
        obtain ⟨x, hx, ex, hz1, hz2⟩ := u8_node (HU.out _ (gi_mem l k hkL)) (N := len) (by omega)
        rw [hz] at ex hz1 hz2
        have HT : Hid (((l.take (k + 1)).map fun z => Int.tmod z (len : Int)) = ((l.take k).map fun z => Int.tmod z (len : Int)) ++ [(x : Int)]) := Lib.hid (by rw [take_succ_gi l k hkL, List.map_append, hz]; simp [ex])
        clear hc hz hkL
        go_wp2_with (at_builtin; refine app_one (k := .i64) elI64 rfl _ _ rfl rfl ho rfl (by omega) hB.size ?_; intro a6 c6 w6 ho6 hb6)
        go_roundw
        case rel => exact ⟨k + 1, a6, c6, hlt, by go_num, rfl, by rw [HT.out]; exact ho6, hB.trans hb6⟩
        case measure => simp [intOf]; omega
      · obtain rfl : k = ll := by omega
        have d1 : decide ((k : Int) < k) = false := decide_eq_false (by omega)
        have hI := (IsInts.of_owns ho).1
        have HE2 : Hid (((l.take k).map fun z => Int.tmod z (len : Int)) = nodL len l) := Lib.hid (by rw [HE.out, List.take_of_length_le (by rw [HL.out]; exact Nat.le_refl _)])
        rw [HE2.out] at hI
        go_wp2
        go_ret
        exact ⟨⟨_, _, _, rfl, hI, h10⟩, hB⟩
theorem rcR_ascC (l : List Int) : Asc (rcR g l) := by
  unfold rcR
  split
  · exact asc_rowE _ _
  · exact List.Pairwise.nil
theorem rcR_nodeC {l : List Int} {z : Int} (h : z ∈ rcR g l) : ∃ y : Nat, z = (y : Int) ∧ y < g.length := by
  unfold rcR at h
  split at h
  · obtain ⟨i, h1, -, h2⟩ := mem_rowE.1 h
    exact ⟨i, h2, h1⟩
  · cases h
theorem checkV_again {l : List Int} (hv : ValidG g) : checkV g (rcR g l) = 0 := checkV_zero.2 ⟨hv, fun z hz => by
  obtain ⟨y, rfl, hy⟩ := rcR_nodeC hz
  omega⟩
theorem reach_twice {l : List Int} (hv : ValidG g) (hc : checkV g l = 0) : rcR g (rcR g l) = rcR g l := by
  have hc2 := checkV_again (l := l) hv
  refine asc_ext (rcR_ascC _) (rcR_ascC _) fun z => ?_
  have key : ∀ y : Nat, y < g.length → ((y : Int) ∈ rcR g (rcR g l) ↔ (y : Int) ∈ rcR g l) := fun y hy => by
    rw [mem_rcR hv hc2 (dsR_exists hc2) hy, mem_rcR hv hc (dsR_exists hc) hy]
    constructor
    · rintro ⟨s, h1, h2⟩
      obtain ⟨s', e, hs'⟩ := rcR_nodeC h1
      have : s = s' := by omega
      subst this
      obtain ⟨t, h3, h4⟩ := (mem_rcR hv hc (dsR_exists hc) hs').1 h1
      exact ⟨t, h3, h4.trans h2⟩
    · rintro ⟨s, h1, h2⟩
      have hs := (checkV_zero.1 hc).2 _ h1
      exact ⟨s, (mem_rcR hv hc (dsR_exists hc) (by omega)).2 ⟨s, h1, .refl s⟩, h2⟩
  constructor
  · intro hz
    obtain ⟨y, rfl, hy⟩ := rcR_nodeC hz
    exact (key y hy).1 hz
  · intro hz
    obtain ⟨y, rfl, hy⟩ := rcR_nodeC hz
    exact (key y hy).2 hz
theorem reach_mono {l m : List Int} (hv : ValidG g) (hc : checkV g l = 0) (hc' : checkV g (l ++ m) = 0) : ∀ z ∈ rcR g l, z ∈ rcR g (l ++ m) := fun z hz => by
  obtain ⟨y, rfl, hy⟩ := rcR_nodeC hz
  obtain ⟨s, h1, h2⟩ := (mem_rcR hv hc (dsR_exists hc) hy).1 hz
  exact (mem_rcR hv hc' (dsR_exists hc') hy).2 ⟨s, List.mem_append_left _ h1, h2⟩
theorem reach_succ {l : List Int} (hv : ValidG g) (hc : checkV g l = 0) {x : Nat} (hx : x < g.length) (hm : (x : Int) ∈ rcR g l) : ∀ z ∈ gr g x, z ∈ rcR g l := fun z hz => by
  have hb := (hv.2 _ (gr_mem hx)).2 z hz
  obtain ⟨y, rfl⟩ := Int.eq_ofNat_of_zero_le hb.1
  obtain ⟨s, h1, h2⟩ := (mem_rcR hv hc (dsR_exists hc) hx).1 hm
  exact (mem_rcR hv hc (dsR_exists hc) (by omega)).2 ⟨s, h1, .snoc h2 hz⟩

set_option maxRecDepth 20000 in
theorem graphClosure_walk (a : Option Addr) (len cap : Nat) (g : List (List Int)) (al : Option Addr) (ll cl : Nat) (l : List Int) (am : Option Addr) (lm cm : Nat) (m : List Int) (w : World) (hg : IsRows w a len cap g) (hl : IsInts .u8 w al ll cl l) (hlu : ∀ n ∈ l, (Lit.int .u8 n).wf = true) (hlm : cl * 1 ≤ 140737488351232) (hm : IsInts .u8 w am lm cm m) (hmu : ∀ n ∈ m, (Lit.int .u8 n).wf = true) (hmm : cm * 1 ≤ 140737488351232) :
    Calls Try.prog 7 #[.slice a len cap, .slice al ll cl, .slice am lm cm] w fun e w' => e = .returned (.bool true) ∧ Below w.heap.size w w' := by
  replace hl := hl.row
  replace hm := hm.row
  have HN := Lib.hid hg.length
  by_cases hf : FewG g
  rotate_left
  · have hg := hg
    go_enter Try.func7, Try.ntmps7
    have HB := Below.refl w.heap.size w
    go_wp2_with (fail)
    refine (awake_any _).mono ?_
    rintro e w1 ⟨rfl, hb⟩
    replace hg := hg.later hb
    replace HB := HB.trans (hb.mono HB.size)
    clear hb
    go_wp2_with (fail)
    refine (few_no hg hf).mono ?_
    rintro e w2 ⟨rfl, rfl⟩
    go_wp2_with (fail)
    go_ret
    exact ⟨rfl, HB⟩
  by_cases hv : ValidG g
  rotate_left
  · have hg := hg
    go_enter Try.func7, Try.ntmps7
    have HB := Below.refl w.heap.size w
    go_wp2_with (fail)
    refine (awake_any _).mono ?_
    rintro e w3 ⟨rfl, hb⟩
    replace hg := hg.later hb
    replace HB := HB.trans (hb.mono HB.size)
    clear hb
    go_wp2_with (fail)
    refine (few_yes hg hf).mono ?_
    rintro e w4 ⟨rfl, rfl⟩
    go_wp2_with (fail)
    refine (refValid_no hg hv).mono ?_
    rintro e w5 ⟨rfl, hb⟩
    replace hg := hg.later hb
    replace HB := HB.trans (hb.mono HB.size)
    clear hb
    go_wp2_with (fail)
    go_ret
    exact ⟨rfl, HB⟩
  by_cases h10 : 10 < ll
  · have d1 : decide ((10 : Int) < (ll : Int)) = true := decide_eq_true (by omega)
    go_enter Try.func7, Try.ntmps7
    have HB := Below.refl w.heap.size w
    go_wp2_with (fail)
    refine (awake_any _).mono ?_
    rintro e w6 ⟨rfl, hb⟩
    replace hg := hg.later hb
    replace HB := HB.trans (hb.mono HB.size)
    clear hb
    go_wp2_with (fail)
    refine (few_yes hg hf).mono ?_
    rintro e w7 ⟨rfl, rfl⟩
    go_wp2_with (fail)
    refine (refValid_yes hg hv).mono ?_
    rintro e w8 ⟨rfl, hb⟩
    replace hg := hg.later hb
    replace HB := HB.trans (hb.mono HB.size)
    clear hb
    go_wp2_with (fail)
    go_ret
    exact ⟨rfl, HB⟩
  have d1 : decide ((10 : Int) < (ll : Int)) = false := decide_eq_false (by omega)
  by_cases h11 : 10 < lm
  · have d2 : decide ((10 : Int) < (lm : Int)) = true := decide_eq_true (by omega)
    go_enter Try.func7, Try.ntmps7
    have HB := Below.refl w.heap.size w
    go_wp2_with (fail)
    refine (awake_any _).mono ?_
    rintro e w9 ⟨rfl, hb⟩
    replace hg := hg.later hb
    replace HB := HB.trans (hb.mono HB.size)
    clear hb
    go_wp2_with (fail)
    refine (few_yes hg hf).mono ?_
    rintro e w10 ⟨rfl, rfl⟩
    go_wp2_with (fail)
    refine (refValid_yes hg hv).mono ?_
    rintro e w11 ⟨rfl, hb⟩
    replace hg := hg.later hb
    replace HB := HB.trans (hb.mono HB.size)
    clear hb
    go_wp2_with (fail)
    go_ret
    exact ⟨rfl, HB⟩
  have d2 : decide ((10 : Int) < (lm : Int)) = false := decide_eq_false (by omega)
  have h60 : len ≤ 60 := by rw [← HN.out]; exact hf.1
  go_enter Try.func7, Try.ntmps7
  have HB := Below.refl w.heap.size w
  go_wp2_with (fail)
  refine (awake_any _).mono ?_
  rintro e w12 ⟨rfl, hb⟩
  replace hg := hg.later hb
  replace hl := hl.later hb
  replace hm := hm.later hb
  replace HB := HB.trans (hb.mono HB.size)
  clear hb
  go_wp2_with (fail)
  refine (few_yes hg hf).mono ?_
  rintro e w13 ⟨rfl, rfl⟩
  go_wp2_with (fail)
  refine (refValid_yes hg hv).mono ?_
  rintro e w14 ⟨rfl, hb⟩
  replace hg := hg.later hb
  replace hl := hl.later hb
  replace hm := hm.later hb
  replace HB := HB.trans (hb.mono HB.size)
  clear hb
  go_wp2_with (fail)
  refine (nodes_any hg hl hlu (by omega) (by omega)).mono ?_
  rintro e w15 ⟨⟨al2, n2, c2, rfl, i2, l2⟩, hb⟩
  replace hg := hg.later hb
  replace hl := hl.later hb
  replace hm := hm.later hb
  replace HB := HB.trans (hb.mono HB.size)
  clear hb
  have hk2 : checkV g (nodL len l) = 0 := checkV_zero.2 ⟨hv, by rw [HN.out]; exact nodL_ok hlu⟩
  have HK2 := Lib.hid hk2
  obtain ⟨L2, hL2⟩ : ∃ L2, nodL len l = L2 := ⟨_, rfl⟩
  rw [hL2] at i2 HK2
  clear hk2
  go_wp2_with (fail)
  refine (reach_l hg i2.row).mono ?_
  rintro e w16 ⟨⟨⟨a3, n3, c3, rfl, i3, l3⟩, H3⟩, hb⟩
  replace hg := hg.later hb
  replace hl := hl.later hb
  replace hm := hm.later hb
  replace i2 := i2.later hb
  replace HB := HB.trans (hb.mono HB.size)
  clear hb
  rw [HK2.out]
  have hb4 : Below w16.heap.size w16 (w16.alloc (.cells #[] 3)) := (Below.refl _ _).alloc (Nat.le_refl _) _
  have ho4 : (w16.alloc (.cells #[] 3)).ownsRow w16.heap.size 3 1 (.slice (some ⟨w16.heap.size, 0, none⟩) 0 0) 0 (ivs .i64 []) := World.ownsRow_lit (size := 1) w16 #[] 0 (Nat.le_refl _) (by decide) rfl
  have HI2 : Hid (∀ W, Below w16.heap.size w16 W → IsRows W a len cap g ∧ IsRow .u8 W am lm cm m ∧ IsInts .i64 W al2 n2 c2 L2 ∧ IsRow .i64 W a3 n3 c3 (rcR g L2) ∧ Below w.heap.size w W) := Lib.hid (fun W h => ⟨hg.later h, hm.later h, i2.later h, i3.later h, HB.trans (h.mono HB.size)⟩)
  have hi4 := (HI2.out _ hb4).2.2.1
  have hs4 : w16.heap.size ≤ (w16.alloc (.cells #[] 3)).heap.size := by simp
  have HV := Lib.hid hv
  have HMU := Lib.hid hmu
  clear hg hm hl i2 i3 HB hv hf hmu H3
  go_wp2_with (at_builtin; refine app_ints0 (k := .i64) elI64 rfl _ _ rfl rfl ho4 rfl hi4 (by omega) hs4 ?_; intro a5 c5 w5 ho5 _ hb5 _)
  have hbK5 := hb4.trans hb5
  have hI5 := HI2.out _ hbK5
  clear hb4 ho4 hs4 hi4 hb5
  refine (nodes_any hI5.1 hI5.2.1 HMU.out (by omega) (by omega)).mono ?_
  rintro e w6 ⟨⟨a6, n6, c6, rfl, i6, l6⟩, hb6⟩
  have ho6 := ho5.kept_below hb6
  have hs6 : w16.heap.size ≤ w6.heap.size := Nat.le_trans hbK5.size hb6.size
  have HM6 : Hid (NodesOk len (nodL len m)) := Lib.hid (nodL_ok HMU.out)
  obtain ⟨L6, hL6⟩ : ∃ L6, nodL len m = L6 := ⟨_, rfl⟩
  rw [hL6] at i6 HM6
  have hbK6 := hbK5.trans (hb6.mono hbK5.size)
  clear ho5 hb6 hI5 hbK5
  go_wp2_with (at_builtin; refine app_ints (k := .i64) elI64 rfl _ _ rfl rfl ho6 rfl i6 (by omega) hs6 ?_; intro a7 c7 w7 ho7 _ hb7 _)
  have hbK7 := hbK6.trans hb7
  have i7 := (IsInts.of_owns ho7).1.row
  have hk7 : checkV g (L2 ++ L6) = 0 := checkV_zero.2 ⟨HV.out, by
    rw [HN.out]
    intro z hz
    rcases List.mem_append.1 hz with h | h
    · have := (checkV_zero.1 HK2.out).2 z h
      rwa [HN.out] at this
    · exact HM6.out z h⟩
  have HK7 := Lib.hid hk7
  have hg7 := (HI2.out _ hbK7).1
  clear ho6 i6 hb7 hbK6 ho7 hk7 hL6 hL2
  refine (reach_l hg7 i7).mono ?_
  rintro e w8 ⟨⟨⟨a8, n8, c8, rfl, i8, l8⟩, -⟩, hb8⟩
  rw [HK7.out]
  have hbK8 := hbK7.trans (hb8.mono hbK7.size)
  clear i7 hg7 hb8 hbK7
  go_wp2_with (fail)
  have hI8 := HI2.out _ hbK8
  refine (reach_l hI8.1 hI8.2.2.2.1).mono ?_
  rintro e w9 ⟨⟨⟨a9, n9, c9, rfl, i9, l9⟩, -⟩, hb9⟩
  rw [reach_twice HV.out HK2.out] at i9
  rw [checkV_again HV.out]
  replace i8 := i8.later hb9
  have hbK9 := hbK8.trans (hb9.mono hbK8.size)
  clear hI8 hb9 hbK8
  go_wp2_with (fail)
  have hI9 := HI2.out _ hbK9
  refine (dist_l hI9.1 hI9.2.2.1.row).mono ?_
  rintro e w10 ⟨⟨⟨a10, n10, c10, rfl, i10, l10⟩, H10⟩, hb10⟩
  rw [HK2.out]
  have HD := Lib.hid (H10.out HK2.out)
  have hn10 : n10 = len := by rw [← i10.length, HD.out.1, HN.out]
  subst hn10
  replace i8 := i8.later hb10
  replace i9 := i9.later hb10
  have hbKa := hbK9.trans (hb10.mono hbK9.size)
  clear hI9 hb10 hbK9 H10
  go_wp2_with (fail)
  have hIa := HI2.out _ hbKa
  have hsub := sub_yes True hIa.2.2.2.1 i8 (by omega) (by omega) (iff_true_intro (reach_mono HV.out HK2.out HK7.out))
  rw [show yes True = true from yes_iff.2 trivial] at hsub
  refine hsub.mono ?_
  rintro e w11 ⟨rfl, hb11⟩
  replace i9 := i9.later hb11
  replace i10 := i10.later hb11
  have hbKb := hbKa.trans (hb11.mono hbKa.size)
  clear hIa hb11 hbKa hsub i8
  go_wp2_with (fail)
  have hIb := HI2.out _ hbKb
  refine (same_self hIb.2.2.2.1 i9 (by omega)).mono ?_
  rintro e w12 ⟨rfl, hb12⟩
  replace i10 := i10.later hb12
  have hbKc := hbKb.trans (hb12.mono hbKb.size)
  clear hIb hb12 hbKb i9
  have d3 : ((n10 : Int) != (n10 : Int)) = false := by simp
  have HI3 : Hid (∀ W, Below w12.heap.size w12 W → IsRows W a n10 cap g ∧ IsInts .i64 W al2 n2 c2 L2 ∧ IsRow .i64 W a3 n3 c3 (rcR g L2) ∧ IsRow .i64 W a10 n10 c10 (dsR g L2) ∧ Below w.heap.size w W) := Lib.hid (fun W h => by
    obtain ⟨h1, -, h3, h4, h5⟩ := HI2.out W (hbKc.trans (h.mono hbKc.size))
    exact ⟨h1, h3, h4, i10.later h, h5⟩)
  have HL2 : Hid (L2.length = n2 ∧ ∀ z ∈ L2, 0 ≤ z ∧ z < (n10 : Int)) := Lib.hid ⟨(HI2.out _ hbKc).2.2.1.length, fun z hz => by have := (checkV_zero.1 HK2.out).2 z hz; rwa [HN.out] at this⟩
  clear hbKc i10 HM6 HK7
  go_wp2_with (fail)
  clear d3
  go_loopw [110] (fun c W => ∃ (x : Nat), x ≤ n10 ∧ c = .int .i64 (x : Int) ∧ Below w12.heap.size w12 W) (fun c _ => n10 - (intOf c).toNat)
  case atStart => exact ⟨0, Nat.zero_le _, rfl, Below.refl _ _⟩
  case round =>
    obtain ⟨x, hx, rfl, hB⟩ := hrel
    rcases Nat.lt_or_ge x n10 with hxl | hxg
    · have t1 : decide ((x : Int) < n10) = true := decide_eq_true (by omega)
      go_wp2_with (fail)
      go_loopw [17, 115] (fun v c W => ∃ (k : Nat) (fb : Bool), k ≤ n2 ∧ c = .int .i64 (k : Int) ∧ v = .bool fb ∧ Hid (fb = true ↔ ∃ s : Nat, (s : Int) ∈ L2.take k ∧ Rch (GE g) s x) ∧ Below w12.heap.size w12 W) (fun _ c _ => n2 - (intOf c).toNat)
      case atStart => exact ⟨0, false, Nat.zero_le _, rfl, rfl, Lib.hid ⟨fun h => (by cases h), fun ⟨s, h, _⟩ => by rw [List.take_zero] at h; cases h⟩, hB⟩
      case round =>
        clear hB
        obtain ⟨k, fb, hk, rfl, rfl, HFB, hB⟩ := hrel
        obtain ⟨hgW, hlW, hcW, hdW, hBF⟩ := HI3.out _ hB
        rcases Nat.lt_or_ge k n2 with hkl | hkg
        · have t2 : decide ((k : Int) < n2) = true := decide_eq_true (by omega)
          obtain ⟨b2, f2, rfl, hcz⟩ := hlW.row.fix k hkl
          have hcs := hcz wr (Below.refl _ _)
          have hkL : k < L2.length := by rw [HL2.out.1]; exact hkl
          have hsr := HL2.out.2 _ (gi_mem L2 k hkL)
          obtain ⟨s, hs⟩ := Int.eq_ofNat_of_zero_le hsr.1
          rw [hs] at hsr hcs
          have hsg : s < g.length := by rw [HN.out]; omega
          have hxg : x < g.length := by rw [HN.out]; exact hxl
          have HTK : Hid (∀ s' : Nat, (s' : Int) ∈ L2.take (k + 1) ↔ (s' : Int) ∈ L2.take k ∨ s' = s) := Lib.hid (fun s' => by
            rw [take_succ_gi L2 k hkL, List.mem_append, List.mem_singleton, hs]
            exact or_congr_right (by omega))
          have hpt := pt_zero HV.out hsg hxg
          clear hcz hkL hsr hs hsg hxg hlW hcW hdW hBF
          go_wp2_with (fail)
          refine (path_l hgW).mono ?_
          rintro e w13 ⟨⟨a13, n13, c13, rfl, -, -⟩, hb13⟩
          have hBn := hB.trans (hb13.mono hB.size)
          obtain ⟨E, hE⟩ : ∃ E, ptE g (s : Int) (x : Int) = E := ⟨_, rfl⟩
          rw [hE] at hpt ⊢
          clear hE hcs hB hb13 hgW
          rcases hpt with ⟨rfl, q1⟩ | ⟨rfl, q1⟩
          · have HF2 : Hid (true = true ↔ ∃ s : Nat, (s : Int) ∈ L2.take (k + 1) ∧ Rch (GE g) s x) := Lib.hid ⟨fun _ => ⟨s, (HTK.out s).2 (.inr rfl), q1⟩, fun _ => rfl⟩
            clear q1
            cases fb with
            | true =>
              go_wp2_with (fail)
              go_roundw
              case rel => exact ⟨k + 1, true, hkl, by go_num, rfl, by first | exact HF2 | exact Lib.hid (by simpa using HF2.out), hBn⟩
              case measure => simp [intOf]; omega
            | false =>
              go_wp2_with (fail)
              go_roundw
              case rel => exact ⟨k + 1, true, hkl, by go_num, rfl, by first | exact HF2 | exact Lib.hid (by simpa using HF2.out), hBn⟩
              case measure => simp [intOf]; omega
          · have HF2 : Hid (fb = true ↔ ∃ s : Nat, (s : Int) ∈ L2.take (k + 1) ∧ Rch (GE g) s x) := Lib.hid (HFB.out.trans ⟨fun ⟨s', h1, h2⟩ => ⟨s', (HTK.out s').2 (.inl h1), h2⟩, fun ⟨s', h1, h2⟩ => ⟨s', ((HTK.out s').1 h1).resolve_right (fun e => q1 (e ▸ h2)), h2⟩⟩)
            clear q1
            cases fb with
            | true =>
              go_wp2_with (fail)
              go_roundw
              case rel => exact ⟨k + 1, true, hkl, by go_num, rfl, by first | exact HF2 | exact Lib.hid (by simpa using HF2.out), hBn⟩
              case measure => simp [intOf]; omega
            | false =>
              go_wp2_with (fail)
              go_roundw
              case rel => exact ⟨k + 1, false, hkl, by go_num, rfl, by first | exact HF2 | exact Lib.hid (by simpa using HF2.out), hBn⟩
              case measure => simp [intOf]; omega
        · obtain rfl : k = n2 := by omega
          have t2 : decide ((k : Int) < k) = false := decide_eq_false (by omega)
          have hxg : x < g.length := by rw [HN.out]; exact hxl
          have hall : fb = true ↔ ∃ s : Nat, (s : Int) ∈ L2 ∧ Rch (GE g) s x := by
            have := HFB.out
            rwa [List.take_of_length_le (by rw [HL2.out.1]; exact Nat.le_refl _)] at this
          have hin : ((x : Int) ∈ rcR g L2) ↔ fb = true := by rw [mem_rcR HV.out HK2.out HD.out hxg, hall]
          have hds : (0 ≤ gi (dsR g L2) x) ↔ fb = true := by
            rw [HD.out.2.reach_iff (GE.both HV.out) (fun s hs => by have := HL2.out.2 _ hs; rw [HN.out]; omega) hxg, hall]
          obtain ⟨bd, od, rfl, hcd⟩ := hdW.fix x hxl
          have hcd := hcd wr (Below.refl _ _)
          obtain ⟨dx, hdx⟩ : ∃ dx, gi (dsR g L2) x = dx := ⟨_, rfl⟩
          rw [hdx] at hcd hds
          have hhas := has_any (n := (x : Int)) hcW (by omega)
          rw [show decide ((x : Int) ∈ rcR g L2) = fb by rw [Bool.eq_iff_iff, decide_eq_true_iff, hin]] at hhas
          obtain ⟨b, off, au, lu, cu, rfl, hcell, hrow⟩ := hgW.fix x hxl
          have hcu := hcell wr (Below.refl _ _)
          have hlu : lu ≤ 400 := by rw [← hrow.length]; exact row_len4 HV.out hxg
          cases fb with
          | true =>
            have hsub := sub_yes True hrow hcW (by omega) (by omega) (iff_true_intro (reach_succ HV.out HK2.out hxg (hin.2 rfl)))
            rw [show yes True = true from yes_iff.2 trivial] at hsub
            have e1 : decide (0 ≤ dx) = true := decide_eq_true (hds.2 rfl)
            clear hin hds hall hdx hdW hlW hcell hrow hgW hcW HFB
            go_wp2_with (first | (go_at_call 14; refine hhas.mono ?_; rintro e w' ⟨rfl, rfl⟩) | (go_at_call 29; refine hsub.mono ?_; rintro e w14 ⟨rfl, hb14⟩))
            go_roundw
            case rel => exact ⟨x + 1, hxl, by go_num, hB.trans (hb14.mono hB.size)⟩
            case measure => simp [intOf]; omega
          | false =>
            have e1 : decide (0 ≤ dx) = false := decide_eq_false (fun h => by have := hds.1 h; cases this)
            clear hin hds hall hdx hdW hlW hcell hrow hgW hcW HFB
            go_wp2_with (go_at_call 14; refine hhas.mono ?_; rintro e w' ⟨rfl, rfl⟩)
            go_roundw
            case rel => exact ⟨x + 1, hxl, by go_num, hB⟩
            case measure => simp [intOf]; omega
    · obtain rfl : x = n10 := by omega
      have t1 : decide ((x : Int) < x) = false := decide_eq_false (by omega)
      have hBF := (HI3.out _ hB).2.2.2.2
      go_wp2
      go_ret
      exact ⟨rfl, hBF⟩
end Go.Proofs.Ytlogmgkjikamaaa
