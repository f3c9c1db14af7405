/-
  OrderFewer: the walk.
-/
import Derived.Test.YtofnbndpoiohhaaDoorOrdZr
import Derived.Test.YtofnbndpoiohhaaDoorOrdK
import Derived.Test.YtofnbndpoiohhaaDoorBld
import Derived.OpenShut
set_option linter.unusedSimpArgs false
set_option linter.unusedVariables false
set_option maxHeartbeats 2000000
namespace Go.Proofs.YtofnbndpoiohhaaDoor
open Go.RowKit Go.Shelf Go.ChangeShapes
attribute [local go_sem] Oper.semAt_some

theorem BlkAt.kept {W W' : World} {B b : Nat} {cs : Array Value} (h : BlkAt W b cs) (hb : Below B W W') (hB : b < B) : BlkAt W' b cs := by
  obtain ⟨T, h⟩ := h
  exact ⟨T, by rw [hb.block b hB]; exact h⟩
/-- Three structs that came in by value, each in a block of its own. -/
theorem box3 (w : World) (A B C : Array Value) (e1 e2 e3 : TypeId) (W0 : World) (h : ((w.alloc (.cells A e1)).alloc (.cells B e2)).alloc (.cells C e3) = W0) :
    W0.heap.size = w.heap.size + 3 ∧ Below w.heap.size w W0 ∧ ∀ W, Below W0.heap.size W0 W → BlkAt W w.heap.size A ∧ BlkAt W (w.heap.size + 1) B ∧ BlkAt W (w.heap.size + 2) C := by
  subst h
  have a1 := BlkAt.new w A e1
  have b1 := BlkAt.new (w.alloc (.cells A e1)) B e2
  have c1 := BlkAt.new ((w.alloc (.cells A e1)).alloc (.cells B e2)) C e3
  have s1 : (w.alloc (.cells A e1)).heap.size = w.heap.size + 1 := by simp
  have s2 : ((w.alloc (.cells A e1)).alloc (.cells B e2)).heap.size = w.heap.size + 2 := by simp
  have s3 : (((w.alloc (.cells A e1)).alloc (.cells B e2)).alloc (.cells C e3)).heap.size = w.heap.size + 3 := by simp
  have l1 : Below w.heap.size w (w.alloc (.cells A e1)) := (Below.refl _ _).alloc (Nat.le_refl _) _
  have l2 : Below (w.heap.size + 1) (w.alloc (.cells A e1)) ((w.alloc (.cells A e1)).alloc (.cells B e2)) := (Below.refl _ _).alloc (by omega) _
  have l3 : Below (w.heap.size + 2) ((w.alloc (.cells A e1)).alloc (.cells B e2)) (((w.alloc (.cells A e1)).alloc (.cells B e2)).alloc (.cells C e3)) := (Below.refl _ _).alloc (by omega) _
  rw [s1] at b1
  rw [s2] at c1
  have b2 := b1.kept l3 (by omega)
  have a3 := (a1.kept l2 (by omega)).kept l3 (by omega)
  rw [s3]
  exact ⟨rfl, l1.trans ((l2.trans (l3.mono (by omega))).mono (by omega)), fun W hW => ⟨a3.kept hW (by omega), b2.kept hW (by omega), c1.kept hW (by omega)⟩⟩

theorem pairs_src {W : World} {a : Option Addr} {len cap : Nat} {es : List (Int × Int)} (h : IsPairs W a len cap es) :
    (pvs es).length = len * 2 ∧ (∀ ad, a = some ad → ∀ j u, (pvs es)[j]? = some u → W.cell? (ad.add j) = some u) ∧ (a = none → len = 0 ∧ cap = 0) := by
  rcases h with ⟨rfl, rfl, rfl, rfl⟩ | ⟨b, off, rfl, _, _, hz, hc⟩
  · exact ⟨rfl, (fun _ h => (by cases h)), fun _ => ⟨rfl, rfl⟩⟩
  · refine ⟨by rw [pvs_length, hz], fun ad e j u hj => ?_, fun h => (by cases h)⟩
    cases e
    have hl : j < len * 2 := by
      have := (List.getElem?_eq_some_iff.1 hj).1
      rw [pvs_length, hz] at this
      exact this
    obtain ⟨i, hi⟩ : ∃ i, j = i * 2 ∨ j = i * 2 + 1 := ⟨j / 2, by omega⟩
    have hil : i < es.length := by omega
    obtain ⟨p0, p1⟩ := pvs_get es i hil
    rw [addr_add]
    rcases hi with rfl | rfl
    · rw [p0] at hj
      rw [← hj]; exact (hc i (by omega)).1
    · rw [p1] at hj
      rw [← hj, ← Nat.add_assoc]; exact (hc i (by omega)).2

theorem kl_exists {N : Nat} {es : List (Int × Int)} (hv : ValidO N es) : ∀ k, k ≤ N → ∃ ls, KL (Ed es) N ls ∧ ls.length = k
  | 0, _ => ⟨[], .nil, rfl⟩
  | k + 1, hk => by
    obtain ⟨ls, h1, h2⟩ := kl_exists hv k (by omega)
    have hnext := h1.topo.next (by omega) (hv.2.2.1.ed) hv.2.2.2
    have least : ∀ m, (∃ i, i ≤ m ∧ i < N ∧ i ∉ ls ∧ ∀ a, Ed es a i → a ∈ ls) → ∃ i, (i < N ∧ i ∉ ls ∧ ∀ a, Ed es a i → a ∈ ls) ∧ ∀ j, j < i → j ∉ ls → ∃ a, Ed es a j ∧ a ∉ ls := by
      intro m
      induction m with
      | zero =>
        rintro ⟨i, hi, h3⟩
        obtain rfl : i = 0 := by omega
        exact ⟨0, h3, fun j hj => absurd hj (Nat.not_lt_zero _)⟩
      | succ m ih =>
        rintro ⟨i, hi, h3⟩
        by_cases hlow : ∃ i, i ≤ m ∧ i < N ∧ i ∉ ls ∧ ∀ a, Ed es a i → a ∈ ls
        · exact ih hlow
        · refine ⟨i, h3, fun j hj hjn => Classical.byContradiction fun hc => hlow ⟨j, by omega, by omega, hjn, fun a e => Classical.byContradiction fun ha => hc ⟨a, e, ha⟩⟩⟩
    obtain ⟨i, hi⟩ := hnext
    obtain ⟨x, hx, hl⟩ := least i ⟨i, Nat.le_refl _, hi⟩
    exact ⟨ls ++ [x], h1.snoc hx.2.1 hx.1 hx.2.2 hl, by rw [List.length_append, h2]; rfl⟩

theorem ExtRes.valid {N : Nat} {es : List (Int × Int)} {v c : Int} (hv : ValidO N es) (h : ExtRes N 1000 es v c) : v = (min 1000 (cntE es N N []) : Nat) ∧ c = 0 := by
  rcases h with ⟨h1, _⟩ | ⟨_, h2, _⟩ | ⟨_, _, _, h3, h4⟩
  · exact absurd hv h1
  · omega
  · rw [Int.toNat_natCast] at h3; exact ⟨h3, h4⟩
theorem HtRes.valid {N : Nat} {es : List (Int × Int)} {m c : Int} (hv : ValidO N es) (h : HtRes N es m c) : (∃ k : Nat, m = k ∧ IsHeight N es k) ∧ c = 0 := by
  rcases h with ⟨h1, _⟩ | ⟨_, h2, h3⟩
  · exact absurd hv h1
  · rw [Int.toNat_natCast] at h2; exact ⟨h2, h3⟩
/-- What the law asks of the count and the height. -/
theorem fewer_eq {N k : Nat} {es : List (Int × Int)} (hv : ValidO N es) (hk : IsHeight N es k) : 1 ≤ min 1000 (cntE es N N []) ∧ k ≤ N ∧ (((min 1000 (cntE es N N []) : Nat) : Int) == 1) = ((k : Int) == (N : Int)) := by
  have hle := height_le hk
  obtain ⟨ls, h1, h2⟩ := kl_exists hv N (Nat.le_refl _)
  have hp := cnt_pos h1 h2
  refine ⟨by omega, hle, ?_⟩
  rw [Bool.eq_iff_iff, beq_iff_eq, beq_iff_eq]
  rcases Nat.eq_zero_or_pos N with h0 | h0
  · subst h0
    have : cntE es 0 0 [] = 1 := rfl
    rw [this]
    constructor
    · intro _; omega
    · intro _; rfl
  · have := one_iff_height hv hk h0
    constructor
    · intro h; have := this.1 (by omega); omega
    · intro h; have := this.2 (by omega); omega
theorem fewer_more {N : Nat} {es : List (Int × Int)} {e : Int × Int} (hv : ValidO N (es ++ [e])) : 1 ≤ min 1000 (cntE (es ++ [e]) N N []) ∧ min 1000 (cntE (es ++ [e]) N N []) ≤ min 1000 (cntE es N N []) := by
  obtain ⟨ls, h1, h2⟩ := kl_exists hv N (Nat.le_refl _)
  have hp := cnt_pos h1 h2
  have := cntE_mono (N := N) (es := es) (es' := es ++ [e]) (fun a b p => path_mono (fun x hx => List.mem_append_left _ hx) p) N []
  omega

theorem orderFewer_walk (n : Int) (a : Option Addr) (len cap : Nat) (es : List (Int × Int)) (x y : Int) (w : World) (he : IsPairs w a len cap es) (hn : (Lit.int .i64 n).wf = true) (hx : (Lit.int .i64 x).wf = true) (hy : (Lit.int .i64 y).wf = true) (hT : TabAt 0 Lib.deBruijn64tab w) :
    Calls Tryd.prog 8 #[.agg #[.int .i64 n, .slice a len cap], .agg #[.int .i64 x, .int .i64 y]] w fun e w' => e = .returned (.bool true) ∧ Below w.heap.size w w' := by
  clear hn hx hy
  obtain ⟨W2, hW2⟩ : ∃ W2, ((w.alloc (.cells #[.int .i64 n, .slice a len cap] 24)).alloc (.cells #[.int .i64 x, .int .i64 y] 39)).alloc (.cells #[.int .i64 n, .slice a len cap] 27) = W2 := ⟨_, rfl⟩
  obtain ⟨hs2, hb2, hRO⟩ := box3 w _ _ _ _ _ _ W2 hW2
  have he2 := he.later hb2
  have hT2 := tab_later hT hb2
  have hcap : len ≤ maxLen := by
    rcases he with ⟨_, h, _⟩ | ⟨_, _, _, h, h', _⟩
    · rw [h]; decide
    · omega
  unfold maxLen at hcap
  have HW := Lib.hid hW2
  have HRO : Hid (∀ W, Below W2.heap.size W2 W → (W.cell? ⟨w.heap.size, 0, none⟩ = some (.int .i64 n) ∧ W.cell? ⟨w.heap.size, 1, none⟩ = some (.slice a len cap)) ∧ (W.cell? ⟨w.heap.size + 1, 0, none⟩ = some (.int .i64 x) ∧ W.cell? ⟨w.heap.size + 1, 1, none⟩ = some (.int .i64 y)) ∧ W.cell? ⟨w.heap.size + 2, 0, none⟩ = some (.int .i64 n) ∧ W.cell? ⟨w.heap.size + 2, 1, none⟩ = some (.slice a len cap)) := Lib.hid (fun W h => by
    obtain ⟨h1, h2, h3⟩ := hRO W h
    exact ⟨⟨(h1.cell 0).1, (h1.cell 1).1⟩, ⟨(h2.cell 0).1, (h2.cell 1).1⟩, (h3.cell 0).1, (h3.cell 1).1⟩)
  obtain ⟨⟨r0, r1⟩, ⟨x0, x1⟩, o0, o1⟩ := HRO.out _ (Below.refl _ _)
  clear hW2 hRO
  go_enter Tryd.func8, Tryd.ntmps8
  go_wp2_with (fail)
  rw [HW.out]
  go_at_call 11
  refine (awake_any _ hT2).mono ?_
  rintro e w3 ⟨rfl, hb3⟩
  clear r0 r1 x0 x1 o0 o1
  obtain ⟨⟨r0, r1⟩, ⟨x0, x1⟩, o0, o1⟩ := HRO.out _ hb3
  go_wp2_with (fail)
  go_at_call 12
  refine (few_any n a len cap w3 (by omega)).mono ?_
  rintro e w4 ⟨rfl, hb4⟩
  have hb24 := hb3.trans (hb4.mono hb3.size)
  have hT4 := tab_later hT2 hb24
  have hb04 := hb2.trans (hb24.mono hb2.size)
  clear r0 r1 x0 x1 o0 o1
  obtain ⟨⟨r0, r1⟩, ⟨x0, x1⟩, o0, o1⟩ := HRO.out _ hb24
  cases hf : decide (n ≤ 12 ∧ len ≤ 80) with
  | false =>
    go_wp2_with (fail)
    go_at_call 11
    refine (awake_any _ hT4).mono ?_
    rintro e w9 ⟨rfl, hb9⟩
    go_wp2
    go_ret
    exact ⟨rfl, hb04.trans (hb9.mono hb04.size)⟩
  | true =>
  have hf' := of_decide_eq_true hf
  clear hf
  by_cases h7 : 7 < n
  · have d7 : decide (7 < n) = true := decide_eq_true h7
    go_wp2_with (fail)
    go_at_call 11
    refine (awake_any _ hT4).mono ?_
    rintro e w9 ⟨rfl, hb9⟩
    go_wp2
    go_ret
    exact ⟨rfl, hb04.trans (hb9.mono hb04.size)⟩
  have d7 : decide (7 < n) = false := decide_eq_false h7
  go_wp2_with (fail)
  go_at_call 13
  refine (valid_any (he2.later hb24) hT4).mono ?_
  rintro e w5 ⟨rfl, hb5⟩
  have hb25 := hb24.trans (hb5.mono hb24.size)
  have hb05 := hb2.trans (hb25.mono hb2.size)
  have hT5 := tab_later hT2 hb25
  clear r0 r1 x0 x1 o0 o1
  obtain ⟨⟨r0, r1⟩, ⟨x0, x1⟩, o0, o1⟩ := HRO.out _ hb25
  by_cases hv : ValidO n es
  rotate_left
  · rw [validB_no hv]
    go_wp2_with (fail)
    go_at_call 11
    refine (awake_any _ hT5).mono ?_
    rintro e w9 ⟨rfl, hb9⟩
    go_wp2
    go_ret
    exact ⟨rfl, hb05.trans (hb9.mono hb05.size)⟩
  rw [validB_yes hv]
  obtain ⟨N, rfl⟩ := Int.eq_ofNat_of_zero_le hv.1.1
  have hN7 : N ≤ 7 := by omega
  have hl80 := hf'.2
  have he5 := he2.later hb25
  have HV := Lib.hid hv
  clear hf' hv h7 d7
  go_wp2_with (fail)
  go_at_call 26
  refine (ext_any 1000 he5 hT5).mono ?_
  rintro e w6 ⟨⟨v, c, rfl, hE⟩, hb6⟩
  obtain ⟨hvv, rfl⟩ := hE.valid HV.out
  replace hvv := Lib.hid hvv
  clear hE
  have hb26 := hb25.trans (hb6.mono hb25.size)
  have hT6 := tab_later hT5 hb6
  clear r0 r1 x0 x1 o0 o1
  obtain ⟨⟨r0, r1⟩, ⟨x0, x1⟩, o0, o1⟩ := HRO.out _ hb26
  go_wp2_with (fail)
  go_at_call 27
  refine (height_any (he5.later hb6) hT6).mono ?_
  rintro e w7 ⟨⟨m, c', rfl, hH⟩, hb7⟩
  obtain ⟨⟨k, rfl, hk⟩, rfl⟩ := hH.valid HV.out
  clear hH
  have hb27 := hb26.trans (hb7.mono hb26.size)
  have hb07 := hb2.trans (hb27.mono hb2.size)
  have hT7 := tab_later hT6 hb7
  have he7 := he2.later hb27
  clear r0 r1 x0 x1 o0 o1
  obtain ⟨⟨r0, r1⟩, ⟨x0, x1⟩, o0, o1⟩ := HRO.out _ hb27
  obtain ⟨f1, f2, f3⟩ := fewer_eq HV.out hk
  obtain ⟨cv, hcv⟩ : ∃ cv, min 1000 (cntE es N N []) = cv := ⟨_, rfl⟩
  replace hvv := hvv.out
  rw [hcv] at hvv f1 f3
  subst hvv
  obtain ⟨t, ht⟩ : ∃ t, ((k : Int) == (N : Int)) = t := ⟨_, rfl⟩
  rw [ht] at f3
  have d1 : decide ((cv : Int) < 1) = false := decide_eq_false (by omega)
  have d2 : decide ((k : Int) < 0) = false := decide_eq_false (by omega)
  have d3 : decide ((N : Int) < (k : Int)) = false := decide_eq_false (by omega)
  have d4 : (t != t) = false := bne_self_eq_false' t
  have HCV := Lib.hid hcv
  have HB7 : Hid (∀ W, Below w7.heap.size w7 W → (W.cell? ⟨w.heap.size, 0, none⟩ = some (.int .i64 (N : Int)) ∧ W.cell? ⟨w.heap.size, 1, none⟩ = some (.slice a len cap)) ∧ (W.cell? ⟨w.heap.size + 1, 0, none⟩ = some (.int .i64 x) ∧ W.cell? ⟨w.heap.size + 1, 1, none⟩ = some (.int .i64 y))) := Lib.hid (fun W h => by
    obtain ⟨h1, h2, -⟩ := HRO.out W (hb27.trans (h.mono hb27.size))
    exact ⟨h1, h2⟩)
  have HE7 : Hid (∀ W, Below w7.heap.size w7 W → IsPairs W a len cap es) := Lib.hid (fun W h => he7.later h)
  have hpe : (pvs es).length = len * 2 := by rw [pvs_length, he.length]
  clear hcv hk HRO hb3 hb24 hb04 hb25 hb05 hb26 he5 hT5 hT6 hT4 he2 hT2 he7 hb27
  go_wp2_with (fail)
  obtain ⟨S, hSd⟩ : ∃ S : (Nat → Bool) → (Nat → Value) → World → Prop, S = fun L f W => Bld w7 39 2 W (if L 8 = true then f 8 else if L 5 = true then f 5 else if L 2 = true then f 2 else undef) (if L 8 = true then len + 1 else if L 5 = true then len else 0) (if L 8 = true then pvs (es ++ [(x, y)]) else if L 5 = true then pvs es else []) (if L 7 = true then f 7 else undef) #[.int .i64 x, .int .i64 y] (if L 10 = true then f 10 else undef) (if L 11 = true then #[.int .i64 (N : Int), f 8] else #[.int .i64 0, .slice none 0 0]) ∧ (L 9 = true → f 9 = .agg #[.int .i64 (N : Int), f 8]) := ⟨_, rfl⟩
  refine wp_region_st mixed (by kernel_rfl) [[], [(0, 76)], [], [], [(3, 79)], [(2, 78), (4, 80)], [], [(6, 82)], [(5, 81), (7, 83), (5, 81)], [(1, 77), (8, 84)], [], [(10, 10), (9, 85), (8, 84), (0, 76), (1, 77), (2, 78), (3, 79), (4, 80), (5, 81), (6, 82), (7, 83), (8, 84), (9, 85), (10, 10)]] [(0, 76), (1, 77), (2, 78), (3, 79), (4, 80), (5, 81), (6, 82), (7, 83), (8, 84), (9, 85), (10, 10)] rfl rfl [EV ?e0, EV ?e1, fun v => ∃ b, v = .slice (some ⟨b, 0, none⟩) 0 0, EV ?e3, EV ?e4, fun v => ∃ a c, v = .slice a len c, EV ?e6, fun v => ∃ b, v = .slice (some ⟨b, 0, none⟩) 1 1, fun v => ∃ a c, v = .slice a (len + 1) c, fun v => ∃ a c, v = .agg #[.int .i64 (N : Int), .slice a (len + 1) c], fun v => ∃ d, v = .pointer (some ⟨d, 0, none⟩), fun _ => True] S ?start ?steps ?rest
  case start =>
    intro f
    rw [hSd]
    exact ⟨Bld.start w7 _ _ _ _, fun h => by cases h⟩
  case steps =>
    refine ⟨fun L f W hi hd hdn hh hS => ?_, fun L f W hi hd hdn hh hS => ?_, fun L f W hi hd hdn hh hS => ?_, fun L f W hi hd hdn hh hS => ?_, fun L f W hi hd hdn hh hS => ?_, fun L f W hi hd hdn hh hS => ?_, fun L f W hi hd hdn hh hS => ?_, fun L f W hi hd hdn hh hS => ?_, fun L f W hi hd hdn hh hS => ?_, fun L f W hi hd hdn hh hS => ?_, fun L f W hi hd hdn hh hS => ?_, fun L f W hi hd hdn hh hS => ?_, trivial⟩
    · -- 0: Op.fieldAddr 24 (Operand.tmp 2) 0
      unfold stStep
      rw [if_pos (by simp [Region.wanted])]
      intro K Q hK
      simp only [puts, List.foldr_nil]
      go_step
      refine st_ex hK rfl rfl (by simp only [Act.put, List.setIfInBounds_toArray, List.set_cons_succ, List.set_cons_zero, Array.getD_eq_getD_getElem?, List.getElem?_toArray, List.getElem?_cons_succ, List.getElem?_cons_zero, Option.getD_some] <;> rfl) rfl (by rw [hSd] at hS ⊢; exact hS)
    · -- 1: Op.load 3 (Operand.tmp 76)
      obtain ⟨h0, -⟩ := hh
      have g0 : f 0 = _ := h0
      unfold stStep
      rw [if_pos (by simp [Region.wanted])]
      intro K Q hK
      simp only [puts, List.foldr_cons, List.foldr_nil, List.setIfInBounds_toArray, List.set_cons_succ, List.set_cons_zero, g0]
      have hS' := hS
      rw [hSd] at hS'
      obtain ⟨⟨r0, r1⟩, x0, x1⟩ := HB7.out W hS'.1.bel
      go_step
      refine st_ex hK rfl rfl (by simp only [Act.put, List.setIfInBounds_toArray, List.set_cons_succ, List.set_cons_zero, Array.getD_eq_getD_getElem?, List.getElem?_toArray, List.getElem?_cons_succ, List.getElem?_cons_zero, Option.getD_some] <;> rfl) rfl (by rw [hSd] at hS ⊢; exact hS)
    · -- 2: Op.buildSlice 22 0 #[]
      have l5 : L 5 = false := Bool.eq_false_iff.2 fun h => by have q := hdn 5 _ h rfl 2 (by decide); rw [show L 2 = false from hi] at q; cases q
      have l8 : L 8 = false := Bool.eq_false_iff.2 fun h => by have q := hdn 8 _ h rfl 5 (by decide); rw [show L 5 = false from l5] at q; cases q
      unfold stStep
      rw [if_pos (by simp [Region.wanted])]
      intro K Q hK
      simp only [puts, List.foldr_nil]
      rw [hSd] at hS hK
      have l2 : L 2 = false := hi
      try simp only [stage, l5, l8, l2, if_true, if_false, Bool.false_eq_true] at hS
      try simp only [l2, l5, l8, if_false, Bool.false_eq_true] at hS
      obtain ⟨hS, h9⟩ := hS
      go_step
      refine hK.out _ _ rfl ⟨_, rfl⟩ ?_
      have q := hS.lit
      simp only [l5, l8, Bool.false_eq_true, ↓reduceIte, Nat.reduceEqDiff]
      exact ⟨q, h9⟩
    · -- 3: Op.fieldAddr 24 (Operand.tmp 2) 1
      unfold stStep
      rw [if_pos (by simp [Region.wanted])]
      intro K Q hK
      simp only [puts, List.foldr_nil]
      go_step
      refine st_ex hK rfl rfl (by simp only [Act.put, List.setIfInBounds_toArray, List.set_cons_succ, List.set_cons_zero, Array.getD_eq_getD_getElem?, List.getElem?_toArray, List.getElem?_cons_succ, List.getElem?_cons_zero, Option.getD_some] <;> rfl) rfl (by rw [hSd] at hS ⊢; exact hS)
    · -- 4: Op.load 22 (Operand.tmp 79)
      obtain ⟨h3, -⟩ := hh
      have g3 : f 3 = _ := h3
      unfold stStep
      rw [if_pos (by simp [Region.wanted])]
      intro K Q hK
      simp only [puts, List.foldr_cons, List.foldr_nil, List.setIfInBounds_toArray, List.set_cons_succ, List.set_cons_zero, g3]
      have hS' := hS
      rw [hSd] at hS'
      obtain ⟨⟨r0, r1⟩, x0, x1⟩ := HB7.out W hS'.1.bel
      go_step
      refine st_ex hK rfl rfl (by simp only [Act.put, List.setIfInBounds_toArray, List.set_cons_succ, List.set_cons_zero, Array.getD_eq_getD_getElem?, List.getElem?_toArray, List.getElem?_cons_succ, List.getElem?_cons_zero, Option.getD_some] <;> rfl) rfl (by rw [hSd] at hS ⊢; exact hS)
    · -- 5: Op.call { callee := Callee.builtin Builtin.append, args := #[Operand.tmp 78, Operand.tmp 8
      obtain ⟨h2, h4, -⟩ := hh
      obtain ⟨b2, (g2 : f 2 = _)⟩ := h2
      have g4 : f 4 = _ := h4
      have l2 : L 2 = true := hd 2 (by decide)
      have l8 : L 8 = false := Bool.eq_false_iff.2 fun h => by have q := hdn 8 _ h rfl 5 (by decide); rw [show L 5 = false from hi] at q; cases q
      unfold stStep
      rw [if_pos (by simp [Region.wanted])]
      intro K Q hK
      simp only [puts, List.foldr_cons, List.foldr_nil, List.setIfInBounds_toArray, List.set_cons_succ, List.set_cons_zero, g2, g4]
      rw [hSd] at hS hK
      have l5 : L 5 = false := hi
      try simp only [stage, l8, l5, l2, if_true, if_false, Bool.false_eq_true] at hS
      simp only [l2, l5, l8, if_false, if_true, Bool.false_eq_true, g2] at hS
      obtain ⟨hS, h9⟩ := hS
      have hown := hS.own.resolve_left (by intro h; cases h)
      refine wp_app_blk elPair (.tmp 78) (.tmp 80) rfl rfl hown rfl (pairs_src (HE7.out W hS.bel)) (pvs_one _) (by omega) hS.bel.size ?_
      intro a' c' w' ho hg hbw hblk
      simp only [Nat.zero_add, List.nil_append] at ho hblk ⊢
      refine hK.out _ _ rfl ⟨a', c', rfl⟩ ?_
      have q := hS.app ho hg hbw hblk
      simp only [l8, Bool.false_eq_true, ↓reduceIte, Nat.reduceEqDiff]
      exact ⟨q, h9⟩
    · -- 6: Op.load 39 (Operand.tmp 3)
      unfold stStep
      rw [if_pos (by simp [Region.wanted])]
      intro K Q hK
      simp only [puts, List.foldr_nil]
      have hS' := hS
      rw [hSd] at hS'
      obtain ⟨⟨r0, r1⟩, x0, x1⟩ := HB7.out W hS'.1.bel
      go_step
      refine st_ex hK rfl rfl (by simp only [Act.put, List.setIfInBounds_toArray, List.set_cons_succ, List.set_cons_zero, Array.getD_eq_getD_getElem?, List.getElem?_toArray, List.getElem?_cons_succ, List.getElem?_cons_zero, Option.getD_some] <;> rfl) rfl (by rw [hSd] at hS ⊢; exact hS)
    · -- 7: Op.buildSlice 22 1 #[(0, Operand.tmp 82)]
      obtain ⟨h6, -⟩ := hh
      have g6 : f 6 = _ := h6
      unfold stStep
      rw [if_pos (by simp [Region.wanted])]
      intro K Q hK
      simp only [puts, List.foldr_cons, List.foldr_nil, List.setIfInBounds_toArray, List.set_cons_succ, List.set_cons_zero, g6]
      rw [hSd] at hS hK
      have l7 : L 7 = false := hi
      try simp only [stage, l7, if_true, if_false, Bool.false_eq_true] at hS
      try simp only [l7, if_false, Bool.false_eq_true] at hS
      obtain ⟨hS, h9⟩ := hS
      go_step
      refine hK.out _ _ rfl ⟨_, rfl⟩ ?_
      have q := hS.elem 39
      simp only [Bool.false_eq_true, ↓reduceIte, Nat.reduceEqDiff]
      exact ⟨q, h9⟩
    · -- 8: Op.call { callee := Callee.builtin Builtin.append, args := #[Operand.tmp 81, Operand.tmp 8
      obtain ⟨h5, h7, _, -⟩ := hh
      obtain ⟨a5, c5, (g5 : f 5 = _)⟩ := h5
      obtain ⟨b7, (g7 : f 7 = _)⟩ := h7
      have l5 : L 5 = true := hd 5 (by decide)
      have l7 : L 7 = true := hd 7 (by decide)
      have l11 : L 11 = false := Bool.eq_false_iff.2 fun h => by have q := hdn 11 _ h rfl 8 (by decide); rw [show L 8 = false from hi] at q; cases q
      have l9 : L 9 = false := Bool.eq_false_iff.2 fun h => by have q := hdn 9 _ h rfl 8 (by decide); rw [show L 8 = false from hi] at q; cases q
      unfold stStep
      rw [if_pos (by simp [Region.wanted])]
      intro K Q hK
      simp only [puts, List.foldr_cons, List.foldr_nil, List.setIfInBounds_toArray, List.set_cons_succ, List.set_cons_zero, g5, g7]
      rw [hSd] at hS hK
      have l8 : L 8 = false := hi
      try simp only [stage, l11, l9, l8, l5, l7, if_true, if_false, Bool.false_eq_true] at hS
      simp only [l5, l7, l8, l11, if_false, if_true, Bool.false_eq_true, g5, g7] at hS
      obtain ⟨hS, h9⟩ := hS
      have hown := hS.own.resolve_left (by intro h; cases h)
      obtain ⟨hp, -⟩ := hS.pair _ rfl
      refine wp_app_blk elPair (.tmp 81) (.tmp 83) rfl rfl hown rfl (news := pvs [(x, y)]) ⟨rfl, fun ad e j u hj => by injection e with e; subst e; rw [addr_add, Nat.zero_add, (hp.cell j).1, ← hj]; simp [pvs], fun e => by cases e⟩ (pvs_one _) (by omega) hS.bel.size ?_
      intro a' c' w' ho hg hbw hblk
      rw [← pvs_append] at ho
      refine hK.out _ _ rfl ⟨a', c', rfl⟩ ?_
      have q := hS.app ho hg hbw hblk
      simp only [l7, l11, Bool.false_eq_true, ↓reduceIte, Nat.reduceEqDiff, g7]
      exact ⟨q, fun h => by rw [l9] at h; cases h⟩
    · -- 9: Op.build 27 #[(0, Operand.tmp 77), (1, Operand.tmp 84)]
      obtain ⟨h1, h8, -⟩ := hh
      have g1 : f 1 = _ := h1
      obtain ⟨a8, c8, (g8 : f 8 = _)⟩ := h8
      have l8 : L 8 = true := hd 8 (by decide)
      unfold stStep
      rw [if_pos (by simp [Region.wanted])]
      intro K Q hK
      simp only [puts, List.foldr_cons, List.foldr_nil, List.setIfInBounds_toArray, List.set_cons_succ, List.set_cons_zero, g1, g8]
      rw [hSd] at hS hK
      have l9 : L 9 = false := hi
      try simp only [stage, l9, l8, if_true, if_false, Bool.false_eq_true] at hS
      obtain ⟨hS, -⟩ := hS
      go_step
      refine hK.out _ _ rfl ⟨_, _, rfl⟩ ?_
      simp only [l8, ↓reduceIte, Nat.reduceEqDiff]
      exact ⟨hS, fun _ => by rw [g8]; rfl⟩
    · -- 10: Op.alloc 27
      have l11 : L 11 = false := Bool.eq_false_iff.2 fun h => by have q := hdn 11 _ h rfl 10 (by decide); rw [show L 10 = false from hi] at q; cases q
      unfold stStep
      rw [if_pos (by simp [Region.wanted])]
      intro K Q hK
      simp only [puts, List.foldr_nil]
      rw [hSd] at hS hK
      have l10 : L 10 = false := hi
      try simp only [stage, l11, l10, if_true, if_false, Bool.false_eq_true] at hS
      try simp only [l10, l11, if_false, Bool.false_eq_true] at hS
      obtain ⟨hS, h9⟩ := hS
      go_step
      refine hK.out _ _ rfl ⟨_, rfl⟩ ?_
      have q := hS.newbox 27
      simp only [l11, Bool.false_eq_true, ↓reduceIte, Nat.reduceEqDiff]
      exact ⟨q, h9⟩
    · -- 11: Op.store 27 (Operand.tmp 10) (Operand.tmp 85)
      obtain ⟨h10, h9, h8, h0, h1, h2, h3, h4, h5, h6, h7, _, _, _, -⟩ := hh
      obtain ⟨d10, (g10 : f 10 = _)⟩ := h10
      obtain ⟨a9, c9, (g9 : f 9 = _)⟩ := h9
      obtain ⟨a8, c8, (g8 : f 8 = _)⟩ := h8
      have g0 : f 0 = _ := h0
      have g1 : f 1 = _ := h1
      obtain ⟨b2, (g2 : f 2 = _)⟩ := h2
      have g3 : f 3 = _ := h3
      have g4 : f 4 = _ := h4
      obtain ⟨a5, c5, (g5 : f 5 = _)⟩ := h5
      have g6 : f 6 = _ := h6
      obtain ⟨b7, (g7 : f 7 = _)⟩ := h7
      have l8 : L 8 = true := hd 8 (by decide)
      have l9 : L 9 = true := hd 9 (by decide)
      have l10 : L 10 = true := hd 10 (by decide)
      unfold stStep
      rw [if_pos (by simp [Region.wanted])]
      intro K Q hK
      simp only [puts, List.foldr_cons, List.foldr_nil, List.setIfInBounds_toArray, List.set_cons_succ, List.set_cons_zero, g10, g9, g8, g0, g1, g2, g3, g4, g5, g6, g7]
      rw [hSd] at hS hK
      have l11 : L 11 = false := hi
      try simp only [stage, l11, l8, l9, l10, if_true, if_false, Bool.false_eq_true] at hS
      simp only [l8, l10, l11, if_false, if_true, Bool.false_eq_true, g8, g10] at hS
      obtain ⟨hS, h9⟩ := hS
      have e := h9 trivial
      rw [g9] at e
      obtain ⟨rfl, rfl⟩ : a8 = a9 ∧ c8 = c9 := by simpa using e.symm
      obtain ⟨-, hbx, -, -⟩ := hS.box _ rfl
      obtain ⟨q0, f0⟩ := hbx.cell 0
      obtain ⟨q1, f1⟩ := hbx.cell 1
      have q0 : W.cell? _ = some (.int .i64 0) := q0
      have q1 : W.cell? _ = some (.slice none 0 0) := q1
      go_step
      refine hK.out _ _ rfl trivial ?_
      have q := hS.fill (.int .i64 (N : Int)) (.slice a8 (len + 1) c8)
      simp only [l8, l10, ↓reduceIte, Nat.reduceEqDiff, g8, g10]
      exact ⟨q, fun _ => by rw [g9]⟩
  case rest =>
    intro L f W8 hL hh hS
    rw [hSd] at hS
    clear hSd
    have l2 : L 2 = true := hL 2 (by decide)
    have l5 : L 5 = true := hL 5 (by decide)
    have l7 : L 7 = true := hL 7 (by decide)
    have l8 : L 8 = true := hL 8 (by decide)
    have l10 : L 10 = true := hL 10 (by decide)
    have l11 : L 11 = true := hL 11 (by decide)
    simp only [stage, l2, l5, l7, l8, l10, l11, if_true] at hS
    clear hL l2 l5 l7 l8 l10 l11
    obtain ⟨h0, h1, h2, h3, h4, h5, h6, h7, h8, h9, h10, -⟩ := hh
    have g0 : f 0 = _ := h0
    have g1 : f 1 = _ := h1
    obtain ⟨b2, (g2 : f 2 = _)⟩ := h2
    have g3 : f 3 = _ := h3
    have g4 : f 4 = _ := h4
    obtain ⟨a5, c5, (g5 : f 5 = _)⟩ := h5
    have g6 : f 6 = _ := h6
    obtain ⟨b7, (g7 : f 7 = _)⟩ := h7
    obtain ⟨a8, c8, (g8 : f 8 = _)⟩ := h8
    obtain ⟨a9, c9, (g9 : f 9 = _)⟩ := h9
    obtain ⟨d10, (g10 : f 10 = _)⟩ := h10
    simp only [puts, List.foldr_cons, List.foldr_nil, List.setIfInBounds_toArray, List.set_cons_succ, List.set_cons_zero, g0, g1, g2, g3, g4, g5, g6, g7, g8, g9, g10]
    clear h0 h1 h3 h4 h6 g0 g1 g3 g4 g6
    simp only [g8, g10] at hS
    obtain ⟨hS, -⟩ := hS
    obtain ⟨-, hbx, -, -⟩ := hS.box _ rfl
    have q0 : W8.cell? ⟨d10, 0, none⟩ = some (.int .i64 (N : Int)) := (hbx.cell 0).1
    have q1 : W8.cell? ⟨d10, 1, none⟩ = some (.slice a8 (len + 1) c8) := (hbx.cell 1).1
    have hown := hS.own.resolve_left (by intro h; cases h)
    have hl : (es ++ [(x, y)]).length = len + 1 := by rw [List.length_append, (HE7.out w7 (Below.refl _ _)).length]; rfl
    rw [← hl] at hown
    obtain ⟨hI, -⟩ := IsPairs.of_owns (ps := es ++ [(x, y)]) hown
    rw [hl] at hI
    have hb78 := hS.bel
    clear hS hbx hown hl
    go_wp2_with (fail)
    go_at_call 26
    refine (ext_any 1000 hI (tab_later hT7 hb78)).mono ?_
    rintro e w9 ⟨⟨v', c', rfl, hE'⟩, hb9⟩
    have hb09 := hb07.trans ((hb78.trans (hb9.mono hb78.size)).mono hb07.size)
    rcases hE' with ⟨h1, rfl, rfl⟩ | ⟨_, h2, _⟩ | ⟨h1, _, _, h3, rfl⟩
    · go_wp2
      go_ret
      exact ⟨rfl, hb09⟩
    · omega
    · rw [Int.toNat_natCast] at h3
      obtain ⟨g1, g2⟩ := fewer_more h1
      rw [HCV.out] at g2
      obtain ⟨cw, hcw⟩ : ∃ cw, min 1000 (cntE (es ++ [(x, y)]) N N []) = cw := ⟨_, rfl⟩
      rw [show (1000 : Int).toNat = 1000 from rfl, hcw] at h3
      rw [hcw] at g1 g2
      subst h3
      have d5 : decide ((cw : Int) ≤ cv) = true := decide_eq_true (by omega)
      have d6 : decide (1 ≤ (cw : Int)) = true := decide_eq_true (by omega)
      clear h1 hcw
      go_wp2
      go_ret
      exact ⟨rfl, hb09⟩
end Go.Proofs.YtofnbndpoiohhaaDoor
