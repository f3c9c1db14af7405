/-
  awake: the document's example holds.
-/
import Derived.Test.YtlogmgkjikamaaaGraZa
import Derived.Test.YtlogmgkjikamaaaGraAp
import Derived.Test.YtlogmgkjikamaaaGraI
set_option linter.unusedSimpArgs false
set_option linter.unusedVariables false
set_option maxHeartbeats 4000000
namespace Go.Proofs.Ytlogmgkjikamaaa
open Go.RowKit
attribute [local go_sem] Oper.semAt_some

/-- A block of rows, read. -/
theorem rows_lit (W : World) (b n : Nat) (cs : List Value) (T : TypeId) (fz : Nat × Nat) (g : List (List Int)) (hb : W.heap[b]? = some (.cells cs.toArray T fz)) (hn : cs.length = n) (hm : n ≤ maxLen) (hg : g.length = n)
    (hr : ∀ i, i < n → ∃ ai li ci, cs[i]? = some (.slice ai li ci) ∧ IsRow .i64 W ai li ci (gr g i)) : IsRows W (some ⟨b, 0, none⟩) n n g := by
  refine ⟨Nat.le_refl _, hm, hg, fun _ => ⟨b, 0, rfl, fun i hi => ?_⟩⟩
  obtain ⟨ai, li, ci, h1, h2⟩ := hr i hi
  refine ⟨ai, li, ci, ?_, h2⟩
  rw [Nat.zero_add, cell_of_row _ b i _ _ fz hb]
  simpa using h1
theorem lit_old (W : World) (c : Obj) (b : Nat) (x : Obj) (h : W.heap[b]? = some x) : (W.alloc c).heap[b]? = some x := by
  rw [Below.heap_alloc _ _ _ (Array.getElem?_eq_some_iff.1 h).1]; exact h
theorem ints_lit (W : World) (b n : Nat) (zs : List Int) (T : TypeId) (fz : Nat × Nat) (hb : W.heap[b]? = some (.cells (ivs .i64 zs).toArray T fz)) (hn : zs.length = n) (hm : n ≤ maxLen) : IsRow .i64 W (some ⟨b, 0, none⟩) n n zs := by
  refine .inl (.inr ⟨b, 0, rfl, Nat.le_refl _, hm, hn, fun i hi => ?_⟩)
  rw [Nat.zero_add, cell_of_row _ b i _ _ fz hb]
  simp [ivs, getElem?_gi zs i (by omega)]
theorem lit_g0 (w : World) (T U : TypeId) :
    IsRows ((((w.alloc (.cells #[.int .i64 1] T)).alloc (.cells #[.int .i64 2] T)).alloc (.cells #[.int .i64 1, .int .i64 3] T)).alloc (.cells #[.slice (some ⟨w.heap.size, 0, none⟩) 1 1, .slice (some ⟨w.heap.size + 1, 0, none⟩) 1 1, .slice (some ⟨w.heap.size + 1 + 1, 0, none⟩) 2 2, .slice none 0 0] U)) (some ⟨w.heap.size + 1 + 1 + 1, 0, none⟩) 4 4 g0 := by
  have h1 := heap_alloc_new w (.cells #[.int .i64 1] T)
  have h2 := heap_alloc_new (w.alloc (.cells #[.int .i64 1] T)) (.cells #[.int .i64 2] T)
  have h3 := heap_alloc_new ((w.alloc (.cells #[.int .i64 1] T)).alloc (.cells #[.int .i64 2] T)) (.cells #[.int .i64 1, .int .i64 3] T)
  have h4 := heap_alloc_new (((w.alloc (.cells #[.int .i64 1] T)).alloc (.cells #[.int .i64 2] T)).alloc (.cells #[.int .i64 1, .int .i64 3] T)) (.cells #[.slice (some ⟨w.heap.size, 0, none⟩) 1 1, .slice (some ⟨w.heap.size + 1, 0, none⟩) 1 1, .slice (some ⟨w.heap.size + 1 + 1, 0, none⟩) 2 2, .slice none 0 0] U)
  simp only [World.size_alloc] at h2 h3 h4
  refine rows_lit _ _ 4 [_, _, _, _] U (0, 0) g0 h4 rfl (by decide) rfl fun i hi => ?_
  have : i = 0 ∨ i = 1 ∨ i = 2 ∨ i = 3 := by omega
  rcases this with rfl | rfl | rfl | rfl
  · exact ⟨_, _, _, rfl, ints_lit _ _ _ [1] T (0, 0) (lit_old _ _ _ _ (lit_old _ _ _ _ (lit_old _ _ _ _ h1))) rfl (by decide)⟩
  · exact ⟨_, _, _, rfl, ints_lit _ _ _ [2] T (0, 0) (lit_old _ _ _ _ (lit_old _ _ _ _ h2)) rfl (by decide)⟩
  · exact ⟨_, _, _, rfl, ints_lit _ _ _ [1, 3] T (0, 0) (lit_old _ _ _ _ h3) rfl (by decide)⟩
  · exact ⟨_, _, _, rfl, isRow_nil _⟩
theorem lit_c0 (w : World) (T U : TypeId) :
    IsRows ((((w.alloc (.cells #[.int .i64 0] T)).alloc (.cells #[.int .i64 1, .int .i64 2] T)).alloc (.cells #[.int .i64 3] T)).alloc (.cells #[.slice (some ⟨w.heap.size, 0, none⟩) 1 1, .slice (some ⟨w.heap.size + 1, 0, none⟩) 2 2, .slice (some ⟨w.heap.size + 1 + 1, 0, none⟩) 1 1] U)) (some ⟨w.heap.size + 1 + 1 + 1, 0, none⟩) 3 3 [[0], [1, 2], [3]] := by
  have h1 := heap_alloc_new w (.cells #[.int .i64 0] T)
  have h2 := heap_alloc_new (w.alloc (.cells #[.int .i64 0] T)) (.cells #[.int .i64 1, .int .i64 2] T)
  have h3 := heap_alloc_new ((w.alloc (.cells #[.int .i64 0] T)).alloc (.cells #[.int .i64 1, .int .i64 2] T)) (.cells #[.int .i64 3] T)
  have h4 := heap_alloc_new (((w.alloc (.cells #[.int .i64 0] T)).alloc (.cells #[.int .i64 1, .int .i64 2] T)).alloc (.cells #[.int .i64 3] T)) (.cells #[.slice (some ⟨w.heap.size, 0, none⟩) 1 1, .slice (some ⟨w.heap.size + 1, 0, none⟩) 2 2, .slice (some ⟨w.heap.size + 1 + 1, 0, none⟩) 1 1] U)
  simp only [World.size_alloc] at h2 h3 h4
  refine rows_lit _ _ 3 [_, _, _] U (0, 0) _ h4 rfl (by decide) rfl fun i hi => ?_
  have : i = 0 ∨ i = 1 ∨ i = 2 := by omega
  rcases this with rfl | rfl | rfl
  · exact ⟨_, _, _, rfl, ints_lit _ _ _ [0] T (0, 0) (lit_old _ _ _ _ (lit_old _ _ _ _ (lit_old _ _ _ _ h1))) rfl (by decide)⟩
  · exact ⟨_, _, _, rfl, ints_lit _ _ _ [1, 2] T (0, 0) (lit_old _ _ _ _ (lit_old _ _ _ _ h2)) rfl (by decide)⟩
  · exact ⟨_, _, _, rfl, ints_lit _ _ _ [3] T (0, 0) (lit_old _ _ _ _ h3) rfl (by decide)⟩
theorem bkE_g0 : bkE g0 = 0 := by unfold bkE; rw [validGB_yes g0_valid]; rfl
theorem cpR_g0 : cpR g0 = [[0], [1, 2], [3]] := by unfold cpR; rw [validGB_yes g0_valid, if_pos rfl]; exact g0_comps
theorem ckV_g0 : checkV g0 [0] = 0 := checkV_zero.2 ⟨g0_valid, by unfold NodesOk; decide⟩
theorem dsR_g0 (h : DistL g0 [0] (dsR g0 [0])) : dsR g0 [0] = [0, 1, 2, 3] := g0_dist h.1 h.2
theorem orE_g0 (h : OrdAns g0 g0.length (orA g0)) : orE g0 = 6 := by unfold orE; rw [validGB_yes g0_valid, if_pos rfl, g0_order h]

set_option maxRecDepth 20000 in
theorem awake_any (w : World) :
    Calls Try.prog 10 #[] w fun e w' => e = .returned (.bool true) ∧ Below w.heap.size w w' := by
  go_enter Try.func10, Try.ntmps10
  go_wp2_with (fail)
  have HB : Below w.heap.size w _ := ((((Below.refl w.heap.size w).alloc (Nat.le_refl _) (.cells #[.int .i64 1] 3)).alloc (by simp) (.cells #[.int .i64 2] 3)).alloc (by simp; omega) (.cells #[.int .i64 1, .int .i64 3] 3)).alloc (by simp; omega) (.cells #[.slice (some ⟨w.heap.size, 0, none⟩) 1 1, .slice (some ⟨w.heap.size + 1, 0, none⟩) 1 1, .slice (some ⟨w.heap.size + 1 + 1, 0, none⟩) 2 2, .slice none 0 0] 25)
  refine (comps_g (lit_g0 w 3 25)).mono ?_
  rintro e w1 ⟨⟨a1, n1, c1, rfl, i1, l1⟩, hb⟩
  have hg := (lit_g0 w 3 25).later hb
  replace HB := HB.trans (hb.mono HB.size)
  clear hb
  rw [cpR_g0] at i1
  rw [bkE_g0]
  go_wp2_with (fail)
  have hbA : Below w1.heap.size w1 (w1.alloc (.cells #[.int .i64 0] 3)) := (Below.refl _ _).alloc (Nat.le_refl _) _
  refine (dist_l (hg.later hbA) (new_ints .i64 w1 3 [0] 1 rfl (by decide)).row).mono ?_
  rintro e w2 ⟨⟨⟨a2, n2, c2, rfl, i2, l2⟩, HD⟩, hb⟩
  replace hb := hbA.trans (hb.mono hbA.size)
  replace hg := hg.later hb
  replace i1 := i1.later hb
  replace HB := HB.trans (hb.mono HB.size)
  clear hb hbA
  rw [dsR_g0 (HD.out ckV_g0)] at i2
  rw [ckV_g0]
  clear HD
  go_wp2_with (fail)
  refine (order_l hg).mono ?_
  rintro e w3 ⟨⟨⟨a3, n3, c3, rfl, i3, l3⟩, HO⟩, hb⟩
  replace i1 := i1.later hb
  replace i2 := i2.later hb
  replace HB := HB.trans (hb.mono HB.size)
  rw [orE_g0 (HO.out g0_valid)]
  clear hb i3 HO
  go_wp2_with (fail)
  have hbB : Below w3.heap.size w3 _ := ((((Below.refl w3.heap.size w3).alloc (Nat.le_refl _) (.cells #[.int .i64 0] 3)).alloc (by simp) (.cells #[.int .i64 1, .int .i64 2] 3)).alloc (by simp; omega) (.cells #[.int .i64 3] 3)).alloc (by simp; omega) (.cells #[.slice (some ⟨w3.heap.size, 0, none⟩) 1 1, .slice (some ⟨w3.heap.size + 1, 0, none⟩) 2 2, .slice (some ⟨w3.heap.size + 1 + 1, 0, none⟩) 1 1] 25)
  refine (refSameG_any (i1.later hbB) (lit_c0 w3 3 25) (fun i hi => ?_) (by omega)).mono ?_
  · have h3 := i1.length
    have : i = 0 ∨ i = 1 ∨ i = 2 := by simp at h3; omega
    rcases this with rfl | rfl | rfl <;> decide
  rintro e w4 ⟨rfl, hb⟩
  replace hb := hbB.trans (hb.mono hbB.size)
  replace i2 := i2.later hb
  replace HB := HB.trans (hb.mono HB.size)
  clear hb hbB
  go_wp2_with (fail)
  have hbC : Below w4.heap.size w4 (w4.alloc (.cells #[.int .i64 0, .int .i64 1, .int .i64 2, .int .i64 3] 3)) := (Below.refl _ _).alloc (Nat.le_refl _) _
  refine (same_any _ _ _ _ _ _ _ _ _ (i2.later hbC) (new_ints .i64 w4 3 [0, 1, 2, 3] 4 rfl (by decide)).row (by omega)).mono ?_
  rintro e w5 ⟨rfl, hb⟩
  replace hb := hbC.trans (hb.mono hbC.size)
  replace HB := HB.trans (hb.mono HB.size)
  go_wp2
  go_ret
  exact ⟨rfl, HB⟩
end Go.Proofs.Ytlogmgkjikamaaa
