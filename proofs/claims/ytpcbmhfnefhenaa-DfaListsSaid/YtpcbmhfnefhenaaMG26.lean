import Derived.Shelf.SlSortCmp.WholeK
import Derived.Test.YtpcbmhfnefhenaaMG2
import Derived.Test.YtpcbmhfnefhenaaMG4
import Derived.Test.YtpcbmhfnefhenaaMG13
/-
  DfaSo, Srt
-/
set_option linter.unusedSimpArgs false
set_option linter.unusedVariables false
namespace Go.Proofs.Ytpcbmhfnefhenaa
open List (foldr_cons foldr_nil setIfInBounds_toArray set_cons_succ set_cons_zero)
open Go.RowKit

set_option maxRecDepth 20000 in
theorem order_grew (x y : A3) (w : World) : Calls Try.prog 47 #[vA x, vA y] w fun e w' => e = .returned (.int .i64 (ordA x y)) ∧ Below w.heap.size w w' ∧ w.drawn ≤ w'.drawn := by
 obtain ⟨x1, x2, x3⟩ := x
 obtain ⟨y1, y2, y3⟩ := y
 obtain ⟨hb1, hs1, hX⟩ := boxA ⟨x1, x2, x3⟩ w
 obtain ⟨W1, hW1⟩ : ∃ W1, w.alloc (.cells #[.int .i64 x1, .int .i64 x2, .int .i64 x3] 63) = W1 := ⟨_, rfl⟩
 simp only at hb1 hs1 hX
 have hd1 : W1.drawn = w.drawn := by rw [← hW1]; rfl
 rw [hW1] at hb1 hs1 hX
 obtain ⟨hb2, hs2, hY⟩ := boxA ⟨y1, y2, y3⟩ W1
 obtain ⟨W2, hW2⟩ : ∃ W2, W1.alloc (.cells #[.int .i64 y1, .int .i64 y2, .int .i64 y3] 63) = W2 := ⟨_, rfl⟩
 simp only at hb2 hs2 hY
 have hd2 : W2.drawn = w.drawn := by rw [← hW2, ← hd1]; rfl
 rw [hW2] at hb2 hs2 hY
 have hB : Below w.heap.size w W2 := hb1.trans (hb2.mono (by omega))
 have hXc : ∀ W, Below W2.heap.size W2 W → (W.cell? ⟨w.heap.size, 0, none⟩ = some (.int .i64 x1) ∧ W.cell? ⟨w.heap.size, 1, none⟩ = some (.int .i64 x2)) ∧ W.cell? ⟨w.heap.size + 1, 0, none⟩ = some (.int .i64 y1) ∧ W.cell? ⟨w.heap.size + 1, 1, none⟩ = some (.int .i64 y2) := fun W hb => by
  have h1 := hX W ((hb2.mono (by omega)).trans (hb.mono (by omega)))
  have h2 := hY W (hb.mono (by omega))
  rw [hs1] at h2
  exact ⟨⟨h1.1, h1.2.1⟩, h2.1, h2.2.1⟩
 have HD2 := Lib.hid hd2
 unfold vA
 go_enter Try.func47, Try.ntmps47
 go_wp2_with (fail)
 clear hW1 hW2 hX hY hb1 hb2 hd1 hd2
 obtain ⟨S, hSd⟩ : ∃ S : (Nat → Bool) → (Nat → Value) → World → Prop, S = fun L f W => Below W2.heap.size W2 W ∧ W2.drawn ≤ W.drawn ∧ (L 10 = true → L 11 = false → ∃ b c, f 10 = .slice (some ⟨b, 0, none⟩) 2 c ∧ W.cell? ⟨b, 0, none⟩ = some (.int .i64 (Lib.compareInt x1 y1)) ∧ W.cell? ⟨b, 0 + 1, none⟩ = some (.int .i64 (Lib.compareInt x2 y2))) := ⟨_, rfl⟩
 refine wp_region_st mixed (by kernel_rfl) [[], [(0, 5)], [], [(2, 7)], [(1, 6), (3, 8)], [], [(5, 10)], [], [(7, 12)], [(6, 11), (8, 13), (4, 9)], [(4, 9), (9, 14)], [(10, 15), (9, 14)], [(11, 16), (11, 16), (0, 5), (1, 6), (2, 7), (3, 8), (4, 9), (5, 10), (6, 11), (7, 12), (8, 13), (9, 14), (10, 15), (11, 16)]] [(0, 5), (1, 6), (2, 7), (3, 8), (4, 9), (5, 10), (6, 11), (7, 12), (8, 13), (9, 14), (10, 15), (11, 16), (12, 4)] rfl rfl [EV ?e0, EV ?e1, EV ?e2, EV ?e3, EV (.int .i64 (Lib.compareInt x1 y1)), EV ?e5, EV ?e6, EV ?e7, EV ?e8, EV (.int .i64 (Lib.compareInt x2 y2)), fun v => ∃ b c, v = .slice (some ⟨b, 0, none⟩) 2 c, EV (.int .i64 (orI (Lib.compareInt x1 y1) (Lib.compareInt x2 y2))), EV ?e12] S ?start ?steps ?rest
 case start =>
  intro f
  rw [hSd]
  exact ⟨(Below.refl _ _).drew, Nat.le_succ _, fun h => (by cases h)⟩
 case steps =>
  refine ⟨fun L f W hi hd hdn hh hS => ?_, fun L f W hi hd hdn hh hS => ?_, fun L f W hi hd hdn hh hS => ?_, fun L f W hi hd hdn hh hS => ?_, fun L f W hi hd hdn hh hS => ?_, fun L f W hi hd hdn hh hS => ?_, fun L f W hi hd hdn hh hS => ?_, fun L f W hi hd hdn hh hS => ?_, fun L f W hi hd hdn hh hS => ?_, fun L f W hi hd hdn hh hS => ?_, fun L f W hi hd hdn hh hS => ?_, fun L f W hi hd hdn hh hS => ?_, fun L f W hi hd hdn hh hS => ?_, trivial⟩
  ·
   unfold stStep
   rw [if_pos (by simp [Region.wanted])]
   intro K Q hK
   simp only [puts, foldr_nil]
   go_step
   refine st_ex hK rfl rfl (by simp only [Act.put, setIfInBounds_toArray, set_cons_succ, set_cons_zero, Array.getD_eq_getD_getElem?, List.getElem?_toArray, List.getElem?_cons_succ, List.getElem?_cons_zero, Option.getD_some] <;> rfl) rfl (by rw [hSd] at hS ⊢; exact hS)
  ·
   obtain ⟨h0, -⟩ := hh
   have g0 : f 0 = _ := h0
   unfold stStep
   rw [if_pos (by simp [Region.wanted])]
   intro K Q hK
   simp only [puts, Za, Zb, Zc, Zd, Ze, g0]
   have hS' := hS
   rw [hSd] at hS'
   obtain ⟨⟨cx1, cx2⟩, cy1, cy2⟩ := hXc W hS'.1
   go_step
   refine st_ex hK rfl rfl (by simp only [Act.put, setIfInBounds_toArray, set_cons_succ, set_cons_zero, Array.getD_eq_getD_getElem?, List.getElem?_toArray, List.getElem?_cons_succ, List.getElem?_cons_zero, Option.getD_some] <;> rfl) rfl (by rw [hSd] at hS ⊢; exact hS)
  ·
   unfold stStep
   rw [if_pos (by simp [Region.wanted])]
   intro K Q hK
   simp only [puts, foldr_nil]
   go_step
   refine st_ex hK rfl rfl (by simp only [Act.put, setIfInBounds_toArray, set_cons_succ, set_cons_zero, Array.getD_eq_getD_getElem?, List.getElem?_toArray, List.getElem?_cons_succ, List.getElem?_cons_zero, Option.getD_some] <;> rfl) rfl (by rw [hSd] at hS ⊢; exact hS)
  ·
   obtain ⟨h2, -⟩ := hh
   have g2 : f 2 = _ := h2
   unfold stStep
   rw [if_pos (by simp [Region.wanted])]
   intro K Q hK
   simp only [puts, Za, Zb, Zc, Zd, Ze, g2]
   have hS' := hS
   rw [hSd] at hS'
   obtain ⟨⟨cx1, cx2⟩, cy1, cy2⟩ := hXc W hS'.1
   go_step
   refine st_ex hK rfl rfl (by simp only [Act.put, setIfInBounds_toArray, set_cons_succ, set_cons_zero, Array.getD_eq_getD_getElem?, List.getElem?_toArray, List.getElem?_cons_succ, List.getElem?_cons_zero, Option.getD_some] <;> rfl) rfl (by rw [hSd] at hS ⊢; exact hS)
  ·
   obtain ⟨h1, h3, -⟩ := hh
   have g1 : f 1 = _ := h1
   have g3 : f 3 = _ := h3
   unfold stStep
   rw [if_pos (by simp [Region.wanted])]
   intro K Q hK
   simp only [puts, Za, Zb, Zc, Zd, Ze, g1, g3]
   rw [hSd] at hS hK
   have l4 : L 4 = false := hi
   try simp only [stage, l4, if_true, if_false, Bool.false_eq_true] at hS
   go_step
   go_at_call 74
   refine (Try.cmp_Compare_int x1 y1 W).mono ?_
   rintro e w' ⟨rfl, rfl⟩
   refine hK.out _ _ rfl rfl ?_
   simpa using hS
  ·
   unfold stStep
   rw [if_pos (by simp [Region.wanted])]
   intro K Q hK
   simp only [puts, foldr_nil]
   go_step
   refine st_ex hK rfl rfl (by simp only [Act.put, setIfInBounds_toArray, set_cons_succ, set_cons_zero, Array.getD_eq_getD_getElem?, List.getElem?_toArray, List.getElem?_cons_succ, List.getElem?_cons_zero, Option.getD_some] <;> rfl) rfl (by rw [hSd] at hS ⊢; exact hS)
  ·
   obtain ⟨h5, -⟩ := hh
   have g5 : f 5 = _ := h5
   unfold stStep
   rw [if_pos (by simp [Region.wanted])]
   intro K Q hK
   simp only [puts, Za, Zb, Zc, Zd, Ze, g5]
   have hS' := hS
   rw [hSd] at hS'
   obtain ⟨⟨cx1, cx2⟩, cy1, cy2⟩ := hXc W hS'.1
   go_step
   refine st_ex hK rfl rfl (by simp only [Act.put, setIfInBounds_toArray, set_cons_succ, set_cons_zero, Array.getD_eq_getD_getElem?, List.getElem?_toArray, List.getElem?_cons_succ, List.getElem?_cons_zero, Option.getD_some] <;> rfl) rfl (by rw [hSd] at hS ⊢; exact hS)
  ·
   unfold stStep
   rw [if_pos (by simp [Region.wanted])]
   intro K Q hK
   simp only [puts, foldr_nil]
   go_step
   refine st_ex hK rfl rfl (by simp only [Act.put, setIfInBounds_toArray, set_cons_succ, set_cons_zero, Array.getD_eq_getD_getElem?, List.getElem?_toArray, List.getElem?_cons_succ, List.getElem?_cons_zero, Option.getD_some] <;> rfl) rfl (by rw [hSd] at hS ⊢; exact hS)
  ·
   obtain ⟨h7, -⟩ := hh
   have g7 : f 7 = _ := h7
   unfold stStep
   rw [if_pos (by simp [Region.wanted])]
   intro K Q hK
   simp only [puts, Za, Zb, Zc, Zd, Ze, g7]
   have hS' := hS
   rw [hSd] at hS'
   obtain ⟨⟨cx1, cx2⟩, cy1, cy2⟩ := hXc W hS'.1
   go_step
   refine st_ex hK rfl rfl (by simp only [Act.put, setIfInBounds_toArray, set_cons_succ, set_cons_zero, Array.getD_eq_getD_getElem?, List.getElem?_toArray, List.getElem?_cons_succ, List.getElem?_cons_zero, Option.getD_some] <;> rfl) rfl (by rw [hSd] at hS ⊢; exact hS)
  ·
   obtain ⟨h6, h8, h4, -⟩ := hh
   have g6 : f 6 = _ := h6
   have g8 : f 8 = _ := h8
   have g4 : f 4 = _ := h4
   unfold stStep
   rw [if_pos (by simp [Region.wanted])]
   intro K Q hK
   simp only [puts, Za, Zb, Zc, Zd, Ze, g6, g8, g4]
   rw [hSd] at hS hK
   have l9 : L 9 = false := hi
   try simp only [stage, l9, if_true, if_false, Bool.false_eq_true] at hS
   go_step
   go_at_call 74
   refine (Try.cmp_Compare_int x2 y2 W).mono ?_
   rintro e w' ⟨rfl, rfl⟩
   refine hK.out _ _ rfl rfl ?_
   simpa using hS
  ·
   obtain ⟨h4, h9, -⟩ := hh
   have g4 : f 4 = _ := h4
   have g9 : f 9 = _ := h9
   unfold stStep
   rw [if_pos (by simp [Region.wanted])]
   intro K Q hK
   simp only [puts, Za, Zb, Zc, Zd, Ze, g4, g9]
   rw [hSd] at hS hK
   have l10 : L 10 = false := hi
   try simp only [stage, l10, if_true, if_false, Bool.false_eq_true] at hS
   obtain ⟨hbW, hdW, -⟩ := hS
   go_step
   refine hK.out _ _ rfl ⟨_, _, rfl⟩ ?_
   refine ⟨hbW.alloc hbW.size _, hdW, fun _ _ => ⟨_, _, rfl, ?_, ?_⟩⟩
   ·exact cell_of_row _ _ 0 _ _ _ (heap_alloc_new W _)
   ·exact cell_of_row _ _ 1 _ _ _ (heap_alloc_new W _)
  ·
   obtain ⟨h10, h9, -⟩ := hh
   obtain ⟨b10, c10, g10⟩ := h10
   have g9 : f 9 = _ := h9
   have l10 : L 10 = true := hd 10 (by decide)
   unfold stStep
   rw [if_pos (by simp [Region.wanted])]
   intro K Q hK
   simp only [puts, Za, Zb, Zc, Zd, Ze, g10, g9]
   rw [hSd] at hS hK
   have l11 : L 11 = false := hi
   try simp only [stage, l11, l10, if_true, if_false, Bool.false_eq_true] at hS
   obtain ⟨hbW, hdW, h10⟩ := hS
   obtain ⟨q, c, e10, k0, k1⟩ := h10 trivial trivial
   rw [g10] at e10
   obtain ⟨rfl, rfl⟩ : b10 = q ∧ c10 = c := by simpa using e10
   go_step
   go_at_call 73
   refine (or_any b10 0 c10 _ _ W k0 k1).mono ?_
   rintro e w' ⟨rfl, rfl⟩
   refine hK.out _ _ rfl rfl ?_
   exact ⟨hbW, hdW, fun _ h => (by simp at h)⟩
  ·
   obtain ⟨h11, _, h0, h1, h2, h3, h4, h5, h6, h7, h8, h9, h10, _, -⟩ := hh
   have g11 : f 11 = _ := h11
   have g0 : f 0 = _ := h0
   have g1 : f 1 = _ := h1
   have g2 : f 2 = _ := h2
   have g3 : f 3 = _ := h3
   have g4 : f 4 = _ := h4
   have g5 : f 5 = _ := h5
   have g6 : f 6 = _ := h6
   have g7 : f 7 = _ := h7
   have g8 : f 8 = _ := h8
   have g9 : f 9 = _ := h9
   obtain ⟨b10, c10, g10⟩ := h10
   unfold stStep
   rw [if_pos (by simp [Region.wanted])]
   intro K Q hK
   simp only [puts, Za, Zb, Zc, Zd, Ze, g11, g0, g1, g2, g3, g4, g5, g6, g7, g8, g9, g10]
   go_step
   refine st_ex hK rfl rfl (by simp only [Act.put, setIfInBounds_toArray, set_cons_succ, set_cons_zero, Array.getD_eq_getD_getElem?, List.getElem?_toArray, List.getElem?_cons_succ, List.getElem?_cons_zero, Option.getD_some] <;> rfl) rfl (by rw [hSd] at hS ⊢; exact hS)
 case rest =>
  intro L f WA hL hh hS
  rw [hSd] at hS
  clear hSd
  have l11 : L 11 = true := hL 11 (by decide)
  simp only [stage, l11, if_true] at hS
  clear hL l11
  obtain ⟨h0, h1, h2, h3, h4, h5, h6, h7, h8, h9, h10, h11, h12, -⟩ := hh
  have g0 : f 0 = _ := h0
  have g1 : f 1 = _ := h1
  have g2 : f 2 = _ := h2
  have g3 : f 3 = _ := h3
  have g4 : f 4 = _ := h4
  have g5 : f 5 = _ := h5
  have g6 : f 6 = _ := h6
  have g7 : f 7 = _ := h7
  have g8 : f 8 = _ := h8
  have g9 : f 9 = _ := h9
  obtain ⟨b10, c10, g10⟩ := h10
  have g11 : f 11 = _ := h11
  have g12 : f 12 = _ := h12
  simp only [puts, Za, Zb, Zc, Zd, Ze, g0, g1, g2, g3, g4, g5, g6, g7, g8, g9, g10, g11, g12]
  clear h0 h1 h2 h3 h4 h5 h6 h7 h8 h9 h11 h12 g0 g1 g2 g3 g4 g5 g6 g7 g8 g9 g11 g12
  obtain ⟨hbA, hdA, -⟩ := hS
  go_wp2
  go_ret
  exact ⟨rfl, hB.trans (hbA.mono hB.size), by rw [← HD2.out]; exact hdA⟩
end Go.Proofs.Ytpcbmhfnefhenaa

set_option linter.unusedVariables false
namespace Go.Proofs.Ytpcbmhfnefhenaa
open Go.RowKit Go.Sort

theorem grew_of {w w' : World} (hb : Go.RowKit.Below w.heap.size w w') (hd : w.drawn ≤ w'.drawn) : ∃ q os', w' = Sort.grow (w.drewN q) os' := by
 refine ⟨w'.drawn - w.drawn, w'.heap.extract w.heap.size w'.heap.size, ?_⟩
 have hh : w'.heap = w.heap ++ w'.heap.extract w.heap.size w'.heap.size := by
  apply Array.ext_getElem?
  intro k
  rcases Nat.lt_or_ge k w.heap.size with h | h
  ·rw [Array.getElem?_append_left h, hb.block k h]
  ·rw [Array.getElem?_append_right h, Array.getElem?_extract]
   have hs := hb.size
   split
   ·rw [show w.heap.size + (k - w.heap.size) = k by omega]
   ·rename_i hne
    exact Array.getElem?_eq_none (by omega)
 obtain ⟨heap, tape, drawn, os, output⟩ := w'
 obtain ⟨heap0, tape0, drawn0, os0, output0⟩ := w
 have e1 := hb.os
 have e2 := hb.tape
 have e3 := hb.output
 simp only at hh hd e1 e2 e3
 subst e1 e2 e3
 simp only [Sort.grow, World.drewN]
 rw [← hh, show drawn0 + (drawn - drawn0) = drawn by omega]
def enc3 (x : A3) : List Value := [.int .i64 x.f, .int .i64 x.l, .int .i64 x.t]
theorem enc3_len (x : A3) : (enc3 x).length = 3 := rfl
theorem enc3_one (x : A3) : ∀ v ∈ enc3 x, v.oneCell' = true := by
 intro v hv
 simp only [enc3, List.mem_cons, List.not_mem_nil, or_false] at hv
 rcases hv with rfl | rfl | rfl <;> rfl
theorem flat3 (A : List A3) : (flatK enc3 3 A.toArray).toList = tvs A := by
 apply List.ext_getElem?
 intro t
 rcases Nat.lt_or_ge t (A.length * 3) with h | h
 ·obtain ⟨i, hi⟩ : ∃ i, t = i * 3 ∨ t = i * 3 + 1 ∨ t = i * 3 + 2 := ⟨t / 3, by omega⟩
  have hil : i < A.length := by omega
  obtain ⟨p0, p1, p2⟩ := tvs_get A i hil
  have hd : t / 3 = i := by omega
  have hg : (A.toArray)[i]! = g3 A i := by
   rw [getElem!_pos _ i (by simpa using hil), g3_eq _ _ hil]
   simp
  have hf : (flatK enc3 3 A.toArray).toList[t]? = some ((enc3 (g3 A i))[t % 3]!) := by
   have hs : t < (flatK enc3 3 A.toArray).size := by rw [size_flatK]; simpa using h
   rw [Array.getElem?_toList, Array.getElem?_eq_getElem hs]
   have := get_flatK enc3 3 A.toArray t (by simpa using h)
   rw [getElem!_pos _ t hs, hd, hg] at this
   rw [this]
  rw [hf]
  rcases hi with rfl | rfl | rfl
  ·rw [p0, show i * 3 % 3 = 0 by omega]; rfl
  ·rw [p1, show (i * 3 + 1) % 3 = 1 by omega]; rfl
  ·rw [p2, show (i * 3 + 2) % 3 = 2 by omega]; rfl
 ·rw [List.getElem?_eq_none (l := (flatK enc3 3 A.toArray).toList) (by rw [Array.length_toList, size_flatK]; simpa using h), List.getElem?_eq_none (l := tvs A) (by rw [tvs_length]; exact h)]
theorem putCells_take {F cur : Array Value} (h : F.size ≤ cur.size) : (putCells id 0 F cur).toList.take F.size = F.toList := by
 apply List.ext_getElem?
 intro k
 rcases Nat.lt_or_ge k F.size with hk | hk
 ·rw [List.getElem?_take_of_lt hk]
  simp only [putCells, Array.getElem?_toList, Array.getElem?_mapIdx]
  rw [Array.getElem?_eq_getElem (show k < cur.size by omega), Array.getElem?_eq_getElem hk]
  simp [hk]
 ·rw [List.getElem?_take_eq_none hk, List.getElem?_eq_none (by simpa using hk)]
theorem sortWorldK_at {enc : A3 → List Value} {w : World} {g m : Nat} {d : Array A3} {os : Array Obj} {cur : Array Value} {e : TypeId} {fr : Nat × Nat} (hg : w.heap[g]? = some (.cells cur e fr)) : (sortWorldK enc 3 w g 0 m d os).heap[g]? = some (.cells (putCells id 0 (flatK enc 3 d) cur) e fr) := by
 have hlt := (Array.getElem?_eq_some_iff.1 hg).1
 unfold sortWorldK Sort.grow putRowK putRow mapBlock
 simp only
 rw [Array.getElem?_append_left (by simp [Sort.ahead]; exact hlt), Array.getElem?_modify]
 simp [Sort.ahead, hg, onCells]
theorem sortWorldK_grown {enc : A3 → List Value} {w : World} {g m : Nat} {d : Array A3} {os : Array Obj} : w.grownBy (sortWorldK enc 3 w g 0 m d os) (some g) := by
 refine ⟨rfl, rfl, rfl, by unfold sortWorldK Sort.grow putRowK putRow mapBlock; simp [Sort.ahead], fun k hk hne => ?_⟩
 unfold sortWorldK Sort.grow putRowK putRow mapBlock
 simp only
 rw [Array.getElem?_append_left (by simp [Sort.ahead]; exact hk), Array.getElem?_modify, if_neg (fun e => hne (by rw [e]))]
 rfl
theorem sorted_row {w : World} {B e g c n m : Nat} {A A' : List A3} {os : Array Obj} (h : w.ownsRow B e 3 (.slice (some ⟨g, 0, none⟩) n c) n (tvs A)) (hl : A'.length = A.length) : (sortWorldK enc3 3 w g 0 m A'.toArray os).ownsRow B e 3 (.slice (some ⟨g, 0, none⟩) n c) n (tvs A') := by
 have hlen := h.1
 rw [tvs_length] at hlen
 rcases h.2 with ⟨e1, _⟩ | ⟨g', cap, cur, e1, hB, hg, h1, h2, h3, h4⟩
 ·cases e1
 ·injection e1 with e1 _ e2
  injection e1 with e1
  injection e1 with e1
  subst e1 e2
  refine ⟨by rw [tvs_length]; omega, .inr ⟨g, c, _, rfl, hB, sortWorldK_at hg, h1, h2, by simp [putCells]; exact h3, ?_⟩⟩
  have hs : (flatK enc3 3 A'.toArray).size = n * 3 := by rw [size_flatK]; simp; omega
  have hle : n * 3 ≤ c * 3 := Nat.mul_le_mul_right 3 h1
  have := putCells_take (F := flatK enc3 3 A'.toArray) (cur := cur) (by rw [hs, h3]; exact hle)
  rw [hs, flat3] at this
  exact this
theorem holds_row {w : World} {B e g c n : Nat} {A : List A3} (h : w.ownsRow B e 3 (.slice (some ⟨g, 0, none⟩) n c) n (tvs A)) : HoldsK enc3 3 w g 0 A.toArray ∧ g < w.heap.size ∧ A.length = n := by
 have hlen := h.1
 rw [tvs_length] at hlen
 have hn : A.length = n := by omega
 refine ⟨fun j hj => ?_, (h.lt g rfl).2, hn⟩
 rw [size_flatK] at hj
 simp only [List.size_toArray] at hj
 rw [Nat.zero_add]
 refine ⟨?_, h.frozenAt j⟩
 rw [h.cellAt j (by omega)]
 have hf := congrArg (fun l => l[j]?) (flat3 A)
 rw [← hf, Array.getElem?_toList, Array.getElem?_eq_getElem (by rw [size_flatK]; simpa using hj), getElem!_pos _ j (by rw [size_flatK]; simpa using hj)]
 rfl
theorem perm_list {lt : A3 → A3 → Bool} {A : List A3} {d' : Array A3} (hp : PermIn 0 A.toArray.size A.toArray d') (hs : SortedIn lt 0 A.toArray.size d') : d'.toList.Perm A ∧ d'.toList.Pairwise (fun x y => lt y x = false) := by
 obtain ⟨h1, _, h3⟩ := hp
 have e1 : A.toArray.extract 0 A.toArray.size = A.toArray := by simp
 have e2 : d'.extract 0 A.toArray.size = d' := by rw [← h1]; simp
 rw [e1, e2] at h3
 refine ⟨h3, List.pairwise_iff_getElem.2 fun i j hi hj hij => ?_⟩
 have hjs : j < A.toArray.size := by rw [← h1]; simpa using hj
 have := hs i j (Nat.zero_le _) hij hjs
 rw [getElem!_pos d' j (by simpa using hj), getElem!_pos d' i (by simpa using hi)] at this
 simpa using this
end Go.Proofs.Ytpcbmhfnefhenaa
