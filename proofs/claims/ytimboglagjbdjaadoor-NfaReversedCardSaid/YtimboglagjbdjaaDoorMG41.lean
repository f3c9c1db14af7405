import Derived.Test.YtimboglagjbdjaaDoorMG5
import Derived.Test.YtimboglagjbdjaaDoorMG9
import Derived.Test.YtimboglagjbdjaaDoorMG10
/-
  NfaRx, NfaOg
-/
set_option linter.unusedVariables false
namespace Go.Proofs.YtimboglagjbdjaaDoor

theorem finsL_yes {fin : List Bool} {i : Nat} (h : gb fin i = true) : finsL fin (i + 1) = finsL fin i ++ [(i : Int)] := by
 unfold finsL
 rw [List.range_succ, List.filter_append, List.map_append, List.filter_cons_of_pos (by simpa using h)]
 rfl
theorem finsL_no {fin : List Bool} {i : Nat} (h : gb fin i = false) : finsL fin (i + 1) = finsL fin i := by
 unfold finsL
 rw [List.range_succ, List.filter_append, List.map_append, List.filter_cons_of_neg (by simp [h])]
 simp
theorem finsL_len (fin : List Bool) : ∀ i, (finsL fin i).length ≤ i
 | 0 => Nat.le_refl _
 | i + 1 => by
  have ih := finsL_len fin i
  cases h : gb fin i with
  | true => rw [finsL_yes h, List.length_append, List.length_singleton]; omega
  | false => rw [finsL_no h]; omega
def setBs (N : Nat) (l : List Int) : List Bool := l.foldl (fun F z => F.set z.toNat true) (List.replicate N false)
theorem setBs_snoc (N : Nat) (l : List Int) (z : Int) : setBs N (l ++ [z]) = (setBs N l).set z.toNat true := by
 unfold setBs
 rw [List.foldl_append]
 rfl
theorem setBs_facts (N : Nat) (l : List Int) (hl : ∀ z ∈ l, 0 ≤ z ∧ z < N) : (setBs N l).length = N ∧ ∀ i, i < N → gb (setBs N l) i = decide ((i : Int) ∈ l) := by
 obtain ⟨T, hT⟩ : ∃ T, l.reverse = T := ⟨_, rfl⟩
 obtain rfl : T.reverse = l := by rw [← hT, List.reverse_reverse]
 clear hT
 induction T with
 | nil => exact ⟨by simp [setBs], fun i hi => by simp [setBs, gb, List.getD, hi]⟩
 | cons x T ih =>
  rw [List.reverse_cons] at hl ⊢
  obtain ⟨ih1, ih2⟩ := ih fun z hz => hl z (List.mem_append_left _ hz)
  have hx := hl x (by simp)
  rw [setBs_snoc]
  refine ⟨by rw [List.length_set]; exact ih1, fun i hi => ?_⟩
  rw [gb_put (by omega)]
  by_cases e : i = x.toNat
  ·rw [if_pos e]
   exact (decide_eq_true (by rw [List.mem_append, List.mem_singleton]; right; omega)).symm
  ·rw [if_neg e, ih2 i hi, Bool.eq_iff_iff, decide_eq_true_iff, decide_eq_true_iff, List.mem_append, List.mem_singleton]
   constructor
   ·exact .inl
   ·rintro (h | h)
    ·exact h
    ·omega
theorem setBs_eq (N : Nat) (l : List Int) (hl : ∀ z ∈ l, 0 ≤ z ∧ z < N) : setBs N l = boolsL l N := by
 obtain ⟨h1, h2⟩ := setBs_facts N l hl
 refine gb_ext' (by rw [h1, boolsL_len]) fun i hi => ?_
 rw [h1] at hi
 rw [h2 i hi, gb_boolsL hi]
theorem sorted_rev {ar A' : List A3} (h : SortedN ar) (hp : A'.Perm (ar.map swA)) (hs : A'.Pairwise fun x y => ¬ LtN y x) : A' = revA ar := by
 have hnd : A'.Nodup := by
  refine hp.nodup_iff.2 ?_
  unfold List.Nodup
  rw [List.pairwise_map]
  have hn : ar.Nodup := List.Pairwise.imp (fun h e => by subst e; exact LtN.irrefl h) h
  exact hn.imp fun {x y} h e => h (by rw [← swA_swA x, ← swA_swA y, e])
 have hs2 : SortedN A' := by
  refine (hs.and hnd).imp fun {x y} h => ?_
  rcases LtN.tri x y with h1 | h1 | h1
  ·exact h1
  ·exact absurd h1 h.2
  ·exact absurd h1 h.1
 refine sortedN_ext hs2 (revA_facts ar).1 fun z => ?_
 rw [(revA_facts ar).2, hp.mem_iff, List.mem_map]
 exact ⟨fun ⟨x, hx, e⟩ => by rw [← e]; exact hx, fun h => ⟨swA z, h, rfl⟩⟩
end Go.Proofs.YtimboglagjbdjaaDoor

set_option linter.unusedSimpArgs false
set_option linter.unusedVariables false
namespace Go.Proofs.YtimboglagjbdjaaDoor
open List (foldr_cons foldr_nil setIfInBounds_toArray set_cons_succ set_cons_zero)
open Go.RowKit

set_option maxRecDepth 20000 in
theorem order_grew (x y : A3) (w : World) : Calls Tryd.prog 39 #[vA x, vA y] w fun e w' => e = .returned (.int .i64 (ordN x y)) ∧ Below w.heap.size w w' ∧ w.drawn ≤ w'.drawn := by
 obtain ⟨x1, x2, x3⟩ := x
 obtain ⟨y1, y2, y3⟩ := y
 obtain ⟨hb1, hs1, hX⟩ := boxA ⟨x1, x2, x3⟩ w
 obtain ⟨W1, hW1⟩ : ∃ W1, w.alloc (.cells #[.int .i64 x1, .int .i64 x2, .int .i64 x3] 62) = W1 := ⟨_, rfl⟩
 simp only at hb1 hs1 hX
 have hd1 : W1.drawn = w.drawn := by rw [← hW1]; rfl
 rw [hW1] at hb1 hs1 hX
 obtain ⟨hb2, hs2, hY⟩ := boxA ⟨y1, y2, y3⟩ W1
 obtain ⟨W2, hW2⟩ : ∃ W2, W1.alloc (.cells #[.int .i64 y1, .int .i64 y2, .int .i64 y3] 62) = W2 := ⟨_, rfl⟩
 simp only at hb2 hs2 hY
 have hd2 : W2.drawn = w.drawn := by rw [← hW2, ← hd1]; rfl
 rw [hW2] at hb2 hs2 hY
 have hB : Below w.heap.size w W2 := hb1.trans (hb2.mono (by omega))
 have hXc : ∀ W, Below W2.heap.size W2 W → (W.cell? ⟨w.heap.size, 0, none⟩ = some (.int .i64 x1) ∧ W.cell? ⟨w.heap.size, 1, none⟩ = some (.int .i64 x2) ∧ W.cell? ⟨w.heap.size, 2, none⟩ = some (.int .i64 x3)) ∧ W.cell? ⟨w.heap.size + 1, 0, none⟩ = some (.int .i64 y1) ∧ W.cell? ⟨w.heap.size + 1, 1, none⟩ = some (.int .i64 y2) ∧ W.cell? ⟨w.heap.size + 1, 2, none⟩ = some (.int .i64 y3) := fun W hb => by
  have h1 := hX W ((hb2.mono (by omega)).trans (hb.mono (by omega)))
  have h2 := hY W (hb.mono (by omega))
  rw [hs1] at h2
  exact ⟨⟨h1.1, h1.2.1, h1.2.2⟩, h2.1, h2.2.1, h2.2.2⟩
 have HD2 := Lib.hid hd2
 unfold vA
 go_enter Tryd.func39, Tryd.ntmps39
 go_wp2_with (fail)
 clear hW1 hW2 hX hY hb1 hb2 hd1 hd2
 obtain ⟨S, hSd⟩ : ∃ S : (Nat → Bool) → (Nat → Value) → World → Prop, S = fun L f W => Below W2.heap.size W2 W ∧ W2.drawn ≤ W.drawn ∧ (L 15 = true → L 16 = false → TriP (Lib.compareInt x1 y1) (Lib.compareInt x2 y2) (Lib.compareInt x3 y3) (f 15) W) := ⟨_, rfl⟩
 refine wp_region_st mixed (by kernel_rfl) [[], [(0, 5)], [], [(2, 7)], [(1, 6), (3, 8)], [], [(5, 10)], [], [(7, 12)], [(6, 11), (8, 13), (4, 9)], [], [(10, 15)], [], [(12, 17)], [(11, 16), (13, 18), (9, 14)], [(4, 9), (9, 14), (14, 19)], [(15, 20), (14, 19)], [(16, 21), (16, 21), (0, 5), (1, 6), (2, 7), (3, 8), (4, 9), (5, 10), (6, 11), (7, 12), (8, 13), (9, 14), (10, 15), (11, 16), (12, 17), (13, 18), (14, 19), (15, 20), (16, 21)]] [(0, 5), (1, 6), (2, 7), (3, 8), (4, 9), (5, 10), (6, 11), (7, 12), (8, 13), (9, 14), (10, 15), (11, 16), (12, 17), (13, 18), (14, 19), (15, 20), (16, 21), (17, 4)] rfl rfl [EV ?e0, EV ?e1, EV ?e2, EV ?e3, EV (.int .i64 (Lib.compareInt x1 y1)), EV ?e5, EV ?e6, EV ?e7, EV ?e8, EV (.int .i64 (Lib.compareInt x2 y2)), EV ?e10, EV ?e11, EV ?e12, EV ?e13, EV (.int .i64 (Lib.compareInt x3 y3)), fun v => ∃ b c, v = .slice (some ⟨b, 0, none⟩) 3 c, EV (.int .i64 (orL [Lib.compareInt x1 y1, Lib.compareInt x2 y2, Lib.compareInt x3 y3])), EV ?e17] S ?start ?steps ?rest
 case start =>
  intro f
  rw [hSd]
  exact ⟨(Below.refl _ _).drew, Nat.le_succ _, fun h => (by cases h)⟩
 case steps =>
  refine ⟨fun L f W hi hd hdn hh hS => ?_, fun L f W hi hd hdn hh hS => ?_, fun L f W hi hd hdn hh hS => ?_, fun L f W hi hd hdn hh hS => ?_, fun L f W hi hd hdn hh hS => ?_, fun L f W hi hd hdn hh hS => ?_, fun L f W hi hd hdn hh hS => ?_, fun L f W hi hd hdn hh hS => ?_, fun L f W hi hd hdn hh hS => ?_, fun L f W hi hd hdn hh hS => ?_, fun L f W hi hd hdn hh hS => ?_, fun L f W hi hd hdn hh hS => ?_, fun L f W hi hd hdn hh hS => ?_, fun L f W hi hd hdn hh hS => ?_, fun L f W hi hd hdn hh hS => ?_, fun L f W hi hd hdn hh hS => ?_, fun L f W hi hd hdn hh hS => ?_, fun L f W hi hd hdn hh hS => ?_, trivial⟩
  ·
   unfold stStep
   rw [if_pos (by simp [Region.wanted])]
   intro K Q hK
   simp only [puts, foldr_nil]
   go_step
   refine st_ex hK rfl rfl (by simp only [Act.put, setIfInBounds_toArray, set_cons_succ, set_cons_zero, Array.getD_eq_getD_getElem?, List.getElem?_toArray, List.getElem?_cons_succ, List.getElem?_cons_zero, Option.getD_some] <;> rfl) rfl (by rw [hSd] at hS ⊢; exact hS)
  ·
   obtain ⟨h0, -⟩ := hh
   have g0 : f 0 = _ := h0
   unfold stStep
   rw [if_pos (by simp [Region.wanted])]
   intro K Q hK
   simp only [puts, Za, Zb, Zc, Zd, Ze, g0]
   have hS' := hS
   rw [hSd] at hS'
   obtain ⟨⟨cx1, cx2, cx3⟩, cy1, cy2, cy3⟩ := hXc W hS'.1
   go_step
   refine st_ex hK rfl rfl (by simp only [Act.put, setIfInBounds_toArray, set_cons_succ, set_cons_zero, Array.getD_eq_getD_getElem?, List.getElem?_toArray, List.getElem?_cons_succ, List.getElem?_cons_zero, Option.getD_some] <;> rfl) rfl (by rw [hSd] at hS ⊢; exact hS)
  ·
   unfold stStep
   rw [if_pos (by simp [Region.wanted])]
   intro K Q hK
   simp only [puts, foldr_nil]
   go_step
   refine st_ex hK rfl rfl (by simp only [Act.put, setIfInBounds_toArray, set_cons_succ, set_cons_zero, Array.getD_eq_getD_getElem?, List.getElem?_toArray, List.getElem?_cons_succ, List.getElem?_cons_zero, Option.getD_some] <;> rfl) rfl (by rw [hSd] at hS ⊢; exact hS)
  ·
   obtain ⟨h2, -⟩ := hh
   have g2 : f 2 = _ := h2
   unfold stStep
   rw [if_pos (by simp [Region.wanted])]
   intro K Q hK
   simp only [puts, Za, Zb, Zc, Zd, Ze, g2]
   have hS' := hS
   rw [hSd] at hS'
   obtain ⟨⟨cx1, cx2, cx3⟩, cy1, cy2, cy3⟩ := hXc W hS'.1
   go_step
   refine st_ex hK rfl rfl (by simp only [Act.put, setIfInBounds_toArray, set_cons_succ, set_cons_zero, Array.getD_eq_getD_getElem?, List.getElem?_toArray, List.getElem?_cons_succ, List.getElem?_cons_zero, Option.getD_some] <;> rfl) rfl (by rw [hSd] at hS ⊢; exact hS)
  ·
   obtain ⟨h1, h3, -⟩ := hh
   have g1 : f 1 = _ := h1
   have g3 : f 3 = _ := h3
   unfold stStep
   rw [if_pos (by simp [Region.wanted])]
   intro K Q hK
   simp only [puts, Za, Zb, Zc, Zd, Ze, g1, g3]
   rw [hSd] at hS hK
   have l4 : L 4 = false := hi
   try simp only [stage, l4, if_true, if_false, Bool.false_eq_true] at hS
   go_step
   go_at_call 61
   refine (Tryd.cmp_Compare_int x1 y1 W).mono ?_
   rintro e w' ⟨rfl, rfl⟩
   refine hK.out _ _ rfl rfl ?_
   simpa using hS
  ·
   unfold stStep
   rw [if_pos (by simp [Region.wanted])]
   intro K Q hK
   simp only [puts, foldr_nil]
   go_step
   refine st_ex hK rfl rfl (by simp only [Act.put, setIfInBounds_toArray, set_cons_succ, set_cons_zero, Array.getD_eq_getD_getElem?, List.getElem?_toArray, List.getElem?_cons_succ, List.getElem?_cons_zero, Option.getD_some] <;> rfl) rfl (by rw [hSd] at hS ⊢; exact hS)
  ·
   obtain ⟨h5, -⟩ := hh
   have g5 : f 5 = _ := h5
   unfold stStep
   rw [if_pos (by simp [Region.wanted])]
   intro K Q hK
   simp only [puts, Za, Zb, Zc, Zd, Ze, g5]
   have hS' := hS
   rw [hSd] at hS'
   obtain ⟨⟨cx1, cx2, cx3⟩, cy1, cy2, cy3⟩ := hXc W hS'.1
   go_step
   refine st_ex hK rfl rfl (by simp only [Act.put, setIfInBounds_toArray, set_cons_succ, set_cons_zero, Array.getD_eq_getD_getElem?, List.getElem?_toArray, List.getElem?_cons_succ, List.getElem?_cons_zero, Option.getD_some] <;> rfl) rfl (by rw [hSd] at hS ⊢; exact hS)
  ·
   unfold stStep
   rw [if_pos (by simp [Region.wanted])]
   intro K Q hK
   simp only [puts, foldr_nil]
   go_step
   refine st_ex hK rfl rfl (by simp only [Act.put, setIfInBounds_toArray, set_cons_succ, set_cons_zero, Array.getD_eq_getD_getElem?, List.getElem?_toArray, List.getElem?_cons_succ, List.getElem?_cons_zero, Option.getD_some] <;> rfl) rfl (by rw [hSd] at hS ⊢; exact hS)
  ·
   obtain ⟨h7, -⟩ := hh
   have g7 : f 7 = _ := h7
   unfold stStep
   rw [if_pos (by simp [Region.wanted])]
   intro K Q hK
   simp only [puts, Za, Zb, Zc, Zd, Ze, g7]
   have hS' := hS
   rw [hSd] at hS'
   obtain ⟨⟨cx1, cx2, cx3⟩, cy1, cy2, cy3⟩ := hXc W hS'.1
   go_step
   refine st_ex hK rfl rfl (by simp only [Act.put, setIfInBounds_toArray, set_cons_succ, set_cons_zero, Array.getD_eq_getD_getElem?, List.getElem?_toArray, List.getElem?_cons_succ, List.getElem?_cons_zero, Option.getD_some] <;> rfl) rfl (by rw [hSd] at hS ⊢; exact hS)
  ·
   obtain ⟨h6, h8, h4, -⟩ := hh
   have g6 : f 6 = _ := h6
   have g8 : f 8 = _ := h8
   have g4 : f 4 = _ := h4
   unfold stStep
   rw [if_pos (by simp [Region.wanted])]
   intro K Q hK
   simp only [puts, Za, Zb, Zc, Zd, Ze, g6, g8, g4]
   rw [hSd] at hS hK
   have l9 : L 9 = false := hi
   try simp only [stage, l9, if_true, if_false, Bool.false_eq_true] at hS
   go_step
   go_at_call 61
   refine (Tryd.cmp_Compare_int x2 y2 W).mono ?_
   rintro e w' ⟨rfl, rfl⟩
   refine hK.out _ _ rfl rfl ?_
   simpa using hS
  ·
   unfold stStep
   rw [if_pos (by simp [Region.wanted])]
   intro K Q hK
   simp only [puts, foldr_nil]
   go_step
   refine st_ex hK rfl rfl (by simp only [Act.put, setIfInBounds_toArray, set_cons_succ, set_cons_zero, Array.getD_eq_getD_getElem?, List.getElem?_toArray, List.getElem?_cons_succ, List.getElem?_cons_zero, Option.getD_some] <;> rfl) rfl (by rw [hSd] at hS ⊢; exact hS)
  ·
   obtain ⟨h10, -⟩ := hh
   have g10 : f 10 = _ := h10
   unfold stStep
   rw [if_pos (by simp [Region.wanted])]
   intro K Q hK
   simp only [puts, Za, Zb, Zc, Zd, Ze, g10]
   have hS' := hS
   rw [hSd] at hS'
   obtain ⟨⟨cx1, cx2, cx3⟩, cy1, cy2, cy3⟩ := hXc W hS'.1
   go_step
   refine st_ex hK rfl rfl (by simp only [Act.put, setIfInBounds_toArray, set_cons_succ, set_cons_zero, Array.getD_eq_getD_getElem?, List.getElem?_toArray, List.getElem?_cons_succ, List.getElem?_cons_zero, Option.getD_some] <;> rfl) rfl (by rw [hSd] at hS ⊢; exact hS)
  ·
   unfold stStep
   rw [if_pos (by simp [Region.wanted])]
   intro K Q hK
   simp only [puts, foldr_nil]
   go_step
   refine st_ex hK rfl rfl (by simp only [Act.put, setIfInBounds_toArray, set_cons_succ, set_cons_zero, Array.getD_eq_getD_getElem?, List.getElem?_toArray, List.getElem?_cons_succ, List.getElem?_cons_zero, Option.getD_some] <;> rfl) rfl (by rw [hSd] at hS ⊢; exact hS)
  ·
   obtain ⟨h12, -⟩ := hh
   have g12 : f 12 = _ := h12
   unfold stStep
   rw [if_pos (by simp [Region.wanted])]
   intro K Q hK
   simp only [puts, Za, Zb, Zc, Zd, Ze, g12]
   have hS' := hS
   rw [hSd] at hS'
   obtain ⟨⟨cx1, cx2, cx3⟩, cy1, cy2, cy3⟩ := hXc W hS'.1
   go_step
   refine st_ex hK rfl rfl (by simp only [Act.put, setIfInBounds_toArray, set_cons_succ, set_cons_zero, Array.getD_eq_getD_getElem?, List.getElem?_toArray, List.getElem?_cons_succ, List.getElem?_cons_zero, Option.getD_some] <;> rfl) rfl (by rw [hSd] at hS ⊢; exact hS)
  ·
   obtain ⟨h11, h13, h9, -⟩ := hh
   have g11 : f 11 = _ := h11
   have g13 : f 13 = _ := h13
   have g9 : f 9 = _ := h9
   unfold stStep
   rw [if_pos (by simp [Region.wanted])]
   intro K Q hK
   simp only [puts, Za, Zb, Zc, Zd, Ze, g11, g13, g9]
   rw [hSd] at hS hK
   have l14 : L 14 = false := hi
   try simp only [stage, l14, if_true, if_false, Bool.false_eq_true] at hS
   go_step
   go_at_call 61
   refine (Tryd.cmp_Compare_int x3 y3 W).mono ?_
   rintro e w' ⟨rfl, rfl⟩
   refine hK.out _ _ rfl rfl ?_
   simpa using hS
  ·
   obtain ⟨h4, h9, h14, -⟩ := hh
   have g4 : f 4 = _ := h4
   have g9 : f 9 = _ := h9
   have g14 : f 14 = _ := h14
   unfold stStep
   rw [if_pos (by simp [Region.wanted])]
   intro K Q hK
   simp only [puts, Za, Zb, Zc, Zd, Ze, g4, g9, g14]
   rw [hSd] at hS hK
   have l15 : L 15 = false := hi
   try simp only [stage, l15, if_true, if_false, Bool.false_eq_true] at hS
   obtain ⟨hbW, hdW, -⟩ := hS
   go_step
   refine hK.out _ _ rfl ⟨_, _, rfl⟩ ?_
   exact ⟨hbW.alloc hbW.size _, hdW, fun _ _ => tri_made _ _ _ _ _⟩
  ·
   obtain ⟨h15, h14, -⟩ := hh
   obtain ⟨b15, c15, g15⟩ := h15
   have g14 : f 14 = _ := h14
   have l15 : L 15 = true := hd 15 (by decide)
   unfold stStep
   rw [if_pos (by simp [Region.wanted])]
   intro K Q hK
   simp only [puts, Za, Zb, Zc, Zd, Ze, g15, g14]
   rw [hSd] at hS hK
   have l16 : L 16 = false := hi
   try simp only [stage, l16, l15, if_true, if_false, Bool.false_eq_true] at hS
   obtain ⟨hbW, hdW, h15⟩ := hS
   obtain ⟨q, c, e15, i15⟩ := h15 trivial trivial
   rw [g15] at e15
   obtain ⟨rfl, rfl⟩ : b15 = q ∧ c15 = c := by simpa using e15
   go_step
   go_at_call 60
   refine (or_any i15).mono ?_
   rintro e w' ⟨rfl, rfl⟩
   refine hK.out _ _ rfl rfl ?_
   exact ⟨hbW, hdW, fun _ h => (by simp at h)⟩
  ·
   obtain ⟨h16, _, h0, h1, h2, h3, h4, h5, h6, h7, h8, h9, h10, h11, h12, h13, h14, h15, _, -⟩ := hh
   have g16 : f 16 = _ := h16
   have g0 : f 0 = _ := h0
   have g1 : f 1 = _ := h1
   have g2 : f 2 = _ := h2
   have g3 : f 3 = _ := h3
   have g4 : f 4 = _ := h4
   have g5 : f 5 = _ := h5
   have g6 : f 6 = _ := h6
   have g7 : f 7 = _ := h7
   have g8 : f 8 = _ := h8
   have g9 : f 9 = _ := h9
   have g10 : f 10 = _ := h10
   have g11 : f 11 = _ := h11
   have g12 : f 12 = _ := h12
   have g13 : f 13 = _ := h13
   have g14 : f 14 = _ := h14
   obtain ⟨b15, c15, g15⟩ := h15
   unfold stStep
   rw [if_pos (by simp [Region.wanted])]
   intro K Q hK
   simp only [puts, Za, Zb, Zc, Zd, Ze, g16, g0, g1, g2, g3, g4, g5, g6, g7, g8, g9, g10, g11, g12, g13, g14, g15]
   go_step
   refine st_ex hK rfl rfl (by simp only [Act.put, setIfInBounds_toArray, set_cons_succ, set_cons_zero, Array.getD_eq_getD_getElem?, List.getElem?_toArray, List.getElem?_cons_succ, List.getElem?_cons_zero, Option.getD_some] <;> rfl) rfl (by rw [hSd] at hS ⊢; exact hS)
 case rest =>
  intro L f WA hL hh hS
  rw [hSd] at hS
  clear hSd
  have l16 : L 16 = true := hL 16 (by decide)
  simp only [stage, l16, if_true] at hS
  clear hL l16
  obtain ⟨h0, h1, h2, h3, h4, h5, h6, h7, h8, h9, h10, h11, h12, h13, h14, h15, h16, h17, -⟩ := hh
  have g0 : f 0 = _ := h0
  have g1 : f 1 = _ := h1
  have g2 : f 2 = _ := h2
  have g3 : f 3 = _ := h3
  have g4 : f 4 = _ := h4
  have g5 : f 5 = _ := h5
  have g6 : f 6 = _ := h6
  have g7 : f 7 = _ := h7
  have g8 : f 8 = _ := h8
  have g9 : f 9 = _ := h9
  have g10 : f 10 = _ := h10
  have g11 : f 11 = _ := h11
  have g12 : f 12 = _ := h12
  have g13 : f 13 = _ := h13
  have g14 : f 14 = _ := h14
  obtain ⟨b15, c15, g15⟩ := h15
  have g16 : f 16 = _ := h16
  have g17 : f 17 = _ := h17
  simp only [puts, Za, Zb, Zc, Zd, Ze, g0, g1, g2, g3, g4, g5, g6, g7, g8, g9, g10, g11, g12, g13, g14, g15, g16, g17]
  clear h0 h1 h2 h3 h4 h5 h6 h7 h8 h9 h10 h11 h12 h13 h14 h16 h17 g0 g1 g2 g3 g4 g5 g6 g7 g8 g9 g10 g11 g12 g13 g14 g16 g17
  obtain ⟨hbA, hdA, -⟩ := hS
  go_wp2
  go_ret
  exact ⟨rfl, hB.trans (hbA.mono hB.size), by rw [← HD2.out]; exact hdA⟩
end Go.Proofs.YtimboglagjbdjaaDoor
