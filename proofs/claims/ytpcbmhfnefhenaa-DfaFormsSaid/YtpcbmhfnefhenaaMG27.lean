import Derived.Test.YtpcbmhfnefhenaaMG4
import Derived.Test.YtpcbmhfnefhenaaMG6
import Derived.Test.YtpcbmhfnefhenaaMG24
/-
  DfaMw, DfaSo
-/
set_option linter.unusedVariables false
namespace Go.Proofs.Ytpcbmhfnefhenaa

def clP (fin : List Bool) (k : Nat) : List Int := (cl0 fin).take k ++ List.replicate (fin.length - k) 0
theorem clP_len {fin : List Bool} {k : Nat} (h : k ≤ fin.length) : (clP fin k).length = fin.length := by simp [clP, cl0]; omega
theorem clP_zero (fin : List Bool) : clP fin 0 = List.replicate fin.length 0 := by simp [clP]
theorem clP_full (fin : List Bool) : clP fin fin.length = cl0 fin := by
  unfold clP
  rw [List.take_of_length_le (by simp [cl0])]
  simp
theorem clP_yes {fin : List Bool} {k : Nat} (h : k < fin.length) (hb : gb fin k = true) : (clP fin k).set k 1 = clP fin (k + 1) := by
  unfold clP
  have hl : (cl0 fin).length = fin.length := by simp [cl0]
  rw [List.set_append_right _ _ (by rw [List.length_take]; omega), List.length_take, show k - min k (cl0 fin).length = 0 by omega]
  obtain ⟨m, hm⟩ : ∃ m, fin.length - k = m + 1 := ⟨fin.length - k - 1, by omega⟩
  have hc : (cl0 fin)[k]'(by omega) = 1 := by
    have := cl0_at fin h
    rw [gi_eq _ _ (by omega), hb] at this
    simpa using this
  rw [hm, show fin.length - (k + 1) = m by omega, List.replicate_succ, List.set_cons_zero, List.take_succ_eq_append_getElem (show k < (cl0 fin).length by omega), hc, List.append_assoc]
  rfl
theorem clP_no {fin : List Bool} {k : Nat} (h : k < fin.length) (hb : gb fin k = false) : clP fin k = clP fin (k + 1) := by
  unfold clP
  have hl : (cl0 fin).length = fin.length := by simp [cl0]
  obtain ⟨m, hm⟩ : ∃ m, fin.length - k = m + 1 := ⟨fin.length - k - 1, by omega⟩
  have hc : (cl0 fin)[k]'(by omega) = 0 := by
    have := cl0_at fin h
    rw [gi_eq _ _ (by omega), hb] at this
    simpa using this
  rw [hm, show fin.length - (k + 1) = m by omega, List.replicate_succ, List.take_succ_eq_append_getElem (show k < (cl0 fin).length by omega), hc, List.append_assoc]
  rfl
structure FirstNum (C : List Int) (N m : Nat) (s : Nat → Nat) : Prop where
  zero : s 0 = 0
  last : s N = m
  le : ∀ i, i ≤ N → s i ≤ m
  step : ∀ i, i < N → (0 ≤ gi C i ∧ gi C i < s i ∧ s (i + 1) = s i) ∨ (gi C i = s i ∧ s (i + 1) = s i + 1 ∧ repC C (s i) = i)
theorem first_idx {C : List Int} {i : Nat} {v : Int} (hi : i < C.length) (he : gi C i = v) (hn : ∀ j, j < i → gi C j ≠ v) : C.idxOf v = i := by
  have hm : v ∈ C := by rw [← he]; exact gi_mem C i hi
  have h1 := List.idxOf_lt_length_of_mem hm
  have h2 := List.getElem_idxOf h1
  rcases Nat.lt_trichotomy (C.idxOf v) i with h | h | h
  · exact absurd (by rw [gi_eq _ _ h1]; exact h2) (hn _ h)
  · exact h
  · exfalso
    have e : v ∈ C.take (i + 1) := by
      rw [List.take_add_one, List.getElem?_eq_getElem hi]
      rw [gi_eq C i hi] at he
      simp [he]
    have e2 : C.idxOf v = (C.take (i + 1)).idxOf v := by
      conv => lhs; rw [← List.take_append_drop (i + 1) C]
      rw [List.idxOf_append, if_pos e]
    have e3 := List.idxOf_lt_length_of_mem e
    rw [List.length_take] at e3
    omega
theorem refC_first (es : List A3) (cl : List Int) (N : Nat) : FirstNum (refC es N cl) N (refN es N cl) (fun i => (firsts (sigs es cl i)).length) := by
  have split : ∀ i, i ≤ N → sigs es cl N = sigs es cl i ++ ((List.range' i (N - i)).map (sigA es cl)) := fun i hi => by
    unfold sigs
    rw [← List.map_append]
    congr 1
    rw [List.range_eq_range', List.range_eq_range']
    have := List.range'_append_1 (s := 0) (m := i) (n := N - i)
    rw [Nat.zero_add] at this
    rw [this, show i + (N - i) = N by omega]
  have pre : ∀ i, i ≤ N → firsts (sigs es cl i) <+: firsts (sigs es cl N) := fun i hi => by rw [split i hi]; exact firsts_pre _ _
  have hpl : ∀ i j, i < j → j ≤ N → gi (refC es N cl) i = ((plF (firsts (sigs es cl j)) (sigA es cl i) : Nat) : Int) := fun i j hij hj => by
    rw [refC_at es cl (by omega)]
    congr 1
    exact plF_pre (pre j hj) (mem_firsts.2 (List.mem_map.2 ⟨i, List.mem_range.2 hij, rfl⟩))
  have succ := sigs_succ es cl
  refine ⟨rfl, rfl, fun i hi => (pre i hi).length_le, fun i hi => ?_⟩
  have hi1 := hpl i (i + 1) (Nat.lt_succ_self i) hi
  by_cases hm : sigA es cl i ∈ firsts (sigs es cl i)
  · have e : firsts (sigs es cl (i + 1)) = firsts (sigs es cl i) := by rw [succ, firsts_snoc, if_pos hm]
    rw [e] at hi1 ⊢
    have := plF_lt hm
    exact .inl ⟨by omega, by omega, rfl⟩
  · have e : firsts (sigs es cl (i + 1)) = firsts (sigs es cl i) ++ [sigA es cl i] := by rw [succ, firsts_snoc, if_neg hm]
    have hnew : plF (firsts (sigs es cl i) ++ [sigA es cl i]) (sigA es cl i) = (firsts (sigs es cl i)).length := plF_new hm
    rw [e] at hi1 ⊢
    rw [hnew] at hi1
    refine .inr ⟨hi1, by simp, ?_⟩
    unfold repC
    refine first_idx (by rw [refC_len]; exact hi) hi1 fun j hj => ?_
    have h1 := hpl j i hj (by omega)
    have h2 := plF_lt (mem_firsts.2 (List.mem_map.2 ⟨j, List.mem_range.2 hj, rfl⟩) : sigA es cl j ∈ firsts (sigs es cl i))
    omega
def doneP (m s : Nat) : List Bool := (List.range m).map fun c => decide (c < s)
def finP (t : Dfa) (C : List Int) (m s : Nat) : List Bool := (List.range m).map fun c => decide (c < s) && gb t.fin (repC C c)
def arcP (t : Dfa) (C : List Int) (s : Nat) : List A3 := (List.range s).flatMap (arcsQ t C)
theorem doneP_len (m s : Nat) : (doneP m s).length = m := by simp [doneP]
theorem finP_len (t : Dfa) (C : List Int) (m s : Nat) : (finP t C m s).length = m := by simp [finP]
theorem gb_doneP {m s c : Nat} (h : c < m) : gb (doneP m s) c = decide (c < s) := by
  rw [gb_eq _ _ (by rw [doneP_len]; exact h)]
  simp [doneP]
theorem gb_finP {t : Dfa} {C : List Int} {m s c : Nat} (h : c < m) : gb (finP t C m s) c = (decide (c < s) && gb t.fin (repC C c)) := by
  rw [gb_eq _ _ (by rw [finP_len]; exact h)]
  simp [finP]
theorem doneP_zero (m : Nat) : doneP m 0 = List.replicate m false := by
  refine gb_ext (by rw [doneP_len, List.length_replicate]) fun i hi => ?_
  rw [doneP_len] at hi
  rw [gb_doneP hi, gb_eq _ _ (by simpa using hi)]
  simp
theorem finP_zero (t : Dfa) (C : List Int) (m : Nat) : finP t C m 0 = List.replicate m false := by
  refine gb_ext (by rw [finP_len, List.length_replicate]) fun i hi => ?_
  rw [finP_len] at hi
  rw [gb_finP hi, gb_eq (List.replicate m false) _ (by simpa using hi)]
  simp
theorem doneP_set {m s : Nat} (h : s < m) : (doneP m s).set s true = doneP m (s + 1) := by
  refine gb_ext (by rw [List.length_set, doneP_len, doneP_len]) fun i hi => ?_
  rw [List.length_set, doneP_len] at hi
  rw [gb_put (by rw [doneP_len]; exact h), gb_doneP hi, gb_doneP hi]
  by_cases e : i = s
  · subst e; rw [if_pos rfl]; simp
  · rw [if_neg e]
    congr 1
    exact propext ⟨fun _ => by omega, fun _ => by omega⟩
theorem finP_set {t : Dfa} {C : List Int} {m s : Nat} (h : s < m) : (finP t C m s).set s (gb t.fin (repC C s)) = finP t C m (s + 1) := by
  refine gb_ext (by rw [List.length_set, finP_len, finP_len]) fun i hi => ?_
  rw [List.length_set, finP_len] at hi
  rw [gb_put (by rw [finP_len]; exact h), gb_finP hi, gb_finP hi]
  by_cases e : i = s
  · subst e; rw [if_pos rfl]; simp
  · rw [if_neg e]
    congr 2
    exact propext ⟨fun _ => by omega, fun _ => by omega⟩
theorem finP_full (t : Dfa) (C : List Int) (m : Nat) : finP t C m m = (qD t C m).fin := by
  refine gb_ext (by rw [finP_len]; simp [qD]) fun i hi => ?_
  rw [finP_len] at hi
  rw [gb_finP hi]
  show _ = gb ((List.range m).map fun c => gb t.fin (repC C c)) i
  rw [gb_eq ((List.range m).map _) _ (by simpa using hi)]
  simp [hi]
theorem arcP_succ (t : Dfa) (C : List Int) (s : Nat) : arcP t C (s + 1) = arcP t C s ++ arcsQ t C s := by
  unfold arcP
  rw [List.range_succ, List.flatMap_append]
  simp
theorem arcsQ_get {t : Dfa} {C : List Int} {s j : Nat} (h : j < (outsD t.arcs (repC C s)).length) : (arcsQ t C s).take (j + 1) = (arcsQ t C s).take j ++ [⟨s, (g3 (outsD t.arcs (repC C s)) j).l, gi C (g3 (outsD t.arcs (repC C s)) j).t.toNat⟩] := by
  unfold arcsQ
  rw [← List.map_take, ← List.map_take, take_succ_g3 _ j h, List.map_append]
  rfl
theorem arcsQ_len (t : Dfa) (C : List Int) (s : Nat) : (arcsQ t C s).length = (outsD t.arcs (repC C s)).length := by simp [arcsQ]
theorem sorted_same {A A' : List A3} (hs : SortedA A) (hp : A'.Perm A) (hs' : A'.Pairwise fun x y => ¬ LtA y x) : A' = A := by
  refine List.Perm.eq_of_pairwise (le := fun x y => ¬ LtA y x) (fun a b ha hb h1 h2 => ?_) hs' (List.Pairwise.imp (fun h h2 => LtA.irrefl (LtA.trans h h2)) hs) hp
  have ha' := hp.subset ha
  obtain ⟨i, hi, ei⟩ := List.getElem_of_mem ha'
  obtain ⟨j, hj, ej⟩ := List.getElem_of_mem hb
  rcases Nat.lt_trichotomy i j with h | h | h
  · have := hs.lt h hj
    rw [g3_eq _ _ hi, g3_eq _ _ hj, ei, ej] at this
    exact absurd this h2
  · subst h; rw [← ei, ← ej]
  · have := hs.lt h hi
    rw [g3_eq _ _ hi, g3_eq _ _ hj, ei, ej] at this
    exact absurd this h1
end Go.Proofs.Ytpcbmhfnefhenaa

set_option linter.unusedSimpArgs false
set_option linter.unusedVariables false
namespace Go.Proofs.Ytpcbmhfnefhenaa
open List (foldr_cons foldr_nil setIfInBounds_toArray set_cons_succ set_cons_zero)
open Go.RowKit

set_option maxRecDepth 20000 in
theorem order_grew (x y : A3) (w : World) : Calls Try.prog 47 #[vA x, vA y] w fun e w' => e = .returned (.int .i64 (ordA x y)) ∧ Below w.heap.size w w' ∧ w.drawn ≤ w'.drawn := by
  obtain ⟨x1, x2, x3⟩ := x
  obtain ⟨y1, y2, y3⟩ := y
  obtain ⟨hb1, hs1, hX⟩ := boxA ⟨x1, x2, x3⟩ w
  obtain ⟨W1, hW1⟩ : ∃ W1, w.alloc (.cells #[.int .i64 x1, .int .i64 x2, .int .i64 x3] 63) = W1 := ⟨_, rfl⟩
  simp only at hb1 hs1 hX
  have hd1 : W1.drawn = w.drawn := by rw [← hW1]; rfl
  rw [hW1] at hb1 hs1 hX
  obtain ⟨hb2, hs2, hY⟩ := boxA ⟨y1, y2, y3⟩ W1
  obtain ⟨W2, hW2⟩ : ∃ W2, W1.alloc (.cells #[.int .i64 y1, .int .i64 y2, .int .i64 y3] 63) = W2 := ⟨_, rfl⟩
  simp only at hb2 hs2 hY
  have hd2 : W2.drawn = w.drawn := by rw [← hW2, ← hd1]; rfl
  rw [hW2] at hb2 hs2 hY
  have hB : Below w.heap.size w W2 := hb1.trans (hb2.mono (by omega))
  have hXc : ∀ W, Below W2.heap.size W2 W → (W.cell? ⟨w.heap.size, 0, none⟩ = some (.int .i64 x1) ∧ W.cell? ⟨w.heap.size, 1, none⟩ = some (.int .i64 x2)) ∧ W.cell? ⟨w.heap.size + 1, 0, none⟩ = some (.int .i64 y1) ∧ W.cell? ⟨w.heap.size + 1, 1, none⟩ = some (.int .i64 y2) := fun W hb => by
    have h1 := hX W ((hb2.mono (by omega)).trans (hb.mono (by omega)))
    have h2 := hY W (hb.mono (by omega))
    rw [hs1] at h2
    exact ⟨⟨h1.1, h1.2.1⟩, h2.1, h2.2.1⟩
  have HD2 := Lib.hid hd2
  unfold vA
  go_enter Try.func47, Try.ntmps47
  go_wp2_with (fail)
  clear hW1 hW2 hX hY hb1 hb2 hd1 hd2
  obtain ⟨S, hSd⟩ : ∃ S : (Nat → Bool) → (Nat → Value) → World → Prop, S = fun L f W => Below W2.heap.size W2 W ∧ W2.drawn ≤ W.drawn ∧ (L 10 = true → L 11 = false → ∃ b c, f 10 = .slice (some ⟨b, 0, none⟩) 2 c ∧ W.cell? ⟨b, 0, none⟩ = some (.int .i64 (Lib.compareInt x1 y1)) ∧ W.cell? ⟨b, 0 + 1, none⟩ = some (.int .i64 (Lib.compareInt x2 y2))) := ⟨_, rfl⟩
  refine wp_region_st mixed (by kernel_rfl) [[], [(0, 5)], [], [(2, 7)], [(1, 6), (3, 8)], [], [(5, 10)], [], [(7, 12)], [(6, 11), (8, 13), (4, 9)], [(4, 9), (9, 14)], [(10, 15), (9, 14)], [(11, 16), (11, 16), (0, 5), (1, 6), (2, 7), (3, 8), (4, 9), (5, 10), (6, 11), (7, 12), (8, 13), (9, 14), (10, 15), (11, 16)]] [(0, 5), (1, 6), (2, 7), (3, 8), (4, 9), (5, 10), (6, 11), (7, 12), (8, 13), (9, 14), (10, 15), (11, 16), (12, 4)] rfl rfl [EV ?e0, EV ?e1, EV ?e2, EV ?e3, EV (.int .i64 (Lib.compareInt x1 y1)), EV ?e5, EV ?e6, EV ?e7, EV ?e8, EV (.int .i64 (Lib.compareInt x2 y2)), fun v => ∃ b c, v = .slice (some ⟨b, 0, none⟩) 2 c, EV (.int .i64 (orI (Lib.compareInt x1 y1) (Lib.compareInt x2 y2))), EV ?e12] S ?start ?steps ?rest
  case start =>
    intro f
    rw [hSd]
    exact ⟨(Below.refl _ _).drew, Nat.le_succ _, fun h => (by cases h)⟩
  case steps =>
    refine ⟨fun L f W hi hd hdn hh hS => ?_, fun L f W hi hd hdn hh hS => ?_, fun L f W hi hd hdn hh hS => ?_, fun L f W hi hd hdn hh hS => ?_, fun L f W hi hd hdn hh hS => ?_, fun L f W hi hd hdn hh hS => ?_, fun L f W hi hd hdn hh hS => ?_, fun L f W hi hd hdn hh hS => ?_, fun L f W hi hd hdn hh hS => ?_, fun L f W hi hd hdn hh hS => ?_, fun L f W hi hd hdn hh hS => ?_, fun L f W hi hd hdn hh hS => ?_, fun L f W hi hd hdn hh hS => ?_, trivial⟩
    ·
      unfold stStep
      rw [if_pos (by simp [Region.wanted])]
      intro K Q hK
      simp only [puts, foldr_nil]
      go_step
      refine st_ex hK rfl rfl (by simp only [Act.put, setIfInBounds_toArray, set_cons_succ, set_cons_zero, Array.getD_eq_getD_getElem?, List.getElem?_toArray, List.getElem?_cons_succ, List.getElem?_cons_zero, Option.getD_some] <;> rfl) rfl (by rw [hSd] at hS ⊢; exact hS)
    ·
      obtain ⟨h0, -⟩ := hh
      have g0 : f 0 = _ := h0
      unfold stStep
      rw [if_pos (by simp [Region.wanted])]
      intro K Q hK
      simp only [puts, foldr_cons, foldr_nil, setIfInBounds_toArray, set_cons_succ, set_cons_zero, g0]
      have hS' := hS
      rw [hSd] at hS'
      obtain ⟨⟨cx1, cx2⟩, cy1, cy2⟩ := hXc W hS'.1
      go_step
      refine st_ex hK rfl rfl (by simp only [Act.put, setIfInBounds_toArray, set_cons_succ, set_cons_zero, Array.getD_eq_getD_getElem?, List.getElem?_toArray, List.getElem?_cons_succ, List.getElem?_cons_zero, Option.getD_some] <;> rfl) rfl (by rw [hSd] at hS ⊢; exact hS)
    ·
      unfold stStep
      rw [if_pos (by simp [Region.wanted])]
      intro K Q hK
      simp only [puts, foldr_nil]
      go_step
      refine st_ex hK rfl rfl (by simp only [Act.put, setIfInBounds_toArray, set_cons_succ, set_cons_zero, Array.getD_eq_getD_getElem?, List.getElem?_toArray, List.getElem?_cons_succ, List.getElem?_cons_zero, Option.getD_some] <;> rfl) rfl (by rw [hSd] at hS ⊢; exact hS)
    ·
      obtain ⟨h2, -⟩ := hh
      have g2 : f 2 = _ := h2
      unfold stStep
      rw [if_pos (by simp [Region.wanted])]
      intro K Q hK
      simp only [puts, foldr_cons, foldr_nil, setIfInBounds_toArray, set_cons_succ, set_cons_zero, g2]
      have hS' := hS
      rw [hSd] at hS'
      obtain ⟨⟨cx1, cx2⟩, cy1, cy2⟩ := hXc W hS'.1
      go_step
      refine st_ex hK rfl rfl (by simp only [Act.put, setIfInBounds_toArray, set_cons_succ, set_cons_zero, Array.getD_eq_getD_getElem?, List.getElem?_toArray, List.getElem?_cons_succ, List.getElem?_cons_zero, Option.getD_some] <;> rfl) rfl (by rw [hSd] at hS ⊢; exact hS)
    ·
      obtain ⟨h1, h3, -⟩ := hh
      have g1 : f 1 = _ := h1
      have g3 : f 3 = _ := h3
      unfold stStep
      rw [if_pos (by simp [Region.wanted])]
      intro K Q hK
      simp only [puts, foldr_cons, foldr_nil, setIfInBounds_toArray, set_cons_succ, set_cons_zero, g1, g3]
      rw [hSd] at hS hK
      have l4 : L 4 = false := hi
      try simp only [stage, l4, if_true, if_false, Bool.false_eq_true] at hS
      go_step
      go_at_call 74
      refine (Try.cmp_Compare_int x1 y1 W).mono ?_
      rintro e w' ⟨rfl, rfl⟩
      refine hK.out _ _ rfl rfl ?_
      simpa using hS
    ·
      unfold stStep
      rw [if_pos (by simp [Region.wanted])]
      intro K Q hK
      simp only [puts, foldr_nil]
      go_step
      refine st_ex hK rfl rfl (by simp only [Act.put, setIfInBounds_toArray, set_cons_succ, set_cons_zero, Array.getD_eq_getD_getElem?, List.getElem?_toArray, List.getElem?_cons_succ, List.getElem?_cons_zero, Option.getD_some] <;> rfl) rfl (by rw [hSd] at hS ⊢; exact hS)
    ·
      obtain ⟨h5, -⟩ := hh
      have g5 : f 5 = _ := h5
      unfold stStep
      rw [if_pos (by simp [Region.wanted])]
      intro K Q hK
      simp only [puts, foldr_cons, foldr_nil, setIfInBounds_toArray, set_cons_succ, set_cons_zero, g5]
      have hS' := hS
      rw [hSd] at hS'
      obtain ⟨⟨cx1, cx2⟩, cy1, cy2⟩ := hXc W hS'.1
      go_step
      refine st_ex hK rfl rfl (by simp only [Act.put, setIfInBounds_toArray, set_cons_succ, set_cons_zero, Array.getD_eq_getD_getElem?, List.getElem?_toArray, List.getElem?_cons_succ, List.getElem?_cons_zero, Option.getD_some] <;> rfl) rfl (by rw [hSd] at hS ⊢; exact hS)
    ·
      unfold stStep
      rw [if_pos (by simp [Region.wanted])]
      intro K Q hK
      simp only [puts, foldr_nil]
      go_step
      refine st_ex hK rfl rfl (by simp only [Act.put, setIfInBounds_toArray, set_cons_succ, set_cons_zero, Array.getD_eq_getD_getElem?, List.getElem?_toArray, List.getElem?_cons_succ, List.getElem?_cons_zero, Option.getD_some] <;> rfl) rfl (by rw [hSd] at hS ⊢; exact hS)
    ·
      obtain ⟨h7, -⟩ := hh
      have g7 : f 7 = _ := h7
      unfold stStep
      rw [if_pos (by simp [Region.wanted])]
      intro K Q hK
      simp only [puts, foldr_cons, foldr_nil, setIfInBounds_toArray, set_cons_succ, set_cons_zero, g7]
      have hS' := hS
      rw [hSd] at hS'
      obtain ⟨⟨cx1, cx2⟩, cy1, cy2⟩ := hXc W hS'.1
      go_step
      refine st_ex hK rfl rfl (by simp only [Act.put, setIfInBounds_toArray, set_cons_succ, set_cons_zero, Array.getD_eq_getD_getElem?, List.getElem?_toArray, List.getElem?_cons_succ, List.getElem?_cons_zero, Option.getD_some] <;> rfl) rfl (by rw [hSd] at hS ⊢; exact hS)
    ·
      obtain ⟨h6, h8, h4, -⟩ := hh
      have g6 : f 6 = _ := h6
      have g8 : f 8 = _ := h8
      have g4 : f 4 = _ := h4
      unfold stStep
      rw [if_pos (by simp [Region.wanted])]
      intro K Q hK
      simp only [puts, foldr_cons, foldr_nil, setIfInBounds_toArray, set_cons_succ, set_cons_zero, g6, g8, g4]
      rw [hSd] at hS hK
      have l9 : L 9 = false := hi
      try simp only [stage, l9, if_true, if_false, Bool.false_eq_true] at hS
      go_step
      go_at_call 74
      refine (Try.cmp_Compare_int x2 y2 W).mono ?_
      rintro e w' ⟨rfl, rfl⟩
      refine hK.out _ _ rfl rfl ?_
      simpa using hS
    ·
      obtain ⟨h4, h9, -⟩ := hh
      have g4 : f 4 = _ := h4
      have g9 : f 9 = _ := h9
      unfold stStep
      rw [if_pos (by simp [Region.wanted])]
      intro K Q hK
      simp only [puts, foldr_cons, foldr_nil, setIfInBounds_toArray, set_cons_succ, set_cons_zero, g4, g9]
      rw [hSd] at hS hK
      have l10 : L 10 = false := hi
      try simp only [stage, l10, if_true, if_false, Bool.false_eq_true] at hS
      obtain ⟨hbW, hdW, -⟩ := hS
      go_step
      refine hK.out _ _ rfl ⟨_, _, rfl⟩ ?_
      refine ⟨hbW.alloc hbW.size _, hdW, fun _ _ => ⟨_, _, rfl, ?_, ?_⟩⟩
      · exact cell_of_row _ _ 0 _ _ _ (heap_alloc_new W _)
      · exact cell_of_row _ _ 1 _ _ _ (heap_alloc_new W _)
    ·
      obtain ⟨h10, h9, -⟩ := hh
      obtain ⟨b10, c10, g10⟩ := h10
      have g9 : f 9 = _ := h9
      have l10 : L 10 = true := hd 10 (by decide)
      unfold stStep
      rw [if_pos (by simp [Region.wanted])]
      intro K Q hK
      simp only [puts, foldr_cons, foldr_nil, setIfInBounds_toArray, set_cons_succ, set_cons_zero, g10, g9]
      rw [hSd] at hS hK
      have l11 : L 11 = false := hi
      try simp only [stage, l11, l10, if_true, if_false, Bool.false_eq_true] at hS
      obtain ⟨hbW, hdW, h10⟩ := hS
      obtain ⟨q, c, e10, k0, k1⟩ := h10 trivial trivial
      rw [g10] at e10
      obtain ⟨rfl, rfl⟩ : b10 = q ∧ c10 = c := by simpa using e10
      go_step
      go_at_call 73
      refine (or_any b10 0 c10 _ _ W k0 k1).mono ?_
      rintro e w' ⟨rfl, rfl⟩
      refine hK.out _ _ rfl rfl ?_
      exact ⟨hbW, hdW, fun _ h => (by simp at h)⟩
    ·
      obtain ⟨h11, _, h0, h1, h2, h3, h4, h5, h6, h7, h8, h9, h10, _, -⟩ := hh
      have g11 : f 11 = _ := h11
      have g0 : f 0 = _ := h0
      have g1 : f 1 = _ := h1
      have g2 : f 2 = _ := h2
      have g3 : f 3 = _ := h3
      have g4 : f 4 = _ := h4
      have g5 : f 5 = _ := h5
      have g6 : f 6 = _ := h6
      have g7 : f 7 = _ := h7
      have g8 : f 8 = _ := h8
      have g9 : f 9 = _ := h9
      obtain ⟨b10, c10, g10⟩ := h10
      unfold stStep
      rw [if_pos (by simp [Region.wanted])]
      intro K Q hK
      simp only [puts, foldr_cons, foldr_nil, setIfInBounds_toArray, set_cons_succ, set_cons_zero, g11, g0, g1, g2, g3, g4, g5, g6, g7, g8, g9, g10]
      go_step
      refine st_ex hK rfl rfl (by simp only [Act.put, setIfInBounds_toArray, set_cons_succ, set_cons_zero, Array.getD_eq_getD_getElem?, List.getElem?_toArray, List.getElem?_cons_succ, List.getElem?_cons_zero, Option.getD_some] <;> rfl) rfl (by rw [hSd] at hS ⊢; exact hS)
  case rest =>
    intro L f WA hL hh hS
    rw [hSd] at hS
    clear hSd
    have l11 : L 11 = true := hL 11 (by decide)
    simp only [stage, l11, if_true] at hS
    clear hL l11
    obtain ⟨h0, h1, h2, h3, h4, h5, h6, h7, h8, h9, h10, h11, h12, -⟩ := hh
    have g0 : f 0 = _ := h0
    have g1 : f 1 = _ := h1
    have g2 : f 2 = _ := h2
    have g3 : f 3 = _ := h3
    have g4 : f 4 = _ := h4
    have g5 : f 5 = _ := h5
    have g6 : f 6 = _ := h6
    have g7 : f 7 = _ := h7
    have g8 : f 8 = _ := h8
    have g9 : f 9 = _ := h9
    obtain ⟨b10, c10, g10⟩ := h10
    have g11 : f 11 = _ := h11
    have g12 : f 12 = _ := h12
    simp only [puts, foldr_cons, foldr_nil, setIfInBounds_toArray, set_cons_succ, set_cons_zero, g0, g1, g2, g3, g4, g5, g6, g7, g8, g9, g10, g11, g12]
    clear h0 h1 h2 h3 h4 h5 h6 h7 h8 h9 h11 h12 g0 g1 g2 g3 g4 g5 g6 g7 g8 g9 g11 g12
    obtain ⟨hbA, hdA, -⟩ := hS
    go_wp2
    go_ret
    exact ⟨rfl, hB.trans (hbA.mono hB.size), by rw [← HD2.out]; exact hdA⟩
end Go.Proofs.Ytpcbmhfnefhenaa
