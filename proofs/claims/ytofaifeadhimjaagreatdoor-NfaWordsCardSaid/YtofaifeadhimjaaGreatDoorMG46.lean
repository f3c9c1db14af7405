import Derived.Test.YtofaifeadhimjaaGreatDoorMG5
import Derived.Test.YtofaifeadhimjaaGreatDoorMG10
import Derived.Test.YtofaifeadhimjaaGreatDoorMG25
import Derived.Test.YtofaifeadhimjaaGreatDoorMG33
import Derived.Test.YtofaifeadhimjaaGreatDoorMG43
import Derived.Test.YtofaifeadhimjaaGreatDoorMG44
/-
  NfaWe, NfaOg
-/
set_option linter.unusedSimpArgs false
set_option linter.unusedVariables false
namespace Go.Proofs.YtofaifeadhimjaaGreatDoor
open List (foldr_cons foldr_nil setIfInBounds_toArray set_cons_succ set_cons_zero)
open Go.RowKit
attribute [local go_sem] Oper.semAt_some

set_option maxRecDepth 20000 in
set_option maxHeartbeats 2000000 in
theorem refSame_any {a b : Nfa} {h k : NH} {w : World} (hd : IsNfa w h a) (he : IsNfa w k b) (hsl : h.sl ≤ 100000) :
  Calls Tryz.prog 14 #[vNf a h, vNf b k] w fun e w' => e = .returned (.bool (eqN a b)) ∧ Below w.heap.size w w' := by
 obtain ⟨V, hV⟩ : ∃ V, eqN a b = V := ⟨_, rfl⟩
 rw [hV]
 have HN : ¬ (a.n = b.n ∧ a.s = b.s ∧ a.fin = b.fin ∧ a.arcs = b.arcs) → V = false := fun h => by rw [← hV]; exact decide_eq_false h
 have HY : (a.n = b.n ∧ a.s = b.s ∧ a.fin = b.fin ∧ a.arcs = b.arcs) → V = true := fun h => by rw [← hV]; exact decide_eq_true h
 clear hV
 obtain ⟨W1, hW1, hs1, hb1, hO⟩ := boxRN a h w hd
 have he1 := he.later hb1
 obtain ⟨W2, hW2, hs2, hb2, hP⟩ := boxRN b k W1 he1
 obtain ⟨⟨p1, p2, p3, p4⟩, hd1, -⟩ := hO W2 (hb2.mono (by omega))
 obtain ⟨⟨q1, q2, q3, q4⟩, he2, -⟩ := hP W2 (Below.refl _ _)
 have hB : Below w.heap.size w W2 := hb1.trans (hb2.mono (by omega))
 have hall : ∀ W, Below W2.heap.size W2 W → (W.cell? ⟨w.heap.size, 2, none⟩ = some (.slice h.fa h.fl h.fc) ∧ W.cell? ⟨w.heap.size, 3, none⟩ = some (.slice h.aa h.al h.ac)) ∧ (W.cell? ⟨w.heap.size + 1, 2, none⟩ = some (.slice k.fa k.fl k.fc) ∧ W.cell? ⟨w.heap.size + 1, 3, none⟩ = some (.slice k.aa k.al k.ac)) ∧ IsNfa W h a ∧ IsNfa W k b := fun W hb => by
  have h1 := hO W ((hb2.mono (by omega)).trans (hb.mono (by omega)))
  have h2 := hP W (hb.mono (by omega))
  rw [hs1] at h2
  exact ⟨h1.1.2.2, h2.1.2.2, h1.2.1, h2.2.1⟩
 rw [hs1] at q1 q2 q3 q4
 have hi := Bt.same_any _ _ _ _ _ _ _ _ W2 hd1.start he2.start (by omega)
 clear hd he he1 hO hP hd1 he2 hb1 hb2
 obtain ⟨n, s, fin, es⟩ := a
 obtain ⟨sa, sl, sc, fa, fl, fc, aa, al, ac⟩ := h
 obtain ⟨n', s', fin', es'⟩ := b
 obtain ⟨sa', sl', sc', fa', fl', fc', aa', al', ac'⟩ := k
 simp only [vNf] at hW1 hW2 p1 p2 p3 p4 q1 q2 q3 q4 hi hall HN HY ⊢
 have HN := Lib.hid HN
 have HY := Lib.hid HY
 have HA := Lib.hid hall
 clear hall
 by_cases h1 : n = n'
 case neg =>
  have t1 : (n == n') = false := by simpa using h1
  have t2 : (n != n') = true := by simpa using h1
  have HF := Lib.hid (HN.out fun h => h1 h.1)
  clear h1
  go_enter Tryz.func14, Tryz.ntmps14
  go_wp2
  go_ret
  exact ⟨by rw [HF.out]; rfl, hB⟩
 subst h1
 have t1 : (n == n) = true := by simp
 have t2 : (n != n) = false := by simp
 by_cases h2 : s = s'
 case neg =>
  rw [decide_eq_false h2] at hi
  have HF := Lib.hid (HN.out fun h => h2 h.2.1)
  clear h2
  go_enter Tryz.func14, Tryz.ntmps14
  go_wp2_with (go_at_call 13; refine hi.mono ?_; rintro e w3 ⟨rfl, hb3⟩)
  go_ret
  exact ⟨by rw [HF.out]; rfl, hB.trans (hb3.mono hB.size)⟩
 rw [decide_eq_true h2] at hi
 have H2 := Lib.hid h2
 clear h2
 by_cases h3 : fin = fin'
 case neg =>
  have H3 := Lib.hid h3
  have HF := Lib.hid (HN.out fun h => h3 h.2.2.1)
  clear h3
  go_enter Tryz.func14, Tryz.ntmps14
  go_wp2_with (first
   | (go_at_call 13; refine hi.mono ?_; rintro e w3 ⟨rfl, hb3⟩; obtain ⟨⟨r1, r2⟩, ⟨r3, r4⟩, r5, r6⟩ := HA.out w3 hb3; have hf := sameBools_any _ _ _ _ _ _ _ _ w3 r5.fin r6.fin; rw [decide_eq_false H3.out] at hf; clear r5 r6)
   | (go_at_call 35; refine hf.mono ?_; rintro e w4 ⟨rfl, hb4⟩))
  go_ret
  exact ⟨by rw [HF.out]; rfl, hB.trans ((hb3.trans (hb4.mono hb3.size)).mono hB.size)⟩
 have H3 := Lib.hid h3
 clear h3
 have HF : Hid (V = decide (es = es')) := Lib.hid (by
  by_cases h4 : es = es'
  ·rw [decide_eq_true h4]; exact HY.out ⟨rfl, H2.out, H3.out, h4⟩
  ·rw [decide_eq_false h4]; exact HN.out fun h => h4 h.2.2.2)
 go_enter Tryz.func14, Tryz.ntmps14
 go_wp2_with (first
  | (go_at_call 13; refine hi.mono ?_; rintro e w3 ⟨rfl, hb3⟩; obtain ⟨⟨r1, r2⟩, ⟨r3, r4⟩, r5, r6⟩ := HA.out w3 hb3; have hf := sameBools_any _ _ _ _ _ _ _ _ w3 r5.fin r6.fin; rw [decide_eq_true H3.out] at hf; clear r5 r6)
  | (go_at_call 35; refine hf.mono ?_; rintro e w4 ⟨rfl, hb4⟩; obtain ⟨⟨r1, r2⟩, ⟨r3, r4⟩, r5, r6⟩ := HA.out w4 (hb3.trans (hb4.mono hb3.size)); have hg := sameArcs_any _ _ _ _ _ _ _ _ w4 r5.arcs r6.arcs; clear r5 r6)
  | (go_at_call 36; refine hg.mono ?_; rintro e w5 ⟨rfl, hb5⟩))
 go_ret
 exact ⟨by rw [HF.out]; rfl, hB.trans ((hb3.trans ((hb4.trans (hb5.mono hb4.size)).mono hb3.size)).mono hB.size)⟩
def RBoxN (b : Nat) (D : Nfa) (W : World) : Prop := ∃ h', W.heap[b]? = some (.cells #[.int .i64 D.n, .slice h'.sa h'.sl h'.sc, .slice h'.fa h'.fl h'.fc, .slice h'.aa h'.al h'.ac] 26 (0, 0)) ∧ IsNfa W h' D
theorem rnfa_i : (Tryz.prog.info? 26).map (·.size) = some 4 := by kernel_rfl
theorem rnbox_ready {W1 : World} {B : Nat} (hs : W1.heap.size = B + 1) : ∃ W2, W1.alloc (.cells #[.int .i64 0, .slice none 0 0, .slice none 0 0, .slice none 0 0] 26) = W2 ∧ Below W1.heap.size W1 W2 ∧ W2.heap.size = B + 2 ∧ W2.heap[B + 1]? = some (.cells #[.int .i64 0, .slice none 0 0, .slice none 0 0, .slice none 0 0] 26 (0, 0)) :=
 ⟨_, rfl, (Below.refl _ _).alloc (Nat.le_refl _) _, by simp; omega, by rw [← hs]; exact heap_alloc_new W1 _⟩
set_option maxRecDepth 20000 in
set_option maxHeartbeats 4000000 in
theorem theirs_any {a : Nfa} {h : NH} {w : World} (hd : IsNfa w h a) (hl : h.al ≤ 1000000) : Calls Tryz.prog 15 #[vNf a h] w (GivesN a w) := by
 obtain ⟨W1, hW1, hs1, hb1, hO⟩ := boxNW a h w hd
 obtain ⟨W2, hW2, hb2, hs2, hZ2⟩ := rnbox_ready hs1
 have HOB : Hid (∀ W, Below W2.heap.size W2 W → (W.cell? ⟨w.heap.size, 0, none⟩ = some (.int .i64 a.n) ∧ W.cell? ⟨w.heap.size, 1, none⟩ = some (.slice h.sa h.sl h.sc) ∧ W.cell? ⟨w.heap.size, 2, none⟩ = some (.slice h.fa h.fl h.fc) ∧ W.cell? ⟨w.heap.size, 3, none⟩ = some (.slice h.aa h.al h.ac)) ∧ IsNfa W h a ∧ W.heap[w.heap.size + 1]? = some (.cells #[.int .i64 0, .slice none 0 0, .slice none 0 0, .slice none 0 0] 26 (0, 0)) ∧ Below w.heap.size w W) := Lib.hid (fun W hb => by
  obtain ⟨h1, h2, h3⟩ := hO W ((hb2.mono (by omega)).trans (hb.mono (by omega)))
  exact ⟨h1, h2, by rw [hb.block _ (by omega)]; exact hZ2, h3⟩)
 have hb0 : Below W2.heap.size W2 W2 := Below.refl _ _
 have HD0 := Lib.hid hd
 clear hO hb2 hb1 hd hZ2 hs2
 unfold vNf
 obtain ⟨N, ss, fin, es⟩ := a
 obtain ⟨sa, sl, sc, fa, fl, fc, aa, al, ac⟩ := h
 simp only [vNf] at hW1 hW2 HOB HD0 hl ⊢
 go_enter Tryz.func15, Tryz.ntmps15
 go_wp2_with (fail)
 obtain ⟨S, hSd⟩ : ∃ S : (Nat → Bool) → (Nat → Value) → World → Prop, S = fun L f W => if L 10 = true then Below w.heap.size w W ∧ RBoxN (w.heap.size + 1) ⟨N, ss, fin, es⟩ W else Below W2.heap.size W2 W ∧ (L 8 = true → ∃ a c, f 8 = .slice a al c ∧ IsArcs W a al c es) ∧ (L 9 = true → f 9 = .agg #[.int .i64 N, .slice sa sl sc, .slice fa fl fc, f 8]) := ⟨_, rfl⟩
 refine wp_region_st mixed (by kernel_rfl) [[], [(0, 3)], [], [(2, 5)], [], [(4, 7)], [], [(6, 9)], [(7, 10)], [(1, 4), (3, 6), (5, 8), (8, 11)], [(9, 12), (8, 11), (0, 3), (1, 4), (2, 5), (3, 6), (4, 7), (5, 8), (6, 9), (7, 10), (8, 11), (9, 12)]] [(0, 3), (1, 4), (2, 5), (3, 6), (4, 7), (5, 8), (6, 9), (7, 10), (8, 11), (9, 12)] rfl rfl [EV ?et0, EV ?et1, EV ?et2, EV ?et3, EV ?et4, EV ?et5, EV ?et6, EV ?et7, fun v => ∃ a c, v = .slice a al c, fun v => ∃ z, v = .agg #[.int .i64 N, .slice sa sl sc, .slice fa fl fc, z], fun _ => True] S ?tstart ?tsteps ?trest
 case tstart =>
  intro f
  rw [hSd]
  exact ⟨hb0.drew, fun h => (by cases h), fun h => (by cases h)⟩
 case tsteps =>
  refine ⟨fun L f W hi hd hdn hh hS => ?_, fun L f W hi hd hdn hh hS => ?_, fun L f W hi hd hdn hh hS => ?_, fun L f W hi hd hdn hh hS => ?_, fun L f W hi hd hdn hh hS => ?_, fun L f W hi hd hdn hh hS => ?_, fun L f W hi hd hdn hh hS => ?_, fun L f W hi hd hdn hh hS => ?_, fun L f W hi hd hdn hh hS => ?_, fun L f W hi hd hdn hh hS => ?_, fun L f W hi hd hdn hh hS => ?_, trivial⟩
  ·
   unfold stStep
   rw [if_pos (by simp [Region.wanted])]
   intro K Q hK
   simp only [puts, foldr_nil]
   go_step
   refine st_ex hK rfl rfl (by simp only [Act.put, setIfInBounds_toArray, set_cons_succ, set_cons_zero, Array.getD_eq_getD_getElem?, List.getElem?_toArray, List.getElem?_cons_succ, List.getElem?_cons_zero, Option.getD_some] <;> rfl) rfl (by rw [hSd] at hS ⊢; exact hS)
  ·
   obtain ⟨h0, -⟩ := hh
   have g0 : f 0 = _ := h0
   have l10 : L 10 = false := Bool.eq_false_iff.2 fun h => by have q := hdn 10 _ h rfl 1 (by decide); rw [show L 1 = false from hi] at q; cases q
   unfold stStep
   rw [if_pos (by simp [Region.wanted])]
   intro K Q hK
   simp only [puts, Za, Zb, Zc, Zd, Ze, g0]
   have hS' := hS
   rw [hSd] at hS'
   simp only [l10, if_false, Bool.false_eq_true] at hS'
   obtain ⟨⟨q1, q2, q3, q4⟩, -, -, -⟩ := HOB.out W hS'.1
   go_step
   refine st_ex hK rfl rfl (by simp only [Act.put, setIfInBounds_toArray, set_cons_succ, set_cons_zero, Array.getD_eq_getD_getElem?, List.getElem?_toArray, List.getElem?_cons_succ, List.getElem?_cons_zero, Option.getD_some] <;> rfl) rfl (by rw [hSd] at hS ⊢; exact hS)
  ·
   unfold stStep
   rw [if_pos (by simp [Region.wanted])]
   intro K Q hK
   simp only [puts, foldr_nil]
   go_step
   refine st_ex hK rfl rfl (by simp only [Act.put, setIfInBounds_toArray, set_cons_succ, set_cons_zero, Array.getD_eq_getD_getElem?, List.getElem?_toArray, List.getElem?_cons_succ, List.getElem?_cons_zero, Option.getD_some] <;> rfl) rfl (by rw [hSd] at hS ⊢; exact hS)
  ·
   obtain ⟨h2, -⟩ := hh
   have g2 : f 2 = _ := h2
   have l10 : L 10 = false := Bool.eq_false_iff.2 fun h => by have q := hdn 10 _ h rfl 3 (by decide); rw [show L 3 = false from hi] at q; cases q
   unfold stStep
   rw [if_pos (by simp [Region.wanted])]
   intro K Q hK
   simp only [puts, Za, Zb, Zc, Zd, Ze, g2]
   have hS' := hS
   rw [hSd] at hS'
   simp only [l10, if_false, Bool.false_eq_true] at hS'
   obtain ⟨⟨q1, q2, q3, q4⟩, -, -, -⟩ := HOB.out W hS'.1
   go_step
   refine st_ex hK rfl rfl (by simp only [Act.put, setIfInBounds_toArray, set_cons_succ, set_cons_zero, Array.getD_eq_getD_getElem?, List.getElem?_toArray, List.getElem?_cons_succ, List.getElem?_cons_zero, Option.getD_some] <;> rfl) rfl (by rw [hSd] at hS ⊢; exact hS)
  ·
   unfold stStep
   rw [if_pos (by simp [Region.wanted])]
   intro K Q hK
   simp only [puts, foldr_nil]
   go_step
   refine st_ex hK rfl rfl (by simp only [Act.put, setIfInBounds_toArray, set_cons_succ, set_cons_zero, Array.getD_eq_getD_getElem?, List.getElem?_toArray, List.getElem?_cons_succ, List.getElem?_cons_zero, Option.getD_some] <;> rfl) rfl (by rw [hSd] at hS ⊢; exact hS)
  ·
   obtain ⟨h4, -⟩ := hh
   have g4 : f 4 = _ := h4
   have l10 : L 10 = false := Bool.eq_false_iff.2 fun h => by have q := hdn 10 _ h rfl 5 (by decide); rw [show L 5 = false from hi] at q; cases q
   unfold stStep
   rw [if_pos (by simp [Region.wanted])]
   intro K Q hK
   simp only [puts, Za, Zb, Zc, Zd, Ze, g4]
   have hS' := hS
   rw [hSd] at hS'
   simp only [l10, if_false, Bool.false_eq_true] at hS'
   obtain ⟨⟨q1, q2, q3, q4⟩, -, -, -⟩ := HOB.out W hS'.1
   go_step
   refine st_ex hK rfl rfl (by simp only [Act.put, setIfInBounds_toArray, set_cons_succ, set_cons_zero, Array.getD_eq_getD_getElem?, List.getElem?_toArray, List.getElem?_cons_succ, List.getElem?_cons_zero, Option.getD_some] <;> rfl) rfl (by rw [hSd] at hS ⊢; exact hS)
  ·
   unfold stStep
   rw [if_pos (by simp [Region.wanted])]
   intro K Q hK
   simp only [puts, foldr_nil]
   go_step
   refine st_ex hK rfl rfl (by simp only [Act.put, setIfInBounds_toArray, set_cons_succ, set_cons_zero, Array.getD_eq_getD_getElem?, List.getElem?_toArray, List.getElem?_cons_succ, List.getElem?_cons_zero, Option.getD_some] <;> rfl) rfl (by rw [hSd] at hS ⊢; exact hS)
  ·
   obtain ⟨h6, -⟩ := hh
   have g6 : f 6 = _ := h6
   have l10 : L 10 = false := Bool.eq_false_iff.2 fun h => by have q := hdn 10 _ h rfl 7 (by decide); rw [show L 7 = false from hi] at q; cases q
   unfold stStep
   rw [if_pos (by simp [Region.wanted])]
   intro K Q hK
   simp only [puts, Za, Zb, Zc, Zd, Ze, g6]
   have hS' := hS
   rw [hSd] at hS'
   simp only [l10, if_false, Bool.false_eq_true] at hS'
   obtain ⟨⟨q1, q2, q3, q4⟩, -, -, -⟩ := HOB.out W hS'.1
   go_step
   refine st_ex hK rfl rfl (by simp only [Act.put, setIfInBounds_toArray, set_cons_succ, set_cons_zero, Array.getD_eq_getD_getElem?, List.getElem?_toArray, List.getElem?_cons_succ, List.getElem?_cons_zero, Option.getD_some] <;> rfl) rfl (by rw [hSd] at hS ⊢; exact hS)
  ·
   obtain ⟨h7, -⟩ := hh
   have g7 : f 7 = _ := h7
   have l9 : L 9 = false := Bool.eq_false_iff.2 fun h => by have q := hdn 9 _ h rfl 8 (by decide); rw [show L 8 = false from hi] at q; cases q
   have l10 : L 10 = false := Bool.eq_false_iff.2 fun h => by have q := hdn 10 _ h rfl 9 (by decide); rw [show L 9 = false from l9] at q; cases q
   unfold stStep
   rw [if_pos (by simp [Region.wanted])]
   intro K Q hK
   simp only [puts, Za, Zb, Zc, Zd, Ze, g7]
   rw [hSd] at hS hK
   have l8 : L 8 = false := hi
   try simp only [stage, l9, l10, l8, if_true, if_false, Bool.false_eq_true] at hS
   obtain ⟨hbW, -, -⟩ := hS
   obtain ⟨-, hdW, -, -⟩ := HOB.out W hbW
   have hcn := lawArcs_any hdW.arcs (by simp only; omega)
   go_step
   go_at_call 37
   refine hcn.mono ?_
   rintro e w' ⟨⟨a', c', rfl, hI⟩, hb⟩
   refine hK.out _ _ rfl ⟨a', c', rfl⟩ ?_
   simp only [l10, Bool.false_eq_true, ↓reduceIte, Nat.reduceEqDiff]
   exact ⟨hbW.trans (hb.mono hbW.size), fun _ => ⟨a', c', rfl, (IsArcs.of_owns hI).1⟩, fun h => (by simp [l9] at h)⟩
  ·
   obtain ⟨h1, h3, h5, h8, -⟩ := hh
   have g1 : f 1 = _ := h1
   have g3 : f 3 = _ := h3
   have g5 : f 5 = _ := h5
   obtain ⟨a8, c8, (g8 : f 8 = _)⟩ := h8
   have l8 : L 8 = true := hd 8 (by decide)
   have l10 : L 10 = false := Bool.eq_false_iff.2 fun h => by have q := hdn 10 _ h rfl 9 (by decide); rw [show L 9 = false from hi] at q; cases q
   unfold stStep
   rw [if_pos (by simp [Region.wanted])]
   intro K Q hK
   simp only [puts, Za, Zb, Zc, Zd, Ze, g1, g3, g5, g8]
   rw [hSd] at hS hK
   have l9 : L 9 = false := hi
   try simp only [stage, l10, l9, l8, if_true, if_false, Bool.false_eq_true] at hS
   obtain ⟨hbW, h8W, -⟩ := hS
   go_step
   refine hK.out _ _ rfl ⟨_, rfl⟩ ?_
   simp only [l10, Bool.false_eq_true, ↓reduceIte, Nat.reduceEqDiff]
   exact ⟨hbW, fun _ => h8W trivial, fun _ => (by rw [g8]; rfl)⟩
  ·
   obtain ⟨h9, h8, h0, h1, h2, h3, h4, h5, h6, h7, _, _, -⟩ := hh
   obtain ⟨z9, (g9 : f 9 = _)⟩ := h9
   obtain ⟨a8, c8, (g8 : f 8 = _)⟩ := h8
   have g0 : f 0 = _ := h0
   have g1 : f 1 = _ := h1
   have g2 : f 2 = _ := h2
   have g3 : f 3 = _ := h3
   have g4 : f 4 = _ := h4
   have g5 : f 5 = _ := h5
   have g6 : f 6 = _ := h6
   have g7 : f 7 = _ := h7
   have l9 : L 9 = true := hd 9 (by decide)
   unfold stStep
   rw [if_pos (by simp [Region.wanted])]
   intro K Q hK
   simp only [puts, Za, Zb, Zc, Zd, Ze, g9, g8, g0, g1, g2, g3, g4, g5, g6, g7]
   rw [hSd] at hS hK
   have l10 : L 10 = false := hi
   try simp only [stage, l10, l9, if_true, if_false, Bool.false_eq_true] at hS
   obtain ⟨hbW, h8W, h9W⟩ := hS
   obtain ⟨a', c', e8, hI⟩ := h8W (hd 8 (by decide))
   have e9 := h9W trivial
   rw [g9, e8] at e9
   obtain rfl : z9 = .slice a' al c' := by simpa using e9
   obtain ⟨-, hdW, hZW, hbw⟩ := HOB.out W hbW
   refine wp_store_row 26 _ _ rfl (w.heap.size + 1) #[.int .i64 N, .slice sa sl sc, .slice fa fl fc, .slice a' al c'] rfl rfl _ _ hZW rnfa_i rfl (nfa_one _ _ _ _ _ _ _ _ _ _) ?_
   refine hK.out _ _ rfl trivial ?_
   simp only [↓reduceIte, Nat.reduceEqDiff]
   have hbf := below_setRow hbw (show w.heap.size ≤ w.heap.size + 1 by omega) #[.int .i64 N, .slice sa sl sc, .slice fa fl fc, .slice a' al c']
   have hdf := HD0.out.later hbf
   exact ⟨hbf, ⟨sa, sl, sc, fa, fl, fc, a', al, c'⟩, setRow_heap _ _ _ _ _ _ hZW, ⟨hdf.start, hdf.fin, arcs_bx hZW hI⟩⟩
 case trest =>
  intro L f WE hL hh hS
  rw [hSd] at hS
  clear hSd
  have l8 : L 8 = true := hL 8 (by decide)
  have l9 : L 9 = true := hL 9 (by decide)
  have l10 : L 10 = true := hL 10 (by decide)
  simp only [stage, l8, l9, l10, if_true] at hS
  clear hL l8 l9 l10
  obtain ⟨h0, h1, h2, h3, h4, h5, h6, h7, h8, h9, -⟩ := hh
  have g0 : f 0 = _ := h0
  have g1 : f 1 = _ := h1
  have g2 : f 2 = _ := h2
  have g3 : f 3 = _ := h3
  have g4 : f 4 = _ := h4
  have g5 : f 5 = _ := h5
  have g6 : f 6 = _ := h6
  have g7 : f 7 = _ := h7
  obtain ⟨a8, c8, (g8 : f 8 = _)⟩ := h8
  obtain ⟨z9, (g9 : f 9 = _)⟩ := h9
  simp only [puts, Za, Zb, Zc, Zd, Ze, g0, g1, g2, g3, g4, g5, g6, g7, g8, g9]
  clear h0 h1 h2 h3 h4 h5 h6 h7 g0 g1 g2 g3 g4 g5 g6 g7
  obtain ⟨hbE, h', hZE, hDE⟩ := hS
  go_wp2_with (fail)
  refine bodyPost_ret (results_cell_row rfl _ _ (w.heap.size + 1) _ _ _ _ rfl hZE Tryz.underlying26 rfl rnfa_i) rfl ?_
  exact ⟨⟨h', rfl, hDE⟩, hbE⟩
end Go.Proofs.YtofaifeadhimjaaGreatDoor

set_option linter.unusedSimpArgs false
set_option linter.unusedVariables false
namespace Go.Proofs.YtofaifeadhimjaaGreatDoor
open List (foldr_cons foldr_nil setIfInBounds_toArray set_cons_succ set_cons_zero)
open Go.RowKit

set_option maxRecDepth 20000 in
theorem order_grew (x y : A3) (w : World) : Calls Tryz.prog 33 #[vA x, vA y] w fun e w' => e = .returned (.int .i64 (ordN x y)) ∧ Below w.heap.size w w' ∧ w.drawn ≤ w'.drawn := by
 obtain ⟨x1, x2, x3⟩ := x
 obtain ⟨y1, y2, y3⟩ := y
 obtain ⟨hb1, hs1, hX⟩ := boxA ⟨x1, x2, x3⟩ w
 obtain ⟨W1, hW1⟩ : ∃ W1, w.alloc (.cells #[.int .i64 x1, .int .i64 x2, .int .i64 x3] 50) = W1 := ⟨_, rfl⟩
 simp only at hb1 hs1 hX
 have hd1 : W1.drawn = w.drawn := by rw [← hW1]; rfl
 rw [hW1] at hb1 hs1 hX
 obtain ⟨hb2, hs2, hY⟩ := boxA ⟨y1, y2, y3⟩ W1
 obtain ⟨W2, hW2⟩ : ∃ W2, W1.alloc (.cells #[.int .i64 y1, .int .i64 y2, .int .i64 y3] 50) = W2 := ⟨_, rfl⟩
 simp only at hb2 hs2 hY
 have hd2 : W2.drawn = w.drawn := by rw [← hW2, ← hd1]; rfl
 rw [hW2] at hb2 hs2 hY
 have hB : Below w.heap.size w W2 := hb1.trans (hb2.mono (by omega))
 have hXc : ∀ W, Below W2.heap.size W2 W → (W.cell? ⟨w.heap.size, 0, none⟩ = some (.int .i64 x1) ∧ W.cell? ⟨w.heap.size, 1, none⟩ = some (.int .i64 x2) ∧ W.cell? ⟨w.heap.size, 2, none⟩ = some (.int .i64 x3)) ∧ W.cell? ⟨w.heap.size + 1, 0, none⟩ = some (.int .i64 y1) ∧ W.cell? ⟨w.heap.size + 1, 1, none⟩ = some (.int .i64 y2) ∧ W.cell? ⟨w.heap.size + 1, 2, none⟩ = some (.int .i64 y3) := fun W hb => by
  have h1 := hX W ((hb2.mono (by omega)).trans (hb.mono (by omega)))
  have h2 := hY W (hb.mono (by omega))
  rw [hs1] at h2
  exact ⟨⟨h1.1, h1.2.1, h1.2.2⟩, h2.1, h2.2.1, h2.2.2⟩
 have HD2 := Lib.hid hd2
 unfold vA
 go_enter Tryz.func33, Tryz.ntmps33
 go_wp2_with (fail)
 clear hW1 hW2 hX hY hb1 hb2 hd1 hd2
 obtain ⟨S, hSd⟩ : ∃ S : (Nat → Bool) → (Nat → Value) → World → Prop, S = fun L f W => Below W2.heap.size W2 W ∧ W2.drawn ≤ W.drawn ∧ (L 15 = true → L 16 = false → TriP (Lib.compareInt x1 y1) (Lib.compareInt x2 y2) (Lib.compareInt x3 y3) (f 15) W) := ⟨_, rfl⟩
 refine wp_region_st mixed (by kernel_rfl) [[], [(0, 5)], [], [(2, 7)], [(1, 6), (3, 8)], [], [(5, 10)], [], [(7, 12)], [(6, 11), (8, 13), (4, 9)], [], [(10, 15)], [], [(12, 17)], [(11, 16), (13, 18), (9, 14)], [(4, 9), (9, 14), (14, 19)], [(15, 20), (14, 19)], [(16, 21), (16, 21), (0, 5), (1, 6), (2, 7), (3, 8), (4, 9), (5, 10), (6, 11), (7, 12), (8, 13), (9, 14), (10, 15), (11, 16), (12, 17), (13, 18), (14, 19), (15, 20), (16, 21)]] [(0, 5), (1, 6), (2, 7), (3, 8), (4, 9), (5, 10), (6, 11), (7, 12), (8, 13), (9, 14), (10, 15), (11, 16), (12, 17), (13, 18), (14, 19), (15, 20), (16, 21), (17, 4)] rfl rfl [EV ?e0, EV ?e1, EV ?e2, EV ?e3, EV (.int .i64 (Lib.compareInt x1 y1)), EV ?e5, EV ?e6, EV ?e7, EV ?e8, EV (.int .i64 (Lib.compareInt x2 y2)), EV ?e10, EV ?e11, EV ?e12, EV ?e13, EV (.int .i64 (Lib.compareInt x3 y3)), fun v => ∃ b c, v = .slice (some ⟨b, 0, none⟩) 3 c, EV (.int .i64 (orL [Lib.compareInt x1 y1, Lib.compareInt x2 y2, Lib.compareInt x3 y3])), EV ?e17] S ?start ?steps ?rest
 case start =>
  intro f
  rw [hSd]
  exact ⟨(Below.refl _ _).drew, Nat.le_succ _, fun h => (by cases h)⟩
 case steps =>
  refine ⟨fun L f W hi hd hdn hh hS => ?_, fun L f W hi hd hdn hh hS => ?_, fun L f W hi hd hdn hh hS => ?_, fun L f W hi hd hdn hh hS => ?_, fun L f W hi hd hdn hh hS => ?_, fun L f W hi hd hdn hh hS => ?_, fun L f W hi hd hdn hh hS => ?_, fun L f W hi hd hdn hh hS => ?_, fun L f W hi hd hdn hh hS => ?_, fun L f W hi hd hdn hh hS => ?_, fun L f W hi hd hdn hh hS => ?_, fun L f W hi hd hdn hh hS => ?_, fun L f W hi hd hdn hh hS => ?_, fun L f W hi hd hdn hh hS => ?_, fun L f W hi hd hdn hh hS => ?_, fun L f W hi hd hdn hh hS => ?_, fun L f W hi hd hdn hh hS => ?_, fun L f W hi hd hdn hh hS => ?_, trivial⟩
  ·
   unfold stStep
   rw [if_pos (by simp [Region.wanted])]
   intro K Q hK
   simp only [puts, foldr_nil]
   go_step
   refine st_ex hK rfl rfl (by simp only [Act.put, setIfInBounds_toArray, set_cons_succ, set_cons_zero, Array.getD_eq_getD_getElem?, List.getElem?_toArray, List.getElem?_cons_succ, List.getElem?_cons_zero, Option.getD_some] <;> rfl) rfl (by rw [hSd] at hS ⊢; exact hS)
  ·
   obtain ⟨h0, -⟩ := hh
   have g0 : f 0 = _ := h0
   unfold stStep
   rw [if_pos (by simp [Region.wanted])]
   intro K Q hK
   simp only [puts, Za, Zb, Zc, Zd, Ze, g0]
   have hS' := hS
   rw [hSd] at hS'
   obtain ⟨⟨cx1, cx2, cx3⟩, cy1, cy2, cy3⟩ := hXc W hS'.1
   go_step
   refine st_ex hK rfl rfl (by simp only [Act.put, setIfInBounds_toArray, set_cons_succ, set_cons_zero, Array.getD_eq_getD_getElem?, List.getElem?_toArray, List.getElem?_cons_succ, List.getElem?_cons_zero, Option.getD_some] <;> rfl) rfl (by rw [hSd] at hS ⊢; exact hS)
  ·
   unfold stStep
   rw [if_pos (by simp [Region.wanted])]
   intro K Q hK
   simp only [puts, foldr_nil]
   go_step
   refine st_ex hK rfl rfl (by simp only [Act.put, setIfInBounds_toArray, set_cons_succ, set_cons_zero, Array.getD_eq_getD_getElem?, List.getElem?_toArray, List.getElem?_cons_succ, List.getElem?_cons_zero, Option.getD_some] <;> rfl) rfl (by rw [hSd] at hS ⊢; exact hS)
  ·
   obtain ⟨h2, -⟩ := hh
   have g2 : f 2 = _ := h2
   unfold stStep
   rw [if_pos (by simp [Region.wanted])]
   intro K Q hK
   simp only [puts, Za, Zb, Zc, Zd, Ze, g2]
   have hS' := hS
   rw [hSd] at hS'
   obtain ⟨⟨cx1, cx2, cx3⟩, cy1, cy2, cy3⟩ := hXc W hS'.1
   go_step
   refine st_ex hK rfl rfl (by simp only [Act.put, setIfInBounds_toArray, set_cons_succ, set_cons_zero, Array.getD_eq_getD_getElem?, List.getElem?_toArray, List.getElem?_cons_succ, List.getElem?_cons_zero, Option.getD_some] <;> rfl) rfl (by rw [hSd] at hS ⊢; exact hS)
  ·
   obtain ⟨h1, h3, -⟩ := hh
   have g1 : f 1 = _ := h1
   have g3 : f 3 = _ := h3
   unfold stStep
   rw [if_pos (by simp [Region.wanted])]
   intro K Q hK
   simp only [puts, Za, Zb, Zc, Zd, Ze, g1, g3]
   rw [hSd] at hS hK
   have l4 : L 4 = false := hi
   try simp only [stage, l4, if_true, if_false, Bool.false_eq_true] at hS
   go_step
   go_at_call 59
   refine (Tryz.cmp_Compare_int x1 y1 W).mono ?_
   rintro e w' ⟨rfl, rfl⟩
   refine hK.out _ _ rfl rfl ?_
   simpa using hS
  ·
   unfold stStep
   rw [if_pos (by simp [Region.wanted])]
   intro K Q hK
   simp only [puts, foldr_nil]
   go_step
   refine st_ex hK rfl rfl (by simp only [Act.put, setIfInBounds_toArray, set_cons_succ, set_cons_zero, Array.getD_eq_getD_getElem?, List.getElem?_toArray, List.getElem?_cons_succ, List.getElem?_cons_zero, Option.getD_some] <;> rfl) rfl (by rw [hSd] at hS ⊢; exact hS)
  ·
   obtain ⟨h5, -⟩ := hh
   have g5 : f 5 = _ := h5
   unfold stStep
   rw [if_pos (by simp [Region.wanted])]
   intro K Q hK
   simp only [puts, Za, Zb, Zc, Zd, Ze, g5]
   have hS' := hS
   rw [hSd] at hS'
   obtain ⟨⟨cx1, cx2, cx3⟩, cy1, cy2, cy3⟩ := hXc W hS'.1
   go_step
   refine st_ex hK rfl rfl (by simp only [Act.put, setIfInBounds_toArray, set_cons_succ, set_cons_zero, Array.getD_eq_getD_getElem?, List.getElem?_toArray, List.getElem?_cons_succ, List.getElem?_cons_zero, Option.getD_some] <;> rfl) rfl (by rw [hSd] at hS ⊢; exact hS)
  ·
   unfold stStep
   rw [if_pos (by simp [Region.wanted])]
   intro K Q hK
   simp only [puts, foldr_nil]
   go_step
   refine st_ex hK rfl rfl (by simp only [Act.put, setIfInBounds_toArray, set_cons_succ, set_cons_zero, Array.getD_eq_getD_getElem?, List.getElem?_toArray, List.getElem?_cons_succ, List.getElem?_cons_zero, Option.getD_some] <;> rfl) rfl (by rw [hSd] at hS ⊢; exact hS)
  ·
   obtain ⟨h7, -⟩ := hh
   have g7 : f 7 = _ := h7
   unfold stStep
   rw [if_pos (by simp [Region.wanted])]
   intro K Q hK
   simp only [puts, Za, Zb, Zc, Zd, Ze, g7]
   have hS' := hS
   rw [hSd] at hS'
   obtain ⟨⟨cx1, cx2, cx3⟩, cy1, cy2, cy3⟩ := hXc W hS'.1
   go_step
   refine st_ex hK rfl rfl (by simp only [Act.put, setIfInBounds_toArray, set_cons_succ, set_cons_zero, Array.getD_eq_getD_getElem?, List.getElem?_toArray, List.getElem?_cons_succ, List.getElem?_cons_zero, Option.getD_some] <;> rfl) rfl (by rw [hSd] at hS ⊢; exact hS)
  ·
   obtain ⟨h6, h8, h4, -⟩ := hh
   have g6 : f 6 = _ := h6
   have g8 : f 8 = _ := h8
   have g4 : f 4 = _ := h4
   unfold stStep
   rw [if_pos (by simp [Region.wanted])]
   intro K Q hK
   simp only [puts, Za, Zb, Zc, Zd, Ze, g6, g8, g4]
   rw [hSd] at hS hK
   have l9 : L 9 = false := hi
   try simp only [stage, l9, if_true, if_false, Bool.false_eq_true] at hS
   go_step
   go_at_call 59
   refine (Tryz.cmp_Compare_int x2 y2 W).mono ?_
   rintro e w' ⟨rfl, rfl⟩
   refine hK.out _ _ rfl rfl ?_
   simpa using hS
  ·
   unfold stStep
   rw [if_pos (by simp [Region.wanted])]
   intro K Q hK
   simp only [puts, foldr_nil]
   go_step
   refine st_ex hK rfl rfl (by simp only [Act.put, setIfInBounds_toArray, set_cons_succ, set_cons_zero, Array.getD_eq_getD_getElem?, List.getElem?_toArray, List.getElem?_cons_succ, List.getElem?_cons_zero, Option.getD_some] <;> rfl) rfl (by rw [hSd] at hS ⊢; exact hS)
  ·
   obtain ⟨h10, -⟩ := hh
   have g10 : f 10 = _ := h10
   unfold stStep
   rw [if_pos (by simp [Region.wanted])]
   intro K Q hK
   simp only [puts, Za, Zb, Zc, Zd, Ze, g10]
   have hS' := hS
   rw [hSd] at hS'
   obtain ⟨⟨cx1, cx2, cx3⟩, cy1, cy2, cy3⟩ := hXc W hS'.1
   go_step
   refine st_ex hK rfl rfl (by simp only [Act.put, setIfInBounds_toArray, set_cons_succ, set_cons_zero, Array.getD_eq_getD_getElem?, List.getElem?_toArray, List.getElem?_cons_succ, List.getElem?_cons_zero, Option.getD_some] <;> rfl) rfl (by rw [hSd] at hS ⊢; exact hS)
  ·
   unfold stStep
   rw [if_pos (by simp [Region.wanted])]
   intro K Q hK
   simp only [puts, foldr_nil]
   go_step
   refine st_ex hK rfl rfl (by simp only [Act.put, setIfInBounds_toArray, set_cons_succ, set_cons_zero, Array.getD_eq_getD_getElem?, List.getElem?_toArray, List.getElem?_cons_succ, List.getElem?_cons_zero, Option.getD_some] <;> rfl) rfl (by rw [hSd] at hS ⊢; exact hS)
  ·
   obtain ⟨h12, -⟩ := hh
   have g12 : f 12 = _ := h12
   unfold stStep
   rw [if_pos (by simp [Region.wanted])]
   intro K Q hK
   simp only [puts, Za, Zb, Zc, Zd, Ze, g12]
   have hS' := hS
   rw [hSd] at hS'
   obtain ⟨⟨cx1, cx2, cx3⟩, cy1, cy2, cy3⟩ := hXc W hS'.1
   go_step
   refine st_ex hK rfl rfl (by simp only [Act.put, setIfInBounds_toArray, set_cons_succ, set_cons_zero, Array.getD_eq_getD_getElem?, List.getElem?_toArray, List.getElem?_cons_succ, List.getElem?_cons_zero, Option.getD_some] <;> rfl) rfl (by rw [hSd] at hS ⊢; exact hS)
  ·
   obtain ⟨h11, h13, h9, -⟩ := hh
   have g11 : f 11 = _ := h11
   have g13 : f 13 = _ := h13
   have g9 : f 9 = _ := h9
   unfold stStep
   rw [if_pos (by simp [Region.wanted])]
   intro K Q hK
   simp only [puts, Za, Zb, Zc, Zd, Ze, g11, g13, g9]
   rw [hSd] at hS hK
   have l14 : L 14 = false := hi
   try simp only [stage, l14, if_true, if_false, Bool.false_eq_true] at hS
   go_step
   go_at_call 59
   refine (Tryz.cmp_Compare_int x3 y3 W).mono ?_
   rintro e w' ⟨rfl, rfl⟩
   refine hK.out _ _ rfl rfl ?_
   simpa using hS
  ·
   obtain ⟨h4, h9, h14, -⟩ := hh
   have g4 : f 4 = _ := h4
   have g9 : f 9 = _ := h9
   have g14 : f 14 = _ := h14
   unfold stStep
   rw [if_pos (by simp [Region.wanted])]
   intro K Q hK
   simp only [puts, Za, Zb, Zc, Zd, Ze, g4, g9, g14]
   rw [hSd] at hS hK
   have l15 : L 15 = false := hi
   try simp only [stage, l15, if_true, if_false, Bool.false_eq_true] at hS
   obtain ⟨hbW, hdW, -⟩ := hS
   go_step
   refine hK.out _ _ rfl ⟨_, _, rfl⟩ ?_
   exact ⟨hbW.alloc hbW.size _, hdW, fun _ _ => tri_made _ _ _ _ _⟩
  ·
   obtain ⟨h15, h14, -⟩ := hh
   obtain ⟨b15, c15, g15⟩ := h15
   have g14 : f 14 = _ := h14
   have l15 : L 15 = true := hd 15 (by decide)
   unfold stStep
   rw [if_pos (by simp [Region.wanted])]
   intro K Q hK
   simp only [puts, Za, Zb, Zc, Zd, Ze, g15, g14]
   rw [hSd] at hS hK
   have l16 : L 16 = false := hi
   try simp only [stage, l16, l15, if_true, if_false, Bool.false_eq_true] at hS
   obtain ⟨hbW, hdW, h15⟩ := hS
   obtain ⟨q, c, e15, i15⟩ := h15 trivial trivial
   rw [g15] at e15
   obtain ⟨rfl, rfl⟩ : b15 = q ∧ c15 = c := by simpa using e15
   go_step
   go_at_call 58
   refine (or_any i15).mono ?_
   rintro e w' ⟨rfl, rfl⟩
   refine hK.out _ _ rfl rfl ?_
   exact ⟨hbW, hdW, fun _ h => (by simp at h)⟩
  ·
   obtain ⟨h16, _, h0, h1, h2, h3, h4, h5, h6, h7, h8, h9, h10, h11, h12, h13, h14, h15, _, -⟩ := hh
   have g16 : f 16 = _ := h16
   have g0 : f 0 = _ := h0
   have g1 : f 1 = _ := h1
   have g2 : f 2 = _ := h2
   have g3 : f 3 = _ := h3
   have g4 : f 4 = _ := h4
   have g5 : f 5 = _ := h5
   have g6 : f 6 = _ := h6
   have g7 : f 7 = _ := h7
   have g8 : f 8 = _ := h8
   have g9 : f 9 = _ := h9
   have g10 : f 10 = _ := h10
   have g11 : f 11 = _ := h11
   have g12 : f 12 = _ := h12
   have g13 : f 13 = _ := h13
   have g14 : f 14 = _ := h14
   obtain ⟨b15, c15, g15⟩ := h15
   unfold stStep
   rw [if_pos (by simp [Region.wanted])]
   intro K Q hK
   simp only [puts, Za, Zb, Zc, Zd, Ze, g16, g0, g1, g2, g3, g4, g5, g6, g7, g8, g9, g10, g11, g12, g13, g14, g15]
   go_step
   refine st_ex hK rfl rfl (by simp only [Act.put, setIfInBounds_toArray, set_cons_succ, set_cons_zero, Array.getD_eq_getD_getElem?, List.getElem?_toArray, List.getElem?_cons_succ, List.getElem?_cons_zero, Option.getD_some] <;> rfl) rfl (by rw [hSd] at hS ⊢; exact hS)
 case rest =>
  intro L f WA hL hh hS
  rw [hSd] at hS
  clear hSd
  have l16 : L 16 = true := hL 16 (by decide)
  simp only [stage, l16, if_true] at hS
  clear hL l16
  obtain ⟨h0, h1, h2, h3, h4, h5, h6, h7, h8, h9, h10, h11, h12, h13, h14, h15, h16, h17, -⟩ := hh
  have g0 : f 0 = _ := h0
  have g1 : f 1 = _ := h1
  have g2 : f 2 = _ := h2
  have g3 : f 3 = _ := h3
  have g4 : f 4 = _ := h4
  have g5 : f 5 = _ := h5
  have g6 : f 6 = _ := h6
  have g7 : f 7 = _ := h7
  have g8 : f 8 = _ := h8
  have g9 : f 9 = _ := h9
  have g10 : f 10 = _ := h10
  have g11 : f 11 = _ := h11
  have g12 : f 12 = _ := h12
  have g13 : f 13 = _ := h13
  have g14 : f 14 = _ := h14
  obtain ⟨b15, c15, g15⟩ := h15
  have g16 : f 16 = _ := h16
  have g17 : f 17 = _ := h17
  simp only [puts, Za, Zb, Zc, Zd, Ze, g0, g1, g2, g3, g4, g5, g6, g7, g8, g9, g10, g11, g12, g13, g14, g15, g16, g17]
  clear h0 h1 h2 h3 h4 h5 h6 h7 h8 h9 h10 h11 h12 h13 h14 h16 h17 g0 g1 g2 g3 g4 g5 g6 g7 g8 g9 g10 g11 g12 g13 g14 g16 g17
  obtain ⟨hbA, hdA, -⟩ := hS
  go_wp2
  go_ret
  exact ⟨rfl, hB.trans (hbA.mono hB.size), by rw [← HD2.out]; exact hdA⟩
end Go.Proofs.YtofaifeadhimjaaGreatDoor
