/-
  Sealing: the program's Seal and the reference's make the same bytes.
-/
import Derived.Test.YtoicaacndkjjoaaSumE
set_option linter.unusedSimpArgs false
set_option linter.unusedVariables false
namespace Go.Proofs.Ytoicaacndkjjoaa
open Go.RowKit

theorem eight_lit (h : Int) (w : World) (h0 : 0 ≤ h) (h1 : h < 18446744073709551616) :
    Calls Try.prog 24 #[.int .u64 h] w fun e w' => e = .returned (.agg #[.int .u8 (gi (eightL h) 0), .int .u8 (gi (eightL h) 1), .int .u8 (gi (eightL h) 2), .int .u8 (gi (eightL h) 3), .int .u8 (gi (eightL h) 4), .int .u8 (gi (eightL h) 5), .int .u8 (gi (eightL h) 6), .int .u8 (gi (eightL h) 7)]) ∧ Below w.heap.size w w' :=
  (eight_any h w h0 h1).mono fun _ _ ⟨he, hb⟩ => ⟨he, hb⟩

/-- The sealed bytes. -/
def sealL (zs : List Int) : List Int := zs ++ eightL (fromH 14695981039346656037 zs)
theorem eightL_length (h : Int) : (eightL h).length = 8 := rfl
theorem sealL_length (zs : List Int) : (sealL zs).length = zs.length + 8 := by rw [sealL, List.length_append, eightL_length]

theorem refSeal_any (a : Option Addr) (len cap : Nat) (zs : List Int) (w : World) (hs : IsInts .u8 w a len cap zs) (hlen : len ≤ 60000) :
    Calls Try.prog 22 #[.slice a len cap] w fun e w' => ∃ a' c', e = .returned (.slice a' (len + 8) c') ∧ w'.ownsRow w.heap.size 5 1 (.slice a' (len + 8) c') (len + 8) (ivs .u8 (sealL zs)) ∧ Below w.heap.size w w' := by
  obtain ⟨hH0, hH1⟩ := fromH_bd 14695981039346656037 zs (by decide) (by decide)
  have hs1 := hs.later ((Below.refl _ w).alloc (Nat.le_refl _) (.cells #[] 5))
  go_enter Try.func22, Try.ntmps22
  go_wp2_with (at_builtin; refine app_ints0 (k := .u8) (v := .slice (some ⟨w.heap.size, 0, none⟩) 0 0) elU8 rfl _ _ rfl rfl (World.ownsRow_made _ _ _ (Nat.le_refl _) (by decide) rfl) rfl hs1 (by omega) (by simp) ?_; intro a' c' w1 hown hgr hbel hnil; clear hnil)
  have hb1 : Below w.heap.size w w1 := ((Below.refl _ w).alloc (Nat.le_refl _) _).trans hbel
  have hs2 := hs.later hb1
  go_wp2_with (go_at_call 12; refine (refOf_any _ _ _ _ _ hs2).mono ?_; rintro e w' ⟨rfl, rfl⟩)
  clear hgr hbel
  go_wp2_with (first | (go_at_call 25; refine (refEight_any _ _ hH0 hH1).mono ?_; rintro e w2 ⟨ae, ce, rfl, hv, hb2⟩; have hown2 := hown.kept_below hb2; have hse := (IsInts.of_owns hv).1; have hB2 : w.heap.size ≤ w2.heap.size := Nat.le_trans hb1.size hb2.size) | (at_builtin; refine app_ints (k := .u8) (xs := zs) (v := .slice a' len c') elU8 rfl _ _ rfl rfl hown2 rfl hse (by omega) hB2 ?_; intro a3 c3 w3 hown3 hgr3 hbel3 hnil3; clear hnil3 hgr3))
  go_ret
  exact ⟨a3, c3, rfl, hown3, (hb1.trans (hb2.mono hb1.size)).trans hbel3⟩

theorem seal_any (a : Option Addr) (len cap : Nat) (zs : List Int) (w : World) (hs : IsInts .u8 w a len cap zs) (hlen : len ≤ 60000) :
    Calls Try.prog 21 #[.slice a len cap] w fun e w' => ∃ a' c', e = .returned (.slice a' (len + 8) c') ∧ w'.ownsRow w.heap.size 5 1 (.slice a' (len + 8) c') (len + 8) (ivs .u8 (sealL zs)) ∧ Below w.heap.size w w' := by
  obtain ⟨hH0, hH1⟩ := fromH_bd 14695981039346656037 zs (by decide) (by decide)
  go_enter Try.func21, Try.ntmps21
  go_wp2_with (first | (go_at_call 11; refine (of_any _ _ _ _ _ hs).mono ?_; rintro e w' ⟨rfl, rfl⟩) | (go_at_call 24; refine (eight_lit _ _ hH0 hH1).mono ?_; rintro e w1 ⟨rfl, hb1⟩))
  obtain ⟨w4, hw4⟩ : ∃ w4, w1.alloc (.cells #[.int .u8 (gi (eightL (fromH 14695981039346656037 zs)) 0), .int .u8 (gi (eightL (fromH 14695981039346656037 zs)) 1), .int .u8 (gi (eightL (fromH 14695981039346656037 zs)) 2), .int .u8 (gi (eightL (fromH 14695981039346656037 zs)) 3), .int .u8 (gi (eightL (fromH 14695981039346656037 zs)) 4), .int .u8 (gi (eightL (fromH 14695981039346656037 zs)) 5), .int .u8 (gi (eightL (fromH 14695981039346656037 zs)) 6), .int .u8 (gi (eightL (fromH 14695981039346656037 zs)) 7)] 48) = w4 := ⟨_, rfl⟩
  have hse : IsInts .u8 w4 (some ⟨w1.heap.size, 0, none⟩) 8 8 (eightL (fromH 14695981039346656037 zs)) := by
    refine .inr ⟨_, _, rfl, by decide, by decide, rfl, fun i hi => ?_⟩
    rw [Nat.zero_add, ← hw4, cell_of_row _ w1.heap.size i _ _ (0, 0) (heap_alloc_new w1 _)]
    have : i = 0 ∨ i = 1 ∨ i = 2 ∨ i = 3 ∨ i = 4 ∨ i = 5 ∨ i = 6 ∨ i = 7 := by omega
    rcases this with h | h | h | h | h | h | h | h <;> (subst h; rfl)
  have hb4 : Below w.heap.size w w4 := by rw [← hw4]; exact hb1.alloc hb1.size _
  have hlt : w1.heap.size < w4.heap.size := by rw [← hw4]; simp
  rw [hw4]
  clear hw4
  have hs4 := hs.later hb4
  obtain ⟨S, hSd⟩ : ∃ S : (Nat → Bool) → (Nat → Value) → World → Prop, S = fun L f W => (Below w4.heap.size w4 W ∧ (stage L f W (fun _ => True) [(8, fun f W => W.ownsRow w4.heap.size 5 1 (f 8) (len + 8) (ivs .u8 (sealL zs))), (7, fun f W => W.ownsRow w4.heap.size 5 1 (f 7) (len + 8) (ivs .u8 (sealL zs))), (5, fun f W => W.ownsRow w4.heap.size 5 1 (f 5) len (ivs .u8 zs)), (3, fun f W => W.ownsRow w4.heap.size 5 1 (f 3) 0 [])])) := ⟨_, rfl⟩
  refine wp_region_st mixed (by kernel_rfl) [[], [(0, 7)], [(1, 8)], [(2, 9)], [], [(3, 10), (4, 11)], [], [(5, 12), (6, 13), (5, 12)], [(7, 14), (7, 14), (0, 7), (1, 8), (2, 9), (3, 10), (4, 11), (5, 12), (6, 13), (7, 14)]] [(0, 7), (1, 8), (2, 9), (3, 10), (4, 11), (5, 12), (6, 13), (7, 14), (8, 2)] rfl rfl [EV ?e0, EV ?e1, EV ?e2, fun v => ∃ a c, v = .slice a 0 c, EV ?e4, fun v => ∃ a c, v = .slice a len c, EV ?e6, fun v => ∃ a c, v = .slice a (len + 8) c, fun v => ∃ a c, v = .slice a (len + 8) c] S ?start ?steps ?rest
  case start =>
    intro f
    rw [hSd]
    exact ⟨(Below.refl _ _).drew, trivial⟩
  case steps =>
    refine ⟨fun L f W hi hd hdn hh hS => ?_, fun L f W hi hd hdn hh hS => ?_, fun L f W hi hd hdn hh hS => ?_, fun L f W hi hd hdn hh hS => ?_, fun L f W hi hd hdn hh hS => ?_, fun L f W hi hd hdn hh hS => ?_, fun L f W hi hd hdn hh hS => ?_, fun L f W hi hd hdn hh hS => ?_, fun L f W hi hd hdn hh hS => ?_, trivial⟩
    · -- 0: Op.move (Operand.tmp 0)
      refine st_plain fun K Q hK => ?_
      simp only [puts, List.foldr_nil]
      go_step
      refine st_ex hK rfl rfl (by simp only [Act.put, List.setIfInBounds_toArray, List.set_cons_succ, List.set_cons_zero, Array.getD_eq_getD_getElem?, List.getElem?_toArray, List.getElem?_cons_succ, List.getElem?_cons_zero, Option.getD_some] <;> rfl) rfl (by rw [hSd] at hS ⊢; exact hS)
    · -- 1: Op.call { callee := Callee.builtin Builtin.len, args := #[Operand.tmp 7], argTypes := #[23
      obtain ⟨h0, -⟩ := hh
      have g0 : f 0 = _ := h0
      refine st_plain fun K Q hK => ?_
      simp only [puts, List.foldr_cons, List.foldr_nil, List.setIfInBounds_toArray, List.set_cons_succ, List.set_cons_zero, g0]
      go_step
      refine st_ex hK rfl rfl (by simp only [Act.put, List.setIfInBounds_toArray, List.set_cons_succ, List.set_cons_zero, Array.getD_eq_getD_getElem?, List.getElem?_toArray, List.getElem?_cons_succ, List.getElem?_cons_zero, Option.getD_some] <;> rfl) rfl (by rw [hSd] at hS ⊢; exact hS)
    · -- 2: Op.binOp BinOp.add 3 (Operand.tmp 8) (Operand.const (Value.int IntKind.i64 8)) 3
      obtain ⟨h1, -⟩ := hh
      have g1 : f 1 = _ := h1
      refine st_plain fun K Q hK => ?_
      simp only [puts, List.foldr_cons, List.foldr_nil, List.setIfInBounds_toArray, List.set_cons_succ, List.set_cons_zero, g1]
      go_step
      refine st_ex hK rfl rfl (by simp only [Act.put, List.setIfInBounds_toArray, List.set_cons_succ, List.set_cons_zero, Array.getD_eq_getD_getElem?, List.getElem?_toArray, List.getElem?_cons_succ, List.getElem?_cons_zero, Option.getD_some] <;> rfl) rfl (by rw [hSd] at hS ⊢; exact hS)
    · -- 3: Op.makeSlice 23 (Operand.const (Value.int IntKind.i64 0)) (Operand.tmp 9)
      obtain ⟨h2, -⟩ := hh
      have g2 : f 2 = _ := h2
      have l5 : L 5 = false := Bool.eq_false_iff.2 fun h => by have q := hdn 5 _ h rfl 3 (by decide); rw [show L 3 = false from hi] at q; cases q
      have l7 : L 7 = false := Bool.eq_false_iff.2 fun h => by have q := hdn 7 _ h rfl 5 (by decide); rw [show L 5 = false from l5] at q; cases q
      have l8 : L 8 = false := Bool.eq_false_iff.2 fun h => by have q := hdn 8 _ h rfl 7 (by decide); rw [show L 7 = false from l7] at q; cases q
      refine st_plain fun K Q hK => ?_
      simp only [puts, List.foldr_cons, List.foldr_nil, List.setIfInBounds_toArray, List.set_cons_succ, List.set_cons_zero, g2]
      rw [hSd] at hS hK
      have l3 : L 3 = false := hi
      simp only [stage, l5, l7, l8, l3, if_true, if_false, Bool.false_eq_true] at hS
      obtain ⟨hC, -⟩ := hS
      refine wp_make_own elU8 _ _ rfl (B := w4.heap.size) (n := len + 8) rfl rfl (by omega) (by omega) hC.size ?_
      intro W' hown _ hbel
      refine hK.out _ _ rfl ⟨_, _, rfl⟩ ?_
      simp only [stage, l5, l7, l8]
      exact ⟨hC.trans hbel, hown⟩
    · -- 4: Op.move (Operand.tmp 0)
      refine st_plain fun K Q hK => ?_
      simp only [puts, List.foldr_nil]
      go_step
      refine st_ex hK rfl rfl (by simp only [Act.put, List.setIfInBounds_toArray, List.set_cons_succ, List.set_cons_zero, Array.getD_eq_getD_getElem?, List.getElem?_toArray, List.getElem?_cons_succ, List.getElem?_cons_zero, Option.getD_some] <;> rfl) rfl (by rw [hSd] at hS ⊢; exact hS)
    · -- 5: Op.call { callee := Callee.builtin Builtin.append, args := #[Operand.tmp 10, Operand.tmp 1
      obtain ⟨h3, h4, -⟩ := hh
      obtain ⟨a3, c3, g3⟩ := h3
      have g4 : f 4 = _ := h4
      have l3 : L 3 = true := hd 3 (by decide)
      have l7 : L 7 = false := Bool.eq_false_iff.2 fun h => by have q := hdn 7 _ h rfl 5 (by decide); rw [show L 5 = false from hi] at q; cases q
      have l8 : L 8 = false := Bool.eq_false_iff.2 fun h => by have q := hdn 8 _ h rfl 7 (by decide); rw [show L 7 = false from l7] at q; cases q
      refine st_plain fun K Q hK => ?_
      simp only [puts, List.foldr_cons, List.foldr_nil, List.setIfInBounds_toArray, List.set_cons_succ, List.set_cons_zero, g3, g4]
      rw [hSd] at hS hK
      have l5 : L 5 = false := hi
      simp only [stage, l7, l8, l5, l3, if_true, if_false, Bool.false_eq_true] at hS
      obtain ⟨hC, ho⟩ := hS
      rw [g3] at ho
      refine wp_app_ints0 (k := .u8) elU8 _ _ rfl rfl ho rfl (hs4.later hC) (by omega) hC.size ?_
      intro a' c' W' hown _ hbel _
      refine hK.out _ _ rfl ⟨_, _, rfl⟩ ?_
      simp only [stage, l7, l8]
      exact ⟨hC.trans hbel, hown⟩
    · -- 6: Op.slice 48 (Operand.tmp 3) none none none
      refine st_plain fun K Q hK => ?_
      simp only [puts, List.foldr_nil]
      go_step
      refine st_ex hK rfl rfl (by simp only [Act.put, List.setIfInBounds_toArray, List.set_cons_succ, List.set_cons_zero, Array.getD_eq_getD_getElem?, List.getElem?_toArray, List.getElem?_cons_succ, List.getElem?_cons_zero, Option.getD_some] <;> rfl) rfl (by rw [hSd] at hS ⊢; exact hS)
    · -- 7: Op.call { callee := Callee.builtin Builtin.append, args := #[Operand.tmp 12, Operand.tmp 1
      obtain ⟨h5, h6, _, -⟩ := hh
      obtain ⟨a5, c5, g5⟩ := h5
      have g6 : f 6 = _ := h6
      have l5 : L 5 = true := hd 5 (by decide)
      have l8 : L 8 = false := Bool.eq_false_iff.2 fun h => by have q := hdn 8 _ h rfl 7 (by decide); rw [show L 7 = false from hi] at q; cases q
      refine st_plain fun K Q hK => ?_
      simp only [puts, List.foldr_cons, List.foldr_nil, List.setIfInBounds_toArray, List.set_cons_succ, List.set_cons_zero, g5, g6]
      rw [hSd] at hS hK
      have l7 : L 7 = false := hi
      simp only [stage, l8, l7, l5, if_true, if_false, Bool.false_eq_true] at hS
      obtain ⟨hC, ho⟩ := hS
      rw [g5] at ho
      refine wp_app_ints (k := .u8) (xs := zs) (n := len) elU8 _ _ rfl rfl ho rfl (hse.later hC) (by omega) hC.size ?_
      intro a' c' W' hown _ hbel _
      refine hK.out _ _ rfl ⟨_, _, rfl⟩ ?_
      simp only [stage, l8]
      exact ⟨hC.trans hbel, hown⟩
    · -- 8: Op.assign (Operand.tmp 14)
      obtain ⟨h7, _, h0, h1, h2, h3, h4, h5, h6, _, -⟩ := hh
      obtain ⟨a7, c7, g7⟩ := h7
      have g0 : f 0 = _ := h0
      have g1 : f 1 = _ := h1
      have g2 : f 2 = _ := h2
      obtain ⟨a3, c3, g3⟩ := h3
      have g4 : f 4 = _ := h4
      obtain ⟨a5, c5, g5⟩ := h5
      have g6 : f 6 = _ := h6
      have l7 : L 7 = true := hd 7 (by decide)
      refine st_plain fun K Q hK => ?_
      simp only [puts, List.foldr_cons, List.foldr_nil, List.setIfInBounds_toArray, List.set_cons_succ, List.set_cons_zero, g7, g0, g1, g2, g3, g4, g5, g6]
      rw [hSd] at hS hK
      have l8 : L 8 = false := hi
      simp only [stage, l8, l7, if_true, if_false, Bool.false_eq_true] at hS
      obtain ⟨hC, ho⟩ := hS
      rw [g7] at ho
      go_step
      refine hK.out _ _ rfl ⟨_, _, rfl⟩ ?_
      exact ⟨hC, ho⟩
  case rest =>
    intro L f W2 hL hh hS
    rw [hSd] at hS
    clear hSd
    have l8 : L 8 = true := hL 8 (by decide)
    simp only [stage, l8, if_true] at hS
    clear hL l8
    obtain ⟨h0, h1, h2, h3, h4, h5, h6, h7, h8, -⟩ := hh
    have g0 : f 0 = _ := h0
    have g1 : f 1 = _ := h1
    have g2 : f 2 = _ := h2
    obtain ⟨a3, c3, g3⟩ := h3
    have g4 : f 4 = _ := h4
    obtain ⟨a5, c5, g5⟩ := h5
    have g6 : f 6 = _ := h6
    obtain ⟨a7, c7, g7⟩ := h7
    obtain ⟨a8, c8, g8⟩ := h8
    simp only [puts, List.foldr_cons, List.foldr_nil, List.setIfInBounds_toArray, List.set_cons_succ, List.set_cons_zero, g0, g1, g2, g3, g4, g5, g6, g7, g8]
    clear h0 h1 h2 h4 h6 g0 g1 g2 g4 g6
    obtain ⟨hC, ho⟩ := hS
    have g8' : f 8 = .slice a8 (len + 8) c8 := g8
    rw [g8'] at ho
    clear g3 g5 g7 g8 g8'
    go_wp2
    go_ret
    exact ⟨a8, c8, rfl, ho.from_mono hb4.size, hb4.trans (hC.mono hb4.size)⟩
end Go.Proofs.Ytoicaacndkjjoaa
