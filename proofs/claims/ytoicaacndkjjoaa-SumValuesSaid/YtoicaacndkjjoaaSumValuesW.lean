/-
  SumValues: the walk.
-/
import Derived.Test.YtoicaacndkjjoaaSumL
import Derived.Test.YtoicaacndkjjoaaOwn
import Derived.OpenShut
set_option linter.unusedSimpArgs false
set_option linter.unusedVariables false
namespace Go.Proofs.Ytoicaacndkjjoaa
open Go.RowKit

theorem sumValues_walk (a : Option Addr) (len cap : Nat) (zs : List Int) (w : World) (hs : IsInts .u8 w a len cap zs) (hwz : ∀ n ∈ zs, (Lit.int .u8 n).wf = true) (_ : cap * 1 ≤ 140737488351232) :
    Calls Try.prog 9 #[.slice a len cap] w fun e w' => e = .returned (.bool true) ∧ Below w.heap.size w w' := by
  have hb : Bytes zs := fun n hn => by
    have := bounds_u8 (hwz n hn)
    omega
  rcases Nat.eq_zero_or_pos len with hz | hpos
  · subst hz
    go_enter Try.func9, Try.ntmps9
    go_wp2_with (go_at_call 10; refine (awake_any w).mono ?_; rintro e w1 ⟨rfl, hb1⟩)
    go_ret
    exact ⟨rfl, hb1⟩
  · have hne : ((len : Int) == 0) = false := by simp; omega
    by_cases hlen : len ≤ 600
    · have hd : decide (600 < (len : Int)) = false := decide_eq_false (by omega)
      have hl : zs.length = len := hs.length
      have hqq : ((bsOf zs).toList == (bsOf zs).toList) = true := by simp
      go_enter Try.func9, Try.ntmps9
      go_wp2_with (first | (go_at_call 10; refine (awake_any w).mono ?_; rintro e w1 ⟨rfl, hb1⟩; have hs1 := (hs.later hb1).later ((Below.refl _ w1).alloc (Nat.le_refl _) (.cells #[] 5))) | (at_builtin; refine app_ints0 (k := .u8) (v := .slice (some ⟨w1.heap.size, 0, none⟩) 0 0) elU8 rfl _ _ rfl rfl (World.ownsRow_made _ _ _ (Nat.le_refl _) (by decide) rfl) rfl hs1 (by omega) (by simp) ?_; intro a3 c3 w3 ho3 hgr hbel hnil; clear hnil hgr; obtain ⟨g3, rfl, hg3, hg3'⟩ := owns_at ho3 hpos; have hb3 : Below w.heap.size w w3 := hb1.trans ((((Below.refl _ w1).alloc (Nat.le_refl _) _).trans hbel).mono hb1.size); clear hbel) | (go_at_call 21; refine (seal_any _ len _ zs _ (IsInts.of_owns ho3).1 (by omega)).mono ?_; rintro e w4 ⟨a4, c4, rfl, ho4, hb4⟩; obtain ⟨g4, rfl, hg4, hg4'⟩ := owns_at ho4 (by omega); replace ho3 := ho3.kept_below hb4; obtain ⟨hc3, hf3⟩ := own_cell ho3 0 hpos hl))
      obtain ⟨w5, hw5⟩ : ∃ w5, w4.setCell ⟨g3, 0, none⟩ (.int .u8 ((gi zs 0 + 1) % 256)) = w5 := ⟨_, rfl⟩
      have ho5 := ownsRow_setCell_below ho4 (a := ⟨g3, 0, none⟩) hg3' (.int .u8 ((gi zs 0 + 1) % 256))
      have hb5 : Below w.heap.size w (w4.setCell ⟨g3, 0, none⟩ (.int .u8 ((gi zs 0 + 1) % 256))) := (hb3.trans (hb4.mono hb3.size)).setCell (Nat.le_trans hb1.size hg3) _
      have h45 : w5.heap.size = w4.heap.size := by rw [← hw5]; simp
      rw [hw5] at ho5 hb5 ⊢
      clear hw5 ho3 ho4 hc3 hf3
      have hz : openR (sealL zs) = (zs, 0) := open_seal zs
      have kc := fun (W : World) (a : Option Addr) (len cap : Nat) (zs : List Int) (h : IsInts .u8 W a len cap zs) => run_toString (P := Try.prog) W 23 9 5 Try.underlying23 Try.underlying5 Try.underlying9 a len cap zs h
      have KC := Lib.hid kc
      clear kc
      refine (open_any _ _ _ _ _ (IsInts.of_owns ho5).1 (sealL_bytes hb) (by omega)).mono ?_
      rw [hz]
      rintro e w6 ⟨a6, n6, c6, rfl, ho6, hb6⟩
      replace ho5 := ho5.kept_below hb6
      obtain ⟨hc5, hf5⟩ := own_cell ho5 0 (by omega) (by rw [sealL_length, hl])
      obtain ⟨w7, hw7⟩ : ∃ w7, w6.setCell ⟨g4, 0, none⟩ (.int .u8 ((gi (sealL zs) 0 + 1) % 256)) = w7 := ⟨_, rfl⟩
      have ho7 := ownsRow_setCell_below ho6 (a := ⟨g4, 0, none⟩) (show g4 < w5.heap.size by omega) (.int .u8 ((gi (sealL zs) 0 + 1) % 256))
      have hb7 : Below w.heap.size w (w6.setCell ⟨g4, 0, none⟩ (.int .u8 ((gi (sealL zs) 0 + 1) % 256))) := (hb5.trans (hb6.mono hb5.size)).setCell (Nat.le_trans hb3.size hg4) _
      rw [hw7] at ho7 hb7
      have hk1 := KC.out _ _ _ _ _ (IsInts.of_owns ho7).1
      have hk2 := KC.out _ _ _ _ _ (hs.later hb7)
      clear ho7 ho6 ho5
      go_wp2
      go_ret
      exact ⟨by simp, hb7⟩
    · have hd : decide (600 < (len : Int)) = true := decide_eq_true (by omega)
      go_enter Try.func9, Try.ntmps9
      go_wp2_with (go_at_call 10; refine (awake_any w).mono ?_; rintro e w1 ⟨rfl, hb1⟩)
      go_ret
      exact ⟨rfl, hb1⟩
end Go.Proofs.Ytoicaacndkjjoaa
