/-
  SumDamage: the walk.
-/
import Derived.Test.YtoicaacndkjjoaaSumL
import Derived.Test.YtoicaacndkjjoaaOwn
import Derived.OpenShut
set_option linter.unusedSimpArgs false
set_option linter.unusedVariables false
namespace Go.Proofs.Ytoicaacndkjjoaa
open Go.RowKit

theorem sumDamage_walk (a : Option Addr) (len cap : Nat) (zs : List Int) (at' : Int) (to : Int) (w : World) (hs : IsInts .u8 w a len cap zs) (hwz : ∀ n ∈ zs, (Lit.int .u8 n).wf = true) (_ : cap * 1 ≤ 140737488351232) (hwa : (Lit.int .u16 at').wf = true) (hwt : (Lit.int .u8 to).wf = true) :
    Calls Try.prog 8 #[.slice a len cap, .int .u16 at', .int .u8 to] w fun e w' => e = .returned (.bool true) ∧ Below w.heap.size w w' := by
  have ha : 0 ≤ at' ∧ at' < 65536 := by
    have := bounds_u16 hwa
    omega
  have ht : 0 ≤ to ∧ to < 256 := by
    have := bounds_u8 hwt
    omega
  have hb : Bytes zs := fun n hn => by
    have := bounds_u8 (hwz n hn)
    omega
  obtain ⟨ha0, ha1⟩ := ha
  by_cases hlen : len ≤ 600
  · have hd : decide (600 < (len : Int)) = false := decide_eq_false (by omega)
    have hl : zs.length = len := hs.length
    obtain ⟨k, hk, hkl⟩ : ∃ k : Nat, at'.tmod ((len : Int) + 8) = k ∧ k < len + 8 := by
      refine ⟨(at'.tmod ((len : Int) + 8)).toNat, ?_, ?_⟩
      · have := Int.tmod_nonneg ((len : Int) + 8) ha0; omega
      · have := Int.tmod_lt_of_pos at' (show (0 : Int) < (len : Int) + 8 by omega); omega
    by_cases hq : gi (sealL zs) k = to
    · have hq' : (gi (sealL zs) k == to) = true := by simpa using hq
      go_enter Try.func8, Try.ntmps8
      go_wp2_with (go_at_call 10; refine (awake_any w).mono ?_; rintro e w1 ⟨rfl, hb1⟩)
      go_wp2_with (go_at_call 21; refine (seal_any a len cap zs _ (hs.later hb1) (by omega)).mono ?_; rintro e w2 ⟨a2, c2, rfl, ho2, hb2⟩; obtain ⟨g, rfl, hg1, hg2⟩ := owns_at ho2 (by omega); obtain ⟨hcell, hfr⟩ := own_cell ho2 k hkl (by rw [sealL_length, hl]))
      go_ret
      exact ⟨rfl, hb1.trans (hb2.mono hb1.size)⟩
    · have hq' : (gi (sealL zs) k == to) = false := by simpa using hq
      have hD := Lib.hid (damage hb (hl ▸ hkl) ht.1 ht.2 hq)
      clear hq
      go_enter Try.func8, Try.ntmps8
      go_wp2_with (go_at_call 10; refine (awake_any w).mono ?_; rintro e w1 ⟨rfl, hb1⟩)
      go_wp2_with (go_at_call 21; refine (seal_any a len cap zs _ (hs.later hb1) (by omega)).mono ?_; rintro e w2 ⟨a2, c2, rfl, ho2, hb2⟩; obtain ⟨g, rfl, hg1, hg2⟩ := owns_at ho2 (by omega); obtain ⟨hcell, hfr⟩ := own_cell ho2 k hkl (by rw [sealL_length, hl]))
      obtain ⟨w3, hw3⟩ : ∃ w3, w2.setCell ⟨g, k, none⟩ (.int .u8 to) = w3 := ⟨_, rfl⟩
      have ho3 := own_store ho2 k to
      have hb3 : Below w.heap.size w (w2.setCell ⟨g, k, none⟩ (.int .u8 to)) := (hb1.trans (hb2.mono hb1.size)).setCell (Nat.le_trans hb1.size hg1) _
      rw [hw3] at ho3 hb3 ⊢
      go_wp2_with (go_at_call 19; refine (open_any _ _ _ _ _ (IsInts.of_owns ho3).1 ((sealL_bytes hb).set k ht.1 ht.2) (by omega)).mono ?_; rw [hD.out]; rintro e w4 ⟨a4, n4, c4, rfl, ho4, hb4⟩; obtain rfl : n4 = 0 := by (have := ho4.1; simp [ivs] at this; omega))
      go_ret
      exact ⟨rfl, hb3.trans (hb4.mono hb3.size)⟩
  · have hd : decide (600 < (len : Int)) = true := decide_eq_true (by omega)
    go_enter Try.func8, Try.ntmps8
    go_wp2_with (go_at_call 10; refine (awake_any w).mono ?_; rintro e w1 ⟨rfl, hb1⟩)
    go_ret
    exact ⟨rfl, hb1⟩
end Go.Proofs.Ytoicaacndkjjoaa
