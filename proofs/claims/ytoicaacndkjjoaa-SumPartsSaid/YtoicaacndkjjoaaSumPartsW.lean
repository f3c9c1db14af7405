/-
  SumParts: the walk.
-/
import Derived.Test.YtoicaacndkjjoaaSumL
set_option linter.unusedSimpArgs false
set_option linter.unusedVariables false
namespace Go.Proofs.Ytoicaacndkjjoaa
open Go.RowKit

theorem sumParts_walk (seed : Int) (a : Option Addr) (len cap : Nat) (zs : List Int) (a' : Option Addr) (len' cap' : Nat) (zs' : List Int) (w : World) (_ : (Lit.int .u64 seed).wf = true) (hs : IsInts .u8 w a len cap zs) (_ : ∀ n ∈ zs, (Lit.int .u8 n).wf = true) (hm : cap * 1 ≤ 140737488351232) (hs' : IsInts .u8 w a' len' cap' zs') (_ : ∀ n ∈ zs', (Lit.int .u8 n).wf = true) (hm' : cap' * 1 ≤ 140737488351232) :
    Calls Try.prog 4 #[.int .u64 seed, .slice a len cap, .slice a' len' cap'] w fun e w' => e = .returned (.bool true) ∧ Below w.heap.size w w' := by
  have hc := hs.cap.1
  have hc' := hs'.cap.1
  have hwr : IntKind.i64.wrap ((len : Int) + (len' : Int)) = (len : Int) + len' := IntWalk.i64_in _ (by omega)
  by_cases h : len + len' ≤ 600
  · have hd : decide (600 < (len : Int) + (len' : Int)) = false := decide_eq_false (by omega)
    go_enter Try.func4, Try.ntmps4
    go_wp2_with (go_at_call 10; refine (awake_any w).mono ?_; rintro e w1 ⟨rfl, hb1⟩)
    have hs1 := hs.later hb1
    have hs1' := hs'.later hb1
    have hs2 := hs1.later ((Below.refl _ w1).alloc (Nat.le_refl _) (.cells #[] 5))
    go_wp2_with (first | (go_at_call 13; refine (from_any _ _ _ _ _ _ (by first | exact hs1 | exact hs1' | exact hI)).mono ?_; rintro e w' ⟨rfl, rfl⟩) | (at_builtin; refine app_ints0 (k := .u8) (v := .slice (some ⟨w1.heap.size, 0, none⟩) 0 0) elU8 rfl _ _ rfl rfl (World.ownsRow_made _ _ _ (Nat.le_refl _) (by decide) rfl) rfl hs2 (by omega) (by simp) ?_; intro a3 c3 w3 hown hgr hbel hnil; clear hnil hgr; have hb3 : Below w1.heap.size w1 w3 := ((Below.refl _ w1).alloc (Nat.le_refl _) _).trans hbel; have hs3' := hs1'.later hb3; clear hbel) | (at_builtin; refine app_ints (k := .u8) (xs := zs) (v := .slice a3 len c3) elU8 rfl _ _ rfl rfl hown rfl hs3' (by omega) hb3.size ?_; intro a4 c4 w4 hown4 hgr4 hbel4 hnil4; clear hnil4 hgr4; have hI := (IsInts.of_owns hown4).1))
    have he : fromH (fromH seed zs) zs' = fromH seed (zs ++ zs') := (fromH_append _ _ _).symm
    go_ret
    exact ⟨by rw [he]; simp, hb1.trans ((hb3.trans hbel4).mono hb1.size)⟩
  · have hd : decide (600 < (len : Int) + (len' : Int)) = true := decide_eq_true (by omega)
    go_enter Try.func4, Try.ntmps4
    go_wp2_with (go_at_call 10; refine (awake_any w).mono ?_; rintro e w1 ⟨rfl, hb1⟩)
    go_ret
    exact ⟨rfl, hb1⟩
end Go.Proofs.Ytoicaacndkjjoaa
