/-
  slices.Reverse on a row of the call's own.
-/
import Derived.Test.YtlogmgkjikamaaaGraR
import Derived.Test.YtlogmgkjikamaaaGraD
set_option linter.unusedVariables false
namespace Go.Proofs.Ytlogmgkjikamaaa
open Go.RowKit Go.Sort Go.Lib

theorem grow_none (w : World) : grow w #[] = w := by simp [grow]
theorem reverse_own {w : World} {B : Nat} {v : Value} {zs : List Int} (h : w.ownsRow B 3 1 v zs.length (ivs .i64 zs)) (hn : zs.length ≤ 9223372036854775807) :
    Calls Try.prog 50 #[v] w fun e w' => e = .returned (.tuple #[]) ∧ w'.ownsRow B 3 1 v zs.length (ivs .i64 zs.reverse) ∧ w.grownBy w' v.ownBlock := by
  have hl : zs.reverse.length = zs.length := List.length_reverse
  rcases h.2 with ⟨rfl, h0⟩ | ⟨g, cap, cur, rfl, hB, hg, h1, h2, h3, h4⟩
  · have hz : zs = [] := List.eq_nil_of_length_eq_zero h0
    subst hz
    refine (Try.slices_Reverse_int_empty none 0 w).mono ?_
    rintro e w' ⟨rfl, rfl⟩
    exact ⟨rfl, by simpa using h, World.grownBy.refl _ _⟩
  · rw [Nat.mul_one] at h4
    refine (Try.slices_Reverse_int g 0 cap zs w (holds_of_blockI hg (by rw [h4]; rfl)) hn).mono ?_
    rintro e w' ⟨rfl, n, rfl⟩
    have e1 := ownsRow_sortedI (n := n) (os := #[]) (e := 3) (base := B) hl hB hg h1 h2 h3
    have e2 := grownBy_sortedI (w := w) (n := n) (os := #[]) (g := g) zs.reverse.toArray
    rw [grow_none] at e1 e2
    exact ⟨rfl, e1, e2⟩
end Go.Proofs.Ytlogmgkjikamaaa
