/-
  What the laws of graphs ask again and again.
-/
import Derived.Test.YtlogmgkjikamaaaGraAw
set_option linter.unusedSimpArgs false
set_option linter.unusedVariables false
set_option maxHeartbeats 4000000
namespace Go.Proofs.Ytlogmgkjikamaaa
open Go.RowKit

variable {a a' : Option Addr} {len cap len' cap' : Nat} {g g' : List (List Int)} {w : World}
/-- Neither many rows nor long ones. -/
def ShortG (g : List (List Int)) : Prop := g.length ≤ 1000000 ∧ ∀ i, i < g.length → (gr g i).length ≤ 1000000
theorem ValidG.short (h : ValidG g) : ShortG g := ⟨by have := h.1; omega, fun i hi => by have := row_len4 h hi; omega⟩
theorem FewG.short (h : FewG g) : ShortG g := ⟨by have := h.1; omega, fun i hi => by have := h.2 i hi; omega⟩
theorem sameG_any (hs : ShortG g) (hg : IsRows w a len cap g) (hh : IsRows w a' len' cap' g') :
    Calls Try.prog 20 #[.slice a len cap, .slice a' len' cap'] w fun e w' => e = .returned (.bool (decide (g = g'))) ∧ Below w.heap.size w w' := refSameG_any hg hh (fun i hi => by have := hs.2 i (by rw [hg.length]; exact hi); omega) (by have := hs.1; rw [hg.length] at this; omega)
theorem sameG_self (hs : ShortG g) (hg : IsRows w a len cap g) (hh : IsRows w a' len' cap' g) :
    Calls Try.prog 20 #[.slice a len cap, .slice a' len' cap'] w fun e w' => e = .returned (.bool true) ∧ Below w.heap.size w w' := (sameG_any hs hg hh).mono fun _ _ h => ⟨h.1.trans (by rw [decide_eq_true rfl]), h.2⟩
theorem equal_self (hg : IsRows w a len cap g) (hh : IsRows w a' len' cap' g) :
    Calls Try.prog 31 #[.slice a len cap, .slice a' len' cap'] w fun e w' => e = .returned (.bool true) ∧ Below w.heap.size w w' := (equal_any hg hh).mono fun _ _ h => ⟨h.1.trans (by rw [decide_eq_true rfl]), h.2⟩
theorem same_self {al al' : Option Addr} {ll cl ll' cl' : Nat} {l : List Int} (h : IsRow .i64 w al ll cl l) (h' : IsRow .i64 w al' ll' cl' l) (hs : ll ≤ 1000000) :
    Calls Try.prog 21 #[.slice al ll cl, .slice al' ll' cl'] w fun e w' => e = .returned (.bool true) ∧ Below w.heap.size w w' := (same_any _ _ _ _ _ _ _ _ _ h h' (by omega)).mono fun _ _ h => ⟨h.1.trans (by rw [decide_eq_true rfl]), h.2⟩
theorem valid_yes (hg : IsRows w a len cap g) (hv : ValidG g) :
    Calls Try.prog 32 #[.slice a len cap] w fun e w' => e = .returned (.bool true) ∧ w = w' := (valid_any hg).mono fun _ _ h => ⟨h.1.trans (by rw [validGB_yes hv]), h.2⟩
theorem refValid_yes (hg : IsRows w a len cap g) (hv : ValidG g) :
    Calls Try.prog 12 #[.slice a len cap] w fun e w' => e = .returned (.bool true) ∧ Below w.heap.size w w' := (refValid_any hg).mono fun _ _ h => ⟨h.1.trans (by rw [validGB_yes hv]), h.2⟩
theorem refValid_no (hg : IsRows w a len cap g) (hv : ¬ ValidG g) :
    Calls Try.prog 12 #[.slice a len cap] w fun e w' => e = .returned (.bool false) ∧ Below w.heap.size w w' := (refValid_any hg).mono fun _ _ h => ⟨h.1.trans (by rw [validGB_no hv]), h.2⟩
theorem few_yes (hg : IsRows w a len cap g) (hf : FewG g) :
    Calls Try.prog 11 #[.slice a len cap] w fun e w' => e = .returned (.bool true) ∧ w = w' := (few_any hg).mono fun _ _ h => ⟨h.1.trans (by rw [decide_eq_true hf]), h.2⟩
theorem few_no (hg : IsRows w a len cap g) (hf : ¬ FewG g) :
    Calls Try.prog 11 #[.slice a len cap] w fun e w' => e = .returned (.bool false) ∧ w = w' := (few_any hg).mono fun _ _ h => ⟨h.1.trans (by rw [decide_eq_false hf]), h.2⟩
theorem valid_nil : ValidG [] := ⟨by decide, fun l h => by cases h⟩
theorem mkR_valid (n : Int) (es : List (Int × Int)) : ValidG (mkR n es) := by
  unfold mkR
  split
  · rename_i h; exact graphE_valid (by have := h.2.1; omega) _
  · exact valid_nil
theorem bkR_valid (g : List (List Int)) : ValidG (bkR g) := by
  unfold bkR
  split
  · rename_i h; exact graphE_valid (validGB_iff.1 h).1 _
  · exact valid_nil
end Go.Proofs.Ytlogmgkjikamaaa
