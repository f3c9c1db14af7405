/-
  Package bits: the word of a set, the rows that a function builds.
-/
import Derived.Test.YtmeldbddbinnbaaDoorLib
import Derived.Test.YtmeldbddbinnbaaDoorFam
import Derived.Laws.OwnMore
import Derived.Shelf.Abstract
set_option linter.unusedSimpArgs false
set_option linter.unusedVariables false
namespace Go.Proofs.YtmeldbddbinnbaaDoor
open Go.RowKit Go.Shelf

theorem mixed : Tryd.prog.follows .mixedOrders = true := by kernel_rfl

/-- The word of a set with a number, 0 behind the last one. -/
def wd (ws : List Int) (i : Nat) : Int := if i < 64 then gi ws i else 0

theorem gi_over {zs : List Int} {i : Nat} (h : zs.length ≤ i) : gi zs i = 0 := by
  simp [gi, List.getD, List.getElem?_eq_none h]

theorem word_any (a : Option Addr) (len cap : Nat) (ws : List Int) (i : Nat) (w : World) (hs : IsInts .u64 w a len cap ws) (hi : i < 9223372036854775807) :
    Calls Tryd.prog 45 #[.slice a len cap, .int .i64 (i : Int)] w fun e w' => e = .returned (.int .u64 (wd ws i)) ∧ w = w' := by
  have hl := hs.length
  by_cases h : i < len ∧ i < 64
  · have hw : wd ws i = gi ws i := if_pos h.2
    obtain ⟨h1, h2⟩ := h
    rw [hw]
    rcases hs with ⟨_, h0, _⟩ | ⟨b, off, rfl, hl, hcm, hz, hc⟩
    · omega
    · have hci := hc i h1
      clear hc hz
      have hd : decide ((i : Int) < min (len : Int) 64) = true := decide_eq_true (by omega)
      go_enter Tryd.func45, Tryd.ntmps45
      go_wp2
      all_goals go_ret
      all_goals exact ⟨rfl, rfl⟩
  · have hw : wd ws i = 0 := by
      unfold wd
      split
      · exact gi_over (by omega)
      · rfl
    rw [hw]
    have hd : decide ((i : Int) < min (len : Int) 64) = false := decide_eq_false (by omega)
    go_enter Tryd.func45, Tryd.ntmps45
    go_wp2
    all_goals go_ret
    all_goals exact ⟨rfl, rfl⟩
end Go.Proofs.YtmeldbddbinnbaaDoor
