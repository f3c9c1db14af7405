/-
  Components.
-/
import Derived.Test.YtlogmgkjikamaaaGraT
set_option linter.unusedSimpArgs false
set_option linter.unusedVariables false
set_option maxHeartbeats 4000000
namespace Go.Proofs.Ytlogmgkjikamaaa
open Go.RowKit
attribute [local go_sem] Oper.semAt_some

variable {a : Option Addr} {len cap : Nat} {g : List (List Int)} {w : World}

/-- The components of a graph. -/
noncomputable def compG (g : List (List Int)) : List (List Int) := cmps (both (GE g)) g.length g.length
theorem compG_length (g : List (List Int)) : (compG g).length = (rts (both (GE g)) g.length).length := cmps_length _ _ _
/-- What Components returns. -/
def CompRes (g : List (List Int)) (B : Nat) (e : Ending) (w' : World) : Prop :=
  (¬ ValidG g ∧ e = .returned (.tuple #[.slice none 0 0, .int .i64 1])) ∨ (ValidG g ∧ ∃ ao co ms, e = .returned (.tuple #[.slice ao (compG g).length co, .int .i64 0]) ∧ OwnG w' B 25 3 ao (compG g).length co ms ms (compG g))
set_option maxRecDepth 20000 in
theorem comps_any (hg : IsRows w a len cap g) :
    Calls Try.prog 15 #[.slice a len cap] w fun e w' => CompRes g w.heap.size e w' ∧ Below w.heap.size w w' := by
  have hval := valid_any hg
  by_cases hv : ValidG g
  · rw [validGB_yes hv] at hval
    have hcm := components_any hg hv
    have HV := Lib.hid hv
    have HL := Lib.hid hg.length
    clear hv
    go_enter Try.func15, Try.ntmps15
    go_wp2_with (go_at_call 32; refine hval.mono ?_; rintro e w' ⟨rfl, rfl⟩)
    go_at_call 34
    refine hcm.mono ?_
    rintro e w2 ⟨ao, co, ms, zc, rfl, hG, -, -, -, hb⟩
    clear hcm hval
    have hC : Hid (cmps (both (GE g)) len len = compG g ∧ (rts (both (GE g)) len).length = (compG g).length) := Lib.hid (by rw [compG_length]; unfold compG; rw [HL.out]; exact ⟨rfl, rfl⟩)
    rw [hC.out.1, hC.out.2] at hG
    rw [hC.out.2]
    go_wp2
    go_ret2
    exact ⟨.inr ⟨HV.out, ao, co, ms, rfl, hG⟩, hb⟩
  · rw [validGB_no hv] at hval
    have HV := Lib.hid hv
    clear hv
    go_enter Try.func15, Try.ntmps15
    go_wp2_with (go_at_call 32; refine hval.mono ?_; rintro e w' ⟨rfl, rfl⟩)
    go_ret2
    exact ⟨.inl ⟨HV.out, rfl⟩, Below.refl _ _⟩
end Go.Proofs.Ytlogmgkjikamaaa
