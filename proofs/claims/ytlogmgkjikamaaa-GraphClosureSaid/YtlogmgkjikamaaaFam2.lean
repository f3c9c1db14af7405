/-
  Drawn regions: operations whose guard was not carried out.
-/
import Derived.Test.YtlogmgkjikamaaaFam
set_option linter.unusedVariables false
namespace Go.Proofs.Ytlogmgkjikamaaa
open Go.RowKit
section
variable {P : Program} {a0 : Act} {C : World → Prop} {G : World → World → Prop} {Vi : Value → World → Prop} {o : Oper} {f : Nat → Value} {d : List (Nat × Nat)} {W : World}
theorem tab_noU {j : Nat} {b : Bool} (hg : o.guard = some (j, b)) (hf : f j = undef) (h : Vi undef W) : tabStep P a0 C G Vi o f d W := by
  unfold tabStep
  rw [if_neg (by simp [Region.wanted, hg, fyield, hf, undef])]
  exact h
end
section
variable {P : Program} {a0 : Act} {Vs : List (Value → Prop)} {S : (Nat → Bool) → (Nat → Value) → World → Prop} {i : Nat} {o : Oper} {d : List (Nat × Nat)} {L : Nat → Bool} {f : Nat → Value} {W : World}
theorem st_noU {j : Nat} {b : Bool} (hg : o.guard = some (j, b)) (hf : f j = undef) (hV : (Vs.getD i fun _ => True) undef) (h : S (fun j => if j = i then true else L j) (fun j => if j = i then undef else f j) W) : stStep P a0 Vs S i o d L f W := by
  unfold stStep
  rw [if_neg (by simp [Region.wanted, hg, fyield, hf, undef])]
  exact ⟨hV, h⟩
end
end Go.Proofs.Ytlogmgkjikamaaa
