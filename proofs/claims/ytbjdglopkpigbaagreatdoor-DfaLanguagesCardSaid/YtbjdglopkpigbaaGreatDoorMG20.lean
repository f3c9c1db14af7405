import Derived.Test.YtbjdglopkpigbaaGreatDoorMG10
import Derived.Test.YtbjdglopkpigbaaGreatDoorMG16
import Derived.Test.YtbjdglopkpigbaaGreatDoorMG18
import Derived.Test.YtbjdglopkpigbaaGreatDoorMG19
/-
  BtY, BtAl
-/
set_option linter.unusedSimpArgs false
set_option linter.unusedVariables false
namespace Go.Proofs.YtbjdglopkpigbaaGreatDoor.Bt
open Go.RowKit Go.Shelf
attribute [local go_sem] Oper.semAt_some
end Go.Proofs.YtbjdglopkpigbaaGreatDoor.Bt
namespace Go.Proofs.YtbjdglopkpigbaaGreatDoor.Bt
open Go.RowKit Go.Shelf
def SetIs (zs : List Int) (p : Nat → Bool) : Prop := W64 zs ∧ Canon zs ∧ ∀ n, n < 4096 → bt zs n = p n
theorem SetIs.uniq {xs ys : List Int} {p q : Nat → Bool} (hx : SetIs xs p) (hy : SetIs ys q) (h : ∀ n, n < 4096 → p n = q n) : xs = ys :=
 canon_ext hx.1 hy.1 hx.2.1 hy.2.1 fun n hn => by rw [hx.2.2 n hn, hy.2.2 n hn, h n hn]
theorem SetIs.set {zs : List Int} {p : Nat → Bool} (h : SetIs zs p) : setL (bt zs) = setL p := setL_congr h.2.2
def GivesL (w : World) (p : Nat → Bool) (e : Ending) (w' : World) : Prop :=
 ∃ a n c, e = .returned (.slice a n c) ∧ IsInts .i64 w' a n c (setL p) ∧ n ≤ 4096 ∧ Below w.heap.size w w'
theorem givesL_of {w w' : World} {e : Ending} {p : Nat → Bool} {l : List Int} {a3 : Option Addr} {n3 c3 : Nat} (he : e = .returned (.slice a3 n3 c3)) (ho : w'.ownsRow w.heap.size 3 1 (.slice a3 n3 c3) n3 (ivs .i64 l)) (hl : l = setL p) (hb : Below w.heap.size w w') : GivesL w p e w' := by
 rw [hl] at ho
 have hn : n3 ≤ 4096 := by have h1 := owns_len ho; have h2 := setL_len p; omega
 exact ⟨a3, n3, c3, he, (IsInts.of_owns ho).1, hn, hb⟩
variable {a : Option Addr} {len cap : Nat} {xs : List Int} {a' : Option Addr} {len' cap' : Nat} {ys : List Int} {w : World} {p q : Nat → Bool}
set_option maxRecDepth 20000 in
theorem list_s (hs : IsInts .u64 w a len cap xs) (hx : W64 xs) (hT : TabAt 0 Lib.deBruijn64tab w) :
  Calls Tryz.prog 47 #[.slice a len cap] w (GivesL w (bt xs)) := by
 refine (list_any _ _ _ _ _ hs hx hT).mono ?_
 rintro e w' ⟨a3, n3, c3, he, ho, hb⟩
 exact givesL_of he ho rfl hb
end Go.Proofs.YtbjdglopkpigbaaGreatDoor.Bt
