import Derived.Laws.CopyOwn
import Derived.Test.YtofaifeadhimjaaGreatDoorMG3
import Derived.Test.YtofaifeadhimjaaGreatDoorMG4
import Derived.Test.YtofaifeadhimjaaGreatDoorMG6
import Derived.Test.YtofaifeadhimjaaGreatDoorMG9
/-
  Fam2, NfaO
-/
set_option linter.unusedVariables false
namespace Go.Proofs.YtofaifeadhimjaaGreatDoor
open Go.RowKit
section
variable {P : Program} {a0 : Act} {C : World → Prop} {G : World → World → Prop} {Vi : Value → World → Prop} {o : Oper} {f : Nat → Value} {d : List (Nat × Nat)} {W : World}
theorem tab_noU {j : Nat} {b : Bool} (hg : o.guard = some (j, b)) (hf : f j = undef) (h : Vi undef W) : tabStep P a0 C G Vi o f d W := by
 unfold tabStep
 rw [if_neg (by simp [Region.wanted, hg, fyield, hf, undef])]
 exact h
end
section
variable {P : Program} {a0 : Act} {Vs : List (Value → Prop)} {S : (Nat → Bool) → (Nat → Value) → World → Prop} {i : Nat} {o : Oper} {d : List (Nat × Nat)} {L : Nat → Bool} {f : Nat → Value} {W : World}
end
end Go.Proofs.YtofaifeadhimjaaGreatDoor

set_option linter.unusedSimpArgs false
set_option linter.unusedVariables false
namespace Go.Proofs.YtofaifeadhimjaaGreatDoor
open Go.RowKit
attribute [local go_sem] Oper.semAt_some

theorem elI64 : Elem Tryz.prog 22 3 (.int .i64 0) 1 8 := ⟨Tryz.underlying22, by kernel_rfl, rfl, by decide⟩
theorem elB : Elem Tryz.prog 23 4 (.bool false) 1 1 := ⟨Tryz.underlying23, by kernel_rfl, rfl, by decide⟩
theorem elA : Elem Tryz.prog 29 50 (.agg #[.int .i64 0, .int .i64 0, .int .i64 0]) 3 24 := ⟨Tryz.underlying29, by kernel_rfl, rfl, by decide⟩
theorem boxNW (a : Nfa) (h : NH) (w : World) (hd : IsNfa w h a) : ∃ W1, w.alloc (.cells #[.int .i64 a.n, .slice h.sa h.sl h.sc, .slice h.fa h.fl h.fc, .slice h.aa h.al h.ac] 31) = W1 ∧ W1.heap.size = w.heap.size + 1 ∧ Below w.heap.size w W1 ∧ ∀ W, Below (w.heap.size + 1) W1 W → (W.cell? ⟨w.heap.size, 0, none⟩ = some (.int .i64 a.n) ∧ W.cell? ⟨w.heap.size, 1, none⟩ = some (.slice h.sa h.sl h.sc) ∧ W.cell? ⟨w.heap.size, 2, none⟩ = some (.slice h.fa h.fl h.fc) ∧ W.cell? ⟨w.heap.size, 3, none⟩ = some (.slice h.aa h.al h.ac)) ∧ IsNfa W h a ∧ Below w.heap.size w W := by
 obtain ⟨hb1, hs1, hO⟩ := boxN a.n h.sa h.sl h.sc h.fa h.fl h.fc h.aa h.al h.ac w
 refine ⟨_, rfl, hs1, hb1, fun W hb => ?_⟩
 have hB : Below w.heap.size w W := hb1.trans (hb.mono (Nat.le_succ _))
 exact ⟨hO W hb, hd.later hB, hB⟩
theorem Pcs.one {W : World} {B : Nat} {p : Pc} (h : p.At W B) : Pcs W B [p] := by
 refine ⟨fun i q hq => ?_, fun i j q r hne hq hr => ?_⟩
 ·cases i with
  | zero => simp at hq; subst hq; exact h
  | succ i => simp at hq
 ·cases i with
  | zero =>
   cases j with
   | zero => omega
   | succ j => simp at hr
  | succ i => simp at hq
theorem set_gb {os : List Bool} {n : Nat} (h : gb os n = true) : os.set n true = os := by
 have hl : n < os.length := Nat.lt_of_not_le fun hle => by
  have : gb os n = false := by unfold gb; rw [List.getD_eq_getElem?_getD, List.getElem?_eq_none hle]; rfl
  rw [this] at h; cases h
 refine gb_ext' (by simp) fun i hi => ?_
 rw [gb_set' hl]
 by_cases e : i = n
 ·subst e; rw [if_pos rfl, h]
 ·rw [if_neg e]
end Go.Proofs.YtofaifeadhimjaaGreatDoor
