/-
  The document's example of a graph: its distances, components and order. No walk.
-/
import Derived.Test.YtlogmgkjikamaaaGraX
import Derived.Test.YtlogmgkjikamaaaGraQ
import Derived.Test.YtlogmgkjikamaaaGraO
set_option linter.unusedVariables false
namespace Go.Proofs.Ytlogmgkjikamaaa

/-- The document's graph. -/
def g0 : List (List Int) := [[1], [2], [1, 3], []]
theorem g0_edge {a b : Nat} : GE g0 a b ↔ (a = 0 ∧ b = 1) ∨ (a = 1 ∧ b = 2) ∨ (a = 2 ∧ b = 1) ∨ (a = 2 ∧ b = 3) := by
  unfold GE
  rcases Nat.lt_or_ge a 4 with h | h
  · have : a = 0 ∨ a = 1 ∨ a = 2 ∨ a = 3 := by omega
    rcases this with rfl | rfl | rfl | rfl
    · show (b : Int) ∈ [(1 : Int)] ↔ _
      rw [List.mem_singleton]; omega
    · show (b : Int) ∈ [(2 : Int)] ↔ _
      rw [List.mem_singleton]; omega
    · show (b : Int) ∈ [(1 : Int), 3] ↔ _
      rw [List.mem_cons, List.mem_singleton]; omega
    · show (b : Int) ∈ ([] : List Int) ↔ _
      simp
  · rw [gr_over (show g0.length ≤ a from h)]
    simp; omega
theorem g0_valid : ValidG g0 := by
  unfold ValidG Asc
  exact ⟨by decide, by decide⟩
/-- What the example's nodes reach. -/
def r0 (a b : Nat) : Bool := a == b || (decide (a ≤ 2) && (b == 1 || b == 2 || b == 3)) && !(a == 3)
theorem g0_rch {a b : Nat} (ha : a < 4) (hb : b < 4) : Rch (GE g0) a b ↔ r0 a b = true := by
  constructor
  · intro h
    have key : r0 a b = true ∧ b < 4 := by
      clear hb
      induction h with
      | refl => exact ⟨by simp [r0], ha⟩
      | @snoc b c h e ih =>
        obtain ⟨i1, i2⟩ := ih
        have e := g0_edge.1 e
        have ha' : a = 0 ∨ a = 1 ∨ a = 2 ∨ a = 3 := by omega
        rcases e with ⟨rfl, rfl⟩ | ⟨rfl, rfl⟩ | ⟨rfl, rfl⟩ | ⟨rfl, rfl⟩ <;> rcases ha' with rfl | rfl | rfl | rfl <;> first | exact ⟨rfl, by decide⟩ | (exact absurd i1 (by decide))
    exact key.1
  · intro h
    have e01 : Rch (GE g0) 0 1 := .one (g0_edge.2 (by omega))
    have e12 : Rch (GE g0) 1 2 := .one (g0_edge.2 (by omega))
    have e21 : Rch (GE g0) 2 1 := .one (g0_edge.2 (by omega))
    have e23 : Rch (GE g0) 2 3 := .one (g0_edge.2 (by omega))
    have ha' : a = 0 ∨ a = 1 ∨ a = 2 ∨ a = 3 := by omega
    have hb' : b = 0 ∨ b = 1 ∨ b = 2 ∨ b = 3 := by omega
    rcases ha' with rfl | rfl | rfl | rfl <;> rcases hb' with rfl | rfl | rfl | rfl <;> first
      | exact .refl _ | exact e01 | exact e12 | exact e21 | exact e23 | exact e01.trans e12 | exact e12.trans e23 | exact (e01.trans e12).trans e23 | (exact absurd h (by decide))
/-- Who is with whom. -/
def b0 (a b : Nat) : Bool := r0 a b && r0 b a
theorem g0_both {a b : Nat} (ha : a < 4) (hb : b < 4) : both (GE g0) a b = b0 a b := by
  rw [Bool.eq_iff_iff, both_iff]
  unfold Both b0
  rw [g0_rch ha hb, g0_rch hb ha, Bool.and_eq_true]
theorem cmps_congr {sm sm' : Nat → Nat → Bool} {N : Nat} (h : ∀ a b, a < N → b < N → sm a b = sm' a b) : cmps sm N N = cmps sm' N N := by
  have e : rts sm N = rts sm' N := by
    unfold rts
    refine List.filter_congr fun i hi => ?_
    have hi := List.mem_range.1 hi
    rw [Bool.eq_iff_iff, List.all_eq_true, List.all_eq_true]
    refine forall_congr' fun j => ⟨fun k hj => ?_, fun k hj => ?_⟩
    · have hj' := List.mem_range.1 hj
      rw [← h j i (by omega) hi]; exact k hj
    · have hj' := List.mem_range.1 hj
      rw [h j i (by omega) hi]; exact k hj
  unfold cmps
  rw [e]
  refine List.map_congr_left fun r hr => ?_
  have hr := (mem_rts.1 hr).1
  unfold memb
  congr 1
  exact List.filter_congr fun j hj => h r j hr (List.mem_range.1 hj)
theorem g0_comps : cmps (both (GE g0)) 4 4 = [[0], [1, 2], [3]] := by
  rw [cmps_congr (sm' := b0) fun a b ha hb => g0_both ha hb]
  decide
theorem g0_dist {zs : List Int} (hl : zs.length = 4) (h : LocD (GE g0) (fun n => (n : Int) ∈ [(0 : Int)]) 4 (gi zs)) : zs = [0, 1, 2, 3] := by
  have hw : LocD (GE g0) (fun n => (n : Int) ∈ [(0 : Int)]) 4 (gi [0, 1, 2, 3]) := by
    have e0 : gi [0, 1, 2, 3] 0 = 0 := rfl
    have e1 : gi [0, 1, 2, 3] 1 = 1 := rfl
    have e2 : gi [0, 1, 2, 3] 2 = 2 := rfl
    have e3 : gi [0, 1, 2, 3] 3 = 3 := rfl
    have c4 : ∀ n, n < 4 → n = 0 ∨ n = 1 ∨ n = 2 ∨ n = 3 := fun n h => by omega
    refine ⟨fun n hn => ?_, fun n hn => ?_, fun u v hu h0 e => ?_, fun v hv k e => ?_⟩
    · rcases c4 n hn with rfl | rfl | rfl | rfl <;> omega
    · rw [List.mem_singleton]
      rcases c4 n hn with rfl | rfl | rfl | rfl <;> omega
    · rcases g0_edge.1 e with ⟨rfl, rfl⟩ | ⟨rfl, rfl⟩ | ⟨rfl, rfl⟩ | ⟨rfl, rfl⟩ <;> omega
    · rcases c4 v hv with rfl | rfl | rfl | rfl
      · omega
      · exact ⟨0, by omega, g0_edge.2 (by omega), by omega⟩
      · exact ⟨1, by omega, g0_edge.2 (by omega), by omega⟩
      · exact ⟨2, by omega, g0_edge.2 (by omega), by omega⟩
  exact gi_ext (by rw [hl]; rfl) fun i hi => h.uniq hw i (by omega)
theorem g0_order {r : Option (List Nat)} (h : OrdAns g0 4 r) : r = none := by
  refine h.uniq (.inr ⟨rfl, [0], ?_, by decide, fun i hi hf => ?_⟩)
  · refine OrdB.snoc (out := []) (i := 0) .nil (by decide) ⟨by simp, fun m hm e => ?_⟩ fun j hj => absurd hj (Nat.not_lt_zero _)
    have := g0_edge.1 e; omega
  · have c4 : i = 0 ∨ i = 1 ∨ i = 2 ∨ i = 3 := by omega
    rcases c4 with rfl | rfl | rfl | rfl
    · exact hf.1 (by simp)
    · have := hf.2 2 (by decide) (g0_edge.2 (by omega)); simp at this
    · have := hf.2 1 (by decide) (g0_edge.2 (by omega)); simp at this
    · have := hf.2 2 (by decide) (g0_edge.2 (by omega)); simp at this
end Go.Proofs.Ytlogmgkjikamaaa
