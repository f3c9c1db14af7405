/-
  The reference: Make, Back.
-/
import Derived.Test.YtlogmgkjikamaaaGraF
import Derived.Test.YtlogmgkjikamaaaGraCr
set_option linter.unusedSimpArgs false
set_option linter.unusedVariables false
set_option maxHeartbeats 4000000
namespace Go.Proofs.Ytlogmgkjikamaaa
open Go.RowKit
attribute [local go_sem] Oper.semAt_some

variable {a : Option Addr} {len cap : Nat} {g : List (List Int)} {w : World}

theorem elG2 : Elem Try.prog 22 25 (.slice none 0 0) 1 24 := ⟨Try.underlying22, by kernel_rfl, rfl, by decide⟩
theorem withL_rowE {N : Nat} {p : Nat → Bool} {b : Nat} (hb : b < N) : withL (rowE N p) (b : Int) = rowE N fun m => p m || decide (m = b) := by
  rw [withL_asc _ _ (asc_rowE N p)]
  refine asc_ext ?_ (asc_rowE _ _) fun z => ?_
  · refine List.pairwise_append.2 ⟨(asc_rowE N p).filter _, List.pairwise_cons.2 ⟨fun y hy => by have := List.mem_filter.1 hy; simpa using this.2, (asc_rowE N p).filter _⟩, fun x hx y hy => ?_⟩
    have h1 : x < b := by simpa using (List.mem_filter.1 hx).2
    rcases List.mem_cons.1 hy with e | e
    · omega
    · have h2 : (b : Int) < y := by simpa using (List.mem_filter.1 e).2
      omega
  · rw [List.mem_append, List.mem_cons, List.mem_filter, List.mem_filter, mem_rowE, mem_rowE]
    constructor
    · rintro (⟨⟨m, h1, h2, rfl⟩, _⟩ | rfl | ⟨⟨m, h1, h2, rfl⟩, _⟩)
      · exact ⟨m, h1, by simp [h2], rfl⟩
      · exact ⟨b, hb, by simp, rfl⟩
      · exact ⟨m, h1, by simp [h2], rfl⟩
    · rintro ⟨m, h1, h2, rfl⟩
      rcases Nat.lt_trichotomy m b with h | h | h
      · exact .inl ⟨⟨m, h1, by simpa [show ¬ m = b by omega] using h2, rfl⟩, by simp; omega⟩
      · exact .inr (.inl (by omega))
      · exact .inr (.inr ⟨⟨m, h1, by simpa [show ¬ m = b by omega] using h2, rfl⟩, by simp; omega⟩)
theorem graphE_none {N : Nat} : graphE N (prB []) = List.replicate N [] := by
  refine rows_ext (by rw [graphE_length]; simp) fun i hi => ?_
  rw [graphE_length] at hi
  rw [gr_graphE hi, gr_replicate]
  simp [rowE, prB]
theorem graphE_snoc {N A Y : Nat} {es : List (Int × Int)} {e : Int × Int} (hA : A < N) (hY : Y < N) (h1 : e.1 = (A : Int)) (h2 : e.2 = (Y : Int)) : (graphE N (prB es)).set A (withL (gr (graphE N (prB es)) A) (Y : Int)) = graphE N (prB (es ++ [e])) := by
  refine rows_ext (by simp [graphE]) fun i hi => ?_
  rw [List.length_set, graphE_length] at hi
  rw [gr_set (by rw [graphE_length]; exact hA), gr_graphE hi, gr_graphE hi]
  have he : e = ((A : Int), (Y : Int)) := by rw [← h1, ← h2]
  have key : ∀ b, prB (es ++ [e]) i b = (prB es i b || decide (i = A ∧ b = Y)) := fun b => by
    rw [Bool.eq_iff_iff, Bool.or_eq_true, prB_iff, prB_iff, List.mem_append, List.mem_singleton, decide_eq_true_iff, he, Prod.mk.injEq]
    constructor
    · rintro (h | h)
      · exact .inl h
      · exact .inr (by omega)
    · rintro (h | h)
      · exact .inl h
      · exact .inr (by omega)
  by_cases e1 : i = A
  · subst e1
    rw [if_pos rfl, gr_graphE hi, withL_rowE hY]
    unfold rowE
    congr 1
    refine List.filter_congr fun b _ => ?_
    rw [key b]
    simp
  · rw [if_neg e1]
    unfold rowE
    congr 1
    refine List.filter_congr fun b _ => ?_
    rw [key b]
    simp [e1]

def rowsT (es : List (Int × Int)) (N : Nat) : List (List Int) := (List.range N).map (tgt es)
theorem rowsT_length (es : List (Int × Int)) (N : Nat) : (rowsT es N).length = N := by simp [rowsT]
theorem gr_rowsT {es : List (Int × Int)} {N a : Nat} (ha : a < N) : gr (rowsT es N) a = tgt es a := by
  rw [gr_eq _ _ (by rw [rowsT_length]; exact ha)]
  simp [rowsT]
theorem rowsT_nil (N : Nat) : rowsT [] N = List.replicate N [] := by
  refine rows_ext (by simp [rowsT]) fun i hi => ?_
  rw [rowsT_length] at hi
  rw [gr_rowsT hi, gr_replicate]
  rfl
theorem rowsT_snoc {es : List (Int × Int)} {N A : Nat} {y : Int} (hA : A < N) : (rowsT es N).set A (gr (rowsT es N) A ++ [y]) = rowsT (es ++ [((A : Int), y)]) N := by
  refine rows_ext (by simp [rowsT]) fun i hi => ?_
  rw [List.length_set, rowsT_length] at hi
  rw [gr_set (by rw [rowsT_length]; exact hA), gr_rowsT hi, gr_rowsT hi, tgt_snoc]
  by_cases e : i = A
  · subst e; rw [if_pos rfl, if_pos rfl, gr_rowsT hi]
  · rw [if_neg e, if_neg (by simp only; omega), List.append_nil]
theorem tgt_append (xs ys : List (Int × Int)) (a : Nat) : tgt (xs ++ ys) a = tgt xs a ++ tgt ys a := by simp [tgt]
theorem tgt_revRow (l : List Int) (i a : Nat) (hn : l.Nodup) : tgt (revRow l i) a = if (a : Int) ∈ l then [(i : Int)] else [] := by
  induction l with
  | nil => rfl
  | cons z l ih =>
    have hn' := List.nodup_cons.1 hn
    have e : revRow (z :: l) i = [(z, (i : Int))] ++ revRow l i := rfl
    rw [e, tgt_append, ih hn'.2]
    by_cases h : z = (a : Int)
    · subst h
      rw [if_neg hn'.1, if_pos List.mem_cons_self]
      simp [tgt]
    · have : tgt [(z, (i : Int))] a = [] := by simp [tgt, h]
      rw [this, List.nil_append]
      by_cases h2 : (a : Int) ∈ l
      · rw [if_pos h2, if_pos (List.mem_cons_of_mem _ h2)]
      · rw [if_neg h2, if_neg (fun h3 => by rcases List.mem_cons.1 h3 with h4 | h4; exact h h4.symm; exact h2 h4)]
theorem rowE_succ (N : Nat) (p : Nat → Bool) : rowE (N + 1) p = rowE N p ++ if p N = true then [(N : Int)] else [] := by
  unfold rowE
  rw [List.range_succ, List.filter_append, List.map_append]
  by_cases h : p N = true <;> simp [h]
theorem tgt_revTo {g : List (List Int)} (hv : ValidG g) (a : Nat) : ∀ i, i ≤ g.length → tgt (revTo g i) a = rowE i fun b => geB g b a
  | 0, _ => rfl
  | i + 1, hi => by
    rw [revTo_succ, tgt_append, tgt_revTo hv a i (by omega), tgt_revRow _ _ _ (hv.2 _ (gr_mem (by omega))).1.nodup, rowE_succ]
    congr 1
    by_cases h : geB g i a = true
    · rw [if_pos h, if_pos (show (a : Int) ∈ gr g i from geB_iff.1 h)]
    · rw [if_neg h, if_neg (fun h2 : (a : Int) ∈ gr g i => h (geB_iff.2 h2))]
theorem rowsT_back {g : List (List Int)} (hv : ValidG g) : rowsT (revTo g g.length) g.length = backG g := by
  refine rows_ext (by rw [rowsT_length]; unfold backG; rw [graphE_length]) fun i hi => ?_
  rw [rowsT_length] at hi
  rw [gr_rowsT hi, tgt_revTo hv i _ (Nat.le_refl _)]
  unfold backG
  rw [gr_graphE hi]
end Go.Proofs.Ytlogmgkjikamaaa
