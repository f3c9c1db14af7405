import Derived.Test.YtehdkcjoaogbeaaMG5
import Derived.Test.YtehdkcjoaogbeaaMG37
/-
  DfaProducts holds: for every input the law returns true, and each argument reads afterwards as it read before. No condition.
-/
set_option linter.unusedVariables false
namespace Go.Proofs.Ytehdkcjoaogbeaa.dfaProducts
open Go.ChangeShapes Go.WideShapes Go.ChangeAt Go.RowKit
open Go.ChangeMaps (open_string shut_string)

set_option maxRecDepth 100000 in
theorem lifted (os : Os) (started : os.Started) (H : Type) (enc : TypeId × Value → H) :
    ReturnsInHanded {} Try.checked os 5 .any (Rows.dfaProductsSpec.pre6 enc Try.prog Try.f5 Rows.dfaProductsRow.domain false) (Rows.dfaProductsSpec.post enc Try.prog Try.f5 false true false false) := by
  refine returnsInHanded_of_change_sized (C := Try.checked) own started (by kernel_rfl) Try.func5
    (ChangeSpec.witness6 (enc := enc) (C := Try.checked) false ⟨#[], #[.agg #[.int .i64 0, .int .i64 0, .slice none 0 0, .slice none 0 0], .agg #[.int .i64 0, .int .i64 0, .slice none 0 0, .slice none 0 0], .slice none 0 0], []⟩ 8 (by kernel_rfl) (by kernel_rfl) (by kernel_rfl) (by kernel_rfl)) ?_
  intro W base args ds gs before hval0 hW hcnd hsz0 _
  have hsz : (DataW.weightsEach Try.prog (Try.f5.params.toList ++ Rows.dfaProductsSpec.plain.varTypes Try.prog) (ds ++ gs)).all (· ≤ reachBytes) = true := hsz0
  have hval : ∀ (j : Nat) t v, Try.f5.params[j]? = some t → args[j]? = some v → Value.okWide Try.prog W .any base t v := hval0
  have hW' := hW
  obtain ⟨p, q, hA0, hV, rfl, hfz, hnd⟩ := hW
  have hA : DataW.TrodAll enc Try.prog W 0 (fun _ => true) true Try.f5.params.toList args.toList ds p := hA0
  rw [Try.params5] at hA hval hsz
  obtain ⟨v0, vs0, d0, ds0, p0, q0, hargs, rfl, rfl, h0, r0⟩ := trodAll_cons hA
  obtain ⟨v1, vs1, d1, ds1, p1, q1, rfl, rfl, rfl, h1, r1⟩ := trodAll_cons r0
  obtain ⟨v2, vs2, d2, ds2, p2, q2, rfl, rfl, rfl, h2, r2⟩ := trodAll_cons r1
  obtain ⟨rfl, rfl, rfl⟩ := trodAll_nil r2
  obtain rfl : args = #[v0, v1, v2] := by cases args; simp_all
  obtain ⟨rfl, rfl⟩ := trodVars_none hV
  have k0 := h0
  have lt0 := blocks_lt k0
  obtain ⟨a0, s0, rfl, q0⟩ := dfa_in Try.underlying25 (by kernel_rfl) (by kernel_rfl) Try.underlying3 Try.underlying3 Try.underlying22 Try.underlying4 (by kernel_rfl) Try.underlying23 Try.underlying65 (by kernel_rfl) (by kernel_rfl) Try.underlying3 Try.underlying3 Try.underlying3 (hval 0 25 v0 rfl rfl) h0
  have k1 := h1
  have lt1 := blocks_lt k1
  obtain ⟨a1, s1, rfl, q1⟩ := dfa_in Try.underlying25 (by kernel_rfl) (by kernel_rfl) Try.underlying3 Try.underlying3 Try.underlying22 Try.underlying4 (by kernel_rfl) Try.underlying23 Try.underlying65 (by kernel_rfl) (by kernel_rfl) Try.underlying3 Try.underlying3 Try.underlying3 (hval 1 25 v1 rfl rfl) h1
  have k2 := h2
  have lt2 := blocks_lt k2
  obtain ⟨a2, len2, cap2, z2, rfl, w2, b2, m2⟩ := ints_in Try.underlying40 Try.underlying3 (by kernel_rfl) (hval 2 40 v2 rfl rfl) h2 hsz 2 rfl rfl 8 (by kernel_rfl)
  clear hA0 hval0
  refine (dfaProducts_top a0 s0 a1 s1 a2 len2 cap2 z2 W q0 q1 w2 b2 m2).mono fun e W' ⟨he, bel⟩ => ?_
  subst he
  exact ⟨_, rfl, _, _, _, [], _, [], hW', trodAll_mk1 (shut_bool Try.underlying4 _), (trodAll_cons_mk (Below.trod laidOut (by kernel_rfl) (of_decide_eq_true (by kernel_rfl)) k0 bel lt0) (trodAll_cons_mk (Below.trod laidOut (by kernel_rfl) (of_decide_eq_true (by kernel_rfl)) k1 bel lt1) (trodAll_cons_mk (Below.trod laidOut (by kernel_rfl) (of_decide_eq_true (by kernel_rfl)) k2 bel lt2) trodAll_mk0))), rfl, bel.frame _, fun h => by cases h⟩

theorem over : Rows.dfaProductsRow.holds Try.pinned (OpenSpec.ofChange Rows.dfaProductsSpec) :=
  OpenClaim.holds_of_wide 5 Try.f5 rfl rfl rfl rfl rfl rfl rfl ⟨rfl, rfl, rfl, rfl, rfl⟩ rfl rfl rfl rfl rfl (by kernel_rfl) Try.func5 (by kernel_rfl)
    (of_decide_eq_true (by kernel_rfl)) (by unfold Func.isWrapper; first | (rw [if_pos (by decide +kernel)]; kernel_rfl) | (rw [if_neg (by decide +kernel)]; exact ⟨rfl, rfl⟩))
    (fun os started H enc _ => lifted os started H enc)

theorem proved : Rows.DfaProductsSaid := over
#print axioms proved
end Go.Proofs.Ytehdkcjoaogbeaa.dfaProducts
