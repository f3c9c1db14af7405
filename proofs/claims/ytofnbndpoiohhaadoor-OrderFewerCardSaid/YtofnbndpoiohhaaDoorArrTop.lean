/-
  An argument that is an array of two integers, opened.
-/
import Derived.Test.YtofnbndpoiohhaaDoorOrdTop
set_option linter.unusedVariables false
namespace Go.Proofs.YtofnbndpoiohhaaDoor
open Go.RowKit Go.Shelf

theorem arr2_in {H : Type} {enc : TypeId × Value → H} {W : World} {v : Value} {d : DataW H} {p : List MemPlace} {r : Reach} {b0 : Nat} (hv : Value.okWide Tryd.prog W r b0 39 v) (h : DataW.Trod enc Tryd.prog W 0 (fun _ => true) true 39 v d p) :
    ∃ x y, v = .agg #[.int .i64 x, .int .i64 y] ∧ (Lit.int .i64 x).wf = true ∧ (Lit.int .i64 y).wf = true := by
  simp only [Value.okWide, Tryd.underlying39] at hv
  obtain ⟨cs, rfl, hsz, -⟩ := hv
  have ce : Tryd.prog.cellsOf 39 = 2 := by kernel_rfl
  rw [ce] at hsz
  obtain ⟨cs⟩ := cs
  match cs, hsz with
  | [u0, u1], _ =>
    obtain ⟨fuel, hf⟩ := h
    obtain ⟨z0, z1, k, t0, t1⟩ := trod_array2 Tryd.underlying39 (by kernel_rfl) hf
    obtain ⟨q0, e0, -, w0⟩ := DataW.trod_int Tryd.underlying3 t0
    obtain ⟨q1, e1, -, w1⟩ := DataW.trod_int Tryd.underlying3 t1
    simp only [List.cons.injEq, and_true] at e0 e1
    subst e0 e1
    exact ⟨q0, q1, rfl, w0, w1⟩
end Go.Proofs.YtofnbndpoiohhaaDoor
