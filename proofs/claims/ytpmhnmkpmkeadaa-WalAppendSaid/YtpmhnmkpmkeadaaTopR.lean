/-
  A list of byte strings that came in, as the walk reads it.
-/
import Derived.Test.YtpmhnmkpmkeadaaTop
import Derived.Test.YtpmhnmkpmkeadaaWalC
import Derived.Deep.Matrix
namespace Go.Proofs.Ytpmhnmkpmkeadaa
open Go.ChangeShapes Go.WideShapes Go.ChangeAt Go.RowKit Go.Deep

theorem spot_none {w : World} {a : Addr} {v : Value} (h : w.cell? a = some v) : a.spot = none := by
  obtain ⟨b, o, s⟩ := a
  cases s with
  | none => rfl
  | some x =>
    exfalso
    unfold World.cell? at h
    split at h
    · simp at h
    · cases h

theorem recs_in {H : Type} {enc : TypeId × Value → H} {P : Program} {W : World} {t e q : TypeId} {v : Value} {d : DataW H} {p : List MemPlace} {r : Reach} {b0 : Nat}
    (ht : P.underlying t = some (.slice e)) (he : P.underlying e = some (.slice q)) (hq : P.underlying q = some (.int .u8)) (ce : P.cellsOf e = 1) (cq : P.cellsOf q = 1) (hv : Value.okWide P W r b0 t v)
    (h : DataW.Trod enc P W 0 (fun _ => true) true t v d p) : ∃ a len cap rs, v = .slice a len cap ∧ IsRecs W a len cap rs ∧ ∀ r ∈ rs, Bytes r := by
  obtain ⟨a, len, cap, rfl⟩ := okWide_slice ht hv
  obtain ⟨fuel, hf⟩ := h
  rcases open_int_rows ht he hq ce cq hf with ⟨hcs, _⟩ | ⟨x, l, c, A, L, C, Z, hcs, _, hl, hm, _, hrow⟩
  · simp [Value.cells] at hcs
    obtain ⟨rfl, rfl, rfl⟩ := hcs
    exact ⟨_, _, _, [], rfl, ⟨rfl, .inl ⟨rfl, rfl, rfl⟩⟩, fun r hr => by cases hr⟩
  · simp [Value.cells] at hcs
    obtain ⟨rfl, rfl, rfl⟩ := hcs
    have hsp : x.spot = none := by
      simp only [Value.okWide, ht, Cell.okWide, Cell.ok, World.has] at hv
      exact hv.2.2.2.1
    obtain ⟨b, off, s⟩ := x
    simp only at hsp
    subst hsp
    have hgl : ∀ i, i < len → gl ((List.range len).map fun r => (Z r).take (L r)) i = (Z i).take (L i) := by
      intro i hi
      rw [gl_eq _ _ (by simpa using hi)]
      simp
    refine ⟨_, _, _, (List.range len).map fun r => (Z r).take (L r), rfl, ⟨by simp, .inr ⟨b, off, rfl, hl, hm, fun i hi => ?_⟩⟩, ?_⟩
    · obtain ⟨h1, h2, h3, h4, h5, h6, h7⟩ := hrow i (by omega)
      rw [addr_add] at h1
      refine ⟨_, h1, A i, L i, C i, rfl, ?_⟩
      rw [hgl i hi]
      by_cases hc0 : C i = 0
      · exact .inr ⟨by omega, hc0, by rw [show L i = 0 by omega]; rfl⟩
      · cases hA : A i with
        | none => exact absurd (h6 hA) hc0
        | some a' =>
          obtain ⟨_, h8⟩ := h7 a' hA
          have h80 := h8 0 (by omega)
          have hs0 := spot_none h80
          simp only [Addr.add, if_true] at hs0
          obtain ⟨b', off', s'⟩ := a'
          simp only at hs0
          subst hs0
          refine .inl (.inr ⟨b', off', rfl, h2, h3, by simp; omega, fun j hj => ?_⟩)
          have := h8 j (by omega)
          rw [addr_add] at this
          rw [this, gi_take _ _ _ hj, gi]
    · intro r hr
      simp only [List.mem_map, List.mem_range] at hr
      obtain ⟨i, hi, rfl⟩ := hr
      obtain ⟨_, _, _, _, h5, _⟩ := hrow i (by omega)
      intro z hz
      have := bounds_u8 (h5 z (List.mem_of_mem_take hz))
      omega
end Go.Proofs.Ytpmhnmkpmkeadaa
