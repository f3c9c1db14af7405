/-
  Arguments that are rows of integers, or pairs of integers, opened.
-/
import Derived.Test.YtlogmgkjikamaaaTop
import Derived.Test.YtlogmgkjikamaaaGraB
import Derived.Test.YtlogmgkjikamaaaOrdPg
import Derived.Deep.DeepHandedRow
import Derived.Deep.SlicePairs
import Derived.Deep.Matrix
set_option linter.unusedVariables false
namespace Go.Proofs.Ytlogmgkjikamaaa
open Go.ChangeShapes Go.WideShapes Go.ChangeAt Go.RowKit Go.Deep

theorem spot_none {w : World} {a : Addr} {v : Value} (h : w.cell? a = some v) : a.spot = none := by
  obtain ⟨b, o, s⟩ := a
  cases s with
  | none => rfl
  | some x =>
    exfalso
    unfold World.cell? at h
    split at h
    · simp at h
    · cases h

theorem rows_in {H : Type} {enc : TypeId × Value → H} {P : Program} {W : World} {t e q : TypeId} {v : Value} {d : DataW H} {p : List MemPlace} {r : Reach} {b0 : Nat}
    (ht : P.underlying t = some (.slice e)) (he : P.underlying e = some (.slice q)) (hq : P.underlying q = some (.int .i64)) (ce : P.cellsOf e = 1) (cq : P.cellsOf q = 1) (hv : Value.okWide P W r b0 t v)
    (h : DataW.Trod enc P W 0 (fun _ => true) true t v d p) : ∃ a len cap g, v = .slice a len cap ∧ IsRows W a len cap g := by
  obtain ⟨a, len, cap, rfl⟩ := okWide_slice ht hv
  obtain ⟨fuel, hf⟩ := h
  rcases open_int_rows ht he hq ce cq hf with ⟨hcs, _⟩ | ⟨x, l, c, A, L, C, Z, hcs, _, hl, hm, _, hrow⟩
  · simp [Value.cells] at hcs
    obtain ⟨rfl, rfl, rfl⟩ := hcs
    exact ⟨_, _, _, [], rfl, Nat.le_refl _, by decide, rfl, fun h => absurd h (Nat.lt_irrefl _)⟩
  · simp [Value.cells] at hcs
    obtain ⟨rfl, rfl, rfl⟩ := hcs
    have hsp : x.spot = none := by
      simp only [Value.okWide, ht, Cell.okWide, Cell.ok, World.has] at hv
      exact hv.2.2.2.1
    obtain ⟨b, off, s⟩ := x
    simp only at hsp
    subst hsp
    have hgl : ∀ i, i < len → gr ((List.range len).map fun r => (Z r).take (L r)) i = (Z i).take (L i) := by
      intro i hi
      rw [gr_eq _ _ (by simpa using hi)]
      simp
    refine ⟨_, _, _, (List.range len).map fun r => (Z r).take (L r), rfl, hl, hm, by simp, fun _ => ⟨b, off, rfl, fun i hi => ?_⟩⟩
    obtain ⟨h1, h2, h3, h4, h5, h6, h7⟩ := hrow i (by omega)
    rw [addr_add] at h1
    refine ⟨A i, L i, C i, h1, ?_⟩
    rw [hgl i hi]
    by_cases hc0 : C i = 0
    · exact .inr ⟨by omega, hc0, by rw [show L i = 0 by omega]; rfl⟩
    · cases hA : A i with
      | none => exact absurd (h6 hA) hc0
      | some a' =>
        obtain ⟨_, h8⟩ := h7 a' hA
        have h80 := h8 0 (by omega)
        have hs0 := spot_none h80
        simp only [Addr.add, if_true] at hs0
        obtain ⟨b', off', s'⟩ := a'
        simp only at hs0
        subst hs0
        refine .inl (.inr ⟨b', off', rfl, h2, h3, by simp; omega, fun j hj => ?_⟩)
        have := h8 j (by omega)
        rw [addr_add] at this
        rw [this, gi_take _ _ _ hj, gi]

theorem trod_array2 {H : Type} {enc : TypeId × Value → H} {P : Program} {w : World} {base : Nat} {spare : Nat → Bool} {held : Bool} {t e : TypeId} {fuel : Nat} {c0 c1 : Value} {x : DataW H × List MemPlace} (ht : P.underlying t = some (.array 2 e)) (hce : P.cellsOf e = 1)
    (h : DataW.trod enc P w base spare held fuel t [c0, c1] = some x) :
    ∃ y0 y1 n, DataW.trod enc P w base spare held n e [c0] = some y0 ∧ DataW.trod enc P w base spare held n e [c1] = some y1 := by
  cases fuel with
  | zero => simp [DataW.trod] at h
  | succ n =>
    unfold DataW.trod at h
    rw [ht] at h
    have r2 : List.range 2 = [0, 1] := rfl
    simp [r2, hce] at h
    obtain ⟨_, h⟩ := h
    cases h0 : DataW.trod enc P w base spare held n e [c0] with
    | none => simp [h0] at h
    | some y0 =>
      cases h1 : DataW.trod enc P w base spare held n e [c1] with
      | none => simp [h0, h1] at h
      | some y1 => exact ⟨y0, y1, n, h0, h1⟩

theorem pairs_in {H : Type} {enc : TypeId × Value → H} {P : Program} {W : World} {t e q : TypeId} {v : Value} {d : DataW H} {p : List MemPlace} {r : Reach} {b0 : Nat}
    (ht : P.underlying t = some (.slice e)) (he : P.underlying e = some (.array 2 q)) (hq : P.underlying q = some (.int .i64)) (ce : P.cellsOf e = 2) (cq : P.cellsOf q = 1) (hv : Value.okWide P W r b0 t v)
    (h : DataW.Trod enc P W 0 (fun _ => true) true t v d p) : ∃ a len cap es, v = .slice a len cap ∧ IsPairs W a len cap es := by
  obtain ⟨a, len, cap, rfl⟩ := okWide_slice ht hv
  obtain ⟨fuel, hf⟩ := h
  rcases Go.Deep.open_slice ht hf with ⟨h2, _⟩ | ⟨x, l, c, m2, n2, D, Pl, h2, hb, hl, hm, hmm, _, hx⟩
  · simp [Value.cells] at h2
    obtain ⟨rfl, rfl, rfl⟩ := h2
    exact ⟨_, _, _, [], rfl, .inl ⟨rfl, rfl, rfl, rfl⟩⟩
  · simp [Value.cells] at h2
    obtain ⟨rfl, rfl, rfl⟩ := h2
    have hsp : x.spot = none := by
      simp only [Value.okWide, ht, Cell.okWide, Cell.ok, World.has] at hv
      exact hv.2.2.2.1
    obtain ⟨b, off, s⟩ := x
    simp only at hsp
    subst hsp
    have hm2 : m2 = cap := by simpa using hmm
    subst hm2
    have each : ∀ i, i < len → ∃ q : Int × Int, W.cell? ⟨b, off + i * 2, none⟩ = some (.int .i64 q.1) ∧ W.cell? ⟨b, off + i * 2 + 1, none⟩ = some (.int .i64 q.2) := by
      intro i hi
      obtain ⟨cs', g1, g2⟩ := hx i (by omega)
      rw [ce] at g1
      obtain ⟨_, hlen, hc⟩ := World.cells?_some g1
      match cs', hlen with
      | [u0, u1], _ =>
        obtain ⟨z0, z1, k, t0, t1⟩ := trod_array2 he cq g2
        obtain ⟨q0, e0, -, -⟩ := DataW.trod_int hq t0
        obtain ⟨q1, e1, -, -⟩ := DataW.trod_int hq t1
        simp only [List.cons.injEq, and_true] at e0 e1
        subst e0 e1
        have f0 := hc 0 (by omega)
        have f1 := hc 1 (by omega)
        rw [addr_add, addr_add] at f0 f1
        exact ⟨(q0, q1), by simpa using f0, by simpa using f1⟩
    obtain ⟨q, hq⟩ := Go.Deep.choose_lt each
    have hg : ∀ i, i < len → gp ((List.range len).map q) i = q i := by
      intro i hi
      rw [gp_eq _ _ (by simpa using hi)]
      simp
    exact ⟨_, len, m2, (List.range len).map q, rfl, .inr ⟨b, off, rfl, hl, hm, by simp, fun i hi => by rw [hg i hi]; exact hq i hi⟩⟩
end Go.Proofs.Ytlogmgkjikamaaa
