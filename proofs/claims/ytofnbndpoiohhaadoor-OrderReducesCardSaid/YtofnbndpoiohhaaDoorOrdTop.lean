/-
  The laws' last step: what the rows' list of the table gives, a world that holds the table, and an order that came in.
-/
import Derived.Test.YtofnbndpoiohhaaDoorTop
import Derived.Test.YtofnbndpoiohhaaDoorOrdK
import Derived.Test.YtofnbndpoiohhaaDoorCards
import Derived.Test.YtofnbndpoiohhaaDoorTie
import Derived.Deep.DeepHandedRow
import Derived.Deep.SlicePairs
import Derived.Lib.LaidTab
namespace Go.Proofs.YtofnbndpoiohhaaDoor
open Go.ChangeShapes Go.WideShapes Go.ChangeAt Go.RowKit Go.Shelf

theorem gTab : Tryd.prog.globalNamed "math/bits.deBruijn64tab" = some 0 := by kernel_rfl
theorem gTabType : (Tryd.prog.globals[0]?).map (·.type) = some 67 := by kernel_rfl
theorem cellsTab : Tryd.prog.cellsOf 67 = 64 := by kernel_rfl
theorem cellsByte : Tryd.prog.cellsOf 5 = 1 := by kernel_rfl
def tabZ : List Int := Lib.deBruijn64tab.map fun n : Nat => (n : Int)

theorem table {W : World} {laid : List (String × DataW Unit)} (hl : laid = [("math/bits.deBruijn64tab", Rows.laid_math_bits_deBruijn64tab)]) (h : laidMetH Tryd.prog laid W) : TabAt 0 Lib.deBruijn64tab W := by
  subst hl
  have t : Lib.TabIs Tryd.prog W "math/bits.deBruijn64tab" .u8 tabZ :=
    Lib.tabIs_of_head (rest := []) gTab gTabType Tryd.underlying67 Tryd.underlying5 cellsByte cellsTab h
  intro j hj
  have := t.cell gTab j (by simpa [tabZ] using hj)
  rw [this]
  congr 2
  simp [tabZ, List.getD, List.getElem?_map]
  cases Lib.deBruijn64tab[j]? <;> rfl

noncomputable def laidWorld (os : Os) : World :=
  { World.holding Tryd.prog os ⟨#[], #[], []⟩ with heap := (World.holding Tryd.prog os ⟨#[], #[], []⟩).heap.modify 0 fun
      | .cells _ t frozen => .cells (tabZ.map (Value.int .u8)).toArray t frozen
      | o => o }

theorem trod_array2 {H : Type} {enc : TypeId × Value → H} {P : Program} {w : World} {base : Nat} {spare : Nat → Bool} {held : Bool} {t e : TypeId} {fuel : Nat} {c0 c1 : Value} {x : DataW H × List MemPlace} (ht : P.underlying t = some (.array 2 e)) (hce : P.cellsOf e = 1)
    (h : DataW.trod enc P w base spare held fuel t [c0, c1] = some x) :
    ∃ y0 y1 n, DataW.trod enc P w base spare held n e [c0] = some y0 ∧ DataW.trod enc P w base spare held n e [c1] = some y1 := by
  cases fuel with
  | zero => simp [DataW.trod] at h
  | succ n =>
    unfold DataW.trod at h
    rw [ht] at h
    have r2 : List.range 2 = [0, 1] := rfl
    simp [r2, hce] at h
    obtain ⟨_, h⟩ := h
    cases h0 : DataW.trod enc P w base spare held n e [c0] with
    | none => simp [h0] at h
    | some y0 =>
      cases h1 : DataW.trod enc P w base spare held n e [c1] with
      | none => simp [h0, h1] at h
      | some y1 => exact ⟨y0, y1, n, h0, h1⟩

theorem order_in {H : Type} {enc : TypeId × Value → H} {W : World} {v : Value} {d : DataW H} {p : List MemPlace} {r : Reach} {b0 : Nat} (hv : Value.okWide Tryd.prog W r b0 24 v) (h : DataW.Trod enc Tryd.prog W 0 (fun _ => true) true 24 v d p) :
    ∃ n a len cap es, v = .agg #[.int .i64 n, .slice a len cap] ∧ IsPairs W a len cap es ∧ (Lit.int .i64 n).wf = true := by
  have hv' := hv
  obtain ⟨v0, v1, y0, y1, m, rfl, rfl, rfl, h0, h1⟩ := Go.Joins.open_agg2 Tryd.underlying24 (by kernel_rfl) (by kernel_rfl) hv h
  obtain ⟨n, en, rfl, wn⟩ := DataW.trod_int Tryd.underlying3 h0
  simp only [List.cons.injEq, and_true] at en
  subst en
  have hcell : Cell.okWide Tryd.prog W r b0 22 v1 := by
    simp only [Value.okWide, Tryd.underlying24] at hv'
    obtain ⟨cs, e, _, ts, hts, _, hall⟩ := hv'
    obtain rfl := Value.agg.inj e
    have hts' : Tryd.prog.cellTypes Tryd.prog.depth 24 = some [3, 22] := by kernel_rfl
    rw [hts'] at hts
    obtain rfl := Option.some.inj hts
    obtain ⟨u, hu, hc⟩ := hall 1 v1 rfl
    simp at hu
    rw [hu]
    exact hc
  rcases Go.Deep.open_slice Tryd.underlying22 h1 with ⟨h2, _⟩ | ⟨a, len, cap, m2, n2, D, Pl, h2, hb, hl, hm, hmm, _, hx⟩
  · simp only [List.cons.injEq, and_true] at h2
    subst h2
    exact ⟨n, none, 0, 0, [], rfl, .inl ⟨rfl, rfl, rfl, rfl⟩, wn⟩
  · simp only [List.cons.injEq, and_true] at h2
    subst h2
    have hsp : a.spot = none := by
      simp only [Cell.okWide, Tryd.underlying22, Cell.ok, World.has] at hcell
      exact hcell.2.2.2.1
    obtain ⟨b, off, s⟩ := a
    simp only at hsp
    subst hsp
    have hm2 : m2 = cap := by simpa using hmm
    subst hm2
    have ce : Tryd.prog.cellsOf 39 = 2 := by kernel_rfl
    have each : ∀ i, i < len → ∃ q : Int × Int, W.cell? ⟨b, off + i * 2, none⟩ = some (.int .i64 q.1) ∧ W.cell? ⟨b, off + i * 2 + 1, none⟩ = some (.int .i64 q.2) := by
      intro i hi
      obtain ⟨cs', g1, g2⟩ := hx i (by omega)
      rw [ce] at g1
      obtain ⟨_, hlen, hc⟩ := World.cells?_some g1
      match cs', hlen with
      | [u0, u1], _ =>
        obtain ⟨z0, z1, k, t0, t1⟩ := trod_array2 Tryd.underlying39 (by kernel_rfl) g2
        obtain ⟨q0, e0, -, -⟩ := DataW.trod_int Tryd.underlying3 t0
        obtain ⟨q1, e1, -, -⟩ := DataW.trod_int Tryd.underlying3 t1
        simp only [List.cons.injEq, and_true] at e0 e1
        subst e0 e1
        have f0 := hc 0 (by omega)
        have f1 := hc 1 (by omega)
        rw [addr_add, addr_add] at f0 f1
        exact ⟨(q0, q1), by simpa using f0, by simpa using f1⟩
    obtain ⟨q, hq⟩ := Go.Deep.choose_lt each
    have hg : ∀ i, i < len → gp ((List.range len).map q) i = q i := by
      intro i hi
      rw [gp_eq _ _ (by simpa using hi)]
      simp
    exact ⟨n, _, len, m2, (List.range len).map q, rfl, .inr ⟨b, off, rfl, hl, hm, by simp, fun i hi => by rw [hg i hi]; exact hq i hi⟩, wn⟩
end Go.Proofs.YtofnbndpoiohhaaDoor
