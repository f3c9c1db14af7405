import Derived.Test.YtehdkcjoaogbeaaShelf
import Derived.Sort.OwnSortedInts
import Derived.Test.YtehdkcjoaogbeaaMG1
import Derived.Test.YtehdkcjoaogbeaaMG20
import Derived.Test.YtehdkcjoaogbeaaMG30
/-
  DfaKp, Rev
-/
set_option linter.unusedSimpArgs false
set_option linter.unusedVariables false
namespace Go.Proofs.Ytehdkcjoaogbeaa
open Go.RowKit

section
variable {P : Program} {k : TypeId} {α : Type} [DecidableEq α] {E : KeyEnc P k α} {e : TypeId} {ks : List α} {val : α → Lit} {W : World} {b : Nat}
theorem wpList_map_entry {ops : Array Oper} {rest : List Oper} {o : Oper} {A : Act} {Q : Exit → Act → World → Prop} (hg : o.guard = none) (m x y : Operand) (t : TypeId) (hop : o.op = Op.insert t m x y) (h : IsMapK E e ks val W b) (ht : P.underlying t = some (.map k e)) (hn : ks.length < maxLen)
    (hm : A.eval m = .map (some b)) (a : α) (hx : A.eval x = E.enc a) (ha : E.ok a) (hnew : a ∉ ks) (l : Lit) (hy : A.eval y = l.value) (hl : plainElem (H := Unit) P e l.value = some (.lit l, []))
    (hK : ∀ W', IsMapK E e (ks ++ [a]) (fun x => if x = a then l else val x) W' b → W.grownBy W' (some b) → wpList P ops Q rest (A.put o.dst undef) W') : wpList P ops Q (o :: rest) A W := by
  obtain ⟨W', hrun, h1, h2⟩ := h.store ht hn ha hnew hl
  refine wpList_plain hg fun _ hK' => ?_
  unfold Oper.wp
  simp [execOp, hop, hm, hx, hy, hrun, Result.andThen]
  exact hK' _ _ (hK W' h1 h2)
end
def prV (x : P2) : Value := .agg #[.int .i64 x.a, .int .i64 x.b]
set_option maxRecDepth 20000 in
theorem pr_reads (x : P2) (h : wfI x.a ∧ wfI x.b) : keyOf Try.prog 83 (prV x) = some (.string (keyBytes [.int .i64 x.a, .int .i64 x.b])) := by
  obtain ⟨a, b⟩ := x
  obtain ⟨ha, hb⟩ := h
  unfold wfI at ha hb
  have hu := Try.underlying83
  have hi := Try.underlying3
  have hkt : Try.prog.keyType 83 = true := by kernel_rfl
  have hc3 : Try.prog.cellsOf 83 = 2 := by kernel_rfl
  have hc1 : Try.prog.cellsOf 3 = 1 := by kernel_rfl
  obtain ⟨n, hn⟩ := types_pos
  unfold keyOf prV
  rw [hu, hn]
  simp only [hkt, Value.formed, hu, hc3, Value.cells, Program.keyLits]
  simp [hi, hc1, Program.keyLits, ha, hb]
set_option maxRecDepth 20000 in
theorem pr_law : Maps.Keyed Try.prog 83 := Maps.Keyed.of_law (deep_law_laid laid_ok (m := 5) (by omega) (by
  have h : Nat.ble (83 + 1) Try.prog.types.size = true := by kernel_rfl
  exact Nat.le_of_ble_eq_true h) (by kernel_rfl) (by kernel_rfl))
set_option maxRecDepth 20000 in
def keyP : KeyEnc Try.prog 83 P2 where
  law := pr_law
  enc := prV
  ok := fun x => wfI x.a ∧ wfI x.b
  kl := fun x => .string (keyBytes [.int .i64 x.a, .int .i64 x.b])
  reads := pr_reads
  inj := fun a b _ _ h => by
    obtain ⟨a1, a2⟩ := a
    obtain ⟨b1, b2⟩ := b
    simp [prV] at h
    obtain ⟨rfl, rfl⟩ := h
    rfl
theorem keyP_ok {a b : Int} (ha : -1 ≤ a ∧ a ≤ 1000000000) (hb : -1 ≤ b ∧ b ≤ 1000000000) : keyP.ok ⟨a, b⟩ := ⟨wf_small (by show _ ≤ a; omega) (by show a ≤ _; omega), wf_small (by show _ ≤ b; omega) (by show b ≤ _; omega)⟩
theorem zeroB (w : World) : (zeroValue 4).run Try.prog w = .ok (Lit.bool false).value w := by kernel_rfl
theorem bool_elem (b : Bool) : plainElem (H := Unit) Try.prog 4 (Lit.bool b).value = some (.lit (.bool b), []) := by
  unfold plainElem
  rw [Try.underlying4]
  rfl
theorem elP : Elem Try.prog 85 83 (.agg #[.int .i64 0, .int .i64 0]) 2 16 := ⟨Try.underlying85, by kernel_rfl, rfl, by decide⟩
theorem elV : Elem Try.prog 89 88 (.agg #[.int .i64 0, .int .i64 0, .int .i64 0, .int .i64 0]) 4 32 := ⟨Try.underlying89, by kernel_rfl, rfl, by decide⟩
end Go.Proofs.Ytehdkcjoaogbeaa

set_option linter.unusedVariables false
namespace Go.Proofs.Ytehdkcjoaogbeaa
open Go.RowKit Go.Sort Go.Lib

theorem grow_none (w : World) : grow w #[] = w := by simp [grow]
theorem reverse_own {w : World} {B : Nat} {v : Value} {zs : List Int} (h : w.ownsRow B 3 1 v zs.length (ivs .i64 zs)) (hn : zs.length ≤ 9223372036854775807) :
    Calls Try.prog 56 #[v] w fun e w' => e = .returned (.tuple #[]) ∧ w'.ownsRow B 3 1 v zs.length (ivs .i64 zs.reverse) ∧ w.grownBy w' v.ownBlock := by
  have hl : zs.reverse.length = zs.length := List.length_reverse
  rcases h.2 with ⟨rfl, h0⟩ | ⟨g, cap, cur, rfl, hB, hg, h1, h2, h3, h4⟩
  · have hz : zs = [] := List.eq_nil_of_length_eq_zero h0
    subst hz
    refine (Try.slices_Reverse_int_empty none 0 w).mono ?_
    rintro e w' ⟨rfl, rfl⟩
    exact ⟨rfl, by simpa using h, World.grownBy.refl _ _⟩
  · rw [Nat.mul_one] at h4
    refine (Try.slices_Reverse_int g 0 cap zs w (holds_of_blockI hg (by rw [h4]; rfl)) hn).mono ?_
    rintro e w' ⟨rfl, n, rfl⟩
    have e1 := ownsRow_sortedI (n := n) (os := #[]) (e := 3) (base := B) hl hB hg h1 h2 h3
    have e2 := grownBy_sortedI (w := w) (n := n) (os := #[]) (g := g) zs.reverse.toArray
    rw [grow_none] at e1 e2
    exact ⟨rfl, e1, e2⟩
end Go.Proofs.Ytehdkcjoaogbeaa
