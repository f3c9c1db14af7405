/-
  Package bits: List.
-/
import Derived.Test.YtmeldbddbinnbaaDoorBitS
import Derived.Test.YtmeldbddbinnbaaDoorBitG
import Derived.RangeFuncBox
import Derived.Maps.AppendAt
set_option linter.unusedSimpArgs false
set_option linter.unusedVariables false
namespace Go.Proofs.YtmeldbddbinnbaaDoor
open Go.RowKit Go.Shelf
attribute [local go_sem] Oper.semAt_some

theorem upB_len : ∀ (n p z : Nat), (upB n p z).length ≤ n
  | 0, _, _ => Nat.le_refl _
  | n + 1, p, z => by
    have := upB_len n (p + 1) (z / 2)
    unfold upB
    split
    · rw [List.length_cons]; omega
    · omega
theorem allTo_len (ws : List Int) : ∀ i, (allTo ws i).length ≤ 64 * i
  | 0 => Nat.le_refl _
  | i + 1 => by
    have h1 := allTo_len ws i
    have h2 := upB_len 64 0 (gi ws i).toNat
    rw [allTo_succ, List.length_append]
    unfold elW
    rw [List.length_map]
    omega

set_option maxRecDepth 100000 in
set_option maxHeartbeats 2000000 in
theorem list_in (n : Nat) (hn : 3 ≤ n) (a : Option Addr) (len cap : Nat) (ws : List Int) (w : World) (hs : IsInts .u64 w a len cap ws) (hw : W64 ws) (hT : TabAt 0 Lib.deBruijn64tab w) :
    CallsIn Fence.wide n Tryd.prog 15 #[.slice a len cap] w fun e w' => ∃ a3 n3 c3, e = .returned (.slice a3 n3 c3) ∧ w'.ownsRow w.heap.size 3 1 (.slice a3 n3 c3) n3 (ivs .i64 (allTo ws (min len 64))) ∧ Below w.heap.size w w' := by
  have hmf : ∀ (fn : Fn) (first cap : Array Value) (w : World), (Instr.makeFunc fn first cap).run Tryd.prog w = .ok (.func fn first cap) w := fun _ _ _ _ => rfl
  refine callsIn_of_wp_marks Tryd.func15 rfl trivial ?_ rfl
  simp only [Tryd.ntmps15, List.size_toArray, List.length_cons, List.length_nil, Nat.reduceAdd, Nat.reduceSub, Array.replicate_succ, Array.replicate_zero, List.push_toArray, List.append_toArray, List.nil_append, List.cons_append]
  obtain ⟨i0, hi, hz0, hz1, hz2⟩ := info_parts elI64.info
  gi_wp2
  have bO := Boxed.new w 22 (.slice none 0 0)
  have hB0 : Below w.heap.size w (w.alloc (.cells #[.slice none 0 0] 22)) := (Below.refl _ w).alloc (Nat.le_refl _) _
  refine range_meth (enc := fun x : Int => .int .i64 x) (s := .slice a len cap) (B := w.heap.size) (w0 := w) rfl (by omega) rfl trivial (enters_of Tryd.func42 (by kernel_rfl) rfl) (all_gives (n - 1) (by omega) a len cap ws _ w hs hw rfl hT) rfl
    (fun pre W => (∃ v, Boxed W w.heap.size 22 v ∧ W.ownsRow w.heap.size 3 1 v pre.length (ivs .i64 pre)) ∧ Below w.heap.size w W) (fun _ _ => False) (fun _ _ h => h.2) ?hI (fun _ _ _ _ _ _ _ _ h => h) ?h0
    (fun x => { tmps := #[.slice a len cap, undef, .slice none 0 0, .pointer (some ⟨w.heap.size, 0, none⟩), .int .i64 x, .slice a len cap, .func (.func 42) #[.slice a len cap] #[], .int .i64 x, undef, undef, undef, undef, undef], defers := [] }) ?assign ?body ?done ?stop
  case hI =>
    rintro pre W j o o' hj ho hc ⟨⟨v, hv, hrow⟩, hB⟩
    have hj' : w.heap.size < j := by simp at hj; omega
    refine ⟨⟨v, ?_, ownsRow_putObj hrow _ ho hc⟩, ⟨hB.os, hB.tape, hB.output, by simpa [World.putObj] using hB.size, fun k hk => (World.putObj_heap_other (by omega)).trans (hB.block k hk)⟩⟩
    exact (World.putObj_heap_other (by omega)).trans hv
  case h0 =>
    intro r
    refine ⟨⟨_, (bO.alloc _).alloc _, World.ownsRow_nil _ _ _ _⟩, (hB0.alloc (by simp) _).alloc (by simp; omega) _⟩
  case assign =>
    intro l x W K hK
    gi_wp2
    exact hK
  case body =>
    rintro l pre x W hlt hpre ⟨⟨v, hv, hrow⟩, hB⟩
    have hc := hv.cell
    have hpl : pre.length < 4096 := by
      have h1 := hpre.length_le
      have h2 := allTo_len ws (min len 64)
      simp at h1
      omega
    gi_wp2_with (gi_at_builtin; refine wpListIn_append_own _ rfl _ _ 22 rfl w.heap.size 3 i0 (.int .i64 0) 1 8 Tryd.underlying22 hi hz0 hz1 hz2 rfl (by decide) _ _ _ rfl (hrow.alloc _) ⟨W.heap.size, 0, none⟩ 1 1 [.int .i64 x] rfl rfl (cell_one_new _ _ _) (by simp [Value.oneCell']) (by unfold maxLen; omega) (by omega) (by have := hB.size; simp; omega) ?_; intro v' w1 hown' hgrow _; obtain ⟨g', cap', rfl⟩ := ownsRow_succ hown'; obtain ⟨hv1, hv2, hr2, hk2, hb2⟩ := hv.appended (by decide) hrow hB.size (Nat.le_refl _) hown' hgrow; have hc1 := hv1.cell; have hf1 := hv1.frozen)
    exact ⟨fun j o hj _ ho hoc => hk2.same j o ho hoc, ⟨_, hv2, by rw [List.length_append, ivs_append]; exact hr2⟩, hB.trans hb2⟩
  case done =>
    rintro W ⟨⟨v, hv, hrow⟩, hB⟩ hK
    have hc := hv.cell
    obtain ⟨av, cv, rfl, _⟩ := owns_slice hrow
    gi_wp2
    refine ⟨by simp, .inl ⟨_, _, rfl, run_takeDeferred hK, ?_⟩⟩
    refine ⟨_, results_tmp rfl _ _ _, av, _, cv, rfl, ownsRow_putObj hrow _ hK rfl, ?_⟩
    exact ⟨hB.os, hB.tape, hB.output, by simpa [World.putObj] using hB.size, fun k hk => (World.putObj_heap_other (by simp; omega)).trans (hB.block k hk)⟩
  case stop =>
    rintro pre W _ h _
    exact h.elim
end Go.Proofs.YtmeldbddbinnbaaDoor
