/-
  Package bits: Least.
-/
import Derived.Test.YtmeldbddbinnbaaDoorBitU
import Derived.Test.YtmeldbddbinnbaaDoorBitW
set_option linter.unusedSimpArgs false
set_option linter.unusedVariables false
namespace Go.Proofs.YtmeldbddbinnbaaDoor
open Go.RowKit Go.Shelf
attribute [local go_sem] Oper.semAt_some

theorem below_putObj {B : Nat} {w W : World} (hB : Below B w W) (j : Nat) (o : Obj) (hj : B ≤ j) : Below B w (W.putObj j o) :=
  ⟨hB.os, hB.tape, hB.output, by simpa [World.putObj] using hB.size, fun k hk => (World.putObj_heap_other (by omega)).trans (hB.block k hk)⟩
theorem boxed_putObj {W : World} {B : Nat} {t : TypeId} {v : Value} (h : Boxed W B t v) (j : Nat) (o : Obj) (hj : B ≠ j) : Boxed (W.putObj j o) B t v :=
  (World.putObj_heap_other (by omega)).trans h

theorem setCell_block {W : World} {j b : Nat} {o : Obj} (ho : W.heap[j]? = some o) (hne : j ≠ b) (v : Value) : (W.setCell ⟨b, 0, none⟩ v).heap[j]? = some o :=
  ((grownBy_setCell' W b v).block j (Array.getElem?_eq_some_iff.1 ho).1 (fun e => hne (Option.some.inj e))).trans ho

theorem least_results (W : World) (tmps : Array Value) (b : Nat) (v1 v2 : Value) (hp : tmps[2]?.getD undef = .pointer (some ⟨b, 0, none⟩)) (hq : tmps[3]?.getD undef = .pointer (some ⟨b + 1, 0, none⟩)) (c1 : W.cell? ⟨b, 0, none⟩ = some v1) (c2 : W.cell? ⟨b + 1, 0, none⟩ = some v2) :
    (results Tryd.f30 tmps).run Tryd.prog W = .ok (.tuple #[v1, v2]) W := by
  simp [results, show Tryd.f30.results = #[.cell 2 3, .cell 3 4] from rfl, hp, hq, asAddr, go_sem, c1, c2, Tryd.isAgg3, Tryd.isAgg4]

set_option maxRecDepth 100000 in
set_option maxHeartbeats 2000000 in
theorem least_in (n : Nat) (hn : 3 ≤ n) (a : Option Addr) (len cap : Nat) (ws : List Int) (w : World) (hs : IsInts .u64 w a len cap ws) (hw : W64 ws) (hT : TabAt 0 Lib.deBruijn64tab w) :
    CallsIn Fence.wide n Tryd.prog 30 #[.slice a len cap] w fun e w' => e = .returned (.tuple #[.int .i64 (gi (allTo ws (min len 64)) 0), .bool (allTo ws (min len 64) != [])]) ∧ Below w.heap.size w w' := by
  have hmf : ∀ (fn : Fn) (first cap : Array Value) (w : World), (Instr.makeFunc fn first cap).run Tryd.prog w = .ok (.func fn first cap) w := fun _ _ _ _ => rfl
  refine callsIn_of_wp_marks Tryd.func30 rfl trivial ?_ rfl
  simp only [Tryd.ntmps30, List.size_toArray, List.length_cons, List.length_nil, Nat.reduceAdd, Nat.reduceSub, Array.replicate_succ, Array.replicate_zero, List.push_toArray, List.append_toArray, List.nil_append, List.cons_append]
  gi_wp2
  have bO := (Boxed.new w 3 (.int .i64 0)).alloc (.cells #[.bool false] 4)
  have bP := Boxed.new (w.alloc (.cells #[.int .i64 0] 3)) 4 (.bool false)
  have hsz : (w.alloc (.cells #[.int .i64 0] 3)).heap.size = w.heap.size + 1 := by simp
  rw [hsz] at bP
  have hB0 : Below w.heap.size w ((w.alloc (.cells #[.int .i64 0] 3)).alloc (.cells #[.bool false] 4)) := ((Below.refl _ w).alloc (Nat.le_refl _) _).alloc (by simp) _
  have hsz2 : ((w.alloc (.cells #[.int .i64 0] 3)).alloc (.cells #[.bool false] 4)).heap.size = w.heap.size + 2 := by simp
  generalize (w.alloc (.cells #[.int .i64 0] 3)).alloc (.cells #[.bool false] 4) = w2 at bO bP hB0 hsz2 ⊢
  refine range_meth (enc := fun x : Int => .int .i64 x) (s := .slice a len cap) (B := w.heap.size) (w0 := w) rfl (by omega) rfl trivial (enters_of Tryd.func42 (by kernel_rfl) rfl) (all_gives (n - 1) (by omega) a len cap ws _ w hs hw rfl hT) rfl
    (fun pre W => pre = [] ∧ (∃ u, Boxed W w.heap.size 3 u) ∧ (∃ u, Boxed W (w.heap.size + 1) 4 u) ∧ Below w.heap.size w W) (fun pre W => ∃ x, pre = [x] ∧ Boxed W w.heap.size 3 (.int .i64 x) ∧ Boxed W (w.heap.size + 1) 4 (.bool true) ∧ Below w.heap.size w W) (fun _ _ h => h.2.2.2) ?hI ?hIx ?h0
    (fun x => { tmps := #[.slice a len cap, undef, .pointer (some ⟨w.heap.size, 0, none⟩), .pointer (some ⟨w.heap.size + 1, 0, none⟩), .int .i64 x, .slice a len cap, .func (.func 42) #[.slice a len cap] #[], .int .i64 x, undef], defers := [] }) ?assign ?body ?done ?stop
  case hI =>
    rintro pre W j o o' hj ho hc ⟨hp, ⟨u, hu⟩, ⟨v, hv⟩, hB⟩
    exact ⟨hp, ⟨u, boxed_putObj hu j o (by omega)⟩, ⟨v, boxed_putObj hv j o (by omega)⟩, below_putObj hB j o (by omega)⟩
  case hIx =>
    rintro pre W j o o' hj ho hc ⟨x, hp, hu, hv, hB⟩
    exact ⟨x, hp, boxed_putObj hu j o (by omega), boxed_putObj hv j o (by omega), below_putObj hB j o (by omega)⟩
  case h0 =>
    intro r
    exact ⟨rfl, ⟨_, (bO.alloc _).alloc _⟩, ⟨_, (bP.alloc _).alloc _⟩, (hB0.alloc (by omega) _).alloc (by simp; omega) _⟩
  case assign =>
    intro l x W K hK
    gi_wp2
    exact hK
  case body =>
    rintro l pre x W hlt hpre ⟨rfl, ⟨u, hu⟩, ⟨v, hv⟩, hB⟩
    have c1 := hu.cell
    have f1 := hu.frozen
    have hu1 := hu.set (.int .i64 x)
    have hv1 := hv.other (B' := w.heap.size) (by omega) (.int .i64 x)
    have c2 := hv1.cell
    have f2 := hv1.frozen
    gi_wp2
    have hu2 := hu1.other (B' := w.heap.size + 1) (by omega) (.bool true)
    have hv2 := hv1.set (.bool true)
    exact ⟨fun j o hj hj2 ho hoc => setCell_block (setCell_block ho (by omega) _) (by omega) _, x, rfl, hu2, hv2, (hB.setCell (p := ⟨w.heap.size, 0, none⟩) (Nat.le_refl _) _).setCell (p := ⟨w.heap.size + 1, 0, none⟩) (Nat.le_succ _) _⟩
  case done =>
    rintro W ⟨hp, ⟨u, hu⟩, ⟨v, hv⟩, hB⟩ hK
    have c1 := hu.cell
    have f1 := hu.frozen
    have hu1 := hu.set (.int .i64 0)
    have hv1 := hv.other (B' := w.heap.size) (by omega) (.int .i64 0)
    have c2 := hv1.cell
    have f2 := hv1.frozen
    have hu2 := hu1.other (B' := w.heap.size + 1) (by omega) (.bool false)
    have hv2 := hv1.set (.bool false)
    have hK2 := setCell_block (setCell_block hK (b := w.heap.size) (by omega) (.int .i64 0)) (b := w.heap.size + 1) (by omega) (.bool false)
    have hB2 := (hB.setCell (p := ⟨w.heap.size, 0, none⟩) (Nat.le_refl _) (.int .i64 0)).setCell (p := ⟨w.heap.size + 1, 0, none⟩) (Nat.le_succ _) (.bool false)
    gi_wp2
    refine ⟨by simp, .inl ⟨_, _, rfl, run_takeDeferred hK2, ?_⟩⟩
    refine ⟨_, least_results _ _ w.heap.size _ _ rfl rfl (boxed_putObj hu2 _ _ (by omega)).cell (boxed_putObj hv2 _ _ (by omega)).cell, ?_, below_putObj hB2 _ _ (by omega)⟩
    rw [hp]
    rfl
  case stop =>
    rintro pre W hpre ⟨x, rfl, hu, hv, hB⟩ hK
    gi_wp2
    refine ⟨by simp, .inl ⟨_, _, rfl, run_takeDeferred hK, ?_⟩⟩
    refine ⟨_, least_results _ _ w.heap.size _ _ rfl rfl (boxed_putObj hu _ _ (by omega)).cell (boxed_putObj hv _ _ (by omega)).cell, ?_, below_putObj hB _ _ (by omega)⟩
    obtain ⟨t, ht⟩ := hpre
    rw [← ht]
    rfl

theorem least_any (a : Option Addr) (len cap : Nat) (ws : List Int) (w : World) (hs : IsInts .u64 w a len cap ws) (hw : W64 ws) (hT : TabAt 0 Lib.deBruijn64tab w) :
    Calls Tryd.prog 30 #[.slice a len cap] w fun e w' => e = .returned (.tuple #[.int .i64 (gi (setL (bt ws)) 0), .bool (setL (bt ws) != [])]) ∧ Below w.heap.size w w' := by
  have h := least_in 3 (Nat.le_refl _) a len cap ws w hs hw hT
  rw [allTo_setL hw hs.length] at h
  exact callsIn_wide.1 h
end Go.Proofs.YtmeldbddbinnbaaDoor
