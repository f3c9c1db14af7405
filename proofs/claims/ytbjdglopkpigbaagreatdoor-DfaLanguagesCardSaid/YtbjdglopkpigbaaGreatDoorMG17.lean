import Derived.RangeFuncBox
import Derived.Maps.AppendAt
import Derived.Test.YtbjdglopkpigbaaGreatDoorMG7
import Derived.Test.YtbjdglopkpigbaaGreatDoorMG11
import Derived.Test.YtbjdglopkpigbaaGreatDoorMG16
/-
  BtS, BtT
-/
set_option linter.unusedSimpArgs false
set_option linter.unusedVariables false
namespace Go.Proofs.YtbjdglopkpigbaaGreatDoor.Bt
open Go.RowKit Go.Shelf
attribute [local go_sem] Oper.semAt_some
def elW (i : Nat) (z : Nat) : List Int := (upB 64 0 z).map fun k : Nat => 64 * (i : Int) + (k : Int)
def allTo (ws : List Int) (i : Nat) : List Int := (List.range i).flatMap fun j => elW j (gi ws j).toNat
theorem allTo_succ (ws : List Int) (i : Nat) : allTo ws (i + 1) = allTo ws i ++ elW i (gi ws i).toNat := by
 unfold allTo; rw [List.range_succ, List.flatMap_append]; simp
theorem elW_zero (i : Nat) : elW i 0 = [] := by unfold elW; rw [upB_zero]; rfl
theorem elW_low (i z : Nat) (h0 : z ≠ 0) (h1 : z < 18446744073709551616) : elW i z = (64 * (i : Int) + (Lib.ctz 64 z : Int)) :: elW i (z &&& (z - 1)) := by
 unfold elW; rw [upB_ctz z h0 h1]; rfl
theorem allTo_prefix (ws : List Int) {i m : Nat} (h : i ≤ m) : allTo ws i <+: allTo ws m := by
 obtain ⟨d, rfl⟩ : ∃ d, m = i + d := ⟨m - i, by omega⟩
 induction d with
 | zero => exact List.prefix_refl _
 | succ d ih => exact (ih (by omega)).trans (by rw [show i + (d + 1) = i + d + 1 by omega, allTo_succ]; exact List.prefix_append _ _)
set_option maxRecDepth 100000 in
set_option maxHeartbeats 2000000 in
theorem all_gives (n : Nat) (hn : 1 ≤ n) (a : Option Addr) (len cap : Nat) (ws : List Int) (B : Nat) (w : World) (hs : IsInts .u64 w a len cap ws) (hw : W64 ws) (hB : B = w.heap.size) (hT : TabAt 0 Lib.deBruijn64tab w) :
  MethGives Fence.wide n Tryz.prog 67 (.slice a len cap) (fun x : Int => .int .i64 x) (allTo ws (min len 64)) B w := by
 subst hB
 intro l J Jx W hJb hY h0
 obtain ⟨m, hm, hm64, hml, hmm⟩ : ∃ m : Nat, (if 64 < (len : Int) then 64 else (len : Int)) = (m : Int) ∧ m ≤ 64 ∧ m ≤ len ∧ Hid (min len 64 = m) := by
  refine ⟨min len 64, ?_, by omega, by omega, Lib.hid rfl⟩
  split <;> omega
 rw [hmm.out] at hY ⊢
 refine callsIn_of_wp Tryz.func67 rfl trivial ?_ rfl
 simp only [Tryz.ntmps67, List.size_toArray, List.length_cons, List.length_nil, Nat.reduceAdd, Nat.reduceSub, Array.replicate_succ, Array.replicate_zero, List.push_toArray, List.append_toArray, List.nil_append, List.cons_append]
 gi_wp2
 gi_loopw [9] (fun c W => ∃ i : Nat, i ≤ m ∧ c = .int .i64 (i : Int) ∧ J (allTo ws i) W) (fun c _ => m - (intOf c).toNat)
 case atStart => exact ⟨0, Nat.zero_le _, rfl, h0⟩
 case round =>
  obtain ⟨i, hi, rfl, hJ⟩ := hrel
  rcases Nat.lt_or_ge i m with hlt | hge
  ·obtain ⟨b, off, rfl, hbl, hc⟩ := hs.at wr (hJb _ _ hJ) i (by omega)
   have hzb2 := hw.gi i
   obtain ⟨z0, hz0⟩ : ∃ z0 : Nat, gi ws i = (z0 : Int) := ⟨(gi ws i).toNat, by omega⟩
   have hzb : z0 < 18446744073709551616 := by omega
   clear hzb2
   rw [hz0] at hc
   have hall : allTo ws i ++ elW i z0 = allTo ws (i + 1) := by rw [allTo_succ, hz0, Int.toNat_natCast]
   have hpm := allTo_prefix ws (i := i + 1) (m := m) hlt
   have hdi : decide ((i : Int) < min (len : Int) 64) = true := decide_eq_true (by omega)
   clear hs hm
   gi_wp2
   gi_loopw [5] (fun v W => ∃ (pre : List Int) (z : Nat), v = .int .u64 (z : Int) ∧ z < 18446744073709551616 ∧ pre ++ elW i z = allTo ws (i + 1) ∧ J pre W) (fun v _ => (intOf v).toNat)
   case atStart => exact ⟨allTo ws i, z0, rfl, hzb, hall, hJ⟩
   case round =>
    clear hJ hc hall
    obtain ⟨pre, z, rfl, hz, hall, hJ⟩ := hrel
    by_cases hzz : z = 0
    ·subst hzz
     rw [elW_zero, List.append_nil] at hall
     gi_wp2
     go_roundw
     case rel => exact ⟨i + 1, hlt, by go_num, by rw [← hall]; exact hJ⟩
     case measure => simp [intOf]; omega
    ·rw [elW_low i z hzz hz] at hall
     have hpre : pre ++ [64 * (i : Int) + (Lib.ctz 64 z : Int)] <+: allTo ws m := by
      refine List.IsPrefix.trans ?_ hpm
      rw [← hall, show pre ++ (64 * (i : Int) + (Lib.ctz 64 z : Int)) :: elW i (z &&& (z - 1)) = (pre ++ [64 * (i : Int) + (Lib.ctz 64 z : Int)]) ++ elW i (z &&& (z - 1)) by simp]
      exact List.prefix_append _ _
     obtain ⟨fn, tmps, assign, body, hy, hR⟩ := hY pre _ wr hJ hpre
     have hctz := (Lib.lowest_bit 64 z hzz hz).2
     have hTW : TabAt 0 Lib.deBruijn64tab wr := fun j hj => ((hJb _ _ hJ).cell (p := ⟨0, j, none⟩) (lt_of_cell (hT j hj))).trans (hT j hj)
     have htz := tz_any z hz wr hTW
     have hne : ((z : Int) != 0) = true := by simp; omega
     have hband : bits BinOp.and IntKind.u64 (z : Int) ((z : Int) - 1) = ((z &&& (z - 1) : Nat) : Int) := by
      rw [show ((z : Int) - 1) = ((z - 1 : Nat) : Int) by omega]
      exact bits_and_u64_nat z (z - 1) hz (by omega)
     have hlow : z &&& (z - 1) < z := by
      have := Nat.and_le_right (n := z) (m := z - 1)
      omega
     have HA := Lib.hid hall
     clear hall hpm
     gi_wp2_with (refine ⟨trivial, ?_⟩; gi_at_call 82; refine (callsIn_wide.2 htz).mono ?_; rintro e w' ⟨rfl, rfl⟩)
     refine hR.mono ?_
     rintro e W3 (⟨rfl, hJ3⟩ | ⟨rfl, hJx3⟩)
     ·gi_wp2
      go_roundw
      case rel => exact ⟨pre ++ [64 * (i : Int) + (Lib.ctz 64 z : Int)], z &&& (z - 1), rfl, by omega, by rw [← HA.out]; simp, hJ3⟩
      case measure => simp [intOf]; omega
     ·gi_wp2
      refine bodyPost_ret (results_none rfl _ _ _) rfl ?_
      exact ⟨⟨_, rfl⟩, .inr ⟨_, hpre, hJx3⟩⟩
  ·have him : i = m := by omega
   subst him
   gi_wp2
   go_end0
   exact ⟨⟨_, rfl⟩, .inl hJ⟩
end Go.Proofs.YtbjdglopkpigbaaGreatDoor.Bt
namespace Go.Proofs.YtbjdglopkpigbaaGreatDoor.Bt
open Go.RowKit Go.Shelf
attribute [local go_sem] Oper.semAt_some
theorem upB_len : ∀ (n p z : Nat), (upB n p z).length ≤ n
 | 0, _, _ => Nat.le_refl _
 | n + 1, p, z => by
  have := upB_len n (p + 1) (z / 2)
  unfold upB
  split
  ·rw [List.length_cons]; omega
  ·omega
theorem allTo_len (ws : List Int) : ∀ i, (allTo ws i).length ≤ 64 * i
 | 0 => Nat.le_refl _
 | i + 1 => by
  have h1 := allTo_len ws i
  have h2 := upB_len 64 0 (gi ws i).toNat
  rw [allTo_succ, List.length_append]
  unfold elW
  rw [List.length_map]
  omega
set_option maxRecDepth 100000 in
set_option maxHeartbeats 2000000 in
theorem list_in (n : Nat) (hn : 3 ≤ n) (a : Option Addr) (len cap : Nat) (ws : List Int) (w : World) (hs : IsInts .u64 w a len cap ws) (hw : W64 ws) (hT : TabAt 0 Lib.deBruijn64tab w) :
  CallsIn Fence.wide n Tryz.prog 47 #[.slice a len cap] w fun e w' => ∃ a3 n3 c3, e = .returned (.slice a3 n3 c3) ∧ w'.ownsRow w.heap.size 3 1 (.slice a3 n3 c3) n3 (ivs .i64 (allTo ws (min len 64))) ∧ Below w.heap.size w w' := by
 have hmf : ∀ (fn : Fn) (first cap : Array Value) (w : World), (Instr.makeFunc fn first cap).run Tryz.prog w = .ok (.func fn first cap) w := fun _ _ _ _ => rfl
 refine callsIn_of_wp_marks Tryz.func47 rfl trivial ?_ rfl
 simp only [Tryz.ntmps47, List.size_toArray, List.length_cons, List.length_nil, Nat.reduceAdd, Nat.reduceSub, Array.replicate_succ, Array.replicate_zero, List.push_toArray, List.append_toArray, List.nil_append, List.cons_append]
 obtain ⟨i0, hi, hz0, hz1, hz2⟩ := info_parts elI64.info
 gi_wp2
 have bO := Boxed.new w 26 (.slice none 0 0)
 have hB0 : Below w.heap.size w (w.alloc (.cells #[.slice none 0 0] 26)) := (Below.refl _ w).alloc (Nat.le_refl _) _
 refine range_meth (enc := fun x : Int => .int .i64 x) (s := .slice a len cap) (B := w.heap.size) (w0 := w) rfl (by omega) rfl trivial (enters_of Tryz.func67 (by kernel_rfl) rfl) (all_gives (n - 1) (by omega) a len cap ws _ w hs hw rfl hT) rfl
  (fun pre W => (∃ v, Boxed W w.heap.size 26 v ∧ W.ownsRow w.heap.size 3 1 v pre.length (ivs .i64 pre)) ∧ Below w.heap.size w W) (fun _ _ => False) (fun _ _ h => h.2) ?hI (fun _ _ _ _ _ _ _ _ h => h) ?h0
  (fun x => { tmps := #[.slice a len cap, undef, .slice none 0 0, .pointer (some ⟨w.heap.size, 0, none⟩), .int .i64 x, .slice a len cap, .func (.func 67) #[.slice a len cap] #[], .int .i64 x, undef, undef, undef, undef, undef], defers := [] }) ?assign ?body ?done ?stop
 case hI =>
  rintro pre W j o o' hj ho hc ⟨⟨v, hv, hrow⟩, hB⟩
  have hj' : w.heap.size < j := by simp at hj; omega
  refine ⟨⟨v, ?_, ownsRow_putObj hrow _ ho hc⟩, ⟨hB.os, hB.tape, hB.output, by simpa [World.putObj] using hB.size, fun k hk => (World.putObj_heap_other (by omega)).trans (hB.block k hk)⟩⟩
  exact (World.putObj_heap_other (by omega)).trans hv
 case h0 =>
  intro r
  refine ⟨⟨_, (bO.alloc _).alloc _, World.ownsRow_nil _ _ _ _⟩, (hB0.alloc (by simp) _).alloc (by simp; omega) _⟩
 case assign =>
  intro l x W K hK
  gi_wp2
  exact hK
 case body =>
  rintro l pre x W hlt hpre ⟨⟨v, hv, hrow⟩, hB⟩
  have hc := hv.cell
  have hpl : pre.length < 4096 := by
   have h1 := hpre.length_le
   have h2 := allTo_len ws (min len 64)
   simp at h1
   omega
  gi_wp2_with (gi_at_builtin; refine wpListIn_append_own _ rfl _ _ 26 rfl w.heap.size 3 i0 (.int .i64 0) 1 8 Tryz.underlying26 hi hz0 hz1 hz2 rfl (by decide) _ _ _ rfl (hrow.alloc _) ⟨W.heap.size, 0, none⟩ 1 1 [.int .i64 x] rfl rfl (cell_one_new _ _ _) (by simp [Value.oneCell']) (by unfold maxLen; omega) (by omega) (by have := hB.size; simp; omega) ?_; intro v' w1 hown' hgrow _; obtain ⟨g', cap', rfl⟩ := ownsRow_succ hown'; obtain ⟨hv1, hv2, hr2, hk2, hb2⟩ := hv.appended (by decide) hrow hB.size (Nat.le_refl _) hown' hgrow; have hc1 := hv1.cell; have hf1 := hv1.frozen)
  exact ⟨fun j o hj _ ho hoc => hk2.same j o ho hoc, ⟨_, hv2, by rw [List.length_append, ivs_append]; exact hr2⟩, hB.trans hb2⟩
 case done =>
  rintro W ⟨⟨v, hv, hrow⟩, hB⟩ hK
  have hc := hv.cell
  obtain ⟨av, cv, rfl, _⟩ := owns_slice hrow
  gi_wp2
  refine ⟨by simp, .inl ⟨_, _, rfl, run_takeDeferred hK, ?_⟩⟩
  refine ⟨_, results_tmp rfl _ _ _, av, _, cv, rfl, ownsRow_putObj hrow _ hK rfl, ?_⟩
  exact ⟨hB.os, hB.tape, hB.output, by simpa [World.putObj] using hB.size, fun k hk => (World.putObj_heap_other (by simp; omega)).trans (hB.block k hk)⟩
 case stop =>
  rintro pre W _ h _
  exact h.elim
end Go.Proofs.YtbjdglopkpigbaaGreatDoor.Bt
