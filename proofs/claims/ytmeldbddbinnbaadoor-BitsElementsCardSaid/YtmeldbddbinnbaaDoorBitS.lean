/-
  Package bits: the iterator over the elements.
-/
import Derived.Test.YtmeldbddbinnbaaDoorRange
import Derived.Test.YtmeldbddbinnbaaDoorBitR
set_option linter.unusedSimpArgs false
set_option linter.unusedVariables false
namespace Go.Proofs.YtmeldbddbinnbaaDoor
open Go.RowKit Go.Shelf
attribute [local go_sem] Oper.semAt_some

/-- The elements of a word with a number. -/
def elW (i : Nat) (z : Nat) : List Int := (upB 64 0 z).map fun k : Nat => 64 * (i : Int) + (k : Int)
/-- The elements of the first words. -/
def allTo (ws : List Int) (i : Nat) : List Int := (List.range i).flatMap fun j => elW j (gi ws j).toNat
theorem allTo_succ (ws : List Int) (i : Nat) : allTo ws (i + 1) = allTo ws i ++ elW i (gi ws i).toNat := by
  unfold allTo; rw [List.range_succ, List.flatMap_append]; simp
theorem elW_zero (i : Nat) : elW i 0 = [] := by unfold elW; rw [upB_zero]; rfl
theorem elW_low (i z : Nat) (h0 : z ≠ 0) (h1 : z < 18446744073709551616) : elW i z = (64 * (i : Int) + (Lib.ctz 64 z : Int)) :: elW i (z &&& (z - 1)) := by
  unfold elW; rw [upB_ctz z h0 h1]; rfl
theorem allTo_prefix (ws : List Int) {i m : Nat} (h : i ≤ m) : allTo ws i <+: allTo ws m := by
  obtain ⟨d, rfl⟩ : ∃ d, m = i + d := ⟨m - i, by omega⟩
  induction d with
  | zero => exact List.prefix_refl _
  | succ d ih => exact (ih (by omega)).trans (by rw [show i + (d + 1) = i + d + 1 by omega, allTo_succ]; exact List.prefix_append _ _)

set_option maxRecDepth 100000 in
set_option maxHeartbeats 2000000 in
theorem all_gives (n : Nat) (hn : 1 ≤ n) (a : Option Addr) (len cap : Nat) (ws : List Int) (B : Nat) (w : World) (hs : IsInts .u64 w a len cap ws) (hw : W64 ws) (hB : B = w.heap.size) (hT : TabAt 0 Lib.deBruijn64tab w) :
    MethGives Fence.wide n Tryd.prog 42 (.slice a len cap) (fun x : Int => .int .i64 x) (allTo ws (min len 64)) B w := by
  subst hB
  intro l J Jx W hJb hY h0
  obtain ⟨m, hm, hm64, hml, hmm⟩ : ∃ m : Nat, (if 64 < (len : Int) then 64 else (len : Int)) = (m : Int) ∧ m ≤ 64 ∧ m ≤ len ∧ Hid (min len 64 = m) := by
    refine ⟨min len 64, ?_, by omega, by omega, Lib.hid rfl⟩
    split <;> omega
  rw [hmm.out] at hY ⊢
  refine callsIn_of_wp Tryd.func42 rfl trivial ?_ rfl
  simp only [Tryd.ntmps42, List.size_toArray, List.length_cons, List.length_nil, Nat.reduceAdd, Nat.reduceSub, Array.replicate_succ, Array.replicate_zero, List.push_toArray, List.append_toArray, List.nil_append, List.cons_append]
  gi_wp2
  gi_loopw [9] (fun c W => ∃ i : Nat, i ≤ m ∧ c = .int .i64 (i : Int) ∧ J (allTo ws i) W) (fun c _ => m - (intOf c).toNat)
  case atStart => exact ⟨0, Nat.zero_le _, rfl, h0⟩
  case round =>
    obtain ⟨i, hi, rfl, hJ⟩ := hrel
    rcases Nat.lt_or_ge i m with hlt | hge
    · obtain ⟨b, off, rfl, hbl, hc⟩ := hs.at wr (hJb _ _ hJ) i (by omega)
      have hzb2 := hw.gi i
      obtain ⟨z0, hz0⟩ : ∃ z0 : Nat, gi ws i = (z0 : Int) := ⟨(gi ws i).toNat, by omega⟩
      have hzb : z0 < 18446744073709551616 := by omega
      clear hzb2
      rw [hz0] at hc
      have hall : allTo ws i ++ elW i z0 = allTo ws (i + 1) := by rw [allTo_succ, hz0, Int.toNat_natCast]
      have hpm := allTo_prefix ws (i := i + 1) (m := m) hlt
      have hdi : decide ((i : Int) < min (len : Int) 64) = true := decide_eq_true (by omega)
      clear hs hm
      gi_wp2
      gi_loopw [5] (fun v W => ∃ (pre : List Int) (z : Nat), v = .int .u64 (z : Int) ∧ z < 18446744073709551616 ∧ pre ++ elW i z = allTo ws (i + 1) ∧ J pre W) (fun v _ => (intOf v).toNat)
      case atStart => exact ⟨allTo ws i, z0, rfl, hzb, hall, hJ⟩
      case round =>
        clear hJ hc hall
        obtain ⟨pre, z, rfl, hz, hall, hJ⟩ := hrel
        by_cases hzz : z = 0
        · subst hzz
          rw [elW_zero, List.append_nil] at hall
          gi_wp2
          go_roundw
          case rel => exact ⟨i + 1, hlt, by go_num, by rw [← hall]; exact hJ⟩
          case measure => simp [intOf]; omega
        · rw [elW_low i z hzz hz] at hall
          have hpre : pre ++ [64 * (i : Int) + (Lib.ctz 64 z : Int)] <+: allTo ws m := by
            refine List.IsPrefix.trans ?_ hpm
            rw [← hall, show pre ++ (64 * (i : Int) + (Lib.ctz 64 z : Int)) :: elW i (z &&& (z - 1)) = (pre ++ [64 * (i : Int) + (Lib.ctz 64 z : Int)]) ++ elW i (z &&& (z - 1)) by simp]
            exact List.prefix_append _ _
          obtain ⟨fn, tmps, assign, body, hy, hR⟩ := hY pre _ wr hJ hpre
          have hctz := (Lib.lowest_bit 64 z hzz hz).2
          have hTW : TabAt 0 Lib.deBruijn64tab wr := fun j hj => ((hJb _ _ hJ).cell (p := ⟨0, j, none⟩) (lt_of_cell (hT j hj))).trans (hT j hj)
          have htz := tz_any z hz wr hTW
          have hne : ((z : Int) != 0) = true := by simp; omega
          have hband : bits BinOp.and IntKind.u64 (z : Int) ((z : Int) - 1) = ((z &&& (z - 1) : Nat) : Int) := by
            rw [show ((z : Int) - 1) = ((z - 1 : Nat) : Int) by omega]
            exact bits_and_u64_nat z (z - 1) hz (by omega)
          have hlow : z &&& (z - 1) < z := by
            have := Nat.and_le_right (n := z) (m := z - 1)
            omega
          have HA := Lib.hid hall
          clear hall hpm
          gi_wp2_with (refine ⟨trivial, ?_⟩; gi_at_call 50; refine (callsIn_wide.2 htz).mono ?_; rintro e w' ⟨rfl, rfl⟩)
          refine hR.mono ?_
          rintro e W3 (⟨rfl, hJ3⟩ | ⟨rfl, hJx3⟩)
          · gi_wp2
            go_roundw
            case rel => exact ⟨pre ++ [64 * (i : Int) + (Lib.ctz 64 z : Int)], z &&& (z - 1), rfl, by omega, by rw [← HA.out]; simp, hJ3⟩
            case measure => simp [intOf]; omega
          · gi_wp2
            refine bodyPost_ret (results_none rfl _ _ _) rfl ?_
            exact ⟨⟨_, rfl⟩, .inr ⟨_, hpre, hJx3⟩⟩
    · have him : i = m := by omega
      subst him
      gi_wp2
      go_end0
      exact ⟨⟨_, rfl⟩, .inl hJ⟩
end Go.Proofs.YtmeldbddbinnbaaDoor
