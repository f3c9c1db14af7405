/-
  The hash functions of package sum and of its reference compute one fold over the bytes.
-/
import Derived.Test.YtoicaacndkjjoaaLib
import Derived.Outline
namespace Go.Proofs.Ytoicaacndkjjoaa
open Go.RowKit

/-- One step of the hash, in the walk's own spelling. -/
def stepH (x c : Int) : Int := IntKind.u64.wrap (bits BinOp.xor IntKind.u64 x (IntKind.u64.wrap c) * 1099511628211)
/-- The hash from a seed. -/
def fromH (s : Int) (zs : List Int) : Int := zs.foldl stepH s
theorem fromH_snoc (s : Int) (zs : List Int) (k : Nat) (h : k < zs.length) : fromH s (zs.take (k + 1)) = stepH (fromH s (zs.take k)) (gi zs k) := by
  rw [take_succ_gi zs k h, fromH, List.foldl_append]; rfl

theorem from_any (seed : Int) (a : Option Addr) (len cap : Nat) (zs : List Int) (w : World) (hs : IsInts .u8 w a len cap zs) :
    Calls Try.prog 13 #[.int .u64 seed, .slice a len cap] w fun e w' => e = .returned (.int .u64 (fromH seed zs)) ∧ w = w' := by
  rcases hs with ⟨rfl, rfl, rfl, rfl⟩ | ⟨b, off, rfl, hl, hcm, hz, hc⟩
  · go_enter Try.func13, Try.ntmps13
    go_wp2
    refine wp_loop_rounds 1 ?_
    rw [rounds_succ]
    go_wp2
    go_ret
    exact ⟨rfl, rfl⟩
  · unfold maxLen at hcm
    have HZ := Lib.hid hz
    clear hz
    go_enter Try.func13, Try.ntmps13
    go_wp2
    go_loop [0, 9] (fun t i => ∃ k : Nat, k ≤ len ∧ i = .int .i64 k ∧ t = .int .u64 (fromH seed (zs.take k))) (fun _ i => len - (intOf i).toNat)
    case atStart => exact ⟨0, Nat.zero_le _, rfl, rfl⟩
    case round =>
      obtain ⟨k, hk, rfl, rfl⟩ := hrel
      have hcell : k < len → w.cell? ⟨b, off + k, none⟩ = some (.int .u8 (gi zs k)) := fun _ => hc k (by omega)
      go_wp2
      · go_round
        have hlt : k < len := by assumption
        case rel => exact ⟨k + 1, by omega, by go_num, by rw [fromH_snoc _ _ _ (by rw [HZ.out]; exact hlt)]; rfl⟩
        case measure => simp [intOf]; omega
      · go_ret
        have hge : ¬ k < len := by assumption
        exact ⟨ret_int (by rw [List.take_of_length_le (by rw [HZ.out]; omega)]), rfl⟩

theorem refFrom_any (seed : Int) (a : Option Addr) (len cap : Nat) (zs : List Int) (w : World) (hs : IsInts .u8 w a len cap zs) :
    Calls Try.prog 14 #[.int .u64 seed, .slice a len cap] w fun e w' => e = .returned (.int .u64 (fromH seed zs)) ∧ w = w' := by
  rcases hs with ⟨rfl, rfl, rfl, rfl⟩ | ⟨b, off, rfl, hl, hcm, hz, hc⟩
  · go_enter Try.func14, Try.ntmps14
    go_wp2
    refine wp_loop_rounds 1 ?_
    rw [rounds_succ]
    go_wp2
    go_ret
    exact ⟨rfl, rfl⟩
  · unfold maxLen at hcm
    have HZ := Lib.hid hz
    clear hz
    go_enter Try.func14, Try.ntmps14
    go_wp2
    go_loop [5, 6] (fun t i => ∃ k : Nat, k ≤ len ∧ i = .int .i64 k ∧ t = .int .u64 (fromH seed (zs.take k))) (fun _ i => len - (intOf i).toNat)
    case atStart => exact ⟨0, Nat.zero_le _, rfl, rfl⟩
    case round =>
      obtain ⟨k, hk, rfl, rfl⟩ := hrel
      have hcell : k < len → w.cell? ⟨b, off + k, none⟩ = some (.int .u8 (gi zs k)) := fun _ => hc k (by omega)
      go_wp2
      · go_round
        have hlt : k < len := by assumption
        case rel => exact ⟨k + 1, by omega, by go_num, by rw [fromH_snoc _ _ _ (by rw [HZ.out]; exact hlt)]; rfl⟩
        case measure => simp [intOf]; omega
      · go_ret
        have hge : ¬ k < len := by assumption
        exact ⟨ret_int (by rw [List.take_of_length_le (by rw [HZ.out]; omega)]), rfl⟩

theorem of_any (a : Option Addr) (len cap : Nat) (zs : List Int) (w : World) (hs : IsInts .u8 w a len cap zs) :
    Calls Try.prog 11 #[.slice a len cap] w fun e w' => e = .returned (.int .u64 (fromH 14695981039346656037 zs)) ∧ w = w' := by
  go_enter Try.func11, Try.ntmps11
  go_wp2_with (go_at_call 13; refine (from_any _ _ _ _ _ _ hs).mono ?_; rintro e w' ⟨rfl, rfl⟩)
  go_ret
  exact ⟨rfl, rfl⟩

theorem refOf_any (a : Option Addr) (len cap : Nat) (zs : List Int) (w : World) (hs : IsInts .u8 w a len cap zs) :
    Calls Try.prog 12 #[.slice a len cap] w fun e w' => e = .returned (.int .u64 (fromH 14695981039346656037 zs)) ∧ w = w' := by
  go_enter Try.func12, Try.ntmps12
  go_wp2_with (go_at_call 14; refine (refFrom_any _ _ _ _ _ _ hs).mono ?_; rintro e w' ⟨rfl, rfl⟩)
  go_ret
  exact ⟨rfl, rfl⟩
end Go.Proofs.Ytoicaacndkjjoaa
