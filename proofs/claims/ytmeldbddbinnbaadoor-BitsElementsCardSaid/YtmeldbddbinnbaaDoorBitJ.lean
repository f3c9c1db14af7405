/-
  slices.Compare; the reference's Sub and List.
-/
import Derived.Test.YtmeldbddbinnbaaDoorBitI
set_option linter.unusedSimpArgs false
set_option linter.unusedVariables false
namespace Go.Proofs.YtmeldbddbinnbaaDoor
open Go.RowKit Go.Shelf

theorem cmpL_end {xs ys : List Int} {k len len' : Nat} (hx : xs.length = len) (hy : ys.length = len') (hk : k ≤ len) (hk' : k ≤ len') (hn : ¬ (k < len ∧ k < len')) :
    cmpL (xs.drop k) (ys.drop k) = if len < len' then -1 else if len' < len then 1 else 0 := by
  have h1 : (xs.drop k).length = len - k := by rw [List.length_drop, hx]
  have h2 : (ys.drop k).length = len' - k := by rw [List.length_drop, hy]
  generalize xs.drop k = X at *
  generalize ys.drop k = Y at *
  match X, Y with
  | [], [] => simp at h1 h2; rw [if_neg (by omega), if_neg (by omega)]; rfl
  | [], _ :: _ => simp at h1 h2; rw [if_pos (by omega)]; rfl
  | _ :: _, [] => simp at h1 h2; rw [if_neg (by omega), if_pos (by omega)]; rfl
  | _ :: _, _ :: _ => simp at h1 h2; omega

set_option maxHeartbeats 1000000 in
theorem slCompare_any (a : Option Addr) (len cap : Nat) (xs : List Int) (a' : Option Addr) (len' cap' : Nat) (ys : List Int) (w : World) (hs : IsInts .i64 w a len cap xs) (hs' : IsInts .i64 w a' len' cap' ys) (hl : len ≤ 100000) (hl' : len' ≤ 100000) :
    Calls Tryd.prog 49 #[.slice a len cap, .slice a' len' cap'] w fun e w' => e = .returned (.int .i64 (cmpL xs ys)) ∧ w = w' := by
  have HX : Hid (xs.length = len) := Lib.hid hs.length
  have HY : Hid (ys.length = len') := Lib.hid hs'.length
  go_enter Tryd.func49, Tryd.ntmps49
  go_wp2
  go_loop [11] (fun c => ∃ k : Nat, k ≤ len ∧ k ≤ len' ∧ c = .int .i64 (k : Int) ∧ cmpL xs ys = cmpL (xs.drop k) (ys.drop k)) (fun c => len - (intOf c).toNat)
  case atStart => exact ⟨0, Nat.zero_le _, Nat.zero_le _, rfl, rfl⟩
  case round =>
    obtain ⟨k, hk, hk', rfl, hcmp⟩ := hrel
    by_cases hlt : k < len ∧ k < len'
    · obtain ⟨b, off, rfl, hbl, hc⟩ := hs.at w (Below.refl _ _) k hlt.1
      obtain ⟨b', off', rfl, hbl', hc'⟩ := hs'.at w (Below.refl _ _) k hlt.2
      rw [drop_gi xs k (by rw [HX.out]; exact hlt.1), drop_gi ys k (by rw [HY.out]; exact hlt.2), cmpL] at hcmp
      have hd1 : decide ((k : Int) < (len : Int)) = true := decide_eq_true (by omega)
      have hd2 : decide ((len' : Int) ≤ (k : Int)) = false := decide_eq_false (by omega)
      have hcc := Tryd.cmp_Compare_int (gi xs k) (gi ys k) w
      unfold Lib.compareInt at hcc
      clear hs hs'
      rcases Int.lt_trichotomy (gi xs k) (gi ys k) with h | h | h
      · rw [if_pos h] at hcmp hcc
        have HE := Lib.hid hcmp
        clear hcmp h
        go_wp2_with (go_at_call 51; with_reducible refine hcc.mono ?_; rintro e w' ⟨rfl, rfl⟩)
        go_ret
        exact ⟨by rw [HE.out]; rfl, rfl⟩
      · rw [if_neg (by omega), if_neg (by omega)] at hcmp hcc
        have HE := Lib.hid hcmp
        clear hcmp h
        go_wp2_with (go_at_call 51; with_reducible refine hcc.mono ?_; rintro e w' ⟨rfl, rfl⟩)
        go_round
        case rel => exact ⟨k + 1, by omega, by omega, by go_num, HE.out⟩
        case measure => simp [intOf]; omega
      · rw [if_neg (by omega), if_pos h] at hcmp hcc
        have HE := Lib.hid hcmp
        clear hcmp h
        go_wp2_with (go_at_call 51; with_reducible refine hcc.mono ?_; rintro e w' ⟨rfl, rfl⟩)
        go_ret
        exact ⟨by rw [HE.out]; rfl, rfl⟩
    · have HE := Lib.hid (hcmp.trans (cmpL_end HX.out HY.out hk hk' hlt))
      clear hcmp
      by_cases h2 : k < len
      · have hd1 : decide ((k : Int) < (len : Int)) = true := decide_eq_true (by omega)
        have hd2 : decide ((len' : Int) ≤ (k : Int)) = true := decide_eq_true (by omega)
        obtain ⟨b, off, rfl, hbl, hc⟩ := hs.at w (Below.refl _ _) k h2
        have H1 : Hid (cmpL xs ys = 1) := Lib.hid (by rw [HE.out, if_neg (by omega), if_pos (by omega)])
        clear hs hs'
        go_wp2
        go_ret
        exact ⟨by rw [H1.out]; rfl, rfl⟩
      · have hd1 : decide ((k : Int) < (len : Int)) = false := decide_eq_false (by omega)
        by_cases h1 : len < len'
        · have hd2 : decide ((len : Int) < (len' : Int)) = true := decide_eq_true (by omega)
          have H1 : Hid (cmpL xs ys = -1) := Lib.hid (by rw [HE.out, if_pos h1])
          go_wp2
          go_ret
          exact ⟨by rw [H1.out]; rfl, rfl⟩
        · have hd2 : decide ((len : Int) < (len' : Int)) = false := decide_eq_false (by omega)
          have H1 : Hid (cmpL xs ys = 0) := Lib.hid (by rw [HE.out, if_neg h1, if_neg (by omega)])
          go_wp2
          go_ret
          exact ⟨by rw [H1.out]; rfl, rfl⟩

theorem cast_beq (n : Nat) : ((n : Int) == 0) = (n == 0) := by
  rw [Bool.eq_iff_iff]; simp

theorem refSub_any (a : Option Addr) (len cap : Nat) (xs : List Int) (a' : Option Addr) (len' cap' : Nat) (ys : List Int) (w : World) (hs : IsInts .i64 w a len cap xs) (hs' : IsInts .i64 w a' len' cap' ys) (hl : len ≤ 100000) (hl' : len' ≤ 100000) :
    Calls Tryd.prog 38 #[.slice a len cap, .slice a' len' cap'] w fun e w' => e = .returned (.bool ((xs.filter (fun x => !decide (x ∈ ys))).length == 0)) ∧ Below w.heap.size w w' := by
  go_enter Tryd.func38, Tryd.ntmps38
  go_wp2_with (go_at_call 37; refine (refMinus_any _ _ _ xs _ _ _ ys _ hs (by omega) hs' (by omega)).mono ?_; rintro e w1 ⟨a3, n3, c3, rfl, ho, hb⟩; have HN := Lib.hid (owns_len ho); clear ho)
  go_ret
  exact ⟨by rw [← HN.out]; simp [cast_beq], hb⟩

/-- The elements below a number, as a list. -/
def elsTo (ws : List Int) (N : Nat) : List Int := ((List.range N).filter fun n : Nat => bitI (gi ws (n / 64)) (n % 64)).map fun n : Nat => (n : Int)
theorem elsTo_succ (ws : List Int) (N : Nat) : elsTo ws (N + 1) = elsTo ws N ++ if bitI (gi ws (N / 64)) (N % 64) then [(N : Int)] else [] := by
  unfold elsTo
  rw [List.range_succ, List.filter_append, List.map_append]
  congr 1
  by_cases h : bitI (gi ws (N / 64)) (N % 64) = true <;> simp [h]
theorem elsTo_yes {ws : List Int} {i k : Nat} (hk : k < 64) (h : bitI (gi ws i) k = true) : elsTo ws (64 * i + k + 1) = elsTo ws (64 * i + k) ++ [64 * (i : Int) + (k : Int)] := by
  rw [elsTo_succ, show (64 * i + k) / 64 = i by omega, show (64 * i + k) % 64 = k by omega, if_pos h]
  rw [Int.natCast_add, Int.natCast_mul]; rfl
theorem elsTo_no {ws : List Int} {i k : Nat} (hk : k < 64) (h : bitI (gi ws i) k = false) : elsTo ws (64 * i + k + 1) = elsTo ws (64 * i + k) := by
  rw [elsTo_succ, show (64 * i + k) / 64 = i by omega, show (64 * i + k) % 64 = k by omega, h]
  simp

set_option maxHeartbeats 1000000 in
theorem refList_any (a : Option Addr) (len cap : Nat) (ws : List Int) (w : World) (hs : IsInts .u64 w a len cap ws) (hl : len ≤ 140737488351232) :
    Calls Tryd.prog 29 #[.slice a len cap] w fun e w' => ∃ a3 n3 c3, e = .returned (.slice a3 n3 c3) ∧ w'.ownsRow w.heap.size 3 1 (.slice a3 n3 c3) n3 (ivs .i64 (elsTo ws (64 * min len 64))) ∧ Below w.heap.size w w' := by
  go_enter Tryd.func29, Tryd.ntmps29
  go_wp2
  go_loopw [3, 4] (fun v c W => ∃ (i : Nat) (ao : Option Addr) (no co : Nat), i ≤ len ∧ i ≤ 64 ∧ c = .int .i64 (i : Int) ∧ v = .slice ao no co ∧ no ≤ 64 * i ∧ W.ownsRow w.heap.size 3 1 (.slice ao no co) no (ivs .i64 (elsTo ws (64 * i))) ∧ Below w.heap.size w W) (fun _ c _ => len - (intOf c).toNat)
  case atStart => exact ⟨0, none, 0, 0, Nat.zero_le _, Nat.zero_le _, rfl, rfl, Nat.le_refl _, World.ownsRow_nil _ _ _ _, Below.refl _ _⟩
  case round =>
    obtain ⟨i, ao, no, co, hi, hi64, rfl, rfl, hno, ho, hb⟩ := hrel
    by_cases hlt : i < len ∧ i < 64
    · obtain ⟨hil, hi6⟩ := hlt
      have hd1 : decide ((i : Int) < (len : Int)) = true := decide_eq_true (by omega)
      have hd2 : decide ((i : Int) < 64) = true := decide_eq_true (by omega)
      go_wp2
      go_loopw [3, 5] (fun v c W => ∃ (k : Nat) (ao : Option Addr) (no co : Nat), k ≤ 64 ∧ c = .int .i64 (k : Int) ∧ v = .slice ao no co ∧ no ≤ 64 * i + k ∧ W.ownsRow w.heap.size 3 1 (.slice ao no co) no (ivs .i64 (elsTo ws (64 * i + k))) ∧ Below w.heap.size w W) (fun _ c _ => 64 - (intOf c).toNat)
      case atStart => exact ⟨0, ao, no, co, Nat.zero_le _, rfl, rfl, hno, ho, hb⟩
      case round =>
        clear ho hb hno
        obtain ⟨k, ao, no, co, hk, rfl, rfl, hno, ho, hb⟩ := hrel
        rcases Nat.lt_or_ge k 64 with hk6 | hge
        · obtain ⟨b, off, rfl, hbl, hc⟩ := hs.at _ hb i hil
          clear hs
          cases hbit : bitI (gi ws i) k with
          | true =>
            have HE := Lib.hid (elsTo_yes hk6 hbit)
            have hq : (bits BinOp.and IntKind.u64 (gi ws i / 2 ^ k) 1 == 1) = true := hbit
            clear hbit
            go_wp2_with (at_builtin; refine app_one (k := .i64) elI64 rfl _ _ rfl rfl ho rfl (by omega) hb.size ?_; clear ho; intro a3 c3 w3 ho hb3; replace hb := hb.trans hb3; clear hb3)
            go_roundw
            case rel => exact ⟨k + 1, a3, no + 1, c3, by omega, by go_num, rfl, by omega, by rw [show 64 * i + (k + 1) = 64 * i + k + 1 by omega, HE.out]; exact ho, hb⟩
            case measure => simp [intOf]; omega
          | false =>
            have HE := Lib.hid (elsTo_no hk6 hbit)
            have hq : (bits BinOp.and IntKind.u64 (gi ws i / 2 ^ k) 1 == 1) = false := hbit
            clear hbit
            go_wp2
            go_roundw
            case rel => exact ⟨k + 1, ao, no, co, by omega, by go_num, rfl, by omega, by rw [show 64 * i + (k + 1) = 64 * i + k + 1 by omega, HE.out]; exact ho, hb⟩
            case measure => simp [intOf]; omega
        · have hk64 : k = 64 := by omega
          subst hk64
          go_wp2
          go_roundw
          case rel => exact ⟨i + 1, ao, no, co, by omega, by omega, by go_num, rfl, by omega, by rw [show 64 * (i + 1) = 64 * i + 64 by omega]; exact ho, hb⟩
          case measure => simp [intOf]; omega
    · have HM : Hid (min len 64 = i) := Lib.hid (by omega)
      by_cases hil : i < len
      · have hd1 : decide ((i : Int) < (len : Int)) = true := decide_eq_true (by omega)
        have hd2 : decide ((i : Int) < 64) = false := decide_eq_false (by omega)
        go_wp2
        go_ret
        exact ⟨ao, no, co, rfl, by rw [HM.out]; exact ho, hb⟩
      · have hd1 : decide ((i : Int) < (len : Int)) = false := decide_eq_false (by omega)
        go_wp2
        go_ret
        exact ⟨ao, no, co, rfl, by rw [HM.out]; exact ho, hb⟩
end Go.Proofs.YtmeldbddbinnbaaDoor
