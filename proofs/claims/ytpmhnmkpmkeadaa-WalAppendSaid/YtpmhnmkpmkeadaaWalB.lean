/-
  The small functions of package wal: last, check, proper, seed, Cells; bytes.Equal.
-/
import Derived.Test.YtpmhnmkpmkeadaaWalN
import Derived.Test.YtpmhnmkpmkeadaaOwn
set_option linter.unusedSimpArgs false
set_option linter.unusedVariables false
namespace Go.Proofs.Ytpmhnmkpmkeadaa
open Go.RowKit

theorem last_any (a : Option Addr) (len cap : Nat) (zs : List Int) (w : World) (hs : IsInts .i64 w a len cap zs) :
    Calls Try.prog 30 #[.slice a len cap] w fun e w' => e = .returned (.int .i64 (lastD zs)) ∧ w = w' := by
  have hcap := hs.cap
  unfold maxLen at hcap
  rcases hs with ⟨rfl, rfl, rfl, rfl⟩ | ⟨b, off, rfl, hl, hcm, hz, hc⟩
  · go_enter Try.func30, Try.ntmps30
    go_wp2
    go_ret
    exact ⟨rfl, rfl⟩
  · by_cases h0 : len = 0
    · subst h0
      have : zs = [] := List.eq_nil_of_length_eq_zero hz
      subst this
      go_enter Try.func30, Try.ntmps30
      go_wp2
      go_ret
      exact ⟨rfl, rfl⟩
    · have d0 : decide ((len : Int) = 0) = false := decide_eq_false (by omega)
      have hcell : w.cell? ⟨b, off + (len - 1), none⟩ = some (.int .i64 (lastD zs)) := by
        rw [hc (len - 1) (by omega), lastD, List.getLast?_eq_getElem?, hz]
        rfl
      obtain ⟨m, rfl⟩ : ∃ m, len = m + 1 := ⟨len - 1, by omega⟩
      simp only [Nat.add_sub_cancel] at hcell
      clear hc
      go_enter Try.func30, Try.ntmps30
      go_wp2
      go_ret
      exact ⟨rfl, rfl⟩

theorem equal_any (a : Option Addr) (len cap : Nat) (xs : List Int) (a' : Option Addr) (len' cap' : Nat) (ys : List Int) (w : World) (hs : IsInts .u8 w a len cap xs) (hs' : IsInts .u8 w a' len' cap' ys) (hx : Bytes xs) (hy : Bytes ys) :
    Calls Try.prog 40 #[.slice a len cap, .slice a' len' cap'] w fun e w' => e = .returned (.bool (decide (xs = ys))) ∧ w = w' := by
  have h1 := run_toString w 24 9 5 Try.underlying24 Try.underlying5 Try.underlying9 a len cap xs hs
  have h2 := run_toString w 24 9 5 Try.underlying24 Try.underlying5 Try.underlying9 a' len' cap' ys hs'
  have h3 := bsOf_eq hx hy
  go_enter Try.func40, Try.ntmps40
  go_wp2
  go_ret
  exact ⟨rfl, rfl⟩

theorem check_any (seed : Int) (a : Option Addr) (len cap : Nat) (zs : List Int) (w : World) (hs : IsInts .u8 w a len cap zs) (h0 : 0 ≤ seed) (h1 : seed < 18446744073709551616) :
    Calls Try.prog 28 #[.int .u64 seed, .slice a len cap] w fun e w' => e = .returned (.tuple #[.int .u64 (fromH seed zs), .agg ((eightL (fromH seed zs)).map (Value.int .u8)).toArray]) ∧ Below w.heap.size w w' := by
  obtain ⟨hH0, hH1⟩ := fromH_bd seed zs h0 h1
  have hs1 := hs.later ((Below.refl _ w).alloc (Nat.le_refl _) (.cells #[.int .u8 0, .int .u8 0, .int .u8 0, .int .u8 0, .int .u8 0, .int .u8 0, .int .u8 0, .int .u8 0] 62))
  obtain ⟨H, hH⟩ : ∃ H, fromH seed zs = H := ⟨_, rfl⟩
  rw [hH] at hH0 hH1
  go_enter Try.func28, Try.ntmps28
  go_wp2_with (go_at_call 39; refine (from_any _ _ _ _ _ _ hs1).mono ?_; rintro e w' ⟨rfl, rfl⟩; rw [hH])
  go_rounds 9
  go_region
  go_wp2
  refine bodyPost_ret (v := .tuple #[.int .u64 H, .agg ((eightL H).map (Value.int .u8)).toArray]) (by simp [results, Try.results28, go_sem, eightL]) rfl ⟨by rw [hH], ?_⟩
  exact (((Below.refl _ _).alloc (Nat.le_refl _) _).alloc (by simp) _).drew

theorem nonzero_any (c : Int) (w : World) : Calls Try.prog 46 #[.int .u8 c] w fun e w' => e = .returned (.bool (!decide (c = 0))) ∧ w = w' := by
  go_enter Try.func46, Try.ntmps46
  go_wp2
  go_ret
  exact ⟨rfl, rfl⟩

theorem indexf_any (a : Option Addr) (len cap : Nat) (zs : List Int) (w : World) (hs : IsInts .u8 w a len cap zs) :
    Calls Try.prog 47 #[.slice a len cap, .func (.func 46) #[] #[]] w fun e w' => ∃ r : Int, e = .returned (.int .i64 r) ∧ w = w' ∧ (0 ≤ r ↔ ∃ i, i < len ∧ gi zs i ≠ 0) := by
  have hcap := hs.cap
  unfold maxLen at hcap
  go_enter Try.func47, Try.ntmps47
  go_wp2
  go_loop [8] (fun i => ∃ k : Nat, k ≤ len ∧ i = .int .i64 k ∧ ∀ j, j < k → gi zs j = 0) (fun i => len - (intOf i).toNat)
  case atStart => exact ⟨0, Nat.zero_le _, rfl, fun j hj => absurd hj (by omega)⟩
  case round =>
    obtain ⟨k, hk, rfl, hz⟩ := hrel
    by_cases hlt : k < len
    · have dlt : decide ((k : Int) < len) = true := decide_eq_true (by omega)
      obtain ⟨b, off, rfl, -, hcell⟩ := hs.at w (Below.refl _ _) k hlt
      by_cases h0 : gi zs k = 0
      · have d0 : decide (gi zs k = 0) = true := decide_eq_true h0
        have H0 := Lib.hid h0
        clear h0
        go_wp2_with (go_at_call 46; refine (nonzero_any _ _).mono ?_; rintro e w' ⟨rfl, rfl⟩; rw [d0])
        go_round
        case rel => exact ⟨k + 1, by omega, by go_num, fun j hj => by rcases Nat.lt_succ_iff_lt_or_eq.1 hj with h | rfl; exact hz j h; exact H0.out⟩
        case measure => simp [intOf]; omega
      · have d0 : decide (gi zs k = 0) = false := decide_eq_false h0
        go_wp2_with (go_at_call 46; refine (nonzero_any _ _).mono ?_; rintro e w' ⟨rfl, rfl⟩; rw [d0])
        go_ret
        exact ⟨_, rfl, rfl, fun _ => ⟨k, hlt, h0⟩, fun _ => by omega⟩
    · have dlt : decide ((k : Int) < len) = false := decide_eq_false (by omega)
      go_wp2
      go_ret
      exact ⟨_, rfl, rfl, (fun h => absurd h (by decide)), fun ⟨i, hi, hne⟩ => absurd (hz i (by omega)) hne⟩

theorem containsf_any (a : Option Addr) (len cap : Nat) (zs : List Int) (w : World) (hs : IsInts .u8 w a len cap zs) :
    Calls Try.prog 45 #[.slice a len cap, .func (.func 46) #[] #[]] w fun e w' => ∃ r : Bool, e = .returned (.bool r) ∧ w = w' ∧ (r = true ↔ ∃ i, i < len ∧ gi zs i ≠ 0) := by
  go_enter Try.func45, Try.ntmps45
  go_wp2_with (go_at_call 47; refine (indexf_any _ _ _ _ _ hs).mono ?_; rintro e w' ⟨r, rfl, rfl, hr0⟩; have hr := Lib.hid hr0; clear hr0)
  go_ret
  exact ⟨_, rfl, rfl, decide_eq_true_iff.trans hr.out⟩

theorem proper_any (a : Option Addr) (cap : Nat) (hd : List Int) (before : Nat) (w : World) (hs : IsInts .u8 w a 24 cap hd) (hb : Bytes hd) (hbf : before ≤ 1000000) :
    Calls Try.prog 41 #[.slice a 24 cap, .int .i64 before] w fun e w' => ∃ r : Bool, e = .returned (.bool r) ∧ Below w.heap.size w w' ∧ (r = true ↔ properL hd before) := by
  obtain ⟨b, off, rfl, -, hc0⟩ := hs.at w (Below.refl _ _) 0 (by decide)
  have hcap := hs.cap
  unfold maxLen at hcap
  have hc1 : w.cell? ⟨b, off + 1, none⟩ = some (.int .u8 (gi hd 1)) := by
    obtain ⟨b', off', e, -, hc⟩ := hs.at w (Below.refl _ _) 1 (by decide)
    cases e
    exact hc
  rw [Nat.add_zero] at hc0
  have hk : 0 ≤ gi hd 0 ∧ gi hd 0 < 256 := hb _ (gi_mem hd 0 (by rw [hs.length]; decide))
  have hn : 0 ≤ gi hd 1 ∧ gi hd 1 < 256 := hb _ (gi_mem hd 1 (by rw [hs.length]; decide))
  obtain ⟨kd, hkd⟩ : ∃ kd, gi hd 0 = kd := ⟨_, rfl⟩
  obtain ⟨N, hN⟩ : ∃ N : Nat, gi hd 1 = N := ⟨(gi hd 1).toNat, by omega⟩
  have hN2 : N < 256 := by omega
  have key : ∀ hd : List Int, gi hd 0 = kd → gi hd 1 = N → (properL hd before ↔ ((kd = 1 ∨ kd = 2) ∧ N ≤ 22 ∧ before + N ≤ 2000 ∧ ¬ (kd = 1 ∧ N ≠ 22) ∧ ¬ (kd = 2 ∧ N = 0 ∧ 0 < before)) ∧ ∀ i : Nat, 2 + N ≤ i → i < 24 → gi hd i = 0) := by
    intro hd e1 e2
    unfold properL
    rw [e1, e2]
    constructor
    · rintro ⟨h1, h2, h3, h4, h5, h6⟩
      exact ⟨⟨h1, by omega, by omega, (fun h => h4 ⟨h.1, by omega⟩), (fun h => h5 ⟨h.1, by omega, h.2.2⟩)⟩, fun i hi hi2 => h6 i (by omega) hi2⟩
    · rintro ⟨⟨h1, h2, h3, h4, h5⟩, h6⟩
      exact ⟨h1, by omega, by omega, (fun h => h4 ⟨h.1, by omega⟩), (fun h => h5 ⟨h.1, by omega, h.2.2⟩), fun i hi hi2 => h6 i (by omega) hi2⟩
  rw [key hd hkd hN]
  clear key
  rw [hkd] at hc0 hk
  rw [hN] at hc1
  have H0 := Lib.hid hkd
  have H1 := Lib.hid hN
  clear hkd hN hn hb
  by_cases hg : (kd = 1 ∨ kd = 2) ∧ N ≤ 22 ∧ before + N ≤ 2000 ∧ ¬ (kd = 1 ∧ N ≠ 22) ∧ ¬ (kd = 2 ∧ N = 0 ∧ 0 < before)
  · obtain ⟨ad, hsl, had⟩ : ∃ ad, IsInts .u8 w ad (24 - (2 + N)) (cap - (2 + N)) ((hd.drop (2 + N)).take (24 - (2 + N))) ∧ ad = if cap = 2 + N then some ⟨b, off, none⟩ else some ⟨b, off + (2 + N), none⟩ :=
      ⟨_, hs.slice (2 + N) 24 cap (by omega) (Nat.le_refl _) (by omega) (Nat.le_refl _) (a' := if cap = 2 + N then some ⟨b, off, none⟩ else some ⟨b, off + (2 + N), none⟩) (fun h => by rw [if_neg h]; simp [addr_add]) (fun h => by rw [if_pos h]), rfl⟩
    have hz : ∀ r : Bool, (r = true ↔ ∃ i, i < 24 - (2 + N) ∧ gi ((hd.drop (2 + N)).take (24 - (2 + N))) i ≠ 0) → ((!r) = true ↔ ∀ i : Nat, 2 + N ≤ i → i < 24 → gi hd i = 0) := by
      intro r hr
      rw [Bool.not_eq_true', ← Bool.not_eq_true, hr]
      constructor
      · intro hne i h1 h2
        rcases Classical.em (gi hd i = 0) with h | h
        · exact h
        · exact absurd ⟨i - (2 + N), by omega, by rw [gi_take _ _ _ (by omega), gi_drop, show 2 + N + (i - (2 + N)) = i by omega]; exact h⟩ hne
      · rintro h ⟨i, h1, h2⟩
        rw [gi_take _ _ _ h1, gi_drop] at h2
        exact h2 (h _ (by omega) (by omega))
    have hgd := Lib.hid hg
    have d22 : decide ((22 : Int) < N) = false := decide_eq_false (by omega)
    have d20 : decide ((2000 : Int) < before + N) = false := decide_eq_false (by omega)
    obtain ⟨h12, hN22, hb20, hg4, hg5⟩ := hg
    have hb1 : Below w.heap.size w w.drew := (Below.refl _ _).drew
    have fin : ∀ r : Bool, (r = true ↔ ∃ i, i < 24 - (2 + N) ∧ gi ((hd.drop (2 + N)).take (24 - (2 + N))) i ≠ 0) → ∃ r' : Bool, Ending.returned (.bool (!r)) = .returned (.bool r') ∧ Below w.heap.size w w.drew ∧ (r' = true ↔ ((kd = 1 ∨ kd = 2) ∧ N ≤ 22 ∧ before + N ≤ 2000 ∧ ¬ (kd = 1 ∧ N ≠ 22) ∧ ¬ (kd = 2 ∧ N = 0 ∧ 0 < before)) ∧ ∀ i : Nat, 2 + N ≤ i → i < 24 → gi hd i = 0) :=
      fun r hr => ⟨!r, rfl, hb1, by rw [hz r hr]; exact ⟨fun h => ⟨hgd.out, h⟩, fun h => h.2⟩⟩
    have hs2 := hsl.later hb1
    have hA : cap = 2 + N → IsInts .u8 w.drew (some ⟨b, off, none⟩) (24 - (2 + N)) 0 ((hd.drop (2 + N)).take (24 - (2 + N))) := fun h => by rw [had, if_pos h, show cap - (2 + N) = 0 by omega] at hs2; exact hs2
    have hB : ¬ cap = 2 + N → IsInts .u8 w.drew (some ⟨b, off + (2 + N), none⟩) (24 - (2 + N)) (cap - (2 + N)) ((hd.drop (2 + N)).take (24 - (2 + N))) := fun h => by rw [had, if_neg h] at hs2; exact hs2
    clear hz hs hsl hs2 had
    rcases h12 with rfl | rfl
    · have e22 : ((N : Int) != 22) = false := by simp; omega
      go_enter Try.func41, Try.ntmps41
      go_wp2
      go_region
      go_wp2_with (go_at_call 45; refine (containsf_any _ _ _ _ _ (by first | exact hB (by assumption) | exact hA (by assumption))).mono ?_; rintro e w' ⟨r, rfl, rfl, hr0⟩; have hr := Lib.hid hr0; clear hr0)
      all_goals
        go_ret
        exact fin _ hr.out
    · by_cases hN0 : N = 0
      · obtain rfl : before = 0 := by omega
        have e0 : ((N : Int) == 0) = true := by simp; omega
        clear hN0
        go_enter Try.func41, Try.ntmps41
        go_wp2
        go_region
        go_wp2_with (go_at_call 45; refine (containsf_any _ _ _ _ _ (by first | exact hB (by assumption) | exact hA (by assumption))).mono ?_; rintro e w' ⟨r, rfl, rfl, hr0⟩; have hr := Lib.hid hr0; clear hr0)
        all_goals
          go_ret
          exact fin _ hr.out
      · have e0 : ((N : Int) == 0) = false := by simp; omega
        go_enter Try.func41, Try.ntmps41
        go_wp2
        go_region
        go_wp2_with (go_at_call 45; refine (containsf_any _ _ _ _ _ (by first | exact hB (by assumption) | exact hA (by assumption))).mono ?_; rintro e w' ⟨r, rfl, rfl, hr0⟩; have hr := Lib.hid hr0; clear hr0)
        all_goals
          go_ret
          exact fin _ hr.out
  · have no : ∃ r' : Bool, Ending.returned (.bool false) = .returned (.bool r') ∧ Below w.heap.size w w.drew ∧ (r' = true ↔ ((kd = 1 ∨ kd = 2) ∧ N ≤ 22 ∧ before + N ≤ 2000 ∧ ¬ (kd = 1 ∧ N ≠ 22) ∧ ¬ (kd = 2 ∧ N = 0 ∧ 0 < before)) ∧ ∀ i : Nat, 2 + N ≤ i → i < 24 → gi hd i = 0) :=
      ⟨false, rfl, (Below.refl _ _).drew, (fun h => (by cases h)), fun h => absurd h.1 hg⟩
    clear hs
    by_cases hk12 : kd = 1 ∨ kd = 2
    · by_cases h22 : 22 < N
      · have d22 : decide ((22 : Int) < N) = true := decide_eq_true (by omega)
        rcases hk12 with rfl | rfl
        · clear hg
          go_enter Try.func41, Try.ntmps41
          go_wp2
          go_region
          go_wp2
          go_ret
          exact no
        · clear hg
          go_enter Try.func41, Try.ntmps41
          go_wp2
          go_region
          go_wp2
          go_ret
          exact no
      · have d22 : decide ((22 : Int) < N) = false := decide_eq_false (by omega)
        by_cases h20 : 2000 < before + N
        · have d20 : decide ((2000 : Int) < before + N) = true := decide_eq_true (by omega)
          rcases hk12 with rfl | rfl
          · clear hg
            go_enter Try.func41, Try.ntmps41
            go_wp2
            go_region
            go_wp2
            go_ret
            exact no
          · clear hg
            go_enter Try.func41, Try.ntmps41
            go_wp2
            go_region
            go_wp2
            go_ret
            exact no
        · have d20 : decide ((2000 : Int) < before + N) = false := decide_eq_false (by omega)
          rcases hk12 with rfl | rfl
          · have e22 : ((N : Int) != 22) = true := by simp; omega
            clear hg
            go_enter Try.func41, Try.ntmps41
            go_wp2
            go_region
            go_wp2
            go_ret
            exact no
          · have e0 : ((N : Int) == 0) = true := by simp; omega
            have e1 : decide (0 < before) = true := decide_eq_true (by omega)
            have e2 : 0 < before := by omega
            clear hg
            go_enter Try.func41, Try.ntmps41
            go_wp2
            go_region
            go_wp2
            go_ret
            exact no
    · have d1 : (kd != 1) = true := by simp; omega
      have d2 : (kd != 2) = true := by simp; omega
      clear hg
      go_enter Try.func41, Try.ntmps41
      go_wp2
      go_region
      go_wp2
      go_ret
      exact no
end Go.Proofs.Ytpmhnmkpmkeadaa
