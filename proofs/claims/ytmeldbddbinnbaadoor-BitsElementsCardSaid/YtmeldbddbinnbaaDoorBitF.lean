/-
  Package bits: Has, Valid, With, Without; the reference's Valid and SameWords.
-/
import Derived.Test.YtmeldbddbinnbaaDoorBitE
set_option linter.unusedSimpArgs false
set_option linter.unusedVariables false
namespace Go.Proofs.YtmeldbddbinnbaaDoor
open Go.RowKit Go.Shelf

theorem bw_length (F : Nat → Int) (m : Nat) : (bw F m).length = trimN F m := by simp [bw]
theorem bw_length_le (F : Nat → Int) (m : Nat) : (bw F m).length ≤ m := by rw [bw_length]; exact trimN_le F m

/-- A bit of a word, as the program asks for it. -/
def bitI (z : Int) (r : Nat) : Bool := bits .and .u64 (z / 2 ^ r) 1 == 1
def hasB (ws : List Int) (n : Int) : Bool := decide (0 ≤ n ∧ n < 4096) && bitI (wd ws (n / 64).toNat) (n % 64).toNat

theorem has_any (a : Option Addr) (len cap : Nat) (ws : List Int) (n : Int) (w : World) (hs : IsInts .u64 w a len cap ws) :
    Calls Tryd.prog 26 #[.slice a len cap, .int .i64 n] w fun e w' => e = .returned (.bool (hasB ws n)) ∧ w = w' := by
  by_cases hn : 0 ≤ n ∧ n < 4096
  · have hd1 : decide (0 ≤ n) = true := decide_eq_true hn.1
    have hd2 : decide (n < 4096) = true := decide_eq_true hn.2
    obtain ⟨q, hq, hq64, hqe⟩ : ∃ q : Nat, n.tdiv 64 = q ∧ q < 64 ∧ (n / 64).toNat = q := ⟨(n / 64).toNat, by rw [Int.tdiv_eq_ediv_of_nonneg hn.1]; omega, by omega, rfl⟩
    obtain ⟨r, hr, hr64, hre⟩ : ∃ r : Nat, n.tmod 64 = r ∧ r < 64 ∧ (n % 64).toNat = r := ⟨(n % 64).toNat, by rw [Int.tmod_eq_emod_of_nonneg hn.1]; omega, by omega, rfl⟩
    have HB : Hid (hasB ws n = bitI (wd ws q) r) := Lib.hid (by unfold hasB; rw [hqe, hre, decide_eq_true hn]; rfl)
    go_enter Tryd.func26, Tryd.ntmps26
    go_wp2_with (go_at_call 45; refine (word_any a len cap ws q w hs (by omega)).mono ?_; rintro e w' ⟨rfl, rfl⟩)
    go_ret
    exact ⟨by rw [HB.out]; rfl, rfl⟩
  · have HB : Hid (hasB ws n = false) := Lib.hid (by unfold hasB; rw [decide_eq_false hn]; rfl)
    by_cases h0 : 0 ≤ n
    · have hd1 : decide (0 ≤ n) = true := decide_eq_true h0
      have hd2 : decide (n < 4096) = false := decide_eq_false (fun h => hn ⟨h0, h⟩)
      go_enter Tryd.func26, Tryd.ntmps26
      go_wp2
      go_ret
      exact ⟨by rw [HB.out]; rfl, rfl⟩
    · have hd1 : decide (0 ≤ n) = false := decide_eq_false h0
      go_enter Tryd.func26, Tryd.ntmps26
      go_wp2
      go_ret
      exact ⟨by rw [HB.out]; rfl, rfl⟩

def validB (ws : List Int) : Bool := decide (ws.length ≤ 64) && (ws.length == 0 || gi ws (ws.length - 1) != 0)

theorem valid_any (a : Option Addr) (len cap : Nat) (ws : List Int) (w : World) (hs : IsInts .u64 w a len cap ws) :
    Calls Tryd.prog 17 #[.slice a len cap] w fun e w' => e = .returned (.bool (validB ws)) ∧ w = w' := by
  have hl := hs.length
  by_cases h64 : len ≤ 64
  · have hd : decide ((len : Int) ≤ 64) = true := decide_eq_true (by omega)
    cases len with
    | zero =>
      have HB : Hid (validB ws = true) := Lib.hid (by unfold validB; rw [hl]; rfl)
      go_enter Tryd.func17, Tryd.ntmps17
      go_wp2
      go_ret
      exact ⟨by rw [HB.out]; rfl, rfl⟩
    | succ i =>
      obtain ⟨b, off, rfl, _, hc⟩ := hs.at w (Below.refl _ _) i (by omega)
      have HB : Hid (validB ws = (gi ws i != 0)) := Lib.hid (by unfold validB; rw [hl, decide_eq_true h64]; simp)
      have hne : (((i + 1 : Nat) : Int) == 0) = false := by simp; omega
      clear hs
      go_enter Tryd.func17, Tryd.ntmps17
      go_wp2
      go_ret
      exact ⟨by rw [HB.out]; rfl, rfl⟩
  · have hd : decide ((len : Int) ≤ 64) = false := decide_eq_false (by omega)
    have HB : Hid (validB ws = false) := Lib.hid (by unfold validB; rw [hl, decide_eq_false h64]; rfl)
    go_enter Tryd.func17, Tryd.ntmps17
    go_wp2
    go_ret
    exact ⟨by rw [HB.out]; rfl, rfl⟩

theorem refValid_any (a : Option Addr) (len cap : Nat) (ws : List Int) (w : World) (hs : IsInts .u64 w a len cap ws) :
    Calls Tryd.prog 31 #[.slice a len cap] w fun e w' => e = .returned (.bool (validB ws)) ∧ w = w' := by
  have hl := hs.length
  by_cases h64 : len ≤ 64
  · have hd : decide ((len : Int) ≤ 64) = true := decide_eq_true (by omega)
    cases len with
    | zero =>
      have HB : Hid (validB ws = true) := Lib.hid (by unfold validB; rw [hl]; rfl)
      go_enter Tryd.func31, Tryd.ntmps31
      go_wp2
      go_ret
      exact ⟨by rw [HB.out]; rfl, rfl⟩
    | succ i =>
      obtain ⟨b, off, rfl, _, hc⟩ := hs.at w (Below.refl _ _) i (by omega)
      have HB : Hid (validB ws = (gi ws i != 0)) := Lib.hid (by unfold validB; rw [hl, decide_eq_true h64]; simp)
      have hne : (((i + 1 : Nat) : Int) == 0) = false := by simp; omega
      clear hs
      go_enter Tryd.func31, Tryd.ntmps31
      go_wp2
      go_ret
      exact ⟨by rw [HB.out]; rfl, rfl⟩
  · have hd : decide ((len : Int) ≤ 64) = false := decide_eq_false (by omega)
    have HB : Hid (validB ws = false) := Lib.hid (by unfold validB; rw [hl, decide_eq_false h64]; rfl)
    go_enter Tryd.func31, Tryd.ntmps31
    go_wp2
    go_ret
    exact ⟨by rw [HB.out]; rfl, rfl⟩

theorem with_any (a : Option Addr) (len cap : Nat) (ws : List Int) (n : Int) (w : World) (hs : IsInts .u64 w a len cap ws) (hn : (Lit.int .i64 n).wf = true) (hl : len ≤ 140737488351232) :
    Calls Tryd.prog 20 #[.slice a len cap, .int .i64 n] w fun e w' => ∃ g t, e = .returned (.slice (some ⟨g, 0, none⟩) t t) ∧ PartOf .u64 39 w' w.heap.size g t (bw (opW .or ws (bw (gi (mkW [n])) 64)) (min (max len (trimN (gi (mkW [n])) 64)) 64)) ∧ Below w.heap.size w w' := by
  have hi := new_ints .i64 w 3 [n] 1 rfl (by decide)
  have hb0 : Below w.heap.size w (w.alloc (.cells #[.int .i64 n] 3)) := (Below.refl _ _).alloc (Nat.le_refl _) _
  have hs0 := hs.later hb0
  go_enter Tryd.func20, Tryd.ntmps20
  go_wp2_with (first | (go_at_call 13; refine (make_any _ _ _ [n] _ hi (by intro m hm; rw [List.mem_singleton.1 hm]; exact hn)).mono ?_; rintro e w1 ⟨g1, t1, rfl, hp1, hb1⟩; have hi1 := hp1.ints; have ht1 := hp1.length; have hle := bw_length_le (gi (mkW [n])) 64; replace hb1 := hb0.trans (hb1.mono hb0.size); have hs1 := hs.later hb1) | (go_at_call 22; refine (union_any _ _ _ _ _ _ _ _ _ hs1 hi1 hl (by omega)).mono ?_; rintro e w2 ⟨g2, t2, rfl, hp2, hb2⟩))
  go_ret
  exact ⟨g2, t2, rfl, by rw [show trimN (gi (mkW [n])) 64 = t1 by rw [← ht1, bw_length]]; exact hp2.from_mono hb1.size, hb1.trans (hb2.mono hb1.size)⟩

theorem without_any (a : Option Addr) (len cap : Nat) (ws : List Int) (n : Int) (w : World) (hs : IsInts .u64 w a len cap ws) (hn : (Lit.int .i64 n).wf = true) (hl : len ≤ 140737488351232) :
    Calls Tryd.prog 21 #[.slice a len cap, .int .i64 n] w fun e w' => ∃ g t, e = .returned (.slice (some ⟨g, 0, none⟩) t t) ∧ PartOf .u64 39 w' w.heap.size g t (bw (opW .andNot ws (bw (gi (mkW [n])) 64)) (min len 64)) ∧ Below w.heap.size w w' := by
  have hi := new_ints .i64 w 3 [n] 1 rfl (by decide)
  have hb0 : Below w.heap.size w (w.alloc (.cells #[.int .i64 n] 3)) := (Below.refl _ _).alloc (Nat.le_refl _) _
  have hs0 := hs.later hb0
  go_enter Tryd.func21, Tryd.ntmps21
  go_wp2_with (first | (go_at_call 13; refine (make_any _ _ _ [n] _ hi (by intro m hm; rw [List.mem_singleton.1 hm]; exact hn)).mono ?_; rintro e w1 ⟨g1, t1, rfl, hp1, hb1⟩; have hi1 := hp1.ints; have ht1 := hp1.length; have hle := bw_length_le (gi (mkW [n])) 64; replace hb1 := hb0.trans (hb1.mono hb0.size); have hs1 := hs.later hb1) | (go_at_call 23; refine (minus_any _ _ _ _ _ _ _ _ _ hs1 hi1 hl (by omega)).mono ?_; rintro e w2 ⟨g2, t2, rfl, hp2, hb2⟩))
  go_ret
  exact ⟨g2, t2, rfl, hp2.from_mono hb1.size, hb1.trans (hb2.mono hb1.size)⟩
end Go.Proofs.YtmeldbddbinnbaaDoor
