import Derived.Test.YtbjdglopkpigbaaGreatDoorMG15
/-
  BtQ, BtR
-/
set_option linter.unusedSimpArgs false
set_option linter.unusedVariables false
namespace Go.Proofs.YtbjdglopkpigbaaGreatDoor.Bt
open Go.RowKit
theorem gi_set (ws : List Int) (q i : Nat) (v : Int) (hq : q < ws.length) : gi (ws.set q v) i = if i = q then v else gi ws i := by
 by_cases h : i = q
 ·subst h
  rw [if_pos rfl, gi_eq _ _ (by rw [List.length_set]; exact hq), List.getElem_set_self]
 ·rw [if_neg h]
  simp only [gi, List.getD, List.getElem?_set]
  rw [if_neg (show ¬ q = i from fun e => h e.symm)]
theorem gi_longer (ws : List Int) (q i : Nat) : gi (longer ws q) i = gi ws i := by
 unfold longer
 by_cases h : i < ws.length
 ·exact gi_append_left _ _ _ h
 ·rw [gi_over (zs := ws) (by omega)]
  obtain ⟨j, rfl⟩ : ∃ j, i = ws.length + j := ⟨i - ws.length, by omega⟩
  rw [gi_append_right]
  by_cases hj : j < q + 1 - ws.length
  ·rw [gi_eq _ _ (by simpa using hj)]; simp
  ·rw [gi_over (by simp; omega)]
theorem orBit (x : Int) (r : Nat) (hx : 0 ≤ x ∧ x < 18446744073709551616) (hr : r < 64) : bits .or .u64 x (IntKind.u64.wrap (2 ^ r)) = ((x.toNat ||| 2 ^ r : Nat) : Int) ∧ x.toNat ||| 2 ^ r < 18446744073709551616 := by
 have h2 : (2 : Nat) ^ r < 18446744073709551616 := by
  have := Nat.pow_lt_pow_right (a := 2) (by decide) hr
  omega
 have hw : IntKind.u64.wrap ((2 : Int) ^ r) = ((2 ^ r : Nat) : Int) := by
  rw [show ((2 : Int) ^ r) = ((2 ^ r : Nat) : Int) by simp]
  generalize 2 ^ r = K at h2
  exact IntWalk.u64_in _ (by omega)
 rw [hw]
 have := bits_or_u64_nat x.toNat (2 ^ r) (by omega) h2
 rw [Int.toNat_of_nonneg hx.1] at this
 exact ⟨this, Nat.or_lt_two_pow (n := 64) (by omega) h2⟩
theorem tb_or (x : Int) (r k : Nat) : tb ((x.toNat ||| 2 ^ r : Nat) : Int) k = (tb x k || decide (k = r)) := by
 unfold tb
 rw [Int.toNat_natCast, Nat.testBit_or, Nat.testBit_two_pow]
 congr 1
 rw [Bool.eq_iff_iff]; simp; omega
theorem bt_orBit {ws vs : List Int} {n : Nat} (hw : W64 ws) (hn : n < 4096) (h : ∀ i, gi vs i = if i = n / 64 then bits .or .u64 (gi ws (n / 64)) (IntKind.u64.wrap (2 ^ (n % 64))) else gi ws i) (m : Nat) : bt vs m = (bt ws m || decide (m = n)) := by
 have ho := orBit (gi ws (n / 64)) (n % 64) (hw.gi _) (by omega)
 unfold bt wd
 by_cases hm : m / 64 < 64
 ·rw [if_pos hm, if_pos hm, h]
  by_cases e : m / 64 = n / 64
  ·rw [if_pos e, ho.1, tb_or, e]
   congr 1
   rw [Bool.eq_iff_iff]; simp; omega
  ·rw [if_neg e, decide_eq_false (show ¬ m = n by intro h; rw [h] at e; exact e rfl), Bool.or_false]
 ·rw [if_neg hm, if_neg hm, decide_eq_false (by omega), Bool.or_false]
theorem w64_orBit {ws vs : List Int} {n : Nat} (hw : W64 ws) (h : ∀ i, gi vs i = if i = n / 64 then bits .or .u64 (gi ws (n / 64)) (IntKind.u64.wrap (2 ^ (n % 64))) else gi ws i) : W64 vs := by
 intro z hz
 obtain ⟨i, hi, rfl⟩ := List.getElem_of_mem hz
 rw [← gi_eq _ _ hi, h]
 have ho := orBit (gi ws (n / 64)) (n % 64) (hw.gi _) (by omega)
 split
 ·rw [ho.1]; omega
 ·exact hw.gi i
theorem wordsStep_nat (ws : List Int) (n : Nat) (hn : n < 4096) (i : Nat) : gi (wordsStep ws n) i = if i = n / 64 then bits .or .u64 (gi ws (n / 64)) (IntKind.u64.wrap (2 ^ (n % 64))) else gi ws i := by
 unfold wordsStep
 rw [if_pos (by omega), show ((n : Int) / 64).toNat = n / 64 by omega, show ((n : Int) % 64).toNat = n % 64 by omega, gi_set _ _ _ _ (by rw [longer_length]; omega), gi_longer, gi_longer]
theorem wordsStep_length (ws : List Int) (n : Nat) (hn : n < 4096) : (wordsStep ws n).length = max ws.length (n / 64 + 1) := by
 unfold wordsStep
 rw [if_pos (by omega), show ((n : Int) / 64).toNat = n / 64 by omega, List.length_set, longer_length]
theorem canon_step {ws : List Int} {n : Nat} (hw : W64 ws) (hc : Canon ws) (hn : n < 4096) : Canon (wordsStep ws n) := by
 have hl := wordsStep_length ws n hn
 have hc1 := hc.1
 have ho := orBit (gi ws (n / 64)) (n % 64) (hw.gi _) (by omega)
 refine ⟨by omega, .inr ?_⟩
 rw [wordsStep_nat ws n hn, hl]
 by_cases h : max ws.length (n / 64 + 1) - 1 = n / 64
 ·rw [if_pos h, ho.1]
  have h1 : ((gi ws (n / 64)).toNat ||| 2 ^ (n % 64)).testBit (n % 64) = true := by rw [Nat.testBit_or, Nat.testBit_two_pow_self, Bool.or_true]
  intro e
  have e : (gi ws (n / 64)).toNat ||| 2 ^ (n % 64) = 0 := by omega
  rw [e] at h1; simp at h1
 ·rw [if_neg h]
  rcases hc.2 with e | e
  ·rw [e] at h; simp at h
  ·rw [show max ws.length (n / 64 + 1) - 1 = ws.length - 1 by omega]; exact e
theorem words_fold : ∀ (l ws : List Int), (∀ z ∈ l, 0 ≤ z ∧ z < 4096) → W64 ws → Canon ws → W64 (l.foldl wordsStep ws) ∧ Canon (l.foldl wordsStep ws) ∧ ∀ m : Nat, bt (l.foldl wordsStep ws) m = (bt ws m || decide ((m : Int) ∈ l))
 | [], ws, _, hw, hc => ⟨hw, hc, fun m => by simp⟩
 | z :: l, ws, h, hw, hc => by
  have hz := h z List.mem_cons_self
  obtain ⟨n, rfl⟩ := Int.eq_ofNat_of_zero_le hz.1
  have hn : n < 4096 := by omega
  obtain ⟨h1, h2, h3⟩ := words_fold l (wordsStep ws n) (fun y hy => h y (List.mem_cons_of_mem _ hy)) (w64_orBit hw (wordsStep_nat ws n hn)) (canon_step hw hc hn)
  rw [List.foldl_cons]
  refine ⟨h1, h2, fun m => ?_⟩
  have e := h3 m
  rw [e, bt_orBit hw hn (wordsStep_nat ws n hn) m, Bool.eq_iff_iff]
  simp only [Bool.or_eq_true, decide_eq_true_eq, List.mem_cons]
  constructor
  ·rintro ((h | h) | h)
   ·exact .inl h
   ·exact .inr (.inl (by omega))
   ·exact .inr (.inr h)
  ·rintro (h | h | h)
   ·exact .inl (.inl h)
   ·exact .inl (.inr (by omega))
   ·exact .inr h
theorem bt_nil (m : Nat) : bt [] m = false := by
 unfold bt wd
 split <;> simp [gi, tb]
theorem wordsL_def (l : List Int) : wordsL l = l.foldl wordsStep [] := rfl
theorem words_setL (p : Nat → Bool) : W64 (wordsL (setL p)) ∧ Canon (wordsL (setL p)) ∧ ∀ m, m < 4096 → bt (wordsL (setL p)) m = p m := by
 obtain ⟨h1, h2, h3⟩ := words_fold (setL p) [] setL_bd (fun z hz => by cases hz) ⟨by simp, .inl rfl⟩
 rw [wordsL_def]
 refine ⟨h1, h2, fun m hm => ?_⟩
 have := h3 m
 rw [bt_nil, Bool.false_or] at this
 rw [this, Bool.eq_iff_iff]
 simp [mem_setL_nat hm]
end Go.Proofs.YtbjdglopkpigbaaGreatDoor.Bt
namespace Go.Proofs.YtbjdglopkpigbaaGreatDoor.Bt
open Go.RowKit
theorem mk_fold : ∀ (l ws : List Int), W64 ws → ws.length = 64 → W64 (l.foldl putBit ws) ∧ (l.foldl putBit ws).length = 64 ∧ ∀ m : Nat, m < 4096 → bt (l.foldl putBit ws) m = (bt ws m || decide ((m : Int) ∈ l))
 | [], ws, hw, hl => ⟨hw, hl, fun m _ => by simp⟩
 | z :: l, ws, hw, hl => by
  by_cases hz : 0 ≤ z ∧ z < 4096
  ·obtain ⟨n, rfl⟩ := Int.eq_ofNat_of_zero_le hz.1
   have hn : n < 4096 := by omega
   have hg : ∀ i, gi (putBit ws n) i = if i = n / 64 then bits .or .u64 (gi ws (n / 64)) (IntKind.u64.wrap (2 ^ (n % 64))) else gi ws i := by
    intro i
    unfold putBit
    rw [if_pos (by omega), show ((n : Int) / 64).toNat = n / 64 by omega, show ((n : Int) % 64).toNat = n % 64 by omega, gi_set _ _ _ _ (by omega)]
   obtain ⟨h1, h2, h3⟩ := mk_fold l (putBit ws n) (w64_orBit hw hg) (by rw [putBit_length]; exact hl)
   rw [List.foldl_cons]
   refine ⟨h1, h2, fun m hm => ?_⟩
   rw [h3 m hm, bt_orBit hw hn hg m, Bool.eq_iff_iff]
   simp only [Bool.or_eq_true, decide_eq_true_eq, List.mem_cons]
   constructor
   ·rintro ((h | h) | h)
    ·exact .inl h
    ·exact .inr (.inl (by omega))
    ·exact .inr (.inr h)
   ·rintro (h | h | h)
    ·exact .inl (.inl h)
    ·exact .inl (.inr (by omega))
    ·exact .inr h
  ·have hp : putBit ws z = ws := if_neg hz
   obtain ⟨h1, h2, h3⟩ := mk_fold l ws hw hl
   rw [List.foldl_cons, hp]
   refine ⟨h1, h2, fun m hm => ?_⟩
   rw [h3 m hm, Bool.eq_iff_iff]
   simp only [Bool.or_eq_true, decide_eq_true_eq, List.mem_cons]
   constructor
   ·rintro (h | h)
    ·exact .inl h
    ·exact .inr (.inr h)
   ·rintro (h | h | h)
    ·exact .inl h
    ·omega
    ·exact .inr h
theorem mkW_def (l : List Int) : mkW l = l.foldl putBit (List.replicate 64 0) := rfl
theorem mkW_spec (l : List Int) : W64 (mkW l) ∧ (mkW l).length = 64 ∧ ∀ m : Nat, m < 4096 → bt (mkW l) m = decide ((m : Int) ∈ l) := by
 obtain ⟨h1, h2, h3⟩ := mk_fold l (List.replicate 64 0) (fun z hz => by rw [List.eq_of_mem_replicate hz]; decide) (by simp)
 rw [mkW_def]
 refine ⟨h1, h2, fun m hm => ?_⟩
 rw [h3 m hm]
 have : bt (List.replicate 64 0) m = false := by
  unfold bt wd
  have : gi (List.replicate 64 0) (m / 64) = 0 := by rw [gi_eq _ _ (by rw [List.length_replicate]; omega), List.getElem_replicate]
  rw [if_pos (by omega), this]; simp [tb]
 rw [this, Bool.false_or]
theorem bt_bw {F : Nat → Int} {m n : Nat} (hn : n < 4096) (hz : ∀ i, m ≤ i → i < 64 → F i = 0) : bt (bw F m) n = tb (F (n / 64)) (n % 64) := by
 unfold bt wd
 rw [if_pos (by omega)]
 by_cases h : n / 64 < m
 ·rw [gi_bw_lt h]
 ·rw [gi_over (by have := bw_length_le F m; omega), hz _ (by omega) (by omega)]
theorem make_spec (l : List Int) : W64 (bw (gi (mkW l)) 64) ∧ Canon (bw (gi (mkW l)) 64) ∧ ∀ m : Nat, m < 4096 → bt (bw (gi (mkW l)) 64) m = decide ((m : Int) ∈ l) := by
 obtain ⟨h1, h2, h3⟩ := mkW_spec l
 refine ⟨w64_bw 64 (fun i => h1.gi i), canon_bw _ _ (Nat.le_refl _), fun m hm => ?_⟩
 rw [bt_bw hm (fun i h1 h2 => by omega), ← h3 m hm]
 unfold bt wd
 rw [if_pos (by omega)]
end Go.Proofs.YtbjdglopkpigbaaGreatDoor.Bt
