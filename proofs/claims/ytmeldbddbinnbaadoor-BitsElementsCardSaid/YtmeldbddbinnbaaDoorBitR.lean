/-
  The words of Make; the results of the operations as sets of bits.
-/
import Derived.Test.YtmeldbddbinnbaaDoorBitQ
set_option linter.unusedSimpArgs false
set_option linter.unusedVariables false
namespace Go.Proofs.YtmeldbddbinnbaaDoor
open Go.RowKit

theorem mk_fold : ∀ (l ws : List Int), W64 ws → ws.length = 64 → W64 (l.foldl putBit ws) ∧ (l.foldl putBit ws).length = 64 ∧ ∀ m : Nat, m < 4096 → bt (l.foldl putBit ws) m = (bt ws m || decide ((m : Int) ∈ l))
  | [], ws, hw, hl => ⟨hw, hl, fun m _ => by simp⟩
  | z :: l, ws, hw, hl => by
    by_cases hz : 0 ≤ z ∧ z < 4096
    · obtain ⟨n, rfl⟩ := Int.eq_ofNat_of_zero_le hz.1
      have hn : n < 4096 := by omega
      have hg : ∀ i, gi (putBit ws n) i = if i = n / 64 then bits .or .u64 (gi ws (n / 64)) (IntKind.u64.wrap (2 ^ (n % 64))) else gi ws i := by
        intro i
        unfold putBit
        rw [if_pos (by omega), show ((n : Int) / 64).toNat = n / 64 by omega, show ((n : Int) % 64).toNat = n % 64 by omega, gi_set _ _ _ _ (by omega)]
      obtain ⟨h1, h2, h3⟩ := mk_fold l (putBit ws n) (w64_orBit hw hg) (by rw [putBit_length]; exact hl)
      rw [List.foldl_cons]
      refine ⟨h1, h2, fun m hm => ?_⟩
      rw [h3 m hm, bt_orBit hw hn hg m, Bool.eq_iff_iff]
      simp only [Bool.or_eq_true, decide_eq_true_eq, List.mem_cons]
      constructor
      · rintro ((h | h) | h)
        · exact .inl h
        · exact .inr (.inl (by omega))
        · exact .inr (.inr h)
      · rintro (h | h | h)
        · exact .inl (.inl h)
        · exact .inl (.inr (by omega))
        · exact .inr h
    · have hp : putBit ws z = ws := if_neg hz
      obtain ⟨h1, h2, h3⟩ := mk_fold l ws hw hl
      rw [List.foldl_cons, hp]
      refine ⟨h1, h2, fun m hm => ?_⟩
      rw [h3 m hm, Bool.eq_iff_iff]
      simp only [Bool.or_eq_true, decide_eq_true_eq, List.mem_cons]
      constructor
      · rintro (h | h)
        · exact .inl h
        · exact .inr (.inr h)
      · rintro (h | h | h)
        · exact .inl h
        · omega
        · exact .inr h

theorem mkW_def (l : List Int) : mkW l = l.foldl putBit (List.replicate 64 0) := rfl
theorem mkW_spec (l : List Int) : W64 (mkW l) ∧ (mkW l).length = 64 ∧ ∀ m : Nat, m < 4096 → bt (mkW l) m = decide ((m : Int) ∈ l) := by
  obtain ⟨h1, h2, h3⟩ := mk_fold l (List.replicate 64 0) (fun z hz => by rw [List.eq_of_mem_replicate hz]; decide) (by simp)
  rw [mkW_def]
  refine ⟨h1, h2, fun m hm => ?_⟩
  rw [h3 m hm]
  have : bt (List.replicate 64 0) m = false := by
    unfold bt wd
    have : gi (List.replicate 64 0) (m / 64) = 0 := by rw [gi_eq _ _ (by rw [List.length_replicate]; omega), List.getElem_replicate]
    rw [if_pos (by omega), this]; simp [tb]
  rw [this, Bool.false_or]

/-- The bits of what build makes. -/
theorem bt_bw {F : Nat → Int} {m n : Nat} (hn : n < 4096) (hz : ∀ i, m ≤ i → i < 64 → F i = 0) : bt (bw F m) n = tb (F (n / 64)) (n % 64) := by
  unfold bt wd
  rw [if_pos (by omega)]
  by_cases h : n / 64 < m
  · rw [gi_bw_lt h]
  · rw [gi_over (by have := bw_length_le F m; omega), hz _ (by omega) (by omega)]
theorem make_spec (l : List Int) : W64 (bw (gi (mkW l)) 64) ∧ Canon (bw (gi (mkW l)) 64) ∧ ∀ m : Nat, m < 4096 → bt (bw (gi (mkW l)) 64) m = decide ((m : Int) ∈ l) := by
  obtain ⟨h1, h2, h3⟩ := mkW_spec l
  refine ⟨w64_bw 64 (fun i => h1.gi i), canon_bw _ _ (Nat.le_refl _), fun m hm => ?_⟩
  rw [bt_bw hm (fun i h1 h2 => by omega), ← h3 m hm]
  unfold bt wd
  rw [if_pos (by omega)]
end Go.Proofs.YtmeldbddbinnbaaDoor
