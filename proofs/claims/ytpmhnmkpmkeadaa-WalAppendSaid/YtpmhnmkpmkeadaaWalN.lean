/-
  The plain laws of the log: a turned byte; beginnings of any byte string. No program in sight.
-/
import Derived.Test.YtpmhnmkpmkeadaaWalM
set_option linter.unusedSimpArgs false
set_option linter.unusedVariables false
namespace Go.Proofs.Ytpmhnmkpmkeadaa
open Go.RowKit

theorem hdB_set_lt {b : List Int} {k c : Nat} {v : Int} (h : 32 * (c + 1) ≤ k) : hdB (b.set k v) c = hdB b c ∧ ckB (b.set k v) c = ckB b c := by
  constructor
  · unfold hdB
    rw [List.drop_set, if_neg (by omega), List.take_set]
    exact List.set_eq_of_length_le (by simp; omega)
  · unfold ckB
    rw [List.drop_set, if_neg (by omega), List.take_set]
    exact List.set_eq_of_length_le (by simp; omega)
theorem decP_set_lt {b : List Int} {k c : Nat} {v : Int} (h : 32 * (c + 1) ≤ k) : decP (b.set k v) c = decP b c := by unfold decP; rw [(hdB_set_lt h).1]
theorem dec_set_lt {b : List Int} {k c : Nat} {v : Int} (h : 32 * c ≤ k) : dec (b.set k v) c = dec b c := by
  induction c with
  | zero => rfl
  | succ c ih => rw [dec_succ, dec_succ, ih (by omega), decP_set_lt (by omega)]
theorem seedB_set_lt {b : List Int} {k c : Nat} {v : Int} (h : 32 * c ≤ k) : seedB (b.set k v) c = seedB b c := by
  induction c with
  | zero => rfl
  | succ c ih => rw [seedB, seedB, ih (by omega), (hdB_set_lt (by omega)).1]
theorem hdB_bytes {b : List Int} (h : Bytes b) (c : Nat) : Bytes (hdB b c) := (h.drop _).take _
theorem sumB_set {b : List Int} {k c : Nat} {v : Int} (hb : Bytes b) (hv0 : 0 ≤ v) (hv1 : v < 256) (h1 : 32 * c ≤ k) (h2 : k < 32 * (c + 1)) (hl : 32 * (c + 1) ≤ b.length) (hs : sumB b c) (hne : gi b k ≠ v) : ¬ sumB (b.set k v) c := by
  unfold sumB at hs ⊢
  have hsd := seedB_bd b c
  rw [seedB, seedB_set_lt h1]
  intro e
  by_cases hi : k < 32 * c + 24
  · have e1 : hdB (b.set k v) c = (hdB b c).set (k - 32 * c) v := by
      unfold hdB
      rw [List.drop_set, if_neg (by omega), List.take_set]
    have e2 : ckB (b.set k v) c = ckB b c := by
      unfold ckB
      rw [List.drop_set, if_pos (by omega)]
    rw [e1, e2, ← hs, seedB] at e
    have hB1 := fromH_bd (seedB b c) ((hdB b c).set (k - 32 * c) v) hsd.1 hsd.2
    have hB2 := fromH_bd (seedB b c) (hdB b c) hsd.1 hsd.2
    have hlen : (hdB b c).length = 24 := by simp [hdB]; omega
    have := fromH_set (hdB_bytes hb c) hsd.1 hsd.2 hv0 hv1 (by omega) (eightL_inj hB1.1 hB2.1 e)
    rw [hdB, gi_take _ _ _ (by omega), gi_drop, show 32 * c + (k - 32 * c) = k by omega] at this
    exact hne this
  · have e1 : hdB (b.set k v) c = hdB b c := by
      unfold hdB
      rw [List.drop_set, if_neg (by omega), List.take_set]
      exact List.set_eq_of_length_le (by simp; omega)
    have e2 : ckB (b.set k v) c = (ckB b c).set (k - (32 * c + 24)) v := by
      unfold ckB
      rw [List.drop_set, if_neg (by omega), List.take_set]
    rw [e1, e2, show fromH (seedB b c) (hdB b c) = seedB b (c + 1) from rfl, hs] at e
    have hlen : (ckB b c).length = 8 := by simp [ckB]; omega
    have hg : gi (ckB b c) (k - (32 * c + 24)) = gi ((ckB b c).set (k - (32 * c + 24)) v) (k - (32 * c + 24)) := congrArg (fun l => gi l (k - (32 * c + 24))) e
    have hv : gi ((ckB b c).set (k - (32 * c + 24)) v) (k - (32 * c + 24)) = v := by
      rw [gi_eq _ _ (by rw [List.length_set]; omega)]
      simp
    rw [hv, ckB, gi_take _ _ _ (by omega), gi_drop, show 32 * c + 24 + (k - (32 * c + 24)) = k by omega] at hg
    exact hne hg
/-- A log of records, one byte turned. -/
theorem read_damage {rs : List (List Int)} (h : OkR rs) {b0 : List Int} (hb0 : b0 = encP basis (allP rs)) {k : Nat} (hk : k < b0.length) {v : Int} (hv0 : 0 ≤ v) (hv1 : v < 256) (hne : gi b0 k ≠ v) :
    ∃ n, ReadIs (b0.set k v) (k / 32) 5 ∧ n < rs.length ∧ (stB (b0.set k v) (k / 32)).recs = rs.take n ∧ lastD (stB (b0.set k v) (k / 32)).ends = 32 * ((allP (rs.take n)).length : Int) ∧
      32 * (allP (rs.take n)).length ≤ 32 * (k / 32) ∧ 32 * (k / 32) < 32 * (allP (rs.take (n + 1))).length := by
  have hP := allP_ok h
  have hl : b0.length = 32 * (allP rs).length := by rw [hb0, encP_length hP]
  have hc : k / 32 < (allP rs).length := by omega
  have hby : Bytes b0 := by rw [hb0]; exact encP_bytes basis_bd.1 basis_bd.2 hP
  have hread := read_all h hb0
  have hpre : ∀ j, j < k / 32 → 32 * (j + 1) ≤ (b0.set k v).length ∧ sumB (b0.set k v) j ∧ formB (b0.set k v) j := by
    intro j hj
    have := hread.1.1 j (by omega)
    refine ⟨by rw [List.length_set]; omega, ?_, ?_⟩
    · unfold sumB
      rw [seedB_set_lt (by omega), (hdB_set_lt (by omega)).2]
      exact this.2.1
    · unfold formB
      rw [(hdB_set_lt (by omega)).1, stB, dec_set_lt (by omega)]
      exact this.2.2
  have hst : stB (b0.set k v) (k / 32) = stP ((allP rs).take (k / 32)) := by
    rw [stB, dec_set_lt (by omega), dec_pre hP (t := []) (by rw [List.append_nil]; exact hb0) _ (by omega)]
  obtain ⟨n, j, g1, g2, g3, g4, g5⟩ := cut_at rs (k / 32) (by omega)
  have hn : n < rs.length := by
    rcases Nat.lt_or_ge n rs.length with hh | hh
    · exact hh
    · have hnn : n = rs.length := by omega
      have := g2 hnn
      rw [hnn, List.take_length] at g4
      omega
  rw [g5, stP_cut n j g2 g3 g1] at hst
  refine ⟨n, ⟨hpre, .inl ⟨by rw [List.length_set]; omega, ?_, rfl⟩⟩, hn, by rw [hst], ?_, by omega, ?_⟩
  · exact sumB_set hby hv0 hv1 (by omega) (by omega) (by omega) (hread.1.1 _ hc).2.1 hne
  · rw [hst]; exact (stP_all _).2.2
  · rw [take_succ_gl rs n hn, allP_append, allP_one, List.length_append, partsL_length]
    have := g3 hn
    omega

/-! Ends. -/
theorem mem_ends (b : List Int) (k : Nat) (x : Int) : x ∈ (stB b k).ends ↔ ∃ j, j < k ∧ (decP b j).1 = 2 ∧ x = 32 * ((j : Int) + 1) := by
  induction k with
  | zero => simp [stB, dec, stP]
  | succ k ih =>
    rw [stB_succ, RS.step]
    split
    · rename_i h2
      simp only [List.mem_append, List.mem_singleton, ih, stB_n]
      constructor
      · rintro (⟨j, h, h'⟩ | rfl)
        · exact ⟨j, by omega, h'⟩
        · exact ⟨k, by omega, h2, rfl⟩
      · rintro ⟨j, h, h', h''⟩
        by_cases e : j = k
        · subst e; exact .inr h''
        · exact .inl ⟨j, by omega, h', h''⟩
    · rename_i h2
      rw [ih]
      constructor
      · rintro ⟨j, h, h'⟩; exact ⟨j, by omega, h'⟩
      · rintro ⟨j, h, h', h''⟩
        by_cases e : j = k
        · subst e; exact absurd h' h2
        · exact ⟨j, by omega, h', h''⟩
theorem lastD_ends (b : List Int) (k : Nat) : 0 ≤ lastD (stB b k).ends ∧ lastD (stB b k).ends ≤ 32 * (k : Int) ∧ (lastD (stB b k).ends = 32 * (k : Int) ↔ k = 0 ∨ (decP b (k - 1)).1 = 2) := by
  induction k with
  | zero => exact ⟨Int.le_refl _, Int.le_refl _, by simp [stB, dec, stP, lastD]⟩
  | succ k ih =>
    rw [stB_succ, RS.step]
    split
    · rename_i h2
      simp only [lastD_snoc, stB_n]
      refine ⟨by omega, by omega, by simp [h2]⟩
    · rename_i h2
      simp only
      refine ⟨ih.1, by omega, ?_⟩
      constructor
      · intro e; omega
      · rintro (e | e)
        · omega
        · exact absurd e h2
theorem hdB_take {b : List Int} {s c : Nat} (h : 32 * (c + 1) ≤ s) : hdB (b.take s) c = hdB b c ∧ ckB (b.take s) c = ckB b c := by
  constructor
  · unfold hdB
    rw [List.drop_take, List.take_take, Nat.min_eq_left (by omega)]
  · unfold ckB
    rw [List.drop_take, List.take_take, Nat.min_eq_left (by omega)]
theorem dec_take {b : List Int} {s c : Nat} (h : 32 * c ≤ s) : dec (b.take s) c = dec b c := by
  induction c with
  | zero => rfl
  | succ c ih => rw [dec_succ, dec_succ, ih (by omega), decP, decP, (hdB_take (by omega)).1]
theorem seedB_take {b : List Int} {s c : Nat} (h : 32 * c ≤ s) : seedB (b.take s) c = seedB b c := by
  induction c with
  | zero => rfl
  | succ c ih => rw [seedB, seedB, ih (by omega), (hdB_take (by omega)).1]
/-- A beginning of a byte string that reads well. -/
theorem read_take {b : List Int} {k s : Nat} (h : ReadIs b k 0) (hs : s ≤ b.length) :
    ∃ e, ReadIs (b.take s) (s / 32) e ∧ (e = 0 ↔ s = 0 ∨ (s : Int) ∈ (stB b k).ends) := by
  have hlen : (b.take s).length = s := by simp; omega
  obtain ⟨h1, h2⟩ := h
  have hk : b.length < 32 * (k + 1) := by
    rcases h2 with h2 | h2 | h2
    · exact absurd h2.2.2 (by decide)
    · exact absurd h2.2.2.2 (by decide)
    · exact h2.1
  have hpre : ∀ j, j < s / 32 → 32 * (j + 1) ≤ (b.take s).length ∧ sumB (b.take s) j ∧ formB (b.take s) j := by
    intro j hj
    have := h1 j (by omega)
    refine ⟨by omega, ?_, ?_⟩
    · unfold sumB
      rw [seedB_take (by omega), (hdB_take (by omega)).2]
      exact this.2.1
    · unfold formB
      rw [(hdB_take (by omega)).1, stB, dec_take (by omega)]
      exact this.2.2
  have hst : stB (b.take s) (s / 32) = stB b (s / 32) := by rw [stB, dec_take (by omega)]; rfl
  obtain ⟨g0, g1, g2⟩ := lastD_ends b (s / 32)
  have key : lastD (stB b (s / 32)).ends = s ↔ s = 0 ∨ (s : Int) ∈ (stB b k).ends := by
    constructor
    · intro e
      have e' : lastD (stB b (s / 32)).ends = 32 * ((s / 32 : Nat) : Int) := by omega
      rcases g2.1 e' with h0 | h0
      · left; omega
      · by_cases hz : s = 0
        · exact .inl hz
        · right
          rw [mem_ends]
          exact ⟨s / 32 - 1, by omega, h0, by omega⟩
    · rintro (e | e)
      · subst e; simp [stB, dec, stP, lastD]
      · rw [mem_ends] at e
        obtain ⟨j, hj, hd, e⟩ := e
        have : s / 32 = j + 1 := by omega
        have := g2.2 (.inr (by rw [this]; exact hd))
        omega
  by_cases he : lastD (stB (b.take s) (s / 32)).ends = (b.take s).length
  · refine ⟨0, ⟨hpre, .inr (.inr ⟨by omega, .inl ⟨he, rfl⟩⟩)⟩, fun _ => ?_, fun _ => rfl⟩
    rw [hst, hlen] at he
    exact key.1 he
  · refine ⟨4, ⟨hpre, .inr (.inr ⟨by omega, .inr ⟨he, rfl⟩⟩)⟩, fun e => (by cases e), fun e => ?_⟩
    rw [hst, hlen] at he
    exact absurd (key.2 e) he
/-- Every byte string reads somehow. -/
theorem read_some (b : List Int) : ∃ k e, ReadIs b k e := by
  have : ∀ m k, k + m = b.length / 32 + 1 → (∀ j, j < k → 32 * (j + 1) ≤ b.length ∧ sumB b j ∧ formB b j) → ∃ k e, ReadIs b k e := by
    intro m
    induction m with
    | zero =>
      intro k hk hj
      have := hj (b.length / 32) (by omega)
      omega
    | succ m ih =>
      intro k hk hj
      by_cases h1 : 32 * (k + 1) ≤ b.length
      · by_cases h2 : sumB b k
        · by_cases h3 : formB b k
          · refine ih (k + 1) (by omega) fun j hj' => ?_
            by_cases e : j = k
            · subst e; exact ⟨h1, h2, h3⟩
            · exact hj j (by omega)
          · exact ⟨k, 4, hj, .inr (.inl ⟨h1, h2, h3, rfl⟩)⟩
        · exact ⟨k, 5, hj, .inl ⟨h1, h2, rfl⟩⟩
      · by_cases he : lastD (stB b k).ends = b.length
        · exact ⟨k, 0, hj, .inr (.inr ⟨by omega, .inl ⟨he, rfl⟩⟩)⟩
        · exact ⟨k, 4, hj, .inr (.inr ⟨by omega, .inr ⟨he, rfl⟩⟩)⟩
  exact this _ 0 (Nat.zero_add _) (fun j hj => absurd hj (by omega))
end Go.Proofs.Ytpmhnmkpmkeadaa
