/-
  The reduction of an order in plain words. No walk.
-/
import Derived.Test.YtofnbndpoiohhaaDoorOrdL
set_option linter.unusedVariables false
namespace Go.Proofs.YtofnbndpoiohhaaDoor
open Go.RowKit Go.Shelf

variable {N : Nat} {es : List (Int × Int)}

def RedP (es : List (Int × Int)) (a b : Nat) : Prop := Path (Ed es) a b ∧ ¬ ∃ c, Path (Ed es) a c ∧ Path (Ed es) c b
open Classical in
noncomputable def redRow (es : List (Int × Int)) (a j : Nat) : List (Int × Int) := ((List.range j).filter fun b => decide (RedP es a b)).map fun b : Nat => ((a : Int), (b : Int))
noncomputable def redTo (es : List (Int × Int)) (N i : Nat) : List (Int × Int) := (List.range i).flatMap fun a => redRow es a N
theorem redTo_zero : redTo es N 0 = [] := rfl
theorem redRow_zero (a : Nat) : redRow es a 0 = [] := rfl
theorem redTo_succ (i : Nat) : redTo es N (i + 1) = redTo es N i ++ redRow es i N := by
  simp [redTo, List.range_succ]
open Classical in
theorem redRow_yes {a j : Nat} (h : RedP es a j) : redRow es a (j + 1) = redRow es a j ++ [((a : Int), (j : Int))] := by
  unfold redRow
  rw [List.range_succ, List.filter_append, List.map_append, List.filter_cons_of_pos (by exact decide_eq_true h)]
  rfl
open Classical in
theorem redRow_no {a j : Nat} (h : ¬ RedP es a j) : redRow es a (j + 1) = redRow es a j := by
  unfold redRow
  rw [List.range_succ, List.filter_append, List.map_append, List.filter_cons_of_neg (by rw [decide_eq_true_iff]; exact h)]
  simp
open Classical in
theorem redRow_length (a j : Nat) : (redRow es a j).length ≤ j := by
  unfold redRow
  rw [List.length_map]
  have := List.length_filter_le (fun b => decide (RedP es a b)) (List.range j)
  rwa [List.length_range] at this
theorem redTo_length (i : Nat) : (redTo es N i).length ≤ i * N := by
  induction i with
  | zero => simp [redTo_zero]
  | succ i ih =>
    rw [redTo_succ, List.length_append, Nat.succ_mul]
    have := redRow_length (es := es) i N
    omega
noncomputable def redE (es : List (Int × Int)) (N : Nat) : List (Int × Int) := redTo es N N
open Classical in
theorem mem_redRow {a j : Nat} {e : Int × Int} : e ∈ redRow es a j ↔ ∃ b, b < j ∧ RedP es a b ∧ e = ((a : Int), (b : Int)) := by
  unfold redRow
  simp only [List.mem_map, List.mem_filter, List.mem_range, decide_eq_true_iff]
  constructor
  · rintro ⟨b, ⟨h1, h2⟩, h3⟩
    exact ⟨b, h1, h2, h3.symm⟩
  · rintro ⟨b, h1, h2, h3⟩
    exact ⟨b, ⟨h1, h2⟩, h3.symm⟩
theorem mem_redE {e : Int × Int} : e ∈ redE es N ↔ ∃ a b, a < N ∧ b < N ∧ RedP es a b ∧ e = ((a : Int), (b : Int)) := by
  unfold redE redTo
  simp only [List.mem_flatMap, List.mem_range, mem_redRow]
  constructor
  · rintro ⟨a, h1, b, h2, h3, h4⟩
    exact ⟨a, b, h1, h2, h3, h4⟩
  · rintro ⟨a, b, h1, h2, h3, h4⟩
    exact ⟨a, h1, b, h2, h3, h4⟩
open Classical in
theorem redE_nodup : (redE es N).Nodup := by
  unfold redE redTo
  refine List.nodup_iff_pairwise_ne.2 (List.pairwise_flatMap.2 ⟨fun a _ => ?_, ?_⟩)
  · unfold redRow
    refine List.Pairwise.map _ (R := (· ≠ ·)) (fun b c h => ?_) (List.nodup_iff_pairwise_ne.1 (List.nodup_range.filter _))
    intro e
    have h2 := (Prod.mk.injEq _ _ _ _).mp e
    exact h (by omega)
  · refine List.Pairwise.imp ?_ (List.pairwise_lt_range (n := N))
    intro a b hab x hx y hy e
    obtain ⟨_, _, _, rfl⟩ := mem_redRow.1 hx
    obtain ⟨_, _, _, rfl⟩ := mem_redRow.1 hy
    have := (Prod.mk.injEq _ _ _ _).mp e
    omega
theorem redE_ed {a b : Nat} (hv : ValidO N es) : Ed (redE es N) a b ↔ RedP es a b := by
  unfold Ed
  rw [mem_redE]
  constructor
  · rintro ⟨x, y, _, _, h, e⟩
    have := (Prod.mk.injEq _ _ _ _).mp e
    have h1 : x = a := by omega
    have h2 : y = b := by omega
    rw [← h1, ← h2]; exact h
  · intro h
    have hE := hv.2.2.1.ed
    obtain ⟨c, e⟩ := h.1.first
    have ha := (hE _ _ e).1
    have hb : b < N := by
      rcases h.1.last with e | ⟨c, _, e⟩
      · exact (hE _ _ e).2
      · exact (hE _ _ e).2
    exact ⟨a, b, ha, hb, h, rfl⟩

open Classical in
noncomputable def betw (es : List (Int × Int)) (N a b : Nat) : Nat := ((List.range N).filter fun c => decide (Path (Ed es) a c ∧ Path (Ed es) c b)).length
theorem filter_lt {p q : Nat → Bool} : ∀ (l : List Nat) (x : Nat), x ∈ l → (∀ y, p y = true → q y = true) → q x = true → p x = false → (l.filter p).length < (l.filter q).length
  | [], _, h, _, _, _ => by cases h
  | y :: l, x, h, hpq, hq, hp => by
    have le : ∀ (m : List Nat), (m.filter p).length ≤ (m.filter q).length := by
      intro m
      induction m with
      | nil => exact Nat.le_refl _
      | cons z m ih =>
        by_cases hz : p z = true
        · rw [List.filter_cons_of_pos hz, List.filter_cons_of_pos (hpq z hz), List.length_cons, List.length_cons]; omega
        · rw [List.filter_cons_of_neg hz]
          by_cases hz2 : q z = true
          · rw [List.filter_cons_of_pos hz2, List.length_cons]; omega
          · rw [List.filter_cons_of_neg hz2]; exact ih
    rcases List.mem_cons.1 h with rfl | h
    · rw [List.filter_cons_of_neg (by rw [hp]; decide), List.filter_cons_of_pos hq, List.length_cons]
      have := le l
      omega
    · have ih := filter_lt l x h hpq hq hp
      by_cases hz : p y = true
      · rw [List.filter_cons_of_pos hz, List.filter_cons_of_pos (hpq y hz), List.length_cons, List.length_cons]; omega
      · rw [List.filter_cons_of_neg hz]
        by_cases hz2 : q y = true
        · rw [List.filter_cons_of_pos hz2, List.length_cons]; omega
        · rw [List.filter_cons_of_neg hz2]; exact ih
open Classical in
theorem red_path (hv : ValidO N es) : ∀ (m a b : Nat), betw es N a b < m → Path (Ed es) a b → Path (Ed (redE es N)) a b
  | 0, _, _, h, _ => absurd h (Nat.not_lt_zero _)
  | m + 1, a, b, hm, p => by
    by_cases h : ∃ c, Path (Ed es) a c ∧ Path (Ed es) c b
    · obtain ⟨c, p1, p2⟩ := h
      have hcN : c < N := by
        obtain ⟨d, e⟩ := p2.first
        exact (hv.2.2.1.ed _ _ e).1
      have l1 : betw es N a c < betw es N a b := filter_lt (List.range N) c (List.mem_range.2 hcN) (fun y hy => by
          have := of_decide_eq_true hy
          exact decide_eq_true ⟨this.1, this.2.trans p2⟩) (decide_eq_true ⟨p1, p2⟩) (decide_eq_false fun h => hv.2.2.2 c h.2)
      have l2 : betw es N c b < betw es N a b := filter_lt (List.range N) c (List.mem_range.2 hcN) (fun y hy => by
          have := of_decide_eq_true hy
          exact decide_eq_true ⟨p1.trans this.1, this.2⟩) (decide_eq_true ⟨p1, p2⟩) (decide_eq_false fun h => hv.2.2.2 c h.1)
      exact (red_path hv m a c (by omega) p1).trans (red_path hv m c b (by omega) p2)
    · exact .one ((redE_ed hv).2 ⟨p, h⟩)
theorem red_iff (hv : ValidO N es) (a b : Nat) : Path (Ed (redE es N)) a b ↔ Path (Ed es) a b := by
  constructor
  · intro p
    induction p with
    | one e => exact ((redE_ed hv).1 e).1
    | cons e _ ih => exact ((redE_ed hv).1 e).1.trans ih
  · exact red_path hv _ a b (Nat.lt_succ_self _)
theorem red_valid (hv : ValidO N es) : ValidO N (redE es N) := by
  have hN : N ≤ 60 := by have := hv.1.2; omega
  refine ⟨hv.1, ?_, ?_, fun a p => hv.2.2.2 a ((red_iff hv a a).1 p)⟩
  · have := redTo_length (es := es) (N := N) N
    have : N * N ≤ 60 * 60 := Nat.mul_le_mul hN hN
    unfold redE
    omega
  · intro e he
    obtain ⟨a, b, ha, hb, _, rfl⟩ := mem_redE.1 he
    simp only
    omega
open Classical in
theorem red_before (hv : ValidO N es) (x y : Int) : beforeB N (redE es N) x y = beforeB N es x y := by
  unfold beforeB
  rw [Bool.eq_iff_iff, decide_eq_true_iff, decide_eq_true_iff, red_iff hv]
  exact ⟨fun h => ⟨hv, h.2⟩, fun h => ⟨red_valid hv, h.2⟩⟩
open Classical in
/-- No edge of the reduction can be left out. -/
theorem red_least (hv : ValidO N es) {i : Nat} (hi : i < (redE es N).length) (n : Int) :
    beforeB n ((redE es N).take i ++ (redE es N).drop (i + 1)) (gp (redE es N) i).1 (gp (redE es N) i).2 = false := by
  unfold beforeB
  refine decide_eq_false fun h => ?_
  obtain ⟨u, v, hu, hv', hr, e⟩ := mem_redE.1 (gp_mem _ i hi)
  have p := h.2.2
  rw [e] at p
  simp only [Int.toNat_natCast] at p
  have sub : ∀ {a b : Nat}, Ed ((redE es N).take i ++ (redE es N).drop (i + 1)) a b → Path (Ed es) a b := fun {a b} h => by
    have : ((a : Int), (b : Int)) ∈ redE es N := by
      rcases List.mem_append.1 h with h | h
      · exact List.mem_of_mem_take h
      · exact List.mem_of_mem_drop h
    exact ((redE_ed hv).1 this).1
  have subp : ∀ {a b : Nat}, Path (Ed ((redE es N).take i ++ (redE es N).drop (i + 1))) a b → Path (Ed es) a b := fun p => by
    induction p with
    | one e => exact sub e
    | cons e _ ih => exact (sub e).trans ih
  cases p with
  | one h1 =>
    have hnd := redE_nodup (es := es) (N := N)
    have hsplit : redE es N = (redE es N).take i ++ gp (redE es N) i :: (redE es N).drop (i + 1) := by
      rw [gp_eq _ _ hi]
      conv => lhs; rw [← List.take_append_drop i (redE es N), List.drop_eq_getElem_cons hi]
    rw [hsplit] at hnd
    have h2 := List.nodup_append.1 hnd
    have h3 := List.nodup_cons.1 h2.2.1
    unfold Ed at h1
    rw [← e] at h1
    rcases List.mem_append.1 h1 with h | h
    · exact h2.2.2 _ h _ List.mem_cons_self rfl
    · exact h3.1 h
  | cons h1 p2 => exact hr.2 ⟨_, sub h1, subp p2⟩
end Go.Proofs.YtofnbndpoiohhaaDoor
