/-
  OrderFree: the walk.
-/
import Derived.Test.YtofnbndpoiohhaaDoorOrdK
import Derived.OpenShut
set_option linter.unusedSimpArgs false
set_option linter.unusedVariables false
set_option maxHeartbeats 8000000
namespace Go.Proofs.YtofnbndpoiohhaaDoor
open Go.RowKit Go.Shelf Go.ChangeShapes
attribute [local go_sem] Oper.semAt_some

def fct : Nat → Nat
  | 0 => 1
  | n + 1 => fct n * (n + 1)

theorem sum_if {α : Type} (c : Nat) (P : α → Prop) [DecidablePred P] : ∀ l : List α, (l.map fun i => if P i then c else 0).sum = c * (l.filter fun i => decide (P i)).length
  | [] => rfl
  | x :: l => by
    rw [List.map_cons, List.sum_cons, sum_if c P l, List.filter_cons]
    by_cases h : P x
    · simp [h, Nat.mul_add, Nat.add_comm]
    · simp [h]
theorem filter_two {α : Type} (P : α → Prop) [DecidablePred P] : ∀ l : List α, (l.filter fun i => decide (¬ P i)).length + (l.filter fun i => decide (P i)).length = l.length
  | [] => rfl
  | x :: l => by
    have ih := filter_two P l
    rw [List.filter_cons, List.filter_cons]
    by_cases h : P x
    · simp [h] at ih ⊢; omega
    · simp [h] at ih ⊢; omega
theorem mem_count {p : List Int} {N : Nat} (hn : p.Nodup) (hin : ∀ x ∈ p, 0 ≤ x ∧ x < N) : ((List.range N).filter fun i : Nat => decide ((i : Int) ∈ p)).length = p.length := by
  have hm : (p.map Int.toNat).Nodup := by
    rw [List.nodup_iff_pairwise_ne, List.pairwise_map]
    refine List.Pairwise.imp_of_mem ?_ (List.nodup_iff_pairwise_ne.1 hn)
    intro a b ha hb hab h
    have := hin a ha
    have := hin b hb
    omega
  have h1 := nodup_sub_length ((List.range N).filter fun i : Nat => decide ((i : Int) ∈ p)) (p.map Int.toNat) (List.Pairwise.filter _ List.nodup_range) (fun x hx => by
    have := (List.mem_filter.1 hx).2
    rw [decide_eq_true_iff] at this
    exact List.mem_map.2 ⟨_, this, Int.toNat_natCast x⟩)
  have h2 := nodup_sub_length (p.map Int.toNat) ((List.range N).filter fun i : Nat => decide ((i : Int) ∈ p)) hm (fun x hx => by
    obtain ⟨y, hy, rfl⟩ := List.mem_map.1 hx
    have := hin y hy
    refine List.mem_filter.2 ⟨List.mem_range.2 (by omega), decide_eq_true ?_⟩
    rw [Int.toNat_of_nonneg this.1]
    exact hy)
  rw [List.length_map] at h1 h2
  omega
theorem no_path {a b : Nat} : ¬ Path (Ed []) a b := fun p => by
  obtain ⟨c, e⟩ := p.first
  cases e
theorem free_rdy {p : List Int} {i : Nat} : Rdy2 [] p i ↔ (i : Int) ∉ p := ⟨fun h => h.1, fun h => ⟨h, fun a q => absurd q no_path⟩⟩
open Classical in
theorem cnt_free (N : Nat) : ∀ (left : Nat) (p : List Int), p.Nodup → (∀ x ∈ p, 0 ≤ x ∧ x < N) → p.length + left = N → cntE [] N left p = fct left
  | 0, p, _, _, _ => rfl
  | left + 1, p, hn, hin, hl => by
    have e : ((List.range N).map fun i => if Rdy2 [] p i then cntE [] N left (p ++ [(i : Int)]) else 0) = (List.range N).map fun i : Nat => if ¬ (i : Int) ∈ p then fct left else 0 := by
      refine List.map_congr_left fun i hi => ?_
      by_cases h : (i : Int) ∈ p
      · rw [if_neg (fun h' => (free_rdy.1 h') h), if_neg (fun h' => h' h)]
      · rw [if_pos (free_rdy.2 h), if_pos h]
        refine cnt_free N left _ ?_ ?_ ?_
        · exact List.nodup_append.2 ⟨hn, List.pairwise_singleton _ _, fun a ha b hb e => h (by rw [← List.mem_singleton.1 hb, ← e]; exact ha)⟩
        · intro x hx
          rcases List.mem_append.1 hx with hx | hx
          · exact hin x hx
          · rw [List.mem_singleton.1 hx]
            have := List.mem_range.1 hi
            omega
        · rw [List.length_append]; simp; omega
    show ((List.range N).map fun i => if Rdy2 [] p i then cntE [] N left (p ++ [(i : Int)]) else 0).sum = _
    rw [e]
    have h1 := sum_if (fct left) (fun i : Nat => ¬ (i : Int) ∈ p) (List.range N)
    have h2 := filter_two (fun i : Nat => (i : Int) ∈ p) (List.range N)
    have h3 := mem_count hn hin
    have h4 : ((List.range N).filter fun i : Nat => decide (¬ (i : Int) ∈ p)).length = left + 1 := by
      rw [List.length_range] at h2
      have h2' : ((List.range N).filter fun i : Nat => decide (¬ (i : Int) ∈ p)).length + ((List.range N).filter fun i : Nat => decide ((i : Int) ∈ p)).length = N := h2
      omega
    rw [h4] at h1
    exact h1
theorem free_valid (k : Nat) (h : k ≤ 6) : ValidO k [] := ⟨by omega, by decide, (fun e he => by cases he), fun a => no_path⟩
theorem free_cnt {k : Nat} (h : k ≤ 6) : min 1000 (cntE [] k k []) = fct k := by
  rw [cnt_free k k [] List.nodup_nil (fun x hx => by cases hx) (by simp)]
  have : fct k ≤ 1000 := by
    have : k = 0 ∨ k = 1 ∨ k = 2 ∨ k = 3 ∨ k = 4 ∨ k = 5 ∨ k = 6 := by omega
    rcases this with rfl | rfl | rfl | rfl | rfl | rfl | rfl <;> decide
  omega

theorem orderFree_walk (nn : Int) (w : World) (hn : (Lit.int .u8 nn).wf = true) (hT : TabAt 0 Lib.deBruijn64tab w) :
    Calls Tryd.prog 7 #[.int .u8 nn] w fun e w' => e = .returned (.bool true) ∧ Below w.heap.size w w' := by
  have hS0 := bounds_u8 hn
  clear hn
  obtain ⟨S, rfl⟩ := Int.eq_ofNat_of_zero_le hS0.1
  have hS1 : S < 256 := by omega
  obtain ⟨K, hK⟩ : ∃ K, S % 7 = K := ⟨_, rfl⟩
  have hK6 : K ≤ 6 := by omega
  have hKe : (S : Int) % 7 = (K : Int) := by omega
  have HK := Lib.hid hK
  clear hK hS0
  go_enter Tryd.func7, Tryd.ntmps7
  go_wp2_with (fail)
  go_at_call 11
  refine (awake_any _ hT).mono ?_
  rintro e w1 ⟨rfl, hb1⟩
  have hT1 := tab_later hT hb1
  go_wp2_with (fail)
  go_loop [4, 14] (fun v c => ∃ j : Nat, j ≤ K ∧ c = .int .i64 (j : Int) ∧ v = .int .i64 ((fct j : Nat) : Int)) (fun _ c => K - (intOf c).toNat)
  case atStart => exact ⟨0, Nat.zero_le _, rfl, rfl⟩
  case round =>
    obtain ⟨j, hj, rfl, rfl⟩ := hrel
    by_cases hlt : j < K
    · have dlt : decide ((j : Int) < K) = true := decide_eq_true (by omega)
      have hj6 : j = 0 ∨ j = 1 ∨ j = 2 ∨ j = 3 ∨ j = 4 ∨ j = 5 := by omega
      have hfin : ((fct j : Nat) : Int) * ((j : Int) + 1) = ((fct (j + 1) : Nat) : Int) := by
        show _ = ((fct j * (j + 1) : Nat) : Int)
        rw [Int.natCast_mul]
        rfl
      have hbd : (fct j : Nat) ≤ 120 := by
        rcases hj6 with rfl | rfl | rfl | rfl | rfl | rfl <;> decide
      have hbd2 : fct (j + 1) ≤ 720 := by
        rcases hj6 with rfl | rfl | rfl | rfl | rfl | rfl <;> decide
      have hw : IntKind.i64.wrap (((fct j : Nat) : Int) * ((j : Int) + 1)) = ((fct (j + 1) : Nat) : Int) := by
        rcases hj6 with rfl | rfl | rfl | rfl | rfl | rfl <;> decide
      go_wp2
      go_round
      case rel => exact ⟨j + 1, hlt, by go_num, by first | rfl | trivial | go_num⟩
      case measure => simp [intOf]; omega
    · obtain rfl : j = K := by omega
      have dlt : decide ((j : Int) < j) = false := decide_eq_false (by omega)
      have hval := free_valid j hK6
      go_wp2_with (fail)
      go_at_call 26
      refine (extensions_any 1000 (n := j) (es := []) (.inl ⟨rfl, rfl, rfl, rfl⟩) hT1).mono ?_
      rintro e w2 ⟨⟨v, c, rfl, hvc⟩, hb2⟩
      have hv3 : v = ((fct j : Nat) : Int) ∧ c = 0 := by
        rcases hvc with ⟨h, _⟩ | ⟨_, h, _⟩ | ⟨_, _, _, h, h'⟩
        · exact absurd hval h
        · omega
        · refine ⟨?_, h'⟩
          rw [h, Int.toNat_natCast, show (1000 : Int).toNat = 1000 from rfl, free_cnt hK6]
      obtain ⟨rfl, rfl⟩ := hv3
      clear hvc hval
      go_wp2
      go_ret
      exact ⟨rfl, hb1.trans (hb2.mono hb1.size)⟩
end Go.Proofs.YtofnbndpoiohhaaDoor
