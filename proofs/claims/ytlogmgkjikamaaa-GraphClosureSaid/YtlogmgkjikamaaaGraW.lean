/-
  slices.Equal on rows; Equal.
-/
import Derived.Test.YtlogmgkjikamaaaGraC
import Derived.Test.YtlogmgkjikamaaaGraQ
import Derived.Test.YtlogmgkjikamaaaGraCr
import Derived.Test.YtlogmgkjikamaaaShelf
set_option linter.unusedSimpArgs false
set_option linter.unusedVariables false
set_option maxHeartbeats 4000000
namespace Go.Proofs.Ytlogmgkjikamaaa
open Go.RowKit
attribute [local go_sem] Oper.semAt_some

theorem equal_row {w : World} {a1 a2 : Option Addr} {n c m d : Nat} {xs ys : List Int} (h1 : IsRow .i64 w a1 n c xs) (h2 : IsRow .i64 w a2 m d ys) :
    Calls Try.prog 47 #[.slice a1 n c, .slice a2 m d] w fun e w' => e = .returned (.bool (decide (xs = ys))) ∧ Below w.heap.size w w' := by
  have hx := h1.length
  have hy := h2.length
  have hc1 := h1.cap
  have hc2 := h2.cap
  unfold maxLen at hc1 hc2
  by_cases hn : n = 0
  · subst hn
    have e1 : xs = [] := List.eq_nil_of_length_eq_zero hx
    subst e1
    refine (Try.slices_Equal_int_empty a1 a2 c m d w (by omega)).mono ?_
    rintro e w' ⟨rfl, rfl⟩
    refine ⟨?_, Below.refl _ _⟩
    rw [← hy]
    cases ys <;> simp
  · by_cases hnm : n = m
    · subst hnm
      obtain ⟨b1, o1, rfl, hk1⟩ := h1.at w (Below.refl _ _) 0 (by omega)
      obtain ⟨b2, o2, rfl, hk2⟩ := h2.at w (Below.refl _ _) 0 (by omega)
      refine (Try.slices_Equal_int b1 o1 n c b2 o2 n d xs ys w (by omega) (by omega) (by omega) (by omega) (fun j hj => h1.get j (by omega)) (fun j hj => h2.get j (by omega))).mono ?_
      rintro e w' ⟨rfl, q, rfl⟩
      refine ⟨?_, below_drewN _ _⟩
      rw [List.take_of_length_le (by omega), List.take_of_length_le (by omega)]
      by_cases e : xs = ys <;> simp [e]
    · refine (Try.slices_Equal_int_lens a1 a2 n c m d w hnm).mono ?_
      rintro e w' ⟨rfl, rfl⟩
      refine ⟨?_, Below.refl _ _⟩
      rw [decide_eq_false (fun e => hnm (by rw [← hx, ← hy, e]))]

variable {a a' : Option Addr} {len cap len' cap' : Nat} {g g' : List (List Int)} {w : World}
set_option maxRecDepth 20000 in
theorem equalFunc_any (hg : IsRows w a len cap g) (hg' : IsRows w a' len' cap' g') :
    Calls Try.prog 46 #[.slice a len cap, .slice a' len' cap', .func (Fn.func 47) #[] #[]] w fun e w' => e = .returned (.bool (decide (g = g'))) ∧ Below w.heap.size w w' := by
  have HL := Lib.hid hg.length
  have HL' := Lib.hid hg'.length
  have hcap := hg.cap
  have hcap' := hg'.cap
  unfold maxLen at hcap hcap'
  by_cases hll : len = len'
  · subst hll
    have HQ := Lib.hid (fun (x y : List Int) (a1 a2 : Option Addr) (n c m d : Nat) (W : World) (h1 : IsRow .i64 W a1 n c x) (h2 : IsRow .i64 W a2 m d y) => equal_row h1 h2)
    go_enter Try.func46, Try.ntmps46
    go_wp2_with (fail)
    go_loopw [17] (fun c W => ∃ (i : Nat), i ≤ len ∧ c = .int .i64 (i : Int) ∧ Hid (∀ k, k < i → gr g k = gr g' k) ∧ Below w.heap.size w W) (fun c _ => len - (intOf c).toNat)
    case atStart => exact ⟨0, Nat.zero_le _, rfl, Lib.hid (fun k hk => by omega), Below.refl _ _⟩
    case round =>
      obtain ⟨i, hi, rfl, HE, hB⟩ := hrel
      rcases Nat.lt_or_ge i len with hlt | hge
      · have t1 : decide ((i : Int) < len) = true := decide_eq_true (by omega)
        obtain ⟨b, off, au, lu, cu, rfl, hcell, hrow⟩ := hg.fix i hlt
        obtain ⟨b', off', au', lu', cu', rfl, hcell', hrow'⟩ := hg'.fix i hlt
        have hc1 := hcell wr hB
        have hc2 := hcell' wr hB
        have hq := HQ.out _ _ _ _ _ _ _ _ wr (hrow.later hB) (hrow'.later hB)
        clear hcell hcell'
        by_cases e : gr g i = gr g' i
        · have HE2 : Hid (∀ k, k < i + 1 → gr g k = gr g' k) := Lib.hid (fun k hk => by
            by_cases h : k = i
            · rw [h]; exact e
            · exact HE.out k (by omega))
          rw [decide_eq_true e] at hq
          clear e
          go_wp2_with (fail)
          go_at_call 47
          refine hq.mono ?_
          rintro e w2 ⟨rfl, hb2⟩
          go_wp2_with (fail)
          go_roundw
          case rel => exact ⟨i + 1, hlt, by go_num, HE2, hB.trans (hb2.mono hB.size)⟩
          case measure => simp [intOf]; omega
        · have HNE : Hid (g ≠ g') := Lib.hid (fun h => e (by rw [h]))
          rw [decide_eq_false e] at hq
          clear e
          go_wp2_with (fail)
          go_at_call 47
          refine hq.mono ?_
          rintro e w2 ⟨rfl, hb2⟩
          go_wp2
          go_ret
          exact ⟨by rw [decide_eq_false HNE.out]; rfl, hB.trans (hb2.mono hB.size)⟩
      · obtain rfl : i = len := by omega
        have t1 : decide ((i : Int) < i) = false := decide_eq_false (by omega)
        have HG : Hid (g = g') := Lib.hid (rows_ext (by rw [HL.out, HL'.out]) (fun k hk => HE.out k (by rw [← HL.out]; exact hk)))
        go_wp2
        go_ret
        exact ⟨by rw [decide_eq_true HG.out]; rfl, hB⟩
  · have HNE : Hid (g ≠ g') := Lib.hid (fun h => hll (by rw [← HL.out, ← HL'.out, h]))
    have hbn : ((len : Int) != len') = true := by simp; omega
    go_enter Try.func46, Try.ntmps46
    go_wp2
    go_ret
    exact ⟨by rw [decide_eq_false HNE.out]; rfl, Below.refl _ _⟩

set_option maxRecDepth 20000 in
theorem equal_any (hg : IsRows w a len cap g) (hg' : IsRows w a' len' cap' g') :
    Calls Try.prog 31 #[.slice a len cap, .slice a' len' cap'] w fun e w' => e = .returned (.bool (decide (g = g'))) ∧ Below w.heap.size w w' := by
  go_enter Try.func31, Try.ntmps31
  have hq := equalFunc_any hg hg'
  go_wp2_with (fail)
  go_at_call 46
  refine hq.mono ?_
  rintro e w2 ⟨rfl, hb2⟩
  go_wp2
  go_ret
  exact ⟨rfl, hb2⟩
end Go.Proofs.Ytlogmgkjikamaaa
