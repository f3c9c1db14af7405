/-
  WalLimit: the walk.
-/
import Derived.Test.YtpmhnmkpmkeadaaWalK
set_option linter.unusedSimpArgs false
set_option linter.unusedVariables false
set_option maxHeartbeats 4000000
namespace Go.Proofs.Ytpmhnmkpmkeadaa
open Go.RowKit

theorem walLimit_walk (n : Int) (w : World) (hw : (Lit.int .u16 n).wf = true) :
    Calls Try.prog 3 #[.int .u16 n] w fun e w' => e = .returned (.bool true) ∧ Below w.heap.size w w' := by
  have hn : 0 ≤ n ∧ n < 65536 := by
    have := bounds_u16 hw
    omega
  obtain ⟨N, rfl⟩ := Int.eq_ofNat_of_zero_le hn.1
  by_cases h21 : 2100 < N
  · have d21 : decide ((2100 : Int) < N) = true := decide_eq_true (by omega)
    go_enter Try.func3, Try.ntmps3
    go_wp2_with (go_at_call 10; refine (awake_any w).mono ?_; rintro e w1 ⟨rfl, hb1⟩)
    go_ret
    exact ⟨rfl, hb1⟩
  have d21 : decide ((2100 : Int) < N) = false := decide_eq_false (by omega)
  have hN : N ≤ 2100 := by omega
  have hZr : (ivs .u8 (List.replicate N 0)) = ivs .u8 (zerosL N) := rfl
  obtain ⟨Z, hZ⟩ : ∃ Z, zerosL N = Z := ⟨_, rfl⟩
  have hZb : Bytes Z := by rw [← hZ]; exact zerosL_bytes _
  have hZl : Z.length = N := by rw [← hZ]; exact zerosL_len _
  rw [hZ] at hZr
  have HZl := Lib.hid hZl
  clear hZl hZ
  go_enter Try.func3, Try.ntmps3
  go_wp2_with (fail)
  go_at_call 10
  refine (awake_any w).mono ?_
  rintro e w1 ⟨rfl, hb1⟩
  by_cases h20 : 2000 < N
  · have d20 : decide ((2000 : Int) < N) = true := decide_eq_true (by omega)
    go_wp2_with (first | (refine make_ints elU8 rfl _ _ rfl (B := w1.heap.size) (n := N) rfl rfl rfl rfl (by omega) (Nat.le_refl _) ?_; rw [hZr]; intro w2 hz2 hb2 hs2) | (go_at_call 11; refine (append_long none 0 0 0 _ N N _ h20).mono ?_; rintro e w3 ⟨rfl, hb3⟩; have hbx := (Box2.new w3 (.slice none 0 0) (.int .i64 0) 26).cells.1; have hb13 := hb1.trans (hb2.mono hb1.size); have hb14 := (hb13.trans (hb3.mono hb13.size)).alloc (hb13.trans (hb3.mono hb13.size)).size (.cells #[.slice none 0 0, .int .i64 0] 26)))
    go_ret
    exact ⟨rfl, hb14⟩
  · have d20 : decide ((2000 : Int) < N) = false := decide_eq_false (by omega)
    have hok : OkR [Z] := fun r hr => by
      simp only [List.mem_cons, List.not_mem_nil, or_false] at hr
      subst hr
      exact ⟨hZb, by rw [HZl.out]; omega⟩
    have hrd := read_all hok (b := encP basis (partsL Z)) (by rw [allP_one])
    rw [allP_one, partsL_length, HZl.out] at hrd
    obtain ⟨C, hC⟩ : ∃ C, cellsN N = C := ⟨_, rfl⟩
    rw [hC] at hrd
    have hCb : C ≤ 200 := by rw [← hC]; unfold cellsN; split <;> omega
    obtain ⟨zs, hzs⟩ : ∃ zs, encP basis (partsL Z) = zs := ⟨_, rfl⟩
    have hzb : Bytes zs := by rw [← hzs]; exact encP_bytes basis_bd.1 basis_bd.2 (partsL_ok hZb)
    rw [hzs] at hrd
    have hall := stP_all [Z]
    rw [allP_one, partsL_length, HZl.out, hC] at hall
    rw [← hrd.2] at hall
    have HRD := Lib.hid hrd.1
    have HAL := Lib.hid hall
    clear hrd hall
    go_wp2_with (first | (refine make_ints elU8 rfl _ _ rfl (B := w1.heap.size) (n := N) rfl rfl rfl rfl (by omega) (Nat.le_refl _) ?_; rw [hZr]; intro w2 hz2 hb2 hs2) | (go_at_call 11; refine (append_any none 0 0 0 [] _ N N Z _ (.inl ⟨rfl, rfl, rfl, rfl⟩) (fun x hx => by cases hx) (IsInts.of_owns hz2).1 hZb (by omega) (by decide)).mono ?_; rintro e w3 ⟨⟨a3, n3, c3, rfl, ho3, hn3⟩, hb3⟩; rw [List.nil_append, hzs] at ho3; rw [hC, Nat.zero_add] at hn3; subst hn3) | fail)
    have hb02 : Below w.heap.size w w2 := hb1.trans (hb2.mono hb1.size)
    have hb03 : Below w.heap.size w w3 := hb02.trans (hb3.mono hb02.size)
    obtain ⟨w4, hw4⟩ : ∃ w4, w3.alloc (.cells #[.slice a3 (32 * C) c3, .int .i64 0] 26) = w4 := ⟨_, rfl⟩
    have hb34 : Below w3.heap.size w3 w4 := by rw [← hw4]; exact (Below.refl _ _).alloc (Nat.le_refl _) _
    have hbx : Box2 w4 w3.heap.size (.slice a3 (32 * C) c3) (.int .i64 0) := by rw [← hw4]; exact Box2.new _ _ _ _
    have hI4 := (IsInts.of_owns ho3).1.later hb34
    rw [hw4]
    refine (Read_any _ _ _ _ _ hI4 hzb (by omega)).mono ?_
    rintro e w5 ⟨k, e', rv, ev, rfl, hR, hS, hb5⟩
    obtain ⟨rfl, rfl⟩ := hR.uniq HRD.out
    obtain ⟨ar, cr, hrv, hrec⟩ := hS.recs
    subst hrv
    rw [HAL.out.1] at hrec ⊢
    rw [HAL.out.2.2]
    obtain ⟨b9, off9, ai9, ci9, har, hbl9, hcell9, -⟩ := hrec.at w5 (Below.refl _ _) 0 (Nat.succ_pos 0)
    subst har
    rw [show (gl [Z] 0).length = N from HZl.out, Nat.add_zero] at hcell9
    have hcb := (hbx.later hb5).cells.1
    have hb05 := (hb03.trans (hb34.mono hb03.size)).trans (hb5.mono (hb03.trans (hb34.mono hb03.size)).size)
    have hcl : (32 * (k : Int) == 32 * (k : Int)) = true := by simp
    clear hR hS hrec hw4 ho3 hI4
    go_wp2_with (first | (refine make_ints elU8 rfl _ _ rfl (B := w5.heap.size) (n := N) rfl rfl rfl rfl (by omega) (Nat.le_refl _) ?_; intro w6 hz6 hb6 hs6; clear hz6) | (go_at_call 13; refine (Cells_any _ _ _ _ (by omega)).mono ?_; rintro e w9 ⟨rfl, rfl⟩; rw [hC]) | fail)
    go_ret
    exact ⟨rfl, hb05.trans (hb6.mono hb05.size)⟩
end Go.Proofs.Ytpmhnmkpmkeadaa
