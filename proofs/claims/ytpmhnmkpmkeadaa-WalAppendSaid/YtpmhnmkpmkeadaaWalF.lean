/-
  The walks of the reference's Few and SameAll.
-/
import Derived.Test.YtpmhnmkpmkeadaaWalE
set_option linter.unusedSimpArgs false
set_option linter.unusedVariables false
set_option maxHeartbeats 4000000
namespace Go.Proofs.Ytpmhnmkpmkeadaa
open Go.RowKit

/-- At most 12 records of at most 100 bytes. -/
def fewL (rs : List (List Int)) : Bool := rs.all (fun r => decide (r.length ≤ 100)) && decide (rs.length ≤ 12)
theorem Few_any (a : Option Addr) (len cap : Nat) (rs : List (List Int)) (w : World) (hs : IsRecs w a len cap rs) :
    Calls Try.prog 14 #[.slice a len cap] w fun e w' => e = .returned (.bool (fewL rs)) ∧ w = w' := by
  have hcap := hs.cap
  unfold maxLen at hcap
  have HL := Lib.hid hs.1
  go_enter Try.func14, Try.ntmps14
  go_wp2
  go_loop [3] (fun i => ∃ k : Nat, k ≤ len ∧ i = .int .i64 k ∧ ∀ j, j < k → (gl rs j).length ≤ 100) (fun i => len - (intOf i).toNat)
  case atStart => exact ⟨0, Nat.zero_le _, rfl, fun j hj => absurd hj (by omega)⟩
  case round =>
    obtain ⟨k, hk, rfl, hz⟩ := hrel
    have HZ := Lib.hid hz
    clear hz
    by_cases hlt : k < len
    · have dlt : decide ((k : Int) < len) = true := decide_eq_true (by omega)
      obtain ⟨b, off, ai, ci, rfl, -, hcell, hrow⟩ := hs.at w (Below.refl _ _) k hlt
      obtain ⟨n, hn⟩ : ∃ n, (gl rs k).length = n := ⟨_, rfl⟩
      rw [hn] at hcell
      have Hn := Lib.hid hn
      clear hn hrow
      by_cases h0 : 100 < n
      · have d0 : decide ((100 : Int) < n) = true := decide_eq_true (by omega)
        go_wp2
        go_ret
        refine ⟨congrArg (fun b => Ending.returned (.bool b)) ?_, rfl⟩
        symm
        unfold fewL
        rw [Bool.and_eq_false_iff]
        left
        rw [Bool.eq_false_iff]
        intro h
        rw [List.all_eq_true] at h
        have := of_decide_eq_true (h _ (gl_mem rs k (by rw [HL.out]; exact hlt)))
        rw [Hn.out] at this
        omega
      · have d0 : decide ((100 : Int) < n) = false := decide_eq_false (by omega)
        go_wp2
        go_round
        case rel => exact ⟨k + 1, by omega, by go_num, fun j hj => by rcases Nat.lt_succ_iff_lt_or_eq.1 hj with h | rfl; exact HZ.out j h; rw [Hn.out]; omega⟩
        case measure => simp [intOf]; omega
    · have dlt : decide ((k : Int) < len) = false := decide_eq_false (by omega)
      go_wp2
      go_ret
      refine ⟨congrArg (fun b => Ending.returned (.bool b)) ?_, rfl⟩
      symm
      unfold fewL
      have : rs.all (fun r => decide (r.length ≤ 100)) = true := by
        rw [List.all_eq_true]
        intro r hr
        obtain ⟨i, hi, rfl⟩ := List.mem_iff_getElem.1 hr
        have := HZ.out i (by rw [HL.out] at hi; omega)
        rw [gl_eq rs i hi] at this
        exact decide_eq_true this
      rw [this, HL.out, Bool.true_and]
      exact decide_eq_decide.2 (by omega)

theorem SameAll_any (a : Option Addr) (len cap : Nat) (rs : List (List Int)) (a' : Option Addr) (len' cap' : Nat) (ts : List (List Int)) (w : World) (hs : IsRecs w a len cap rs) (hs' : IsRecs w a' len' cap' ts) (hb : ∀ r ∈ rs, Bytes r) (hb' : ∀ r ∈ ts, Bytes r) :
    Calls Try.prog 15 #[.slice a len cap, .slice a' len' cap'] w fun e w' => e = .returned (.bool (decide (rs = ts))) ∧ Below w.heap.size w w' := by
  have hcap := hs.cap
  unfold maxLen at hcap
  have HL := Lib.hid hs.1
  have HL' := Lib.hid hs'.1
  by_cases hll : len = len'
  · subst hll
    have dl : ((len : Int) != (len : Int)) = false := by simp
    go_enter Try.func15, Try.ntmps15
    go_wp2
    go_loopw [5] (fun i W => ∃ k : Nat, k ≤ len ∧ i = .int .i64 k ∧ (∀ j, j < k → gl rs j = gl ts j) ∧ Below w.heap.size w W) (fun i _ => len - (intOf i).toNat)
    case atStart => exact ⟨0, Nat.zero_le _, rfl, (fun j hj => absurd hj (by omega)), Below.refl _ _⟩
    case round =>
      obtain ⟨k, hk, rfl, hz, hbw⟩ := hrel
      have HZ := Lib.hid hz
      clear hz
      by_cases hlt : k < len
      · have dlt : decide ((k : Int) < len) = true := decide_eq_true (by omega)
        obtain ⟨b, off, ai, ci, rfl, hbl, hcell, hrow⟩ := hs.at wr hbw k hlt
        obtain ⟨b', off', ai', ci', rfl, hbl', hcell', hrow'⟩ := hs'.at wr hbw k hlt
        have hz := hbw.size
        have h3 := bsOf_eq (hb _ (gl_mem rs k (by rw [HL.out]; exact hlt))) (hb' _ (gl_mem ts k (by rw [HL'.out]; exact hlt)))
        obtain ⟨n, hn⟩ : ∃ n, (gl rs k).length = n := ⟨_, rfl⟩
        obtain ⟨m, hm⟩ : ∃ m, (gl ts k).length = m := ⟨_, rfl⟩
        rw [hn] at hcell hrow
        rw [hm] at hcell' hrow'
        clear hn hm hs hs'
        go_wp2
        refine wp_region_grow mixed (by kernel_rfl) [[], [], [(0, 17), (1, 18)], [(2, 19)], [(3, 20)], [], [], [(5, 22), (6, 23)], [(7, 24)], [(8, 25)], [(4, 21), (9, 26)]] [(0, 17), (1, 18), (2, 19), (3, 20), (4, 21), (5, 22), (6, 23), (7, 24), (8, 25), (9, 26), (10, 27)] rfl rfl [Ex ?e0, Ex ?e1, Ex ?e2, Ex ?e3, Ex ?e4, Ex ?e5, Ex ?e6, Ex ?e7, Ex ?e8, Ex ?e9, Ex ?e10] ⟨stays_ex _, stays_ex _, stays_ex _, stays_ex _, stays_ex _, stays_ex _, stays_ex _, stays_ex _, stays_ex _, stays_ex _, stays_ex _, trivial⟩ ?steps ?rest
        case steps =>
          refine ⟨fun f W hC hh => ?_, fun f W hC hh => ?_, fun f W hC hh => ?_, fun f W hC hh => ?_, fun f W hC hh => ?_, fun f W hC hh => ?_, fun f W hC hh => ?_, fun f W hC hh => ?_, fun f W hC hh => ?_, fun f W hC hh => ?_, fun f W hC hh => ?_, trivial⟩
          · -- 0: Op.move (Operand.tmp 0)
            refine tab_plain fun K Q hK => ?_
            simp only [puts, List.foldr_nil]
            go_step
            refine fam_ex hK rfl rfl (by simp only [Act.put, List.setIfInBounds_toArray, List.set_cons_succ, List.set_cons_zero, Array.getD_eq_getD_getElem?, List.getElem?_toArray, List.getElem?_cons_succ, List.getElem?_cons_zero, Option.getD_some] <;> rfl) rfl (Below.refl _ _) hC
          · -- 1: Op.move (Operand.tmp 5)
            refine tab_plain fun K Q hK => ?_
            simp only [puts, List.foldr_nil]
            go_step
            refine fam_ex hK rfl rfl (by simp only [Act.put, List.setIfInBounds_toArray, List.set_cons_succ, List.set_cons_zero, Array.getD_eq_getD_getElem?, List.getElem?_toArray, List.getElem?_cons_succ, List.getElem?_cons_zero, Option.getD_some] <;> rfl) rfl (Below.refl _ _) hC
          · -- 2: Op.indexAddr 30 (Operand.tmp 17) (Operand.tmp 18)
            obtain ⟨h0, h1, -⟩ := hh
            have g0 : f 0 = _ := h0
            have g1 : f 1 = _ := h1
            refine tab_plain fun K Q hK => ?_
            simp only [puts, List.foldr_cons, List.foldr_nil, List.setIfInBounds_toArray, List.set_cons_succ, List.set_cons_zero, g0, g1]
            go_step
            refine fam_ex hK rfl rfl (by simp only [Act.put, List.setIfInBounds_toArray, List.set_cons_succ, List.set_cons_zero, Array.getD_eq_getD_getElem?, List.getElem?_toArray, List.getElem?_cons_succ, List.getElem?_cons_zero, Option.getD_some] <;> rfl) rfl (Below.refl _ _) hC
          · -- 3: Op.load 24 (Operand.tmp 19)
            obtain ⟨h2, -⟩ := hh
            have g2 : f 2 = _ := h2
            refine tab_plain fun K Q hK => ?_
            simp only [puts, List.foldr_cons, List.foldr_nil, List.setIfInBounds_toArray, List.set_cons_succ, List.set_cons_zero, g2]
            have hc3 := (hC.cell (p := ⟨b, off + k, none⟩) (show b < _ by omega)).trans hcell
            go_step
            refine fam_ex hK rfl rfl (by simp only [Act.put, List.setIfInBounds_toArray, List.set_cons_succ, List.set_cons_zero, Array.getD_eq_getD_getElem?, List.getElem?_toArray, List.getElem?_cons_succ, List.getElem?_cons_zero, Option.getD_some] <;> rfl) rfl (Below.refl _ _) hC
          · -- 4: Op.convert 24 9 (Operand.tmp 20)
            obtain ⟨h3, -⟩ := hh
            have g3 : f 3 = _ := h3
            refine tab_plain fun K Q hK => ?_
            simp only [puts, List.foldr_cons, List.foldr_nil, List.setIfInBounds_toArray, List.set_cons_succ, List.set_cons_zero, g3]
            have h1 := row_toString W 24 9 5 Try.underlying24 Try.underlying5 Try.underlying9 ai n ci (gl rs k) (hrow.later hC)
            go_step
            refine fam_ex hK rfl rfl (by simp only [Act.put, List.setIfInBounds_toArray, List.set_cons_succ, List.set_cons_zero, Array.getD_eq_getD_getElem?, List.getElem?_toArray, List.getElem?_cons_succ, List.getElem?_cons_zero, Option.getD_some] <;> rfl) rfl (Below.refl _ _) hC
          · -- 5: Op.move (Operand.tmp 1)
            refine tab_plain fun K Q hK => ?_
            simp only [puts, List.foldr_nil]
            go_step
            refine fam_ex hK rfl rfl (by simp only [Act.put, List.setIfInBounds_toArray, List.set_cons_succ, List.set_cons_zero, Array.getD_eq_getD_getElem?, List.getElem?_toArray, List.getElem?_cons_succ, List.getElem?_cons_zero, Option.getD_some] <;> rfl) rfl (Below.refl _ _) hC
          · -- 6: Op.move (Operand.tmp 5)
            refine tab_plain fun K Q hK => ?_
            simp only [puts, List.foldr_nil]
            go_step
            refine fam_ex hK rfl rfl (by simp only [Act.put, List.setIfInBounds_toArray, List.set_cons_succ, List.set_cons_zero, Array.getD_eq_getD_getElem?, List.getElem?_toArray, List.getElem?_cons_succ, List.getElem?_cons_zero, Option.getD_some] <;> rfl) rfl (Below.refl _ _) hC
          · -- 7: Op.indexAddr 30 (Operand.tmp 22) (Operand.tmp 23)
            obtain ⟨h5, h6, -⟩ := hh
            have g5 : f 5 = _ := h5
            have g6 : f 6 = _ := h6
            refine tab_plain fun K Q hK => ?_
            simp only [puts, List.foldr_cons, List.foldr_nil, List.setIfInBounds_toArray, List.set_cons_succ, List.set_cons_zero, g5, g6]
            go_step
            refine fam_ex hK rfl rfl (by simp only [Act.put, List.setIfInBounds_toArray, List.set_cons_succ, List.set_cons_zero, Array.getD_eq_getD_getElem?, List.getElem?_toArray, List.getElem?_cons_succ, List.getElem?_cons_zero, Option.getD_some] <;> rfl) rfl (Below.refl _ _) hC
          · -- 8: Op.load 24 (Operand.tmp 24)
            obtain ⟨h7, -⟩ := hh
            have g7 : f 7 = _ := h7
            refine tab_plain fun K Q hK => ?_
            simp only [puts, List.foldr_cons, List.foldr_nil, List.setIfInBounds_toArray, List.set_cons_succ, List.set_cons_zero, g7]
            have hc3 := (hC.cell (p := ⟨b', off' + k, none⟩) (show b' < _ by omega)).trans hcell'
            go_step
            refine fam_ex hK rfl rfl (by simp only [Act.put, List.setIfInBounds_toArray, List.set_cons_succ, List.set_cons_zero, Array.getD_eq_getD_getElem?, List.getElem?_toArray, List.getElem?_cons_succ, List.getElem?_cons_zero, Option.getD_some] <;> rfl) rfl (Below.refl _ _) hC
          · -- 9: Op.convert 24 9 (Operand.tmp 25)
            obtain ⟨h8, -⟩ := hh
            have g8 : f 8 = _ := h8
            refine tab_plain fun K Q hK => ?_
            simp only [puts, List.foldr_cons, List.foldr_nil, List.setIfInBounds_toArray, List.set_cons_succ, List.set_cons_zero, g8]
            have h1 := row_toString W 24 9 5 Try.underlying24 Try.underlying5 Try.underlying9 ai' m ci' (gl ts k) (hrow'.later hC)
            go_step
            refine fam_ex hK rfl rfl (by simp only [Act.put, List.setIfInBounds_toArray, List.set_cons_succ, List.set_cons_zero, Array.getD_eq_getD_getElem?, List.getElem?_toArray, List.getElem?_cons_succ, List.getElem?_cons_zero, Option.getD_some] <;> rfl) rfl (Below.refl _ _) hC
          · -- 10: Op.binOp BinOp.neq 9 (Operand.tmp 21) (Operand.tmp 26) 9
            obtain ⟨h4, h9, -⟩ := hh
            have g4 : f 4 = _ := h4
            have g9 : f 9 = _ := h9
            refine tab_plain fun K Q hK => ?_
            simp only [puts, List.foldr_cons, List.foldr_nil, List.setIfInBounds_toArray, List.set_cons_succ, List.set_cons_zero, g4, g9]
            go_step
            refine fam_ex hK rfl rfl (by simp only [Act.put, List.setIfInBounds_toArray, List.set_cons_succ, List.set_cons_zero, Array.getD_eq_getD_getElem?, List.getElem?_toArray, List.getElem?_cons_succ, List.getElem?_cons_zero, Option.getD_some] <;> rfl) rfl (Below.refl _ _) hC
        case rest =>
          intro f W2 hC hh
          obtain ⟨h0, h1, h2, h3, h4, h5, h6, h7, h8, h9, h10, -⟩ := hh
          have g0 : f 0 = _ := h0
          have g1 : f 1 = _ := h1
          have g2 : f 2 = _ := h2
          have g3 : f 3 = _ := h3
          have g4 : f 4 = _ := h4
          have g5 : f 5 = _ := h5
          have g6 : f 6 = _ := h6
          have g7 : f 7 = _ := h7
          have g8 : f 8 = _ := h8
          have g9 : f 9 = _ := h9
          have g10 : f 10 = _ := h10
          simp only [puts, List.foldr_cons, List.foldr_nil, List.setIfInBounds_toArray, List.set_cons_succ, List.set_cons_zero, g0, g1, g2, g3, g4, g5, g6, g7, g8, g9, g10]
          clear h0 h1 h2 h3 h4 h5 h6 h7 h8 h9 h10 g0 g1 g2 g3 g4 g5 g6 g7 g8 g9 g10
          have hb2 := hbw.trans (hC.mono hbw.size)
          by_cases h0 : gl rs k = gl ts k
          · have hq : decide (gl rs k = gl ts k) = true := decide_eq_true h0
            rw [hq]
            have H0 := Lib.hid h0
            clear h0 h3 hq hrow hrow'
            go_wp2
            go_roundw
            case rel => exact ⟨k + 1, by omega, by go_num, (fun i hi => by rcases Nat.lt_or_ge i k with h | h; exact HZ.out i h; rw [show i = k by omega]; exact H0.out), hb2⟩
            case measure => simp [intOf]; omega
          · have hq : decide (gl rs k = gl ts k) = false := decide_eq_false h0
            rw [hq]
            have hE : Hid (decide (rs = ts) = false) := Lib.hid (decide_eq_false (fun e => h0 (by rw [e])))
            clear h0 h3 hq hrow hrow'
            go_wp2
            go_ret
            exact ⟨by rw [hE.out]; rfl, hb2⟩
      · have dlt : decide ((k : Int) < len) = false := decide_eq_false (by omega)
        have hE : Hid (decide (rs = ts) = true) := Lib.hid (decide_eq_true (List.ext_getElem (by rw [HL.out, HL'.out]) fun i h1 h2 => by
          have := HZ.out i (by rw [HL.out] at h1; omega)
          rwa [gl_eq rs i h1, gl_eq ts i h2] at this))
        go_wp2
        go_ret
        exact ⟨by rw [hE.out]; rfl, hbw⟩
  · have dl : ((len : Int) != (len' : Int)) = true := by simp; omega
    go_enter Try.func15, Try.ntmps15
    go_wp2
    go_ret
    exact ⟨by rw [decide_eq_false (fun e => hll (by rw [← HL.out, ← HL'.out, e]))]; rfl, Below.refl _ _⟩
end Go.Proofs.Ytpmhnmkpmkeadaa
