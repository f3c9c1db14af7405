/-
  The reference's Union and Compare; slices.Compare.
-/
import Derived.Test.YtmeldbddbinnbaaDoorBitH
import Derived.Test.YtmeldbddbinnbaaDoorShelf
set_option linter.unusedSimpArgs false
set_option linter.unusedVariables false
namespace Go.Proofs.YtmeldbddbinnbaaDoor
open Go.RowKit Go.Shelf

theorem withStep_len (n : Int) (s : List Int × Bool) (x : Int) : (withStep n s x).1.length + (if s.2 then 1 else 0) ≤ s.1.length + 1 + (if (withStep n s x).2 then 1 else 0) := by
  unfold withStep
  split
  · rename_i h
    rw [h.1]
    split <;> simp
  · simp
theorem withF_len (n : Int) (l : List Int) : ∀ s : List Int × Bool, (l.foldl (withStep n) s).1.length + (if s.2 then 1 else 0) ≤ s.1.length + l.length + (if (l.foldl (withStep n) s).2 then 1 else 0) := by
  induction l with
  | nil => rintro ⟨a, b⟩; cases b <;> simp
  | cons x l ih =>
    intro s
    have h1 := ih (withStep n s x)
    have h2 := withStep_len n s x
    rw [List.foldl_cons, List.length_cons]
    omega
theorem withL_len (l : List Int) (n : Int) : (withL l n).length ≤ l.length + 1 := by
  have := withF_len n l ([], false)
  change (withF l n).1.length + (if false = true then 1 else 0) ≤ 0 + l.length + (if (withF l n).2 = true then 1 else 0) at this
  unfold withL
  split
  · rename_i h; rw [h] at this; simp at this; omega
  · rename_i h; rw [if_neg h] at this; simp at this ⊢; omega

theorem owns_len {w : World} {B e n cap : Nat} {a : Option Addr} {k : IntKind} {xs : List Int} (h : w.ownsRow B e 1 (.slice a n cap) n (ivs k xs)) : n = xs.length := by
  have := h.1
  simp [ivs] at this
  omega

def unionL (xs ys : List Int) : List Int := ys.foldl withL xs
theorem unionL_snoc (xs ys : List Int) (k : Nat) (h : k < ys.length) : unionL xs (ys.take (k + 1)) = withL (unionL xs (ys.take k)) (gi ys k) := by
  rw [take_succ_gi ys k h, unionL, List.foldl_append]; rfl

theorem refUnion_any (a : Option Addr) (len cap : Nat) (xs : List Int) (a' : Option Addr) (len' cap' : Nat) (ys : List Int) (w : World) (hs : IsInts .i64 w a len cap xs) (hs' : IsInts .i64 w a' len' cap' ys) (hl : len ≤ 100000) (hl' : len' ≤ 100000) :
    Calls Tryd.prog 35 #[.slice a len cap, .slice a' len' cap'] w fun e w' => ∃ a3 n3 c3, e = .returned (.slice a3 n3 c3) ∧ w'.ownsRow w.heap.size 3 1 (.slice a3 n3 c3) n3 (ivs .i64 (unionL xs ys)) ∧ Below w.heap.size w w' := by
  have HX : Hid (xs.length = len) := Lib.hid hs.length
  have HY : Hid (ys.length = len') := Lib.hid hs'.length
  have hs1 := hs.later ((Below.refl _ w).alloc (Nat.le_refl _) (.cells #[] 3))
  go_enter Tryd.func35, Tryd.ntmps35
  go_wp2_with (at_builtin; refine app_ints0 (k := .i64) (v := .slice (some ⟨w.heap.size, 0, none⟩) 0 0) elI64 rfl _ _ rfl rfl (World.ownsRow_made _ _ _ (Nat.le_refl _) (by decide) rfl) rfl hs1 (by omega) (by simp) ?_; intro a2 c2 w2 ho2 hgr hbel hnil; clear hnil hgr; have hb2 : Below w.heap.size w w2 := ((Below.refl _ w).alloc (Nat.le_refl _) _).trans hbel; clear hbel)
  go_loopw [5, 6] (fun v c W => ∃ k ao no co, k ≤ len' ∧ c = .int .i64 (k : Int) ∧ v = .slice ao no co ∧ no ≤ len + k ∧ W.ownsRow w.heap.size 3 1 (.slice ao no co) no (ivs .i64 (unionL xs (ys.take k))) ∧ Below w.heap.size w W) (fun _ c _ => len' - (intOf c).toNat)
  case atStart => exact ⟨0, a2, len, c2, Nat.zero_le _, rfl, rfl, Nat.le_refl _, ho2, hb2⟩
  case round =>
    obtain ⟨k, ao, no, co, hk, rfl, rfl, hno, ho, hb⟩ := hrel
    rcases Nat.lt_or_ge k len' with hlt | hge
    · obtain ⟨b, off, rfl, hbl, hc⟩ := hs'.at wr hb k hlt
      have HU := Lib.hid (unionL_snoc xs ys k (by rw [HY.out]; exact hlt))
      have hnl := owns_len ho
      have hwl := withL_len (unionL xs (ys.take k)) (gi ys k)
      have hul : (unionL xs (ys.take k)).length ≤ len + k := by rw [← hnl]; exact hno
      clear hnl
      have hW := refWith_any ao no co _ (gi ys k) wr (IsInts.of_owns ho).1 (by omega)
      clear hs hs' hs1 ho2
      go_wp2_with (go_at_call 14; with_reducible refine hW.mono ?_; rintro e w3 ⟨a3, n3, c3, rfl, ho3, hb3⟩; have hn3 := Lib.hid (owns_len ho3))
      go_roundw
      case rel => exact ⟨k + 1, a3, n3, c3, hlt, by go_num, rfl, by have := hn3.out; omega, by rw [HU.out]; exact ho3.from_mono hb.size, hb.trans (hb3.mono hb.size)⟩
      case measure => simp [intOf]; omega
    · have hkm : k = len' := by omega
      subst hkm
      rw [List.take_of_length_le (by rw [HY.out]; exact Nat.le_refl _)] at ho
      go_wp2
      go_ret
      exact ⟨ao, no, co, rfl, ho, hb⟩

/-- Lists compared element by element. -/
def cmpL : List Int → List Int → Int
  | [], [] => 0
  | [], _ :: _ => -1
  | _ :: _, [] => 1
  | x :: xs, y :: ys => if x < y then -1 else if y < x then 1 else cmpL xs ys

set_option maxHeartbeats 2000000 in
theorem refCompare_any (a : Option Addr) (len cap : Nat) (xs : List Int) (a' : Option Addr) (len' cap' : Nat) (ys : List Int) (w : World) (hs : IsInts .i64 w a len cap xs) (hs' : IsInts .i64 w a' len' cap' ys) (hl : len ≤ 100000) (hl' : len' ≤ 100000) :
    Calls Tryd.prog 39 #[.slice a len cap, .slice a' len' cap'] w fun e w' => e = .returned (.int .i64 (cmpL xs ys)) ∧ Below w.heap.size w w' := by
  have HX : Hid (xs.length = len) := Lib.hid hs.length
  have HY : Hid (ys.length = len') := Lib.hid hs'.length
  go_enter Tryd.func39, Tryd.ntmps39
  go_wp2
  go_loopw [5] (fun c W => ∃ k : Nat, k ≤ len ∧ k ≤ len' ∧ c = .int .i64 (k : Int) ∧ cmpL xs ys = cmpL (xs.drop k) (ys.drop k) ∧ Below w.heap.size w W) (fun c _ => len - (intOf c).toNat)
  case atStart => exact ⟨0, Nat.zero_le _, Nat.zero_le _, rfl, rfl, Below.refl _ _⟩
  case round =>
    obtain ⟨k, hk, hk', rfl, hcmp, hb⟩ := hrel
    by_cases hlt : k < len ∧ k < len'
    · obtain ⟨b, off, rfl, hbl, hc⟩ := hs.at wr hb k hlt.1
      obtain ⟨b', off', rfl, hbl', hc'⟩ := hs'.at wr hb k hlt.2
      rw [drop_gi xs k (by rw [HX.out]; exact hlt.1), drop_gi ys k (by rw [HY.out]; exact hlt.2), cmpL] at hcmp
      have hz := hb.size
      have hd1 : decide ((k : Int) < (len : Int)) = true := decide_eq_true (by omega)
      have hd2 : decide ((k : Int) < (len' : Int)) = true := decide_eq_true (by omega)
      have HC := Lib.hid hcmp
      clear hs hs' hcmp
      go_wp2
      refine wp_region_grow mixed (by kernel_rfl) [[], [], [(0, 18), (1, 19)], [(2, 20)], [], [], [(4, 22), (5, 23)], [(6, 24)], [(3, 21), (7, 25)]] [(0, 18), (1, 19), (2, 20), (3, 21), (4, 22), (5, 23), (6, 24), (7, 25), (8, 26)] rfl rfl [Ex ?e0, Ex ?e1, Ex ?e2, Ex ?e3, Ex ?e4, Ex ?e5, Ex ?e6, Ex ?e7, Ex ?e8] ⟨stays_ex _, stays_ex _, stays_ex _, stays_ex _, stays_ex _, stays_ex _, stays_ex _, stays_ex _, stays_ex _, trivial⟩ ?steps ?rest
      case steps =>
        refine ⟨fun f W hC hh => ?_, fun f W hC hh => ?_, fun f W hC hh => ?_, fun f W hC hh => ?_, fun f W hC hh => ?_, fun f W hC hh => ?_, fun f W hC hh => ?_, fun f W hC hh => ?_, fun f W hC hh => ?_, trivial⟩
        · -- 0: Op.move (Operand.tmp 0)
          refine tab_plain fun K Q hK => ?_
          simp only [puts, List.foldr_nil]
          go_step
          refine fam_ex hK rfl rfl (by simp only [Act.put, List.setIfInBounds_toArray, List.set_cons_succ, List.set_cons_zero, Array.getD_eq_getD_getElem?, List.getElem?_toArray, List.getElem?_cons_succ, List.getElem?_cons_zero, Option.getD_some] <;> rfl) rfl (Below.refl _ _) hC
        · -- 1: Op.move (Operand.tmp 5)
          refine tab_plain fun K Q hK => ?_
          simp only [puts, List.foldr_nil]
          go_step
          refine fam_ex hK rfl rfl (by simp only [Act.put, List.setIfInBounds_toArray, List.set_cons_succ, List.set_cons_zero, Array.getD_eq_getD_getElem?, List.getElem?_toArray, List.getElem?_cons_succ, List.getElem?_cons_zero, Option.getD_some] <;> rfl) rfl (Below.refl _ _) hC
        · -- 2: Op.indexAddr 22 (Operand.tmp 18) (Operand.tmp 19)
          obtain ⟨h0, h1, -⟩ := hh
          have g0 : f 0 = _ := h0
          have g1 : f 1 = _ := h1
          refine tab_plain fun K Q hK => ?_
          simp only [puts, List.foldr_cons, List.foldr_nil, List.setIfInBounds_toArray, List.set_cons_succ, List.set_cons_zero, g0, g1]
          go_step
          refine fam_ex hK rfl rfl (by simp only [Act.put, List.setIfInBounds_toArray, List.set_cons_succ, List.set_cons_zero, Array.getD_eq_getD_getElem?, List.getElem?_toArray, List.getElem?_cons_succ, List.getElem?_cons_zero, Option.getD_some] <;> rfl) rfl (Below.refl _ _) hC
        · -- 3: Op.load 3 (Operand.tmp 20)
          obtain ⟨h2, -⟩ := hh
          have g2 : f 2 = _ := h2
          refine tab_plain fun K Q hK => ?_
          simp only [puts, List.foldr_cons, List.foldr_nil, List.setIfInBounds_toArray, List.set_cons_succ, List.set_cons_zero, g2]
          have hc3 := (hC.cell (p := ⟨b, off + k, none⟩) (show b < _ by omega)).trans hc
          go_step
          refine fam_ex hK rfl rfl (by simp only [Act.put, List.setIfInBounds_toArray, List.set_cons_succ, List.set_cons_zero, Array.getD_eq_getD_getElem?, List.getElem?_toArray, List.getElem?_cons_succ, List.getElem?_cons_zero, Option.getD_some] <;> rfl) rfl (Below.refl _ _) hC
        · -- 4: Op.move (Operand.tmp 1)
          refine tab_plain fun K Q hK => ?_
          simp only [puts, List.foldr_nil]
          go_step
          refine fam_ex hK rfl rfl (by simp only [Act.put, List.setIfInBounds_toArray, List.set_cons_succ, List.set_cons_zero, Array.getD_eq_getD_getElem?, List.getElem?_toArray, List.getElem?_cons_succ, List.getElem?_cons_zero, Option.getD_some] <;> rfl) rfl (Below.refl _ _) hC
        · -- 5: Op.move (Operand.tmp 5)
          refine tab_plain fun K Q hK => ?_
          simp only [puts, List.foldr_nil]
          go_step
          refine fam_ex hK rfl rfl (by simp only [Act.put, List.setIfInBounds_toArray, List.set_cons_succ, List.set_cons_zero, Array.getD_eq_getD_getElem?, List.getElem?_toArray, List.getElem?_cons_succ, List.getElem?_cons_zero, Option.getD_some] <;> rfl) rfl (Below.refl _ _) hC
        · -- 6: Op.indexAddr 22 (Operand.tmp 22) (Operand.tmp 23)
          obtain ⟨h4, h5, -⟩ := hh
          have g4 : f 4 = _ := h4
          have g5 : f 5 = _ := h5
          refine tab_plain fun K Q hK => ?_
          simp only [puts, List.foldr_cons, List.foldr_nil, List.setIfInBounds_toArray, List.set_cons_succ, List.set_cons_zero, g4, g5]
          go_step
          refine fam_ex hK rfl rfl (by simp only [Act.put, List.setIfInBounds_toArray, List.set_cons_succ, List.set_cons_zero, Array.getD_eq_getD_getElem?, List.getElem?_toArray, List.getElem?_cons_succ, List.getElem?_cons_zero, Option.getD_some] <;> rfl) rfl (Below.refl _ _) hC
        · -- 7: Op.load 3 (Operand.tmp 24)
          obtain ⟨h6, -⟩ := hh
          have g6 : f 6 = _ := h6
          refine tab_plain fun K Q hK => ?_
          simp only [puts, List.foldr_cons, List.foldr_nil, List.setIfInBounds_toArray, List.set_cons_succ, List.set_cons_zero, g6]
          have hc3 := (hC.cell (p := ⟨b', off' + k, none⟩) (show b' < _ by omega)).trans hc'
          go_step
          refine fam_ex hK rfl rfl (by simp only [Act.put, List.setIfInBounds_toArray, List.set_cons_succ, List.set_cons_zero, Array.getD_eq_getD_getElem?, List.getElem?_toArray, List.getElem?_cons_succ, List.getElem?_cons_zero, Option.getD_some] <;> rfl) rfl (Below.refl _ _) hC
        · -- 8: Op.binOp BinOp.lss 3 (Operand.tmp 21) (Operand.tmp 25) 3
          obtain ⟨h3, h7, -⟩ := hh
          have g3 : f 3 = _ := h3
          have g7 : f 7 = _ := h7
          refine tab_plain fun K Q hK => ?_
          simp only [puts, List.foldr_cons, List.foldr_nil, List.setIfInBounds_toArray, List.set_cons_succ, List.set_cons_zero, g3, g7]
          go_step
          refine fam_ex hK rfl rfl (by simp only [Act.put, List.setIfInBounds_toArray, List.set_cons_succ, List.set_cons_zero, Array.getD_eq_getD_getElem?, List.getElem?_toArray, List.getElem?_cons_succ, List.getElem?_cons_zero, Option.getD_some] <;> rfl) rfl (Below.refl _ _) hC
      case rest =>
        intro f W2 hC hh
        obtain ⟨h0, h1, h2, h3, h4, h5, h6, h7, h8, -⟩ := hh
        have g0 : f 0 = _ := h0
        have g1 : f 1 = _ := h1
        have g2 : f 2 = _ := h2
        have g3 : f 3 = _ := h3
        have g4 : f 4 = _ := h4
        have g5 : f 5 = _ := h5
        have g6 : f 6 = _ := h6
        have g7 : f 7 = _ := h7
        have g8 : f 8 = _ := h8
        simp only [puts, List.foldr_cons, List.foldr_nil, List.setIfInBounds_toArray, List.set_cons_succ, List.set_cons_zero, g0, g1, g2, g3, g4, g5, g6, g7, g8]
        clear h0 h1 h2 h3 h4 h5 h6 h7 h8 g0 g1 g2 g3 g4 g5 g6 g7 g8
        have hb2 := hb.trans (hC.mono hb.size)
        by_cases h1 : gi xs k < gi ys k
        · have hq : decide (gi xs k < gi ys k) = true := decide_eq_true h1
          try rw [hq]
          have HE : Hid (cmpL xs ys = -1) := Lib.hid (by rw [HC.out, if_pos h1])
          clear h1
          go_wp2
          go_ret
          exact ⟨by rw [HE.out]; rfl, hb2⟩
        · have hq : decide (gi xs k < gi ys k) = false := decide_eq_false h1
          try rw [hq]
          have H1 := Lib.hid h1
          have hz2 := hC.size
          have hc2 := (hC.cell (p := ⟨b, off + k, none⟩) (show b < _ by omega)).trans hc
          have hc2' := (hC.cell (p := ⟨b', off' + k, none⟩) (show b' < _ by omega)).trans hc'
          clear hC
          go_wp2
          refine wp_region_grow mixed (by kernel_rfl) [[], [], [(0, 27), (1, 28)], [(2, 29)], [], [], [(4, 31), (5, 32)], [(6, 33)], [(3, 30), (7, 34)]] [(0, 27), (1, 28), (2, 29), (3, 30), (4, 31), (5, 32), (6, 33), (7, 34), (8, 35)] rfl rfl [Ex ?eb0, Ex ?eb1, Ex ?eb2, Ex ?eb3, Ex ?eb4, Ex ?eb5, Ex ?eb6, Ex ?eb7, Ex ?eb8] ⟨stays_ex _, stays_ex _, stays_ex _, stays_ex _, stays_ex _, stays_ex _, stays_ex _, stays_ex _, stays_ex _, trivial⟩ ?bsteps ?brest
          case bsteps =>
            refine ⟨fun f W hC hh => ?_, fun f W hC hh => ?_, fun f W hC hh => ?_, fun f W hC hh => ?_, fun f W hC hh => ?_, fun f W hC hh => ?_, fun f W hC hh => ?_, fun f W hC hh => ?_, fun f W hC hh => ?_, trivial⟩
            · -- 0: Op.move (Operand.tmp 0)
              refine tab_plain fun K Q hK => ?_
              simp only [puts, List.foldr_nil]
              go_step
              refine fam_ex hK rfl rfl (by simp only [Act.put, List.setIfInBounds_toArray, List.set_cons_succ, List.set_cons_zero, Array.getD_eq_getD_getElem?, List.getElem?_toArray, List.getElem?_cons_succ, List.getElem?_cons_zero, Option.getD_some] <;> rfl) rfl (Below.refl _ _) hC
            · -- 1: Op.move (Operand.tmp 5)
              refine tab_plain fun K Q hK => ?_
              simp only [puts, List.foldr_nil]
              go_step
              refine fam_ex hK rfl rfl (by simp only [Act.put, List.setIfInBounds_toArray, List.set_cons_succ, List.set_cons_zero, Array.getD_eq_getD_getElem?, List.getElem?_toArray, List.getElem?_cons_succ, List.getElem?_cons_zero, Option.getD_some] <;> rfl) rfl (Below.refl _ _) hC
            · -- 2: Op.indexAddr 22 (Operand.tmp 27) (Operand.tmp 28)
              obtain ⟨h0, h1, -⟩ := hh
              have g0 : f 0 = _ := h0
              have g1 : f 1 = _ := h1
              refine tab_plain fun K Q hK => ?_
              simp only [puts, List.foldr_cons, List.foldr_nil, List.setIfInBounds_toArray, List.set_cons_succ, List.set_cons_zero, g0, g1]
              go_step
              refine fam_ex hK rfl rfl (by simp only [Act.put, List.setIfInBounds_toArray, List.set_cons_succ, List.set_cons_zero, Array.getD_eq_getD_getElem?, List.getElem?_toArray, List.getElem?_cons_succ, List.getElem?_cons_zero, Option.getD_some] <;> rfl) rfl (Below.refl _ _) hC
            · -- 3: Op.load 3 (Operand.tmp 29)
              obtain ⟨h2, -⟩ := hh
              have g2 : f 2 = _ := h2
              refine tab_plain fun K Q hK => ?_
              simp only [puts, List.foldr_cons, List.foldr_nil, List.setIfInBounds_toArray, List.set_cons_succ, List.set_cons_zero, g2]
              have hc3 := (hC.cell (p := ⟨b, off + k, none⟩) (show b < _ by omega)).trans hc2
              go_step
              refine fam_ex hK rfl rfl (by simp only [Act.put, List.setIfInBounds_toArray, List.set_cons_succ, List.set_cons_zero, Array.getD_eq_getD_getElem?, List.getElem?_toArray, List.getElem?_cons_succ, List.getElem?_cons_zero, Option.getD_some] <;> rfl) rfl (Below.refl _ _) hC
            · -- 4: Op.move (Operand.tmp 1)
              refine tab_plain fun K Q hK => ?_
              simp only [puts, List.foldr_nil]
              go_step
              refine fam_ex hK rfl rfl (by simp only [Act.put, List.setIfInBounds_toArray, List.set_cons_succ, List.set_cons_zero, Array.getD_eq_getD_getElem?, List.getElem?_toArray, List.getElem?_cons_succ, List.getElem?_cons_zero, Option.getD_some] <;> rfl) rfl (Below.refl _ _) hC
            · -- 5: Op.move (Operand.tmp 5)
              refine tab_plain fun K Q hK => ?_
              simp only [puts, List.foldr_nil]
              go_step
              refine fam_ex hK rfl rfl (by simp only [Act.put, List.setIfInBounds_toArray, List.set_cons_succ, List.set_cons_zero, Array.getD_eq_getD_getElem?, List.getElem?_toArray, List.getElem?_cons_succ, List.getElem?_cons_zero, Option.getD_some] <;> rfl) rfl (Below.refl _ _) hC
            · -- 6: Op.indexAddr 22 (Operand.tmp 31) (Operand.tmp 32)
              obtain ⟨h4, h5, -⟩ := hh
              have g4 : f 4 = _ := h4
              have g5 : f 5 = _ := h5
              refine tab_plain fun K Q hK => ?_
              simp only [puts, List.foldr_cons, List.foldr_nil, List.setIfInBounds_toArray, List.set_cons_succ, List.set_cons_zero, g4, g5]
              go_step
              refine fam_ex hK rfl rfl (by simp only [Act.put, List.setIfInBounds_toArray, List.set_cons_succ, List.set_cons_zero, Array.getD_eq_getD_getElem?, List.getElem?_toArray, List.getElem?_cons_succ, List.getElem?_cons_zero, Option.getD_some] <;> rfl) rfl (Below.refl _ _) hC
            · -- 7: Op.load 3 (Operand.tmp 33)
              obtain ⟨h6, -⟩ := hh
              have g6 : f 6 = _ := h6
              refine tab_plain fun K Q hK => ?_
              simp only [puts, List.foldr_cons, List.foldr_nil, List.setIfInBounds_toArray, List.set_cons_succ, List.set_cons_zero, g6]
              have hc3 := (hC.cell (p := ⟨b', off' + k, none⟩) (show b' < _ by omega)).trans hc2'
              go_step
              refine fam_ex hK rfl rfl (by simp only [Act.put, List.setIfInBounds_toArray, List.set_cons_succ, List.set_cons_zero, Array.getD_eq_getD_getElem?, List.getElem?_toArray, List.getElem?_cons_succ, List.getElem?_cons_zero, Option.getD_some] <;> rfl) rfl (Below.refl _ _) hC
            · -- 8: Op.binOp BinOp.gtr 3 (Operand.tmp 30) (Operand.tmp 34) 3
              obtain ⟨h3, h7, -⟩ := hh
              have g3 : f 3 = _ := h3
              have g7 : f 7 = _ := h7
              refine tab_plain fun K Q hK => ?_
              simp only [puts, List.foldr_cons, List.foldr_nil, List.setIfInBounds_toArray, List.set_cons_succ, List.set_cons_zero, g3, g7]
              go_step
              refine fam_ex hK rfl rfl (by simp only [Act.put, List.setIfInBounds_toArray, List.set_cons_succ, List.set_cons_zero, Array.getD_eq_getD_getElem?, List.getElem?_toArray, List.getElem?_cons_succ, List.getElem?_cons_zero, Option.getD_some] <;> rfl) rfl (Below.refl _ _) hC
          case brest =>
            intro f W3 hC hh
            obtain ⟨h0, h1, h2, h3, h4, h5, h6, h7, h8, -⟩ := hh
            have g0 : f 0 = _ := h0
            have g1 : f 1 = _ := h1
            have g2 : f 2 = _ := h2
            have g3 : f 3 = _ := h3
            have g4 : f 4 = _ := h4
            have g5 : f 5 = _ := h5
            have g6 : f 6 = _ := h6
            have g7 : f 7 = _ := h7
            have g8 : f 8 = _ := h8
            simp only [puts, List.foldr_cons, List.foldr_nil, List.setIfInBounds_toArray, List.set_cons_succ, List.set_cons_zero, g0, g1, g2, g3, g4, g5, g6, g7, g8]
            clear h0 h1 h2 h3 h4 h5 h6 h7 h8 g0 g1 g2 g3 g4 g5 g6 g7 g8
            have hb3 := hb2.trans (hC.mono hb2.size)
            by_cases h2 : gi ys k < gi xs k
            · have hq2 : decide (gi ys k < gi xs k) = true := decide_eq_true h2
              try rw [hq2]
              have HE : Hid (cmpL xs ys = 1) := Lib.hid (by rw [HC.out, if_neg (Int.not_lt.2 H1.out), if_pos h2])
              clear h2
              go_wp2
              go_ret
              exact ⟨by rw [HE.out]; rfl, hb3⟩
            · have hq2 : decide (gi ys k < gi xs k) = false := decide_eq_false h2
              try rw [hq2]
              have HE : Hid (cmpL xs ys = cmpL (xs.drop (k + 1)) (ys.drop (k + 1))) := Lib.hid (by rw [HC.out, if_neg (Int.not_lt.2 H1.out), if_neg h2])
              clear h2
              go_wp2
              go_roundw
              case rel => exact ⟨k + 1, by omega, by omega, by go_num, HE.out, hb3⟩
              case measure => simp [intOf]; omega
    · have hend : cmpL xs ys = if len < len' then -1 else if len' < len then 1 else 0 := by
        rw [hcmp]
        have h1 : (xs.drop k).length = len - k := by rw [List.length_drop, HX.out]
        have h2 : (ys.drop k).length = len' - k := by rw [List.length_drop, HY.out]
        generalize xs.drop k = X at *
        generalize ys.drop k = Y at *
        match X, Y with
        | [], [] => simp at h1 h2; rw [if_neg (by omega), if_neg (by omega)]; rfl
        | [], _ :: _ => simp at h1 h2; rw [if_pos (by omega)]; rfl
        | _ :: _, [] => simp at h1 h2; rw [if_neg (by omega), if_pos (by omega)]; rfl
        | _ :: _, _ :: _ => simp at h1 h2; omega
      have HE := Lib.hid hend
      clear hend hcmp
      by_cases h1 : len < len'
      · have hd1 : decide ((k : Int) < (len : Int)) = false := decide_eq_false (by omega)
        have hd2 : decide ((len : Int) < (len' : Int)) = true := decide_eq_true (by omega)
        go_wp2
        go_ret
        exact ⟨by rw [HE.out, if_pos h1]; rfl, hb⟩
      · have hd2 : decide ((len : Int) < (len' : Int)) = false := decide_eq_false (by omega)
        by_cases h2 : len' < len
        · have hd1 : decide ((k : Int) < (len : Int)) = true := decide_eq_true (by omega)
          have hd4 : decide ((k : Int) < (len' : Int)) = false := decide_eq_false (by omega)
          have hd3 : decide ((len' : Int) < (len : Int)) = true := decide_eq_true (by omega)
          go_wp2
          go_ret
          exact ⟨by rw [HE.out, if_neg h1, if_pos h2]; rfl, hb⟩
        · have hd1 : decide ((k : Int) < (len : Int)) = false := decide_eq_false (by omega)
          have hd3 : decide ((len' : Int) < (len : Int)) = false := decide_eq_false (by omega)
          go_wp2
          go_ret
          exact ⟨by rw [HE.out, if_neg h1, if_neg h2]; rfl, hb⟩
end Go.Proofs.YtmeldbddbinnbaaDoor
