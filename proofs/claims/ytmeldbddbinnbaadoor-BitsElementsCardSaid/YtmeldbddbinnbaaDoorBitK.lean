/-
  The reference's Words.
-/
import Derived.Test.YtmeldbddbinnbaaDoorBitJ
set_option linter.unusedSimpArgs false
set_option linter.unusedVariables false
namespace Go.Proofs.YtmeldbddbinnbaaDoor
open Go.RowKit Go.Shelf

/-- The row made long enough for a word. -/
def longer (ws : List Int) (q : Nat) : List Int := ws ++ List.replicate (q + 1 - ws.length) 0
def wordsStep (ws : List Int) (n : Int) : List Int :=
  if 0 ≤ n ∧ n < 4096 then (longer ws (n / 64).toNat).set (n / 64).toNat (bits .or .u64 (gi (longer ws (n / 64).toNat) (n / 64).toNat) (IntKind.u64.wrap (2 ^ (n % 64).toNat))) else ws
/-- The words of an ascending list. -/
def wordsL (l : List Int) : List Int := l.foldl wordsStep []
theorem wordsL_snoc (l : List Int) (k : Nat) (h : k < l.length) : wordsL (l.take (k + 1)) = wordsStep (wordsL (l.take k)) (gi l k) := by
  rw [take_succ_gi l k h, wordsL, List.foldl_append]; rfl
theorem longer_length (ws : List Int) (q : Nat) : (longer ws q).length = max ws.length (q + 1) := by simp [longer]; omega
theorem wordsL_length (l : List Int) : (wordsL l).length ≤ 64 := by
  unfold wordsL
  suffices H : ∀ ws : List Int, ws.length ≤ 64 → (l.foldl wordsStep ws).length ≤ 64 from H [] (by simp)
  induction l with
  | nil => intro ws h; exact h
  | cons n l ih =>
    intro ws h
    rw [List.foldl_cons]
    refine ih _ ?_
    unfold wordsStep
    split
    · rw [List.length_set, longer_length]; omega
    · exact h
theorem elU64s : Elem Tryd.prog 23 39 (.int .u64 0) 1 8 := ⟨Tryd.underlying23, by kernel_rfl, rfl, by decide⟩
def sLen : Value → Nat
  | .slice _ n _ => n
  | _ => 0

set_option maxHeartbeats 4000000 in
theorem words_any (a : Option Addr) (len cap : Nat) (xs : List Int) (w : World) (hs : IsInts .i64 w a len cap xs) (hl : len ≤ 1000000) :
    Calls Tryd.prog 43 #[.slice a len cap] w fun e w' => ∃ a3 n3 c3, e = .returned (.slice a3 n3 c3) ∧ w'.ownsRow w.heap.size 39 1 (.slice a3 n3 c3) n3 (ivs .u64 (wordsL xs)) ∧ Below w.heap.size w w' := by
  have HX : Hid (xs.length = len) := Lib.hid hs.length
  go_enter Tryd.func43, Tryd.ntmps43
  go_wp2
  go_loopw [3, 4] (fun v c W => ∃ (k : Nat) (ao : Option Addr) (no co : Nat), k ≤ len ∧ c = .int .i64 (k : Int) ∧ v = .slice ao no co ∧ W.ownsRow w.heap.size 39 1 (.slice ao no co) no (ivs .u64 (wordsL (xs.take k))) ∧ Below w.heap.size w W) (fun _ c _ => len - (intOf c).toNat)
  case atStart => exact ⟨0, none, 0, 0, Nat.zero_le _, rfl, rfl, World.ownsRow_nil _ _ _ _, Below.refl _ _⟩
  case round =>
    obtain ⟨k, ao, no, co, hk, rfl, rfl, ho, hb⟩ := hrel
    rcases Nat.lt_or_ge k len with hlt | hge
    · obtain ⟨b, off, rfl, hbl, hc⟩ := hs.at wr hb k hlt
      have HS := Lib.hid (wordsL_snoc xs k (by rw [HX.out]; exact hlt))
      obtain ⟨Z, hL⟩ : ∃ Z, wordsL (xs.take k) = Z := ⟨_, rfl⟩
      have hL64 : Z.length ≤ 64 := by rw [← hL]; exact wordsL_length _
      rw [hL] at ho HS
      clear hL
      obtain ⟨b', off', hbe, hbl', hc0⟩ := hs.at w (Below.refl _ _) k hlt
      cases hbe
      clear hs
      by_cases hn : 0 ≤ gi xs k ∧ gi xs k < 4096
      · have hd1 : decide (gi xs k < 0) = false := decide_eq_false (by omega)
        have hd2 : decide (4096 ≤ gi xs k) = false := decide_eq_false (by omega)
        obtain ⟨q, hq, hq64, hqe⟩ : ∃ q : Nat, (gi xs k).tdiv 64 = q ∧ q < 64 ∧ (gi xs k / 64).toNat = q := ⟨(gi xs k / 64).toNat, by rw [Int.tdiv_eq_ediv_of_nonneg hn.1]; omega, by omega, rfl⟩
        obtain ⟨r, hr, hr64, hre⟩ : ∃ r : Nat, (gi xs k).tmod 64 = r ∧ r < 64 ∧ (gi xs k % 64).toNat = r := ⟨(gi xs k % 64).toNat, by rw [Int.tmod_eq_emod_of_nonneg hn.1]; omega, by omega, rfl⟩
        have HW : Hid (wordsStep Z (gi xs k) = (longer Z q).set q (bits .or .u64 (gi (longer Z q) q) (IntKind.u64.wrap (2 ^ r)))) := Lib.hid (by unfold wordsStep; rw [if_pos hn, hqe, hre])
        have hnl := owns_len ho
        have HNL := Lib.hid hnl
        clear hnl
        go_wp2
        go_loopw [3] (fun v W => ∃ (j : Nat) (ao : Option Addr) (no co : Nat), v = .slice ao no co ∧ no = Z.length + j ∧ j ≤ q + 1 - Z.length ∧ W.ownsRow w.heap.size 39 1 (.slice ao no co) no (ivs .u64 (Z ++ List.replicate j 0)) ∧ Below w.heap.size w W) (fun v _ => q + 1 - sLen v)
        case atStart => exact ⟨0, ao, no, co, rfl, by rw [Nat.add_zero]; exact HNL.out, by omega, by rw [List.replicate_zero, List.append_nil]; exact ho, hb⟩
        case round =>
          clear ho hb HNL
          obtain ⟨j, ao, no, co, rfl, hno, hj, ho, hb⟩ := hrel
          have hcl := (hb.cell (p := ⟨b, off + k, none⟩) hbl).trans hc0
          rcases Nat.lt_or_ge q no with hdone | hmore
          · have hdz : decide ((no : Int) ≤ (q : Int)) = false := decide_eq_false (by omega)
            obtain ⟨g, rfl, hg, hg'⟩ := owns_at ho (by omega)
            have hLo : Z ++ List.replicate j 0 = longer Z q := by
              unfold longer
              rw [show q + 1 - Z.length = j by omega]
            rw [hLo] at ho
            have hlen := longer_length Z q
            have hqn : q < no := hdone
            have hl1 : (longer Z q).length = no := by omega
            clear hLo hlen hno hj
            go_wp2
            obtain ⟨S, hSd⟩ : ∃ S : (Nat → Bool) → (Nat → Value) → World → Prop, S = fun L f W => (Below w.heap.size w W ∧ (stage L f W (fun W => W.ownsRow w.heap.size 39 1 (.slice (some ⟨g, 0, none⟩) no co) no (ivs .u64 (longer Z q))) [(22, fun _ W => W.ownsRow w.heap.size 39 1 (.slice (some ⟨g, 0, none⟩) no co) no (ivs .u64 (wordsStep Z (gi xs k))))])) := ⟨_, rfl⟩
            refine wp_region_st mixed (by kernel_rfl) [[], [], [], [(1, 35), (2, 36)], [(3, 37)], [(4, 38)], [], [], [], [(7, 41), (8, 42)], [(9, 43)], [(10, 44)], [(6, 40), (11, 45)], [(12, 46)], [], [], [(14, 48), (15, 49)], [(16, 50)], [(17, 51)], [(18, 52)], [(13, 47), (19, 53)], [(0, 34), (5, 39), (0, 34), (1, 35), (2, 36), (3, 37), (4, 38), (5, 39), (6, 40), (7, 41), (8, 42), (9, 43), (10, 44), (11, 45), (12, 46), (13, 47), (14, 48), (15, 49), (16, 50), (17, 51), (18, 52), (19, 53), (20, 54)], [(21, 55), (20, 54), (0, 34), (1, 35), (2, 36), (3, 37), (4, 38), (5, 39), (6, 40), (7, 41), (8, 42), (9, 43), (10, 44), (11, 45), (12, 46), (13, 47), (14, 48), (15, 49), (16, 50), (17, 51), (18, 52), (19, 53), (20, 54)]] [(0, 34), (1, 35), (2, 36), (3, 37), (4, 38), (5, 39), (6, 40), (7, 41), (8, 42), (9, 43), (10, 44), (11, 45), (12, 46), (13, 47), (14, 48), (15, 49), (16, 50), (17, 51), (18, 52), (19, 53), (20, 54), (21, 55)] rfl rfl [EV ?e0, EV ?e1, EV ?e2, EV ?e3, EV ?e4, EV ?e5, EV ?e6, EV ?e7, EV ?e8, EV ?e9, EV ?e10, EV ?e11, EV ?e12, EV ?e13, EV ?e14, EV ?e15, EV ?e16, EV ?e17, EV ?e18, EV ?e19, EV ?e20, EV ?e21, fun _ => True] S ?start ?steps ?rest
            case start =>
              intro f
              rw [hSd]
              exact ⟨hb.drew, ho⟩
            case steps =>
              refine ⟨fun L f W hi hd hdn hh hS => ?_, fun L f W hi hd hdn hh hS => ?_, fun L f W hi hd hdn hh hS => ?_, fun L f W hi hd hdn hh hS => ?_, fun L f W hi hd hdn hh hS => ?_, fun L f W hi hd hdn hh hS => ?_, fun L f W hi hd hdn hh hS => ?_, fun L f W hi hd hdn hh hS => ?_, fun L f W hi hd hdn hh hS => ?_, fun L f W hi hd hdn hh hS => ?_, fun L f W hi hd hdn hh hS => ?_, fun L f W hi hd hdn hh hS => ?_, fun L f W hi hd hdn hh hS => ?_, fun L f W hi hd hdn hh hS => ?_, fun L f W hi hd hdn hh hS => ?_, fun L f W hi hd hdn hh hS => ?_, fun L f W hi hd hdn hh hS => ?_, fun L f W hi hd hdn hh hS => ?_, fun L f W hi hd hdn hh hS => ?_, fun L f W hi hd hdn hh hS => ?_, fun L f W hi hd hdn hh hS => ?_, fun L f W hi hd hdn hh hS => ?_, fun L f W hi hd hdn hh hS => ?_, trivial⟩
              · -- 0: Op.move (Operand.tmp 3)
                unfold stStep
                rw [if_pos (by simp [Region.wanted])]
                intro K Q hK
                simp only [puts, List.foldr_nil]
                go_step
                refine st_ex hK rfl rfl (by simp only [Act.put, List.setIfInBounds_toArray, List.set_cons_succ, List.set_cons_zero, Array.getD_eq_getD_getElem?, List.getElem?_toArray, List.getElem?_cons_succ, List.getElem?_cons_zero, Option.getD_some] <;> rfl) rfl (by rw [hSd] at hS ⊢; exact hS)
              · -- 1: Op.move (Operand.tmp 0)
                unfold stStep
                rw [if_pos (by simp [Region.wanted])]
                intro K Q hK
                simp only [puts, List.foldr_nil]
                go_step
                refine st_ex hK rfl rfl (by simp only [Act.put, List.setIfInBounds_toArray, List.set_cons_succ, List.set_cons_zero, Array.getD_eq_getD_getElem?, List.getElem?_toArray, List.getElem?_cons_succ, List.getElem?_cons_zero, Option.getD_some] <;> rfl) rfl (by rw [hSd] at hS ⊢; exact hS)
              · -- 2: Op.move (Operand.tmp 4)
                unfold stStep
                rw [if_pos (by simp [Region.wanted])]
                intro K Q hK
                simp only [puts, List.foldr_nil]
                go_step
                refine st_ex hK rfl rfl (by simp only [Act.put, List.setIfInBounds_toArray, List.set_cons_succ, List.set_cons_zero, Array.getD_eq_getD_getElem?, List.getElem?_toArray, List.getElem?_cons_succ, List.getElem?_cons_zero, Option.getD_some] <;> rfl) rfl (by rw [hSd] at hS ⊢; exact hS)
              · -- 3: Op.indexAddr 22 (Operand.tmp 35) (Operand.tmp 36)
                obtain ⟨h1, h2, -⟩ := hh
                have g1 : f 1 = _ := h1
                have g2 : f 2 = _ := h2
                unfold stStep
                rw [if_pos (by simp [Region.wanted])]
                intro K Q hK
                simp only [puts, List.foldr_cons, List.foldr_nil, List.setIfInBounds_toArray, List.set_cons_succ, List.set_cons_zero, g1, g2]
                go_step
                refine st_ex hK rfl rfl (by simp only [Act.put, List.setIfInBounds_toArray, List.set_cons_succ, List.set_cons_zero, Array.getD_eq_getD_getElem?, List.getElem?_toArray, List.getElem?_cons_succ, List.getElem?_cons_zero, Option.getD_some] <;> rfl) rfl (by rw [hSd] at hS ⊢; exact hS)
              · -- 4: Op.load 3 (Operand.tmp 37)
                obtain ⟨h3, -⟩ := hh
                have g3 : f 3 = _ := h3
                unfold stStep
                rw [if_pos (by simp [Region.wanted])]
                intro K Q hK
                simp only [puts, List.foldr_cons, List.foldr_nil, List.setIfInBounds_toArray, List.set_cons_succ, List.set_cons_zero, g3]
                have hS' : Below w.heap.size w W := by rw [hSd] at hS; exact hS.1
                have hc4 := (hS'.cell (p := ⟨b, off + k, none⟩) hbl).trans hc0
                go_step
                refine st_ex hK rfl rfl (by simp only [Act.put, List.setIfInBounds_toArray, List.set_cons_succ, List.set_cons_zero, Array.getD_eq_getD_getElem?, List.getElem?_toArray, List.getElem?_cons_succ, List.getElem?_cons_zero, Option.getD_some] <;> rfl) rfl (by rw [hSd] at hS ⊢; exact hS)
              · -- 5: Op.binOp BinOp.quo 3 (Operand.tmp 38) (Operand.const (Value.int IntKind.i64 64)) 3
                obtain ⟨h4, -⟩ := hh
                have g4 : f 4 = _ := h4
                unfold stStep
                rw [if_pos (by simp [Region.wanted])]
                intro K Q hK
                simp only [puts, List.foldr_cons, List.foldr_nil, List.setIfInBounds_toArray, List.set_cons_succ, List.set_cons_zero, g4]
                go_step
                refine st_ex hK rfl rfl (by simp only [Act.put, List.setIfInBounds_toArray, List.set_cons_succ, List.set_cons_zero, Array.getD_eq_getD_getElem?, List.getElem?_toArray, List.getElem?_cons_succ, List.getElem?_cons_zero, Option.getD_some] <;> rfl) rfl (by rw [hSd] at hS ⊢; exact hS)
              · -- 6: Op.move (Operand.tmp 3)
                unfold stStep
                rw [if_pos (by simp [Region.wanted])]
                intro K Q hK
                simp only [puts, List.foldr_nil]
                go_step
                refine st_ex hK rfl rfl (by simp only [Act.put, List.setIfInBounds_toArray, List.set_cons_succ, List.set_cons_zero, Array.getD_eq_getD_getElem?, List.getElem?_toArray, List.getElem?_cons_succ, List.getElem?_cons_zero, Option.getD_some] <;> rfl) rfl (by rw [hSd] at hS ⊢; exact hS)
              · -- 7: Op.move (Operand.tmp 0)
                unfold stStep
                rw [if_pos (by simp [Region.wanted])]
                intro K Q hK
                simp only [puts, List.foldr_nil]
                go_step
                refine st_ex hK rfl rfl (by simp only [Act.put, List.setIfInBounds_toArray, List.set_cons_succ, List.set_cons_zero, Array.getD_eq_getD_getElem?, List.getElem?_toArray, List.getElem?_cons_succ, List.getElem?_cons_zero, Option.getD_some] <;> rfl) rfl (by rw [hSd] at hS ⊢; exact hS)
              · -- 8: Op.move (Operand.tmp 4)
                unfold stStep
                rw [if_pos (by simp [Region.wanted])]
                intro K Q hK
                simp only [puts, List.foldr_nil]
                go_step
                refine st_ex hK rfl rfl (by simp only [Act.put, List.setIfInBounds_toArray, List.set_cons_succ, List.set_cons_zero, Array.getD_eq_getD_getElem?, List.getElem?_toArray, List.getElem?_cons_succ, List.getElem?_cons_zero, Option.getD_some] <;> rfl) rfl (by rw [hSd] at hS ⊢; exact hS)
              · -- 9: Op.indexAddr 22 (Operand.tmp 41) (Operand.tmp 42)
                obtain ⟨h7, h8, -⟩ := hh
                have g7 : f 7 = _ := h7
                have g8 : f 8 = _ := h8
                unfold stStep
                rw [if_pos (by simp [Region.wanted])]
                intro K Q hK
                simp only [puts, List.foldr_cons, List.foldr_nil, List.setIfInBounds_toArray, List.set_cons_succ, List.set_cons_zero, g7, g8]
                go_step
                refine st_ex hK rfl rfl (by simp only [Act.put, List.setIfInBounds_toArray, List.set_cons_succ, List.set_cons_zero, Array.getD_eq_getD_getElem?, List.getElem?_toArray, List.getElem?_cons_succ, List.getElem?_cons_zero, Option.getD_some] <;> rfl) rfl (by rw [hSd] at hS ⊢; exact hS)
              · -- 10: Op.load 3 (Operand.tmp 43)
                obtain ⟨h9, -⟩ := hh
                have g9 : f 9 = _ := h9
                unfold stStep
                rw [if_pos (by simp [Region.wanted])]
                intro K Q hK
                simp only [puts, List.foldr_cons, List.foldr_nil, List.setIfInBounds_toArray, List.set_cons_succ, List.set_cons_zero, g9]
                have hS' : Below w.heap.size w W := by rw [hSd] at hS; exact hS.1
                have hc4 := (hS'.cell (p := ⟨b, off + k, none⟩) hbl).trans hc0
                go_step
                refine st_ex hK rfl rfl (by simp only [Act.put, List.setIfInBounds_toArray, List.set_cons_succ, List.set_cons_zero, Array.getD_eq_getD_getElem?, List.getElem?_toArray, List.getElem?_cons_succ, List.getElem?_cons_zero, Option.getD_some] <;> rfl) rfl (by rw [hSd] at hS ⊢; exact hS)
              · -- 11: Op.binOp BinOp.quo 3 (Operand.tmp 44) (Operand.const (Value.int IntKind.i64 64)) 3
                obtain ⟨h10, -⟩ := hh
                have g10 : f 10 = _ := h10
                unfold stStep
                rw [if_pos (by simp [Region.wanted])]
                intro K Q hK
                simp only [puts, List.foldr_cons, List.foldr_nil, List.setIfInBounds_toArray, List.set_cons_succ, List.set_cons_zero, g10]
                go_step
                refine st_ex hK rfl rfl (by simp only [Act.put, List.setIfInBounds_toArray, List.set_cons_succ, List.set_cons_zero, Array.getD_eq_getD_getElem?, List.getElem?_toArray, List.getElem?_cons_succ, List.getElem?_cons_zero, Option.getD_some] <;> rfl) rfl (by rw [hSd] at hS ⊢; exact hS)
              · -- 12: Op.indexAddr 23 (Operand.tmp 40) (Operand.tmp 45)
                obtain ⟨h6, h11, -⟩ := hh
                have g6 : f 6 = _ := h6
                have g11 : f 11 = _ := h11
                unfold stStep
                rw [if_pos (by simp [Region.wanted])]
                intro K Q hK
                simp only [puts, List.foldr_cons, List.foldr_nil, List.setIfInBounds_toArray, List.set_cons_succ, List.set_cons_zero, g6, g11]
                go_step
                refine st_ex hK rfl rfl (by simp only [Act.put, List.setIfInBounds_toArray, List.set_cons_succ, List.set_cons_zero, Array.getD_eq_getD_getElem?, List.getElem?_toArray, List.getElem?_cons_succ, List.getElem?_cons_zero, Option.getD_some] <;> rfl) rfl (by rw [hSd] at hS ⊢; exact hS)
              · -- 13: Op.load 39 (Operand.tmp 46)
                obtain ⟨h12, -⟩ := hh
                have g12 : f 12 = _ := h12
                have l20 : L 20 = false := Bool.eq_false_iff.2 fun h => by have q := hdn 20 _ h rfl 13 (by decide); rw [show L 13 = false from hi] at q; cases q
                have l22 : L 22 = false := Bool.eq_false_iff.2 fun h => by have q := hdn 22 _ h rfl 20 (by decide); rw [show L 20 = false from l20] at q; cases q
                unfold stStep
                rw [if_pos (by simp [Region.wanted])]
                intro K Q hK
                simp only [puts, List.foldr_cons, List.foldr_nil, List.setIfInBounds_toArray, List.set_cons_succ, List.set_cons_zero, g12]
                have hS' := hS
                rw [hSd] at hS'
                simp only [stage, l22, if_false, Bool.false_eq_true] at hS'
                have hc3 := (own_cell hS'.2 q hqn hl1).1
                go_step
                refine st_ex hK rfl rfl (by simp only [Act.put, List.setIfInBounds_toArray, List.set_cons_succ, List.set_cons_zero, Array.getD_eq_getD_getElem?, List.getElem?_toArray, List.getElem?_cons_succ, List.getElem?_cons_zero, Option.getD_some] <;> rfl) rfl (by rw [hSd] at hS ⊢; exact hS)
              · -- 14: Op.move (Operand.tmp 0)
                unfold stStep
                rw [if_pos (by simp [Region.wanted])]
                intro K Q hK
                simp only [puts, List.foldr_nil]
                go_step
                refine st_ex hK rfl rfl (by simp only [Act.put, List.setIfInBounds_toArray, List.set_cons_succ, List.set_cons_zero, Array.getD_eq_getD_getElem?, List.getElem?_toArray, List.getElem?_cons_succ, List.getElem?_cons_zero, Option.getD_some] <;> rfl) rfl (by rw [hSd] at hS ⊢; exact hS)
              · -- 15: Op.move (Operand.tmp 4)
                unfold stStep
                rw [if_pos (by simp [Region.wanted])]
                intro K Q hK
                simp only [puts, List.foldr_nil]
                go_step
                refine st_ex hK rfl rfl (by simp only [Act.put, List.setIfInBounds_toArray, List.set_cons_succ, List.set_cons_zero, Array.getD_eq_getD_getElem?, List.getElem?_toArray, List.getElem?_cons_succ, List.getElem?_cons_zero, Option.getD_some] <;> rfl) rfl (by rw [hSd] at hS ⊢; exact hS)
              · -- 16: Op.indexAddr 22 (Operand.tmp 48) (Operand.tmp 49)
                obtain ⟨h14, h15, -⟩ := hh
                have g14 : f 14 = _ := h14
                have g15 : f 15 = _ := h15
                unfold stStep
                rw [if_pos (by simp [Region.wanted])]
                intro K Q hK
                simp only [puts, List.foldr_cons, List.foldr_nil, List.setIfInBounds_toArray, List.set_cons_succ, List.set_cons_zero, g14, g15]
                go_step
                refine st_ex hK rfl rfl (by simp only [Act.put, List.setIfInBounds_toArray, List.set_cons_succ, List.set_cons_zero, Array.getD_eq_getD_getElem?, List.getElem?_toArray, List.getElem?_cons_succ, List.getElem?_cons_zero, Option.getD_some] <;> rfl) rfl (by rw [hSd] at hS ⊢; exact hS)
              · -- 17: Op.load 3 (Operand.tmp 50)
                obtain ⟨h16, -⟩ := hh
                have g16 : f 16 = _ := h16
                unfold stStep
                rw [if_pos (by simp [Region.wanted])]
                intro K Q hK
                simp only [puts, List.foldr_cons, List.foldr_nil, List.setIfInBounds_toArray, List.set_cons_succ, List.set_cons_zero, g16]
                have hS' : Below w.heap.size w W := by rw [hSd] at hS; exact hS.1
                have hc4 := (hS'.cell (p := ⟨b, off + k, none⟩) hbl).trans hc0
                go_step
                refine st_ex hK rfl rfl (by simp only [Act.put, List.setIfInBounds_toArray, List.set_cons_succ, List.set_cons_zero, Array.getD_eq_getD_getElem?, List.getElem?_toArray, List.getElem?_cons_succ, List.getElem?_cons_zero, Option.getD_some] <;> rfl) rfl (by rw [hSd] at hS ⊢; exact hS)
              · -- 18: Op.binOp BinOp.rem 3 (Operand.tmp 51) (Operand.const (Value.int IntKind.i64 64)) 3
                obtain ⟨h17, -⟩ := hh
                have g17 : f 17 = _ := h17
                unfold stStep
                rw [if_pos (by simp [Region.wanted])]
                intro K Q hK
                simp only [puts, List.foldr_cons, List.foldr_nil, List.setIfInBounds_toArray, List.set_cons_succ, List.set_cons_zero, g17]
                go_step
                refine st_ex hK rfl rfl (by simp only [Act.put, List.setIfInBounds_toArray, List.set_cons_succ, List.set_cons_zero, Array.getD_eq_getD_getElem?, List.getElem?_toArray, List.getElem?_cons_succ, List.getElem?_cons_zero, Option.getD_some] <;> rfl) rfl (by rw [hSd] at hS ⊢; exact hS)
              · -- 19: Op.binOp BinOp.shl 39 (Operand.const (Value.int IntKind.u64 1)) (Operand.tmp 52) 3
                obtain ⟨h18, -⟩ := hh
                have g18 : f 18 = _ := h18
                unfold stStep
                rw [if_pos (by simp [Region.wanted])]
                intro K Q hK
                simp only [puts, List.foldr_cons, List.foldr_nil, List.setIfInBounds_toArray, List.set_cons_succ, List.set_cons_zero, g18]
                go_step
                refine st_ex hK rfl rfl (by simp only [Act.put, List.setIfInBounds_toArray, List.set_cons_succ, List.set_cons_zero, Array.getD_eq_getD_getElem?, List.getElem?_toArray, List.getElem?_cons_succ, List.getElem?_cons_zero, Option.getD_some] <;> rfl) rfl (by rw [hSd] at hS ⊢; exact hS)
              · -- 20: Op.binOp BinOp.or 39 (Operand.tmp 47) (Operand.tmp 53) 39
                obtain ⟨h13, h19, -⟩ := hh
                have g13 : f 13 = _ := h13
                have g19 : f 19 = _ := h19
                unfold stStep
                rw [if_pos (by simp [Region.wanted])]
                intro K Q hK
                simp only [puts, List.foldr_cons, List.foldr_nil, List.setIfInBounds_toArray, List.set_cons_succ, List.set_cons_zero, g13, g19]
                go_step
                refine st_ex hK rfl rfl (by simp only [Act.put, List.setIfInBounds_toArray, List.set_cons_succ, List.set_cons_zero, Array.getD_eq_getD_getElem?, List.getElem?_toArray, List.getElem?_cons_succ, List.getElem?_cons_zero, Option.getD_some] <;> rfl) rfl (by rw [hSd] at hS ⊢; exact hS)
              · -- 21: Op.indexAddr 23 (Operand.tmp 34) (Operand.tmp 39)
                obtain ⟨h0, h5, _, h1, h2, h3, h4, _, h6, h7, h8, h9, h10, h11, h12, h13, h14, h15, h16, h17, h18, h19, h20, -⟩ := hh
                have g0 : f 0 = _ := h0
                have g5 : f 5 = _ := h5
                have g1 : f 1 = _ := h1
                have g2 : f 2 = _ := h2
                have g3 : f 3 = _ := h3
                have g4 : f 4 = _ := h4
                have g6 : f 6 = _ := h6
                have g7 : f 7 = _ := h7
                have g8 : f 8 = _ := h8
                have g9 : f 9 = _ := h9
                have g10 : f 10 = _ := h10
                have g11 : f 11 = _ := h11
                have g12 : f 12 = _ := h12
                have g13 : f 13 = _ := h13
                have g14 : f 14 = _ := h14
                have g15 : f 15 = _ := h15
                have g16 : f 16 = _ := h16
                have g17 : f 17 = _ := h17
                have g18 : f 18 = _ := h18
                have g19 : f 19 = _ := h19
                have g20 : f 20 = _ := h20
                unfold stStep
                rw [if_pos (by simp [Region.wanted])]
                intro K Q hK
                simp only [puts, List.foldr_cons, List.foldr_nil, List.setIfInBounds_toArray, List.set_cons_succ, List.set_cons_zero, g0, g5, g1, g2, g3, g4, g6, g7, g8, g9, g10, g11, g12, g13, g14, g15, g16, g17, g18, g19, g20]
                go_step
                refine st_ex hK rfl rfl (by simp only [Act.put, List.setIfInBounds_toArray, List.set_cons_succ, List.set_cons_zero, Array.getD_eq_getD_getElem?, List.getElem?_toArray, List.getElem?_cons_succ, List.getElem?_cons_zero, Option.getD_some] <;> rfl) rfl (by rw [hSd] at hS ⊢; exact hS)
              · -- 22: Op.store 39 (Operand.tmp 55) (Operand.tmp 54)
                obtain ⟨h21, h20, h0, h1, h2, h3, h4, h5, h6, h7, h8, h9, h10, h11, h12, h13, h14, h15, h16, h17, h18, h19, _, -⟩ := hh
                have g21 : f 21 = _ := h21
                have g20 : f 20 = _ := h20
                have g0 : f 0 = _ := h0
                have g1 : f 1 = _ := h1
                have g2 : f 2 = _ := h2
                have g3 : f 3 = _ := h3
                have g4 : f 4 = _ := h4
                have g5 : f 5 = _ := h5
                have g6 : f 6 = _ := h6
                have g7 : f 7 = _ := h7
                have g8 : f 8 = _ := h8
                have g9 : f 9 = _ := h9
                have g10 : f 10 = _ := h10
                have g11 : f 11 = _ := h11
                have g12 : f 12 = _ := h12
                have g13 : f 13 = _ := h13
                have g14 : f 14 = _ := h14
                have g15 : f 15 = _ := h15
                have g16 : f 16 = _ := h16
                have g17 : f 17 = _ := h17
                have g18 : f 18 = _ := h18
                have g19 : f 19 = _ := h19
                unfold stStep
                rw [if_pos (by simp [Region.wanted])]
                intro K Q hK
                simp only [puts, List.foldr_cons, List.foldr_nil, List.setIfInBounds_toArray, List.set_cons_succ, List.set_cons_zero, g21, g20, g0, g1, g2, g3, g4, g5, g6, g7, g8, g9, g10, g11, g12, g13, g14, g15, g16, g17, g18, g19]
                rw [hSd] at hS hK
                have l22 : L 22 = false := hi
                simp only [stage, l22, if_true, if_false, Bool.false_eq_true] at hS
                obtain ⟨hbW, hAW⟩ := hS
                obtain ⟨hc9, hf9⟩ := own_cell hAW q hqn hl1
                go_step
                refine hK.out _ _ rfl trivial ?_
                refine ⟨hbW.setCell hg _, ?_⟩
                have hst := own_store hAW q (bits .or .u64 (gi (longer Z q) q) (IntKind.u64.wrap (2 ^ r)))
                rw [← HW.out] at hst
                exact hst
            case rest =>
              intro L f W2 hL hh hS
              rw [hSd] at hS
              clear hSd
              have l22 : L 22 = true := hL 22 (by decide)
              simp only [stage, l22, if_true] at hS
              clear hL l22
              obtain ⟨h0, h1, h2, h3, h4, h5, h6, h7, h8, h9, h10, h11, h12, h13, h14, h15, h16, h17, h18, h19, h20, h21, -⟩ := hh
              have g0 : f 0 = _ := h0
              have g1 : f 1 = _ := h1
              have g2 : f 2 = _ := h2
              have g3 : f 3 = _ := h3
              have g4 : f 4 = _ := h4
              have g5 : f 5 = _ := h5
              have g6 : f 6 = _ := h6
              have g7 : f 7 = _ := h7
              have g8 : f 8 = _ := h8
              have g9 : f 9 = _ := h9
              have g10 : f 10 = _ := h10
              have g11 : f 11 = _ := h11
              have g12 : f 12 = _ := h12
              have g13 : f 13 = _ := h13
              have g14 : f 14 = _ := h14
              have g15 : f 15 = _ := h15
              have g16 : f 16 = _ := h16
              have g17 : f 17 = _ := h17
              have g18 : f 18 = _ := h18
              have g19 : f 19 = _ := h19
              have g20 : f 20 = _ := h20
              have g21 : f 21 = _ := h21
              simp only [puts, List.foldr_cons, List.foldr_nil, List.setIfInBounds_toArray, List.set_cons_succ, List.set_cons_zero, g0, g1, g2, g3, g4, g5, g6, g7, g8, g9, g10, g11, g12, g13, g14, g15, g16, g17, g18, g19, g20, g21]
              clear h0 h1 h2 h3 h4 h5 h6 h7 h8 h9 h10 h11 h12 h13 h14 h15 h16 h17 h18 h19 h20 h21 g0 g1 g2 g3 g4 g5 g6 g7 g8 g9 g10 g11 g12 g13 g14 g15 g16 g17 g18 g19 g20 g21
              obtain ⟨hbW, hAW⟩ := hS
              go_wp2
              go_roundw
              case rel => exact ⟨k + 1, some ⟨g, 0, none⟩, no, co, hlt, by go_num, rfl, by rw [HS.out]; exact hAW, hbW⟩
              case measure => simp [intOf]; omega
          · have hdz : decide ((no : Int) ≤ (q : Int)) = true := decide_eq_true (by omega)
            have HNO := Lib.hid hno
            clear hno
            go_wp2_with (at_builtin; refine app_one (k := .u64) elU64s rfl _ _ rfl rfl ho rfl (by omega) hb.size ?_; clear ho; intro a3 c3 w3 ho hb3; replace hb := hb.trans hb3; clear hb3)
            go_roundw
            case rel => exact ⟨j + 1, a3, no + 1, c3, rfl, by have := HNO.out; omega, by have := HNO.out; omega, by rw [List.replicate_succ', ← List.append_assoc]; exact ho, hb⟩
            case measure => simp [sLen]; omega
      · have HW : Hid (wordsStep Z (gi xs k) = Z) := Lib.hid (if_neg hn)
        by_cases h0 : gi xs k < 0
        · have hd1 : decide (gi xs k < 0) = true := decide_eq_true h0
          clear hn h0
          go_wp2
          go_roundw
          case rel => exact ⟨k + 1, ao, no, co, hlt, by go_num, rfl, by rw [HS.out, HW.out]; exact ho, hb⟩
          case measure => simp [intOf]; omega
        · have hd1 : decide (gi xs k < 0) = false := decide_eq_false h0
          have hd2 : decide (4096 ≤ gi xs k) = true := decide_eq_true (by omega)
          clear hn h0
          go_wp2
          go_roundw
          case rel => exact ⟨k + 1, ao, no, co, hlt, by go_num, rfl, by rw [HS.out, HW.out]; exact ho, hb⟩
          case measure => simp [intOf]; omega
    · have hkm : k = len := by omega
      subst hkm
      rw [List.take_of_length_le (by rw [HX.out]; exact Nat.le_refl _)] at ho
      go_wp2
      go_ret
      exact ⟨ao, no, co, rfl, ho, hb⟩
end Go.Proofs.YtmeldbddbinnbaaDoor
