/-
  Package order: Extensions.
-/
import Derived.Test.YtofnbndpoiohhaaDoorOrdI
import Derived.Test.YtofnbndpoiohhaaDoorBox
set_option linter.unusedSimpArgs false
set_option linter.unusedVariables false
set_option maxHeartbeats 8000000
namespace Go.Proofs.YtofnbndpoiohhaaDoor
open Go.RowKit Go.Shelf
attribute [local go_sem] Oper.semAt_some

/-! The number of linear extensions behind a beginning. -/
def Rdy2 (es : List (Int × Int)) (p : List Int) (i : Nat) : Prop := (i : Int) ∉ p ∧ PreIn es p i
open Classical in
noncomputable def cntE (es : List (Int × Int)) (N : Nat) : Nat → List Int → Nat
  | 0, _ => 1
  | left + 1, p => ((List.range N).map fun i => if Rdy2 es p i then cntE es N left (p ++ [(i : Int)]) else 0).sum
open Classical in
noncomputable def cntS (es : List (Int × Int)) (N left : Nat) (p : List Int) (j : Nat) : Nat := ((List.range j).map fun i => if Rdy2 es p i then cntE es N left (p ++ [(i : Int)]) else 0).sum
theorem cntS_zero (es : List (Int × Int)) (N left : Nat) (p : List Int) : cntS es N left p 0 = 0 := rfl
theorem cntS_full (es : List (Int × Int)) (N left : Nat) (p : List Int) : cntE es N (left + 1) p = cntS es N left p N := rfl
theorem cntS_yes {es : List (Int × Int)} {N left : Nat} {p : List Int} {j : Nat} (h : Rdy2 es p j) : cntS es N left p (j + 1) = cntS es N left p j + cntE es N left (p ++ [(j : Int)]) := by
  unfold cntS
  rw [List.range_succ, List.map_append, List.sum_append, List.map_singleton, List.sum_singleton, if_pos h]
theorem cntS_no {es : List (Int × Int)} {N left : Nat} {p : List Int} {j : Nat} (h : ¬ Rdy2 es p j) : cntS es N left p (j + 1) = cntS es N left p j := by
  unfold cntS
  rw [List.range_succ, List.map_append, List.sum_append, List.map_singleton, List.sum_singleton, if_neg h, Nat.add_zero]

def cntFn (bn bo bp bm : Nat) : Value := .func (.func 38) #[] #[.pointer (some ⟨bn, 0, none⟩), .pointer (some ⟨bo, 0, none⟩), .pointer (some ⟨bp, 0, none⟩), .pointer (some ⟨bm, 0, none⟩), .pointer (some ⟨bn + 1, 0, none⟩)]
def ExtW (W : World) (bn bo bp bm N M v : Nat) (ps : List Int) : Prop :=
  (bo < bn ∧ bp < bn ∧ bm < bn) ∧ W.cell? ⟨bo, 0, none⟩ = some (.int .i64 (N : Int)) ∧ PastIs W bp ps ∧ W.cell? ⟨bm, 0, none⟩ = some (.int .i64 (M : Int)) ∧ Box1 W bn (.int .i64 (v : Int)) ∧ Box1 W (bn + 1) (cntFn bn bo bp bm)
theorem ExtW.set {W : World} {bn bo bp bm N M v : Nat} {ps : List Int} (h : ExtW W bn bo bp bm N M v ps) (v' : Nat) : ExtW (W.setCell ⟨bn, 0, none⟩ (.int .i64 (v' : Int))) bn bo bp bm N M v' ps := by
  obtain ⟨⟨h1, h2, h3⟩, h4, h5, h6, h7, h8⟩ := h
  exact ⟨⟨h1, h2, h3⟩, cell_other h4 (by show bo ≠ bn; omega) _, h5.other _ (by show bp ≠ bn; omega) _, cell_other h6 (by show bm ≠ bn; omega) _, h7.set _, h8.other _ (by show bn + 1 ≠ bn; omega) _⟩

theorem count_any {es : List (Int × Int)} {N M : Nat} {ps : List Int} {bn bo bp bm : Nat} (hv : ValidO N es) (hps : PastOf es ps) (hM : M ≤ 1000) :
    ∀ (left : Nat) (p : List Int) (dv : Int) (v : Nat) (W : World), left ≤ 60 → BitsOf dv p → v < M → ExtW W bn bo bp bm N M v ps →
    Calls Tryd.prog 38 #[.int .u64 dv, .int .i64 (left : Int), .pointer (some ⟨bn, 0, none⟩), .pointer (some ⟨bo, 0, none⟩), .pointer (some ⟨bp, 0, none⟩), .pointer (some ⟨bm, 0, none⟩), .pointer (some ⟨bn + 1, 0, none⟩)] W
      fun e W' => e = .returned (.tuple #[]) ∧ ExtW W' bn bo bp bm N M (min M (v + cntE es N left p)) ps ∧ Below bn W W' := by
  intro left
  induction left with
  | zero =>
    intro p dv v W hl hd hvm hW
    obtain ⟨h0, h4, h5, h6, h7, h8⟩ := hW
    obtain ⟨q0, q1⟩ := h7.cells
    have hst := ExtW.set ⟨h0, h4, h5, h6, h7, h8⟩ (min M (v + cntE es N 0 p))
    have e1 : ((min M (v + cntE es N 0 p) : Nat) : Int) = (v : Int) + 1 := by
      have : cntE es N 0 p = 1 := rfl
      rw [this]
      omega
    rw [e1] at hst
    have hB : Below bn W (W.setCell ⟨bn, 0, none⟩ (.int .i64 ((v : Int) + 1))) := (Below.refl _ _).setCell (p := ⟨bn, 0, none⟩) (Nat.le_refl _) _
    replace hst := Lib.hid hst
    clear e1
    go_enter Tryd.func38, Tryd.ntmps38
    go_wp2
    refine bodyPost_ret (results_none rfl _ _ _) rfl ?_
    exact ⟨rfl, hst.out, hB⟩
  | succ left ih =>
    intro p dv v W hl hd hvm hW
    have hN60 : N ≤ 60 := by have := hv.1.2; omega
    have hpl := hps.1
    have dl : ((left : Int) + 1 == 0) = false := by simp; omega
    have c0 := hW.2.1
    have HW := Lib.hid hW
    have IH := Lib.hid ih
    have HD := Lib.hid hd
    have HV := Lib.hid hv
    have HPS := Lib.hid hps
    clear hW ih hd hv hps
    rw [show ((left + 1 : Nat) : Int) = (left : Int) + 1 by omega]
    go_enter Tryd.func38, Tryd.ntmps38
    go_wp2_with (fail)
    go_loopw [16] (fun c W' => ∃ (j vj : Nat), j ≤ N ∧ c = .int .i64 (j : Int) ∧ Hid (vj = min M (v + cntS es N left p j)) ∧ ExtW W' bn bo bp bm N M vj ps ∧ Below bn W W') (fun c _ => N - (intOf c).toNat)
    case atStart => exact ⟨0, v, Nat.zero_le _, rfl, Lib.hid (by rw [cntS_zero]; omega), HW.out, Below.refl _ _⟩
    case round =>
      obtain ⟨j, vj, hj, rfl, Hj, hX, hB⟩ := hrel
      by_cases hlt : j < N
      · have dlt : decide ((j : Int) < N) = true := decide_eq_true (by omega)
        obtain ⟨h0, h4, h5, h6, h7, h8⟩ := hX
        obtain ⟨q0, q1⟩ := h7.cells
        obtain ⟨f0, -⟩ := h8.cells
        have hj60 : j < 60 := by omega
        obtain ⟨hcp, -⟩ := h5.cell j (by rw [hpl]; exact hj60)
        have hd0 := HD.out.1.1
        have hd1 := HD.out.1.2
        by_cases hmem : (j : Int) ∈ p
        · have t3 := (HD.out.test0 hj60).1 hmem
          have hno := Lib.hid (cntS_no (N := N) (left := left) (fun h : Rdy2 es p j => h.1 hmem))
          clear hmem
          go_wp2
          go_roundw
          case rel => exact ⟨j + 1, vj, hlt, by go_num, Lib.hid (by rw [hno.out]; exact Hj.out), ⟨h0, h4, h5, h6, h7, h8⟩, hB⟩
          case measure => simp [intOf]; omega
        have t3 := (HD.out.test0 hj60).2 hmem
        by_cases hpre : PreIn es p j
        · have t4 := (HD.out.pre HV.out HPS.out hj60).1 hpre
          have hyes := Lib.hid (cntS_yes (N := N) (left := left) (show Rdy2 es p j from ⟨hmem, hpre⟩))
          have hd2 := Lib.hid (HD.out.snoc hj60)
          clear hmem hpre
          by_cases hvj : vj < M
          · have t5 : decide ((vj : Int) < M) = true := decide_eq_true (by omega)
            obtain ⟨v2, hv2⟩ : ∃ v2, min M (vj + cntE es N left (p ++ [(j : Int)])) = v2 := ⟨_, rfl⟩
            obtain ⟨d2, hdd⟩ : ∃ d2, bits .or .u64 dv (IntKind.u64.wrap (2 ^ j)) = d2 := ⟨_, rfl⟩
            rw [hdd] at hd2
            have hih := fun W' h => IH.out (p ++ [(j : Int)]) d2 vj W' (by omega) hd2.out hvj h
            rw [hv2] at hih
            have HIH := Lib.hid hih
            have HV2 := Lib.hid hv2
            have hlw : (left : Int) + 1 - 1 = left := by omega
            clear hih hv2
            go_wp2
            obtain ⟨S, hSd⟩ : ∃ S : (Nat → Bool) → (Nat → Value) → World → Prop, S = fun L f W' => Below bn W W' ∧ stage L f W' (fun W' => ExtW W' bn bo bp bm N M vj ps) [(7, fun _ W' => ExtW W' bn bo bp bm N M v2 ps)] := ⟨_, rfl⟩
            refine wp_region_st mixed (by kernel_rfl) [[], [], [], [(2, 39)], [(1, 38), (3, 40)], [], [(5, 42)], [(0, 37), (4, 41), (6, 43)]] [(0, 37), (1, 38), (2, 39), (3, 40), (4, 41), (5, 42), (6, 43), (7, 44)] rfl rfl [EV ?e0, EV ?e1, EV ?e2, EV ?e3, EV ?e4, EV ?e5, EV ?e6, fun _ => True] S ?start ?steps ?rest
            case start =>
              intro f
              rw [hSd]
              exact ⟨hB.drew, ⟨h0, h4, h5, h6, h7, h8⟩⟩
            case steps =>
              refine ⟨fun L f W hi hd hdn hh hS => ?_, fun L f W hi hd hdn hh hS => ?_, fun L f W hi hd hdn hh hS => ?_, fun L f W hi hd hdn hh hS => ?_, fun L f W hi hd hdn hh hS => ?_, fun L f W hi hd hdn hh hS => ?_, fun L f W hi hd hdn hh hS => ?_, fun L f W hi hd hdn hh hS => ?_, trivial⟩
              · -- 0: Op.load 63 (Operand.tmp 6)
                have l7 : L 7 = false := Bool.eq_false_iff.2 fun h => by have q := hdn 7 _ h rfl 0 (by decide); rw [show L 0 = false from hi] at q; cases q
                unfold stStep
                rw [if_pos (by simp [Region.wanted])]
                intro K Q hK
                simp only [puts, List.foldr_nil]
                have hS' := hS
                rw [hSd] at hS'
                simp only [stage, l7, if_false, Bool.false_eq_true] at hS'
                obtain ⟨f0', -⟩ := hS'.2.2.2.2.2.2.cells
                unfold cntFn at f0'
                go_step
                refine st_ex hK rfl rfl (by simp only [Act.put, List.setIfInBounds_toArray, List.set_cons_succ, List.set_cons_zero, Array.getD_eq_getD_getElem?, List.getElem?_toArray, List.getElem?_cons_succ, List.getElem?_cons_zero, Option.getD_some] <;> rfl) rfl (by rw [hSd] at hS ⊢; exact hS)
              · -- 1: Op.move (Operand.tmp 0)
                unfold stStep
                rw [if_pos (by simp [Region.wanted])]
                intro K Q hK
                simp only [puts, List.foldr_nil]
                go_step
                refine st_ex hK rfl rfl (by simp only [Act.put, List.setIfInBounds_toArray, List.set_cons_succ, List.set_cons_zero, Array.getD_eq_getD_getElem?, List.getElem?_toArray, List.getElem?_cons_succ, List.getElem?_cons_zero, Option.getD_some] <;> rfl) rfl (by rw [hSd] at hS ⊢; exact hS)
              · -- 2: Op.move (Operand.tmp 9)
                unfold stStep
                rw [if_pos (by simp [Region.wanted])]
                intro K Q hK
                simp only [puts, List.foldr_nil]
                go_step
                refine st_ex hK rfl rfl (by simp only [Act.put, List.setIfInBounds_toArray, List.set_cons_succ, List.set_cons_zero, Array.getD_eq_getD_getElem?, List.getElem?_toArray, List.getElem?_cons_succ, List.getElem?_cons_zero, Option.getD_some] <;> rfl) rfl (by rw [hSd] at hS ⊢; exact hS)
              · -- 3: Op.binOp BinOp.shl 54 (Operand.const (Value.int IntKind.u64 1)) (Operand.tmp 39) 3
                obtain ⟨h2, -⟩ := hh
                have g2 : f 2 = _ := h2
                unfold stStep
                rw [if_pos (by simp [Region.wanted])]
                intro K Q hK
                simp only [puts, List.foldr_cons, List.foldr_nil, List.setIfInBounds_toArray, List.set_cons_succ, List.set_cons_zero, g2]
                go_step
                refine st_ex hK rfl rfl (by simp only [Act.put, List.setIfInBounds_toArray, List.set_cons_succ, List.set_cons_zero, Array.getD_eq_getD_getElem?, List.getElem?_toArray, List.getElem?_cons_succ, List.getElem?_cons_zero, Option.getD_some] <;> rfl) rfl (by rw [hSd] at hS ⊢; exact hS)
              · -- 4: Op.binOp BinOp.or 54 (Operand.tmp 38) (Operand.tmp 40) 54
                obtain ⟨h1, h3, -⟩ := hh
                have g1 : f 1 = _ := h1
                have g3 : f 3 = _ := h3
                unfold stStep
                rw [if_pos (by simp [Region.wanted])]
                intro K Q hK
                simp only [puts, List.foldr_cons, List.foldr_nil, List.setIfInBounds_toArray, List.set_cons_succ, List.set_cons_zero, g1, g3]
                go_step
                refine st_ex hK rfl rfl (by simp only [Act.put, List.setIfInBounds_toArray, List.set_cons_succ, List.set_cons_zero, Array.getD_eq_getD_getElem?, List.getElem?_toArray, List.getElem?_cons_succ, List.getElem?_cons_zero, Option.getD_some] <;> rfl) rfl (by rw [hSd] at hS ⊢; exact hS)
              · -- 5: Op.move (Operand.tmp 1)
                unfold stStep
                rw [if_pos (by simp [Region.wanted])]
                intro K Q hK
                simp only [puts, List.foldr_nil]
                go_step
                refine st_ex hK rfl rfl (by simp only [Act.put, List.setIfInBounds_toArray, List.set_cons_succ, List.set_cons_zero, Array.getD_eq_getD_getElem?, List.getElem?_toArray, List.getElem?_cons_succ, List.getElem?_cons_zero, Option.getD_some] <;> rfl) rfl (by rw [hSd] at hS ⊢; exact hS)
              · -- 6: Op.binOp BinOp.sub 3 (Operand.tmp 42) (Operand.const (Value.int IntKind.i64 1)) 3
                obtain ⟨h5, -⟩ := hh
                have g5 : f 5 = _ := h5
                unfold stStep
                rw [if_pos (by simp [Region.wanted])]
                intro K Q hK
                simp only [puts, List.foldr_cons, List.foldr_nil, List.setIfInBounds_toArray, List.set_cons_succ, List.set_cons_zero, g5]
                go_step
                refine st_ex hK rfl rfl (by simp only [Act.put, List.setIfInBounds_toArray, List.set_cons_succ, List.set_cons_zero, Array.getD_eq_getD_getElem?, List.getElem?_toArray, List.getElem?_cons_succ, List.getElem?_cons_zero, Option.getD_some] <;> rfl) rfl (by rw [hSd] at hS ⊢; exact hS)
              · -- 7: Op.call { callee := Callee.value (Operand.tmp 37), args := #[Operand.tmp 41, Operand.tmp 4
                obtain ⟨h0, h4, h6, -⟩ := hh
                have g0 : f 0 = _ := h0
                have g4 : f 4 = _ := h4
                have g6 : f 6 = _ := h6
                unfold stStep
                rw [if_pos (by simp [Region.wanted])]
                intro K Q hK
                simp only [puts, List.foldr_cons, List.foldr_nil, List.setIfInBounds_toArray, List.set_cons_succ, List.set_cons_zero, g0, g4, g6]
                rw [hSd] at hS hK
                have l7 : L 7 = false := hi
                try simp only [stage, l7, if_true, if_false, Bool.false_eq_true] at hS
                obtain ⟨hBW, hXW⟩ := hS
                go_step
                go_at_call 38
                refine (HIH.out W hXW).mono ?_
                rintro e w' ⟨rfl, hX', hB'⟩
                refine hK.out _ _ rfl trivial ?_
                exact ⟨hBW.trans hB', hX'⟩
            case rest =>
              intro L f W2 hL hh hS
              rw [hSd] at hS
              clear hSd
              have l7 : L 7 = true := hL 7 (by decide)
              simp only [stage, l7, if_true] at hS
              clear hL l7
              obtain ⟨h0, h1, h2, h3, h4, h5, h6, h7, -⟩ := hh
              have g0 : f 0 = _ := h0
              have g1 : f 1 = _ := h1
              have g2 : f 2 = _ := h2
              have g3 : f 3 = _ := h3
              have g4 : f 4 = _ := h4
              have g5 : f 5 = _ := h5
              have g6 : f 6 = _ := h6
              obtain ⟨z7, g7⟩ : ∃ z, f 7 = z := ⟨_, rfl⟩
              simp only [puts, List.foldr_cons, List.foldr_nil, List.setIfInBounds_toArray, List.set_cons_succ, List.set_cons_zero, g0, g1, g2, g3, g4, g5, g6, g7]
              clear h0 h1 h2 h3 h4 h5 h6 g0 g1 g2 g3 g4 g5 g6
              obtain ⟨hBW, hXW⟩ := hS
              go_wp2
              go_roundw
              case rel => exact ⟨j + 1, v2, hlt, by go_num, Lib.hid (by rw [hyes.out, ← HV2.out]; have := Hj.out; omega), hXW, hBW⟩
              case measure => simp [intOf]; omega
          · have t5 : decide ((vj : Int) < M) = false := decide_eq_false (by omega)
            go_wp2
            go_roundw
            case rel => exact ⟨j + 1, vj, hlt, by go_num, Lib.hid (by rw [hyes.out]; have := Hj.out; omega), ⟨h0, h4, h5, h6, h7, h8⟩, hB⟩
            case measure => simp [intOf]; omega
        · have t4 := (HD.out.pre HV.out HPS.out hj60).2 hpre
          have hno := Lib.hid (cntS_no (N := N) (left := left) (fun h : Rdy2 es p j => hpre h.2))
          clear hmem hpre
          go_wp2
          go_roundw
          case rel => exact ⟨j + 1, vj, hlt, by go_num, Lib.hid (by rw [hno.out]; exact Hj.out), ⟨h0, h4, h5, h6, h7, h8⟩, hB⟩
          case measure => simp [intOf]; omega
      · obtain rfl : j = N := by omega
        have dlt : decide ((j : Int) < j) = false := decide_eq_false (by omega)
        have hfin : Hid (ExtW wr bn bo bp bm j M (min M (v + cntE es j (left + 1) p)) ps) := Lib.hid (by rw [cntS_full, ← Hj.out]; exact hX)
        clear hX
        go_wp2
        go_end0
        exact ⟨rfl, hfin.out, hB⟩
end Go.Proofs.YtofnbndpoiohhaaDoor
