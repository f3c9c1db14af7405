/-
  Condense of the program.
-/
import Derived.Test.YtlogmgkjikamaaaGraLx
import Derived.Test.YtlogmgkjikamaaaGraT
import Derived.Test.YtlogmgkjikamaaaFam2
import Derived.Deep.QuietTactic
import Derived.BigQuiet
set_option linter.unusedSimpArgs false
set_option linter.unusedVariables false
set_option maxHeartbeats 4000000
namespace Go.Proofs.Ytlogmgkjikamaaa
open Go.RowKit
attribute [local go_sem] Oper.semAt_some

variable {a : Option Addr} {len cap : Nat} {g : List (List Int)} {w : World}

/-- The edges between components, in the order in which they are met. -/
def ceRow (f : Nat → Nat) (l : List Int) (i : Nat) : List (Int × Int) := (l.filter fun z => decide (f i ≠ f z.toNat)).map fun z => ((f i : Int), (f z.toNat : Int))
def ceTo (f : Nat → Nat) (g : List (List Int)) (i : Nat) : List (Int × Int) := (List.range i).flatMap fun r => ceRow f (gr g r) r
theorem ceTo_succ (f : Nat → Nat) (g : List (List Int)) (i : Nat) : ceTo f g (i + 1) = ceTo f g i ++ ceRow f (gr g i) i := by unfold ceTo; rw [List.range_succ, List.flatMap_append]; simp
theorem ceRow_yes {f : Nat → Nat} {l : List Int} {i k x : Nat} (hk : k < l.length) (hx : gi l k = (x : Int)) (h : f i ≠ f x) : ceRow f (l.take (k + 1)) i = ceRow f (l.take k) i ++ [((f i : Int), (f x : Int))] := by
  unfold ceRow
  rw [take_succ_gi l k hk, hx, List.filter_append, List.map_append]
  simp [h]
theorem ceRow_no {f : Nat → Nat} {l : List Int} {i k x : Nat} (hk : k < l.length) (hx : gi l k = (x : Int)) (h : f i = f x) : ceRow f (l.take (k + 1)) i = ceRow f (l.take k) i := by
  unfold ceRow
  rw [take_succ_gi l k hk, hx, List.filter_append, List.map_append]
  simp [h]
theorem ceRow_len (f : Nat → Nat) (l : List Int) (i : Nat) : (ceRow f l i).length ≤ l.length := by unfold ceRow; rw [List.length_map]; exact List.length_filter_le _ _
theorem ceTo_len {f : Nat → Nat} {g : List (List Int)} (hv : ValidG g) : ∀ i, i ≤ g.length → (ceTo f g i).length ≤ i * 400
  | 0, _ => by simp [ceTo]
  | i + 1, h => by
    have h1 := ceTo_len (f := f) hv i (by omega)
    have h2 := row_len4 hv (i := i) (by omega)
    have h3 := ceRow_len f (gr g i) i
    rw [ceTo_succ, List.length_append]
    omega
theorem mem_ceRow {f : Nat → Nat} {l : List Int} {i : Nat} {e : Int × Int} : e ∈ ceRow f l i ↔ ∃ z ∈ l, f i ≠ f z.toNat ∧ e = ((f i : Int), (f z.toNat : Int)) := by
  unfold ceRow
  rw [List.mem_map]
  constructor
  · rintro ⟨z, hz, rfl⟩
    rw [List.mem_filter] at hz
    exact ⟨z, hz.1, of_decide_eq_true hz.2, rfl⟩
  · rintro ⟨z, h1, h2, rfl⟩
    exact ⟨z, List.mem_filter.2 ⟨h1, decide_eq_true h2⟩, rfl⟩
theorem mem_ceTo {f : Nat → Nat} {g : List (List Int)} {i : Nat} {e : Int × Int} : e ∈ ceTo f g i ↔ ∃ r, r < i ∧ ∃ z ∈ gr g r, f r ≠ f z.toNat ∧ e = ((f r : Int), (f z.toNat : Int)) := by
  unfold ceTo
  rw [List.mem_flatMap]
  constructor
  · rintro ⟨r, hr, h⟩
    exact ⟨r, List.mem_range.1 hr, mem_ceRow.1 h⟩
  · rintro ⟨r, hr, h⟩
    exact ⟨r, List.mem_range.2 hr, mem_ceRow.2 h⟩
theorem ceTo_in {f : Nat → Nat} {g : List (List Int)} {M : Nat} (hv : ValidG g) (hf : ∀ x, x < g.length → f x < M) : InN M (ceTo f g g.length) := by
  intro e he
  obtain ⟨r, hr, z, hz, -, rfl⟩ := mem_ceTo.1 he
  have hb := (hv.2 _ (gr_mem hr)).2 z hz
  have h1 := hf r hr
  have h2 := hf z.toNat (by omega)
  exact ⟨⟨by simp, by simpa using h1⟩, by simp, by simpa using h2⟩
/-- The graph of the components. -/
noncomputable def condG (g : List (List Int)) : List (List Int) := makeG (compG g).length (ceTo (ix (both (GE g))) g g.length)
noncomputable def cdR (g : List (List Int)) : List (List Int) := if validGB g = true then condG g else []
theorem condG_length (g : List (List Int)) : (condG g).length = (compG g).length := graphE_length _ _

set_option maxRecDepth 20000 in
theorem condense_ok (hg : IsRows w a len cap g) (hv : ValidG g) :
    Calls Try.prog 17 #[.slice a len cap] w fun e w' => GRes (condG g) 0 e w' ∧ Below w.heap.size w w' := by
  have hval := valid_any hg
  rw [validGB_yes hv] at hval
  have HL := Lib.hid hg.length
  have hN4 : len ≤ 400 := by rw [← HL.out]; exact hv.1
  have HV := Lib.hid hv
  have hcm := components_any hg hv
  clear hv
  go_enter Try.func17, Try.ntmps17
  go_wp2_with (go_at_call 32; refine hval.mono ?_; rintro e w' ⟨rfl, rfl⟩)
  go_at_call 34
  refine hcm.mono ?_
  rintro e w1 ⟨ao, co, ms, zc, rfl, hG, hzl, hoc, hzc, hb1⟩
  clear hcm hval hG
  have hIc := (IsInts.of_owns hoc).1
  obtain ⟨f, hf⟩ : ∃ f, ix (both (GE g)) = f := ⟨_, rfl⟩
  obtain ⟨M, hM⟩ : ∃ M, (rts (both (GE g)) len).length = M := ⟨_, rfl⟩
  rw [hf] at hzc
  rw [hM]
  have hM4 : M ≤ 400 := by rw [← hM]; have := rts_len (both (GE g)) len; omega
  have HFM : Hid (∀ x, x < len → f x < M) := Lib.hid (fun x hx => by rw [← hf, ← hM]; exact ix_lt (eqv_both _) hx)
  have HCG : Hid (condG g = makeG M (ceTo f g len)) := Lib.hid (by unfold condG; rw [hf, compG_length, HL.out, hM])
  have HG0 : Hid (∀ W, Below w1.heap.size w1 W → IsRows W a len cap g ∧ ∀ x, x < len → W.cell? ⟨w.heap.size, x, none⟩ = some (.int .i64 ((f x : Nat) : Int))) := Lib.hid (fun W h => ⟨(hg.later hb1).later h, fun x hx => by
    have h1 := (hIc.later h).row.get x hx
    rw [Nat.zero_add, hzc x hx] at h1
    exact h1⟩)
  have HB1 := Lib.hid hb1
  clear hzc hIc hoc hzl hf hM hg hb1
  go_wp2_with (fail)
  go_loopw [6, 21] (fun v c W => ∃ (i : Nat) (ps : List (Int × Int)) (ae : Option Addr) (ce : Nat), i ≤ len ∧ c = .int .i64 (i : Int) ∧ v = .slice ae ps.length ce ∧ Hid (ps = ceTo f g i) ∧ W.ownsRow w1.heap.size 56 2 (.slice ae ps.length ce) ps.length (pvs ps) ∧ Below w1.heap.size w1 W) (fun _ c _ => len - (intOf c).toNat)
  case atStart => exact ⟨0, [], none, 0, Nat.zero_le _, rfl, rfl, Lib.hid rfl, World.ownsRow_nil _ _ _ _, Below.refl _ _⟩
  case round =>
    obtain ⟨i, ps, ae, ce, hi, rfl, rfl, HP, ho, hB⟩ := hrel
    rcases Nat.lt_or_ge i len with hlt | hge
    · have t1 : decide ((i : Int) < len) = true := decide_eq_true (by omega)
      obtain ⟨b, off, ai, li, ci, rfl, hcell, hrow⟩ := (HG0.out _ (Below.refl _ _)).1.fix i hlt
      have hc := hcell wr hB
      have HRL : Hid ((gr g i).length = li) := Lib.hid hrow.length
      have hli : li ≤ 400 := by rw [← HRL.out]; exact row_len4 HV.out (by rw [HL.out]; exact hlt)
      have hP0 : Hid (ps = ceTo f g i ++ ceRow f ((gr g i).take 0) i) := Lib.hid (by rw [HP.out]; simp [ceRow])
      have HLI := Lib.hid hli
      clear hcell
      go_wp2_with (fail)
      clear hc
      go_loopw [6, 28] (fun v c W => ∃ (j : Nat) (ps : List (Int × Int)) (ae : Option Addr) (ce : Nat), j ≤ li ∧ c = .int .i64 (j : Int) ∧ v = .slice ae ps.length ce ∧ Hid (ps = ceTo f g i ++ ceRow f ((gr g i).take j) i) ∧ W.ownsRow w1.heap.size 56 2 (.slice ae ps.length ce) ps.length (pvs ps) ∧ Below w1.heap.size w1 W) (fun _ c _ => li - (intOf c).toNat)
      case atStart => exact ⟨0, ps, ae, ce, Nat.zero_le _, rfl, rfl, hP0, ho, hB⟩
      case round =>
        clear ho hB hP0 HP
        obtain ⟨j, ps, ae, ce, hj, rfl, rfl, HP, ho, hB⟩ := hrel
        rcases Nat.lt_or_ge j li with hjl | hjg
        · have t2 : decide ((j : Int) < li) = true := decide_eq_true (by omega)
          obtain ⟨br, o2, rfl, hcz⟩ := hrow.fix j hjl
          have hz := hcz wr hB
          have hjL : j < (gr g i).length := by rw [HRL.out]; exact hjl
          have hxr := (HV.out.2 _ (gr_mem (g := g) (i := i) (by rw [HL.out]; exact hlt))).2 _ (gi_mem (gr g i) j hjL)
          rw [HL.out] at hxr
          obtain ⟨x, hx⟩ := Int.eq_ofNat_of_zero_le hxr.1
          rw [hx] at hxr hz
          have hxk : x < len := by omega
          have hpl : Hid (ps.length ≤ 200000) := Lib.hid (by
            have h1 := ceTo_len (f := f) HV.out i (by rw [HL.out]; omega)
            have h3 := HLI.out
            have h4 := ceRow_len f ((gr g i).take j) i
            rw [HP.out, List.length_append]
            rw [List.length_take] at h4
            omega)
          have hs1 := hB.size
          obtain ⟨A, hA⟩ : ∃ A, f i = A := ⟨_, rfl⟩
          obtain ⟨Y, hY⟩ : ∃ Y, f x = Y := ⟨_, rfl⟩
          have HF : Hid (∀ W, Below w1.heap.size w1 W → W.cell? ⟨w.heap.size, i, none⟩ = some (.int .i64 (A : Int)) ∧ W.cell? ⟨w.heap.size, x, none⟩ = some (.int .i64 (Y : Int))) := Lib.hid (fun W h => by
            have h1 := (HG0.out W h).2
            rw [← hA, ← hY]
            exact ⟨h1 i hlt, h1 x hxk⟩)
          by_cases hAY : A = Y
          · have d1 : ((A : Int) != (Y : Int)) = false := by simp [hAY]
            have HP2 : Hid (ps = ceTo f g i ++ ceRow f ((gr g i).take (j + 1)) i) := Lib.hid (by rw [HP.out, ceRow_no hjL hx (by rw [hA, hY]; exact hAY)])
            have HS1 := Lib.hid hs1
            clear hcz hx hxr hA hY hAY hjL hs1
            go_wp2_with (fail)
            obtain ⟨q1, q2⟩ := HF.out wr hB
            go_quiet (fail)
            have hdn := below_drewN wr nq
            replace ho := ho.kept_below hdn
            replace hB := hB.trans (hdn.mono HS1.out)
            clear q1 q2
            go_wp2
            go_roundw
            case rel => exact ⟨j + 1, ps, ae, ce, hjl, by go_num, rfl, HP2, ho, hB⟩
            case measure => simp [intOf]; omega
          · have d1 : ((A : Int) != (Y : Int)) = true := by simp; omega
            have HP2 : Hid (ps ++ [((A : Int), (Y : Int))] = ceTo f g i ++ ceRow f ((gr g i).take (j + 1)) i) := Lib.hid (by rw [HP.out, ceRow_yes hjL hx (by rw [hA, hY]; exact hAY), List.append_assoc, hA, hY])
            have HS1 := Lib.hid hs1
            clear hcz hx hxr hA hY hAY hjL hs1
            go_wp2_with (fail)
            obtain ⟨q1, q2⟩ := HF.out wr hB
            go_quiet (fail)
            have hdn := below_drewN wr nq
            replace ho := ho.kept_below hdn
            replace hB := hB.trans (hdn.mono HS1.out)
            have HS2 : Hid (w1.heap.size ≤ (wr.drewN nq).heap.size) := Lib.hid HS1.out
            clear q1 q2
            go_wp2_with (fail)
            obtain ⟨S, hSd⟩ : ∃ S : (Nat → Bool) → (Nat → Value) → World → Prop, S = fun L f W => Below w1.heap.size w1 W ∧ w1.heap.size ≤ W.heap.size ∧ (L 10 = true → L 11 = false → ∃ q, f 10 = .slice (some ⟨q, 0, none⟩) 1 1 ∧ BlkAt W q #[.int .i64 (A : Int), .int .i64 (Y : Int)]) ∧ (if L 11 = true then W.ownsRow w1.heap.size 56 2 (f 11) (ps.length + 1) (pvs (ps ++ [((A : Int), (Y : Int))])) else W.ownsRow w1.heap.size 56 2 (.slice ae ps.length ce) ps.length (pvs ps)) ∧ (L 12 = true → f 12 = f 11) := ⟨_, rfl⟩
            refine wp_region_st mixed (by kernel_rfl) [[], [], [], [(1, 42), (2, 43)], [(3, 44)], [], [], [(5, 46), (6, 47)], [(7, 48)], [(4, 45), (8, 49)], [(9, 50)], [(0, 41), (10, 51)], [(11, 52), (11, 52), (0, 41), (1, 42), (2, 43), (3, 44), (4, 45), (5, 46), (6, 47), (7, 48), (8, 49), (9, 50), (10, 51), (11, 52)]] [(0, 41), (1, 42), (2, 43), (3, 44), (4, 45), (5, 46), (6, 47), (7, 48), (8, 49), (9, 50), (10, 51), (11, 52), (12, 6)] rfl rfl [EV ?e0, EV ?e1, EV ?e2, EV ?e3, EV ?e4, EV ?e5, EV ?e6, EV ?e7, EV ?e8, EV ?e9, fun v => ∃ b, v = .slice (some ⟨b, 0, none⟩) 1 1, fun v => ∃ a c, v = .slice a (ps.length + 1) c, fun v => ∃ a c, v = .slice a (ps.length + 1) c] S ?start ?steps ?rest
            case start =>
              intro f
              rw [hSd]
              exact ⟨hB.drew, HS2.out, fun h => (by cases h), ho.kept_below ((Below.refl _ _).drew), fun h => (by cases h)⟩
            case steps =>
              refine ⟨fun L f W hi hd hdn hh hS => ?_, fun L f W hi hd hdn hh hS => ?_, fun L f W hi hd hdn hh hS => ?_, fun L f W hi hd hdn hh hS => ?_, fun L f W hi hd hdn hh hS => ?_, fun L f W hi hd hdn hh hS => ?_, fun L f W hi hd hdn hh hS => ?_, fun L f W hi hd hdn hh hS => ?_, fun L f W hi hd hdn hh hS => ?_, fun L f W hi hd hdn hh hS => ?_, fun L f W hi hd hdn hh hS => ?_, fun L f W hi hd hdn hh hS => ?_, fun L f W hi hd hdn hh hS => ?_, trivial⟩
              · -- 0: Op.move (Operand.tmp 6)
                unfold stStep
                rw [if_pos (by simp [Region.wanted])]
                intro K Q hK
                simp only [puts, List.foldr_nil]
                go_step
                refine st_ex hK rfl rfl (by simp only [Act.put, List.setIfInBounds_toArray, List.set_cons_succ, List.set_cons_zero, Array.getD_eq_getD_getElem?, List.getElem?_toArray, List.getElem?_cons_succ, List.getElem?_cons_zero, Option.getD_some] <;> rfl) rfl (by rw [hSd] at hS ⊢; exact hS)
              · -- 1: Op.move (Operand.tmp 5)
                unfold stStep
                rw [if_pos (by simp [Region.wanted])]
                intro K Q hK
                simp only [puts, List.foldr_nil]
                go_step
                refine st_ex hK rfl rfl (by simp only [Act.put, List.setIfInBounds_toArray, List.set_cons_succ, List.set_cons_zero, Array.getD_eq_getD_getElem?, List.getElem?_toArray, List.getElem?_cons_succ, List.getElem?_cons_zero, Option.getD_some] <;> rfl) rfl (by rw [hSd] at hS ⊢; exact hS)
              · -- 2: Op.move (Operand.tmp 7)
                unfold stStep
                rw [if_pos (by simp [Region.wanted])]
                intro K Q hK
                simp only [puts, List.foldr_nil]
                go_step
                refine st_ex hK rfl rfl (by simp only [Act.put, List.setIfInBounds_toArray, List.set_cons_succ, List.set_cons_zero, Array.getD_eq_getD_getElem?, List.getElem?_toArray, List.getElem?_cons_succ, List.getElem?_cons_zero, Option.getD_some] <;> rfl) rfl (by rw [hSd] at hS ⊢; exact hS)
              · -- 3: Op.indexAddr 25 (Operand.tmp 42) (Operand.tmp 43)
                obtain ⟨h1, h2, -⟩ := hh
                have g1 : f 1 = _ := h1
                have g2 : f 2 = _ := h2
                unfold stStep
                rw [if_pos (by simp [Region.wanted])]
                intro K Q hK
                simp only [puts, List.foldr_cons, List.foldr_nil, List.setIfInBounds_toArray, List.set_cons_succ, List.set_cons_zero, g1, g2]
                go_step
                refine st_ex hK rfl rfl (by simp only [Act.put, List.setIfInBounds_toArray, List.set_cons_succ, List.set_cons_zero, Array.getD_eq_getD_getElem?, List.getElem?_toArray, List.getElem?_cons_succ, List.getElem?_cons_zero, Option.getD_some] <;> rfl) rfl (by rw [hSd] at hS ⊢; exact hS)
              · -- 4: Op.load 3 (Operand.tmp 44)
                obtain ⟨h3, -⟩ := hh
                have g3 : f 3 = _ := h3
                unfold stStep
                rw [if_pos (by simp [Region.wanted])]
                intro K Q hK
                simp only [puts, List.foldr_cons, List.foldr_nil, List.setIfInBounds_toArray, List.set_cons_succ, List.set_cons_zero, g3]
                have hS' := hS
                rw [hSd] at hS'
                obtain ⟨q1, q2⟩ := HF.out W hS'.1
                go_step
                refine st_ex hK rfl rfl (by simp only [Act.put, List.setIfInBounds_toArray, List.set_cons_succ, List.set_cons_zero, Array.getD_eq_getD_getElem?, List.getElem?_toArray, List.getElem?_cons_succ, List.getElem?_cons_zero, Option.getD_some] <;> rfl) rfl (by rw [hSd] at hS ⊢; exact hS)
              · -- 5: Op.move (Operand.tmp 5)
                unfold stStep
                rw [if_pos (by simp [Region.wanted])]
                intro K Q hK
                simp only [puts, List.foldr_nil]
                go_step
                refine st_ex hK rfl rfl (by simp only [Act.put, List.setIfInBounds_toArray, List.set_cons_succ, List.set_cons_zero, Array.getD_eq_getD_getElem?, List.getElem?_toArray, List.getElem?_cons_succ, List.getElem?_cons_zero, Option.getD_some] <;> rfl) rfl (by rw [hSd] at hS ⊢; exact hS)
              · -- 6: Op.move (Operand.tmp 10)
                unfold stStep
                rw [if_pos (by simp [Region.wanted])]
                intro K Q hK
                simp only [puts, List.foldr_nil]
                go_step
                refine st_ex hK rfl rfl (by simp only [Act.put, List.setIfInBounds_toArray, List.set_cons_succ, List.set_cons_zero, Array.getD_eq_getD_getElem?, List.getElem?_toArray, List.getElem?_cons_succ, List.getElem?_cons_zero, Option.getD_some] <;> rfl) rfl (by rw [hSd] at hS ⊢; exact hS)
              · -- 7: Op.indexAddr 25 (Operand.tmp 46) (Operand.tmp 47)
                obtain ⟨h5, h6, -⟩ := hh
                have g5 : f 5 = _ := h5
                have g6 : f 6 = _ := h6
                unfold stStep
                rw [if_pos (by simp [Region.wanted])]
                intro K Q hK
                simp only [puts, List.foldr_cons, List.foldr_nil, List.setIfInBounds_toArray, List.set_cons_succ, List.set_cons_zero, g5, g6]
                go_step
                refine st_ex hK rfl rfl (by simp only [Act.put, List.setIfInBounds_toArray, List.set_cons_succ, List.set_cons_zero, Array.getD_eq_getD_getElem?, List.getElem?_toArray, List.getElem?_cons_succ, List.getElem?_cons_zero, Option.getD_some] <;> rfl) rfl (by rw [hSd] at hS ⊢; exact hS)
              · -- 8: Op.load 3 (Operand.tmp 48)
                obtain ⟨h7, -⟩ := hh
                have g7 : f 7 = _ := h7
                unfold stStep
                rw [if_pos (by simp [Region.wanted])]
                intro K Q hK
                simp only [puts, List.foldr_cons, List.foldr_nil, List.setIfInBounds_toArray, List.set_cons_succ, List.set_cons_zero, g7]
                have hS' := hS
                rw [hSd] at hS'
                obtain ⟨q1, q2⟩ := HF.out W hS'.1
                go_step
                refine st_ex hK rfl rfl (by simp only [Act.put, List.setIfInBounds_toArray, List.set_cons_succ, List.set_cons_zero, Array.getD_eq_getD_getElem?, List.getElem?_toArray, List.getElem?_cons_succ, List.getElem?_cons_zero, Option.getD_some] <;> rfl) rfl (by rw [hSd] at hS ⊢; exact hS)
              · -- 9: Op.build 59 #[(0, Operand.tmp 45), (1, Operand.tmp 49)]
                obtain ⟨h4, h8, -⟩ := hh
                have g4 : f 4 = _ := h4
                have g8 : f 8 = _ := h8
                unfold stStep
                rw [if_pos (by simp [Region.wanted])]
                intro K Q hK
                simp only [puts, List.foldr_cons, List.foldr_nil, List.setIfInBounds_toArray, List.set_cons_succ, List.set_cons_zero, g4, g8]
                go_step
                refine st_ex hK rfl rfl (by simp only [Act.put, List.setIfInBounds_toArray, List.set_cons_succ, List.set_cons_zero, Array.getD_eq_getD_getElem?, List.getElem?_toArray, List.getElem?_cons_succ, List.getElem?_cons_zero, Option.getD_some] <;> rfl) rfl (by rw [hSd] at hS ⊢; exact hS)
              · -- 10: Op.buildSlice 50 1 #[(0, Operand.tmp 50)]
                obtain ⟨h9, -⟩ := hh
                have g9 : f 9 = _ := h9
                have l11 : L 11 = false := Bool.eq_false_iff.2 fun h => by have q := hdn 11 _ h rfl 10 (by decide); rw [show L 10 = false from hi] at q; cases q
                unfold stStep
                rw [if_pos (by simp [Region.wanted])]
                intro K Q hK
                simp only [puts, List.foldr_cons, List.foldr_nil, List.setIfInBounds_toArray, List.set_cons_succ, List.set_cons_zero, g9]
                rw [hSd] at hS hK
                have l10 : L 10 = false := hi
                try simp only [stage, l11, l10, if_true, if_false, Bool.false_eq_true] at hS
                obtain ⟨hbW, hsW, -, hGW, h12⟩ := hS
                have hal : Below W.heap.size W (W.alloc (.cells #[.int .i64 (A : Int), .int .i64 (Y : Int)] 56)) := (Below.refl _ _).alloc (Nat.le_refl _) _
                go_step
                refine hK.out _ _ rfl ⟨_, rfl⟩ ?_
                refine ⟨hbW.alloc hsW _, by rw [World.size_alloc]; omega, fun _ _ => ⟨_, rfl, BlkAt.new W _ _⟩, ?_, h12⟩
                simp only [l11, Bool.false_eq_true, ↓reduceIte, Nat.reduceEqDiff] at hGW ⊢
                exact hGW.kept_below hal
              · -- 11: Op.call { callee := Callee.builtin Builtin.append, args := #[Operand.tmp 41, Operand.tmp 5
                obtain ⟨h0, h10, -⟩ := hh
                have g0 : f 0 = _ := h0
                obtain ⟨b10, (g10 : f 10 = _)⟩ := h10
                have l10 : L 10 = true := hd 10 (by decide)
                have l12 : L 12 = false := Bool.eq_false_iff.2 fun h => by have q := hdn 12 _ h rfl 11 (by decide); rw [show L 11 = false from hi] at q; cases q
                unfold stStep
                rw [if_pos (by simp [Region.wanted])]
                intro K Q hK
                simp only [puts, List.foldr_cons, List.foldr_nil, List.setIfInBounds_toArray, List.set_cons_succ, List.set_cons_zero, g0, g10]
                rw [hSd] at hS hK
                have l11 : L 11 = false := hi
                try simp only [stage, l12, l11, l10, if_true, if_false, Bool.false_eq_true] at hS
                obtain ⟨hbW, hsW, h10, hGW, -⟩ := hS
                obtain ⟨q, e10, hq⟩ := h10 trivial trivial
                rw [g10] at e10
                obtain rfl : b10 = q := by simpa using e10
                try simp only [l11, if_false, Bool.false_eq_true] at hGW
                refine wp_app_blk elPr _ _ rfl rfl hGW rfl (news := [.int .i64 (A : Int), .int .i64 (Y : Int)]) ⟨rfl, fun ad e j u hj => by injection e with e; subst e; rw [addr_add, Nat.zero_add, (hq.cell j).1, ← hj]; simp, fun e => by cases e⟩ (by intro u hu; simp only [List.mem_cons, List.not_mem_nil, or_false] at hu; rcases hu with h | h <;> rw [h] <;> rfl) (by have := hpl.out; omega) hsW ?_
                intro a' c' w' ho5 hg5 hbw hblk
                refine hK.out _ _ rfl ⟨a', c', rfl⟩ ?_
                refine ⟨hbW.trans hbw, Nat.le_trans hsW hbw.size, fun _ h => (by simp at h), ?_, fun h => (by simp [l12] at h)⟩
                simp only [↓reduceIte]
                rw [pvs_append]
                exact ho5
              · -- 12: Op.assign (Operand.tmp 52)
                obtain ⟨h11, _, h0, h1, h2, h3, h4, h5, h6, h7, h8, h9, h10, _, -⟩ := hh
                obtain ⟨a11, c11, (g11 : f 11 = _)⟩ := h11
                have g0 : f 0 = _ := h0
                have g1 : f 1 = _ := h1
                have g2 : f 2 = _ := h2
                have g3 : f 3 = _ := h3
                have g4 : f 4 = _ := h4
                have g5 : f 5 = _ := h5
                have g6 : f 6 = _ := h6
                have g7 : f 7 = _ := h7
                have g8 : f 8 = _ := h8
                have g9 : f 9 = _ := h9
                obtain ⟨b10, (g10 : f 10 = _)⟩ := h10
                unfold stStep
                rw [if_pos (by simp [Region.wanted])]
                intro K Q hK
                simp only [puts, List.foldr_cons, List.foldr_nil, List.setIfInBounds_toArray, List.set_cons_succ, List.set_cons_zero, g11, g0, g1, g2, g3, g4, g5, g6, g7, g8, g9, g10]
                rw [hSd] at hS hK
                have l12 : L 12 = false := hi
                try simp only [stage, l12, if_true, if_false, Bool.false_eq_true] at hS
                obtain ⟨hbW, hsW, h10, hGW, -⟩ := hS
                go_step
                refine hK.out _ _ rfl ⟨_, _, rfl⟩ ?_
                exact ⟨hbW, hsW, h10, hGW, fun _ => g11.symm⟩
            case rest =>
              intro L f WA hL hh hS
              rw [hSd] at hS
              clear hSd
              have l10 : L 10 = true := hL 10 (by decide)
              have l11 : L 11 = true := hL 11 (by decide)
              have l12 : L 12 = true := hL 12 (by decide)
              simp only [stage, l10, l11, l12, if_true] at hS
              clear hL l10 l11 l12
              obtain ⟨h0, h1, h2, h3, h4, h5, h6, h7, h8, h9, h10, h11, h12, -⟩ := hh
              have g0 : f 0 = _ := h0
              have g1 : f 1 = _ := h1
              have g2 : f 2 = _ := h2
              have g3 : f 3 = _ := h3
              have g4 : f 4 = _ := h4
              have g5 : f 5 = _ := h5
              have g6 : f 6 = _ := h6
              have g7 : f 7 = _ := h7
              have g8 : f 8 = _ := h8
              have g9 : f 9 = _ := h9
              obtain ⟨b10, (g10 : f 10 = _)⟩ := h10
              obtain ⟨a11, c11, (g11 : f 11 = _)⟩ := h11
              obtain ⟨a12, c12, (g12 : f 12 = _)⟩ := h12
              simp only [puts, List.foldr_cons, List.foldr_nil, List.setIfInBounds_toArray, List.set_cons_succ, List.set_cons_zero, g0, g1, g2, g3, g4, g5, g6, g7, g8, g9, g10, g11, g12]
              clear h0 h1 h2 h3 h4 h5 h6 h7 h8 h9 g0 g1 g2 g3 g4 g5 g6 g7 g8 g9
              obtain ⟨hB5, hs5, -, ho5, he12⟩ := hS
              have he12 := he12 trivial
              rw [g11, g12] at he12
              injection he12 with e1 e2 e3
              subst e1 e3
              simp only [g11] at ho5
              go_wp2
              go_roundw
              case rel => exact ⟨j + 1, ps ++ [((A : Int), (Y : Int))], _, _, hjl, by go_num, by rw [List.length_append]; rfl, HP2, by rw [List.length_append]; exact ho5, hB5⟩
              case measure => simp [intOf]; omega
        · obtain rfl : j = li := by omega
          have t2 : decide ((j : Int) < j) = false := decide_eq_false (by omega)
          have HP2 : Hid (ps = ceTo f g (i + 1)) := Lib.hid (by rw [HP.out, ceTo_succ, List.take_of_length_le (by rw [HRL.out]; exact Nat.le_refl _)])
          go_wp2_with (fail)
          go_roundw
          case rel => exact ⟨i + 1, ps, ae, ce, hlt, by go_num, rfl, HP2, ho, hB⟩
          case measure => simp [intOf]; omega
    · obtain rfl : i = len := by omega
      have t1 : decide ((i : Int) < i) = false := decide_eq_false (by omega)
      obtain ⟨hI, -⟩ := IsPairs.of_owns ho
      have hpl : ps.length ≤ 1000000 := by
        have h1 := ceTo_len (f := f) HV.out i (by rw [HL.out]; omega)
        rw [HP.out]; omega
      have hs := sorted_any hM4 hI (by rw [HP.out]; have := ceTo_in HV.out (f := f) (M := M) (by rw [HL.out]; exact HFM.out); rwa [HL.out] at this) hpl
      rw [HP.out, ← HCG.out] at hs
      rw [← HP.out] at hs
      have hbF := HB1.out.trans (hB.mono HB1.out.size)
      clear ho hI hpl
      go_wp2_with (fail)
      go_at_call 37
      refine hs.mono ?_
      rintro e w2 ⟨ao2, co2, ms, rfl, hG, hb2⟩
      clear hs
      have hR := hG.read
      go_wp2
      go_ret2
      exact ⟨⟨_, _, _, rfl, hR, hM4⟩, hbF.trans (hb2.mono hbF.size)⟩

theorem condense_g (hg : IsRows w a len cap g) :
    Calls Try.prog 17 #[.slice a len cap] w fun e w' => GRes (cdR g) (bkE g) e w' ∧ Below w.heap.size w w' := by
  unfold cdR
  by_cases hv : ValidG g
  · rw [validGB_yes hv, bkE_yes hv]
    exact condense_ok hg hv
  · have hval := valid_any hg
    have hE : bkE g = 1 := by unfold bkE; rw [validGB_no hv]; rfl
    rw [validGB_no hv] at hval ⊢
    rw [hE]
    clear hv hE
    go_enter Try.func17, Try.ntmps17
    go_wp2_with (go_at_call 32; refine hval.mono ?_; rintro e w' ⟨rfl, rfl⟩)
    go_ret2
    exact ⟨⟨_, _, _, rfl, isRows_nil _, by omega⟩, Below.refl _ _⟩
end Go.Proofs.Ytlogmgkjikamaaa
