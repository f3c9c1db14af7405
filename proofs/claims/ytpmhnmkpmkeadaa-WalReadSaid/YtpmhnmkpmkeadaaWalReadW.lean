/-
  WalRead: the walk.
-/
import Derived.Test.YtpmhnmkpmkeadaaWalR
set_option linter.unusedSimpArgs false
set_option linter.unusedVariables false
set_option maxHeartbeats 8000000
namespace Go.Proofs.Ytpmhnmkpmkeadaa
open Go.RowKit

theorem stB_bytes {zs : List Int} (h : Bytes zs) (k : Nat) : (∀ r ∈ (stB zs k).recs, Bytes r) ∧ Bytes (stB zs k).now := by
  induction k with
  | zero => exact ⟨(fun r hr => by simp [stB, dec, stP] at hr), fun z hz => by simp [stB, dec, stP] at hz⟩
  | succ k ih =>
    have hx : Bytes (decP zs k).2 := ((hdB_bytes h k).drop _).take _
    rw [stB_succ, RS.step]
    split
    · refine ⟨fun r hr => ?_, fun z hz => by simp at hz⟩
      rcases List.mem_append.1 hr with hr | hr
      · exact ih.1 r hr
      · rw [List.mem_singleton.1 hr]
        exact ih.2.append hx
    · exact ⟨ih.1, ih.2.append hx⟩

set_option maxRecDepth 20000 in
theorem walRead_walk (a : Option Addr) (len cap : Nat) (zs : List Int) (sy kp : Int) (w : World) (hs : IsInts .u8 w a len cap zs) (hwz : ∀ n ∈ zs, (Lit.int .u8 n).wf = true) (hbig : cap * 1 ≤ 140737488351232) (hwy : (Lit.int .i64 sy).wf = true) (hwk : (Lit.int .i64 kp).wf = true) :
    Calls Try.prog 7 #[.slice a len cap, .int .i64 sy, .int .i64 kp] w fun e w' => e = .returned (.bool true) ∧ Below w.heap.size w w' := by
  have hb : Bytes zs := fun z hz => by have := bounds_u8 (hwz z hz); omega
  have hY := bounds_i64 hwy
  have hKK := bounds_i64 hwk
  clear hwz hwy hwk hbig
  have hcap := hs.cap
  unfold maxLen at hcap
  have HLz := Lib.hid hs.length
  go_enter Try.func7, Try.ntmps7
  go_wp2_with (fail)
  go_at_call 10
  refine (awake_any w).mono ?_
  rintro e w1 ⟨rfl, hb1⟩
  by_cases hbig : 1500 < len
  · have d0 : decide ((1500 : Int) < len) = true := decide_eq_true (by omega)
    clear hbig
    go_wp2_with (fail)
    go_ret
    exact ⟨rfl, hb1⟩
  have d0 : decide ((1500 : Int) < len) = false := decide_eq_false (by omega)
  have HB := Lib.hid (show len ≤ 100000 by omega)
  clear hbig
  have hs1 := hs.later hb1
  have hRd := Read_any _ _ _ _ _ hs1 hb HB.out
  go_wp2_with (fail)
  refine hRd.mono ?_
  clear hRd
  rintro e w2 ⟨k, e1, rv1, ev1, rfl, hR1, hS1, hb12⟩
  obtain ⟨ar1, cr1, hrv1, hrec1⟩ := hS1.recs
  subst hrv1
  have hb2 := hb1.trans (hb12.mono hb1.size)
  have hs2 := hs.later hb2
  have hRf := refRead_any _ _ _ _ _ hs2 hb HB.out
  obtain ⟨hbr, -⟩ := stB_bytes hb k
  have HR := Lib.hid hR1
  clear hR1 hS1
  obtain ⟨rs, hrs⟩ : ∃ rs, (stB zs k).recs = rs := ⟨_, rfl⟩
  obtain ⟨LD, hLD⟩ : ∃ LD, lastD (stB zs k).ends = LD := ⟨_, rfl⟩
  rw [hrs] at hbr hrec1 ⊢
  rw [hLD]
  have HRS := Lib.hid hrs
  have HLD := Lib.hid hLD
  clear hrs hLD
  go_wp2_with (fail)
  refine hRf.mono ?_
  clear hRf
  rintro e w3 ⟨k2, e2, rv2, rfl, hR2, hS2, hb23⟩
  obtain ⟨ar2, cr2, hrv2, hrec2⟩ := hS2.recs
  subst hrv2
  obtain ⟨rfl, rfl⟩ := HR.out.uniq hR2
  rw [HRS.out] at hrec2 ⊢
  rw [HLD.out]
  clear hR2 hS2
  have hb3 := hb2.trans (hb23.mono hb2.size)
  have hs3 := hs.later hb3
  have hOp := Open_any _ _ _ _ _ hs3 hb HB.out
  go_wp2_with (fail)
  refine hOp.mono ?_
  clear hOp
  rintro e w4 ⟨k3, e3, rv3, ev3, af3, cf3, U3, rfl, hR3, hU3, ho3, hS3, hb34⟩
  obtain ⟨ar3, cr3, hrv3, hrec3⟩ := hS3.recs
  subst hrv3
  obtain ⟨rfl, rfl⟩ := HR.out.uniq hR3
  rw [HRS.out] at hrec3 ⊢
  have hb4 := hb3.trans (hb34.mono hb3.size)
  have HU3 := Lib.hid hU3
  clear hR3 hS3 hU3
  obtain ⟨nr, hnr⟩ : ∃ nr, rs.length = nr := ⟨_, rfl⟩
  rw [hnr] at hrec1 hrec2 hrec3 ⊢
  clear hnr
  go_wp2_with (fail)
  obtain ⟨w5, hw5⟩ : ∃ w5, w4.alloc (.cells #[.slice af3 U3 cf3, .int .i64 (U3 : Int)] 26) = w5 := ⟨_, rfl⟩
  have hb45 : Below w4.heap.size w4 w5 := by rw [← hw5]; exact (Below.refl _ _).alloc (Nat.le_refl _) _
  have hX5 : Box2 w5 w4.heap.size (.slice af3 U3 cf3) (.int .i64 (U3 : Int)) := by rw [← hw5]; exact Box2.new _ _ _ _
  have hb5 := hb4.trans (hb45.mono hb4.size)
  have hs5 := hs.later hb5
  have hOp := refOpen_any _ _ _ _ _ hs5 hb HB.out
  rw [hw5]
  clear hw5
  refine hOp.mono ?_
  clear hOp
  rintro e w6 ⟨k4, e4, rv4, af4, cf4, U4, rfl, hR4, hU4, ho4, hS4, hb56⟩
  obtain ⟨ar4, cr4, hrv4, hrec4⟩ := hS4.recs
  subst hrv4
  obtain ⟨rfl, rfl⟩ := HR.out.uniq hR4
  rw [HRS.out] at hrec4 ⊢
  have hnr : rs.length = nr := by rw [← HRS.out]; exact hrec1.1 ▸ (by rw [HRS.out])
  rw [hnr] at hrec4 ⊢
  obtain rfl : U4 = U3 := by have := HU3.out; omega
  have hb6 := hb5.trans (hb56.mono hb5.size)
  clear hR4 hS4 HU3 hU4 hnr
  go_wp2_with (fail)
  obtain ⟨w7, hw7⟩ : ∃ w7, w6.alloc (.cells #[.slice af4 U4 cf4, .int .i64 (U4 : Int)] 46) = w7 := ⟨_, rfl⟩
  have hb67 : Below w6.heap.size w6 w7 := by rw [← hw7]; exact (Below.refl _ _).alloc (Nat.le_refl _) _
  have hY7 : Box2 w7 w6.heap.size (.slice af4 U4 cf4) (.int .i64 (U4 : Int)) := by rw [← hw7]; exact Box2.new _ _ _ _
  have hb7 := hb6.trans (hb67.mono hb6.size)
  have hb57 := hb56.trans (hb67.mono hb56.size)
  have hb47 := hb45.trans (hb57.mono hb45.size)
  have hX7 := hX5.later hb57
  have ho37 := ho3.kept_below hb47
  have ho47 := ho4.kept_below hb67
  have hb37 := hb34.trans (hb47.mono hb34.size)
  have hb27 := hb23.trans (hb37.mono hb23.size)
  have hsa := SameAll_any _ _ _ _ _ _ _ _ _ (hrec1.later hb27) (hrec2.later hb37) hbr hbr
  rw [decide_eq_true rfl] at hsa
  rw [hw7]
  clear hw7
  refine hsa.mono ?_
  clear hsa
  rintro e w8 ⟨rfl, hb78⟩
  have hb8 := hb7.trans (hb78.mono hb7.size)
  have hX8 := hX7.later hb78
  have hY8 := hY7.later hb78
  obtain ⟨x0, x1, -, -⟩ := hX8.cells
  obtain ⟨y0, y1, -, -⟩ := hY8.cells
  have h1 := run_toString w8 24 9 5 Try.underlying24 Try.underlying5 Try.underlying9 af3 U4 cf3 (zs.take U4) (IsInts.of_owns (ho37.kept_below hb78)).1
  have h2 := run_toString w8 24 9 5 Try.underlying24 Try.underlying5 Try.underlying9 af4 U4 cf4 (zs.take U4) (IsInts.of_owns (ho47.kept_below hb78)).1
  have hb48 := hb47.trans (hb78.mono hb47.size)
  have hb68 := hb67.trans (hb78.mono hb67.size)
  have hsa := SameAll_any _ _ _ _ _ _ _ _ _ (hrec3.later hb48) (hrec4.later hb68) hbr hbr
  rw [decide_eq_true rfl] at hsa
  clear hX5 hs5 hs1 hs2 hs3 hrec1 hrec2 hrec3 hrec4 ho3 ho4 ho37 ho47 hX7 hY7 HRS HLD
  go_wp2_with (fail)
  refine hsa.mono ?_
  clear hsa h1 h2 x0 x1 y0 y1 hX8 hY8
  rintro e w9 ⟨rfl, hb89⟩
  have hb9 := hb8.trans (hb89.mono hb8.size)
  have hbl : Below w9.heap.size w9 (w9.alloc (.cells #[] 5)) := (Below.refl _ _).alloc (Nat.le_refl _) _
  have hs9 := (hs.later hb9).later hbl
  go_wp2_with (first | (at_builtin; refine app_ints0 (k := .u8) (v := .slice (some ⟨w9.heap.size, 0, none⟩) 0 0) elU8 rfl _ _ rfl rfl (World.ownsRow_made _ _ _ (Nat.le_refl _) (by decide) rfl) rfl hs9 (by have := HB.out; omega) (by simp) ?_; intro a10 c10 w10 ho10 hgr10 hbel10 hnil10; clear hnil10 hgr10) | fail)
  obtain ⟨w11, hw11⟩ : ∃ w11, w10.alloc (.cells #[.slice a10 len c10, .int .i64 sy] 26) = w11 := ⟨_, rfl⟩
  have hb1011 : Below w10.heap.size w10 w11 := by rw [← hw11]; exact (Below.refl _ _).alloc (Nat.le_refl _) _
  have hZ11 : Box2 w11 w10.heap.size (.slice a10 len c10) (.int .i64 sy) := by rw [← hw11]; exact Box2.new _ _ _ _
  have hb910 : Below w9.heap.size w9 w10 := hbl.trans hbel10
  have hb911 := hb910.trans (hb1011.mono hb910.size)
  have hb11 := hb9.trans (hb911.mono hb9.size)
  have hs11 := hs.later hb11
  have hI11 := (IsInts.of_owns ho10).1.later hb1011
  rw [hw11]
  clear hw11 hs9 ho10 hbel10 hbl
  obtain ⟨B, hB⟩ : ∃ B : Bool, decide (e1 = 0 ∧ (sy = 0 ∨ sy ∈ (stB zs k).ends)) = B := ⟨_, rfl⟩
  have HBv := Lib.hid hB
  obtain ⟨cl, hcl⟩ : ∃ cl, crashL zs sy kp = cl := ⟨_, rfl⟩
  have HCL := Lib.hid hcl
  obtain ⟨n0, hn0⟩ : ∃ n0, cl.length = n0 := ⟨_, rfl⟩
  have HN0 := Lib.hid hn0
  clear hB hcl hn0
  refine wp_region_grow mixed (by kernel_rfl) [[], [(0, 86)], [], [], [(2, 88), (3, 89)], [(4, 90), (1, 87)], [(1, 87), (5, 91)], [(6, 92), (5, 91)], [(7, 93)], [(7, 93)], [(8, 94), (9, 95), (7, 93), (7, 93)], [(10, 96), (7, 93)], [(7, 93)], [(7, 93)], [(12, 98), (13, 99), (7, 93)], [(7, 93)], [(14, 100), (15, 101), (10, 96), (7, 93)], [(16, 102), (7, 93)], [(11, 97), (17, 103), (7, 93)], [(7, 93), (18, 104)], [(19, 105), (16, 102), (0, 86), (1, 87), (2, 88), (3, 89), (4, 90), (5, 91), (6, 92), (7, 93), (8, 94), (9, 95), (10, 96), (11, 97), (12, 98), (13, 99), (14, 100), (15, 101), (16, 102), (17, 103), (18, 104), (19, 105)]] [(0, 86), (1, 87), (2, 88), (3, 89), (4, 90), (5, 91), (6, 92), (7, 93), (8, 94), (9, 95), (10, 96), (11, 97), (12, 98), (13, 99), (14, 100), (15, 101), (16, 102), (17, 103), (18, 104), (19, 105), (20, 6)] rfl rfl [Ex ?e0, Ex (.bool B), Ex ?e2, Ex ?e3, Ex ?e4, Ex (.bool B), Ex (.bool true), Ex ?e7, Ex ?e8, Ex ?e9, SlP .u8 n0 cl, Ex ?e11, Ex ?e12, Ex ?e13, Ex ?e14, Ex ?e15, SlP .u8 n0 cl, Ex ?e17, Ex (.bool true), Ex ?e19, Ex ?e20] ⟨stays_ex _, stays_ex _, stays_ex _, stays_ex _, stays_ex _, stays_ex _, stays_ex _, stays_ex _, stays_ex _, stays_ex _, stays_sl _ _ _, stays_ex _, stays_ex _, stays_ex _, stays_ex _, stays_ex _, stays_sl _ _ _, stays_ex _, stays_ex _, stays_ex _, stays_ex _, trivial⟩ ?steps ?rest
  case steps =>
    refine ⟨fun f W hC hh => ?_, fun f W hC hh => ?_, fun f W hC hh => ?_, fun f W hC hh => ?_, fun f W hC hh => ?_, fun f W hC hh => ?_, fun f W hC hh => ?_, fun f W hC hh => ?_, fun f W hC hh => ?_, fun f W hC hh => ?_, fun f W hC hh => ?_, fun f W hC hh => ?_, fun f W hC hh => ?_, fun f W hC hh => ?_, fun f W hC hh => ?_, fun f W hC hh => ?_, fun f W hC hh => ?_, fun f W hC hh => ?_, fun f W hC hh => ?_, fun f W hC hh => ?_, fun f W hC hh => ?_, trivial⟩
    · -- 0: Op.load 26 (Operand.tmp 17)
      refine tab_plain fun K Q hK => ?_
      simp only [puts, List.foldr_nil]
      obtain ⟨q0, q1, -, -⟩ := (hZ11.later hC).cells
      go_step
      refine fam_ex hK rfl rfl (by simp only [Act.put, List.setIfInBounds_toArray, List.set_cons_succ, List.set_cons_zero, Array.getD_eq_getD_getElem?, List.getElem?_toArray, List.getElem?_cons_succ, List.getElem?_cons_zero, Option.getD_some] <;> rfl) rfl (Below.refl _ _) hC
    · -- 1: Op.call { callee := Callee.value (Operand.func 21), args := #[Operand.tmp 86], argTypes :=
      obtain ⟨h0, -⟩ := hh
      have g0 : f 0 = _ := h0
      refine tab_plain fun K Q hK => ?_
      simp only [puts, List.foldr_cons, List.foldr_nil, List.setIfInBounds_toArray, List.set_cons_succ, List.set_cons_zero, g0]
      go_step
      go_at_call 21
      refine (Valid_any _ _ _ _ _ _ (hI11.later hC) hb HB.out).mono ?_
      rintro e w' ⟨k', e', rfl, hR', hb'⟩
      obtain ⟨rfl, rfl⟩ := HR.out.uniq hR'
      refine fam_fin hK rfl ?_ hb' (hC.trans (hb'.mono hC.size))
      show Value.bool (decide _) = Value.bool B
      rw [HBv.out]
    · -- 2: Op.move (Operand.tmp 0)
      refine tab_plain fun K Q hK => ?_
      simp only [puts, List.foldr_nil]
      go_step
      refine fam_ex hK rfl rfl (by simp only [Act.put, List.setIfInBounds_toArray, List.set_cons_succ, List.set_cons_zero, Array.getD_eq_getD_getElem?, List.getElem?_toArray, List.getElem?_cons_succ, List.getElem?_cons_zero, Option.getD_some] <;> rfl) rfl (Below.refl _ _) hC
    · -- 3: Op.move (Operand.tmp 1)
      refine tab_plain fun K Q hK => ?_
      simp only [puts, List.foldr_nil]
      go_step
      refine fam_ex hK rfl rfl (by simp only [Act.put, List.setIfInBounds_toArray, List.set_cons_succ, List.set_cons_zero, Array.getD_eq_getD_getElem?, List.getElem?_toArray, List.getElem?_cons_succ, List.getElem?_cons_zero, Option.getD_some] <;> rfl) rfl (Below.refl _ _) hC
    · -- 4: Op.build 46 #[(0, Operand.tmp 88), (1, Operand.tmp 89)]
      obtain ⟨h2, h3, -⟩ := hh
      have g2 : f 2 = _ := h2
      have g3 : f 3 = _ := h3
      refine tab_plain fun K Q hK => ?_
      simp only [puts, List.foldr_cons, List.foldr_nil, List.setIfInBounds_toArray, List.set_cons_succ, List.set_cons_zero, g2, g3]
      go_step
      refine fam_ex hK rfl rfl (by simp only [Act.put, List.setIfInBounds_toArray, List.set_cons_succ, List.set_cons_zero, Array.getD_eq_getD_getElem?, List.getElem?_toArray, List.getElem?_cons_succ, List.getElem?_cons_zero, Option.getD_some] <;> rfl) rfl (Below.refl _ _) hC
    · -- 5: Op.call { callee := Callee.value (Operand.func 22), args := #[Operand.tmp 90], argTypes :=
      obtain ⟨h4, h1, -⟩ := hh
      have g4 : f 4 = _ := h4
      have g1 : f 1 = _ := h1
      refine tab_plain fun K Q hK => ?_
      simp only [puts, List.foldr_cons, List.foldr_nil, List.setIfInBounds_toArray, List.set_cons_succ, List.set_cons_zero, g4, g1]
      go_step
      go_at_call 22
      refine (refValid_any _ _ _ _ _ _ (hs11.later hC) hb HB.out).mono ?_
      rintro e w' ⟨k', e', rfl, hR', hb'⟩
      obtain ⟨rfl, rfl⟩ := HR.out.uniq hR'
      refine fam_fin hK rfl ?_ hb' (hC.trans (hb'.mono hC.size))
      show Value.bool (decide _) = Value.bool B
      rw [HBv.out]
    · -- 6: Op.binOp BinOp.eql 4 (Operand.tmp 87) (Operand.tmp 91) 4
      obtain ⟨h1, h5, -⟩ := hh
      have g1 : f 1 = _ := h1
      have g5 : f 5 = _ := h5
      refine tab_plain fun K Q hK => ?_
      simp only [puts, List.foldr_cons, List.foldr_nil, List.setIfInBounds_toArray, List.set_cons_succ, List.set_cons_zero, g1, g5]
      go_step
      refine fam_ex hK rfl rfl (by simp only [Act.put, List.setIfInBounds_toArray, List.set_cons_succ, List.set_cons_zero, Array.getD_eq_getD_getElem?, List.getElem?_toArray, List.getElem?_cons_succ, List.getElem?_cons_zero, Option.getD_some] <;> rfl) rfl (Below.refl _ _) hC
    · -- 7: Op.move (Operand.tmp 92)
      obtain ⟨h6, h5, -⟩ := hh
      have g6 : f 6 = _ := h6
      have g5 : f 5 = _ := h5
      refine tab_plain fun K Q hK => ?_
      simp only [puts, List.foldr_cons, List.foldr_nil, List.setIfInBounds_toArray, List.set_cons_succ, List.set_cons_zero, g6, g5]
      go_step
      refine fam_ex hK rfl rfl (by simp only [Act.put, List.setIfInBounds_toArray, List.set_cons_succ, List.set_cons_zero, Array.getD_eq_getD_getElem?, List.getElem?_toArray, List.getElem?_cons_succ, List.getElem?_cons_zero, Option.getD_some] <;> rfl) rfl (Below.refl _ _) hC
    · -- 8: Op.load 26 (Operand.tmp 17)
      obtain ⟨h7, -⟩ := hh
      have g7 : f 7 = _ := h7
      refine tab_yes g7 fun K Q hK => ?_
      simp only [puts, List.foldr_cons, List.foldr_nil, List.setIfInBounds_toArray, List.set_cons_succ, List.set_cons_zero, g7]
      obtain ⟨q0, q1, -, -⟩ := (hZ11.later hC).cells
      go_step
      refine fam_ex hK rfl rfl (by simp only [Act.put, List.setIfInBounds_toArray, List.set_cons_succ, List.set_cons_zero, Array.getD_eq_getD_getElem?, List.getElem?_toArray, List.getElem?_cons_succ, List.getElem?_cons_zero, Option.getD_some] <;> rfl) rfl (Below.refl _ _) hC
    · -- 9: Op.move (Operand.tmp 2)
      obtain ⟨h7, -⟩ := hh
      have g7 : f 7 = _ := h7
      refine tab_yes g7 fun K Q hK => ?_
      simp only [puts, List.foldr_cons, List.foldr_nil, List.setIfInBounds_toArray, List.set_cons_succ, List.set_cons_zero, g7]
      go_step
      refine fam_ex hK rfl rfl (by simp only [Act.put, List.setIfInBounds_toArray, List.set_cons_succ, List.set_cons_zero, Array.getD_eq_getD_getElem?, List.getElem?_toArray, List.getElem?_cons_succ, List.getElem?_cons_zero, Option.getD_some] <;> rfl) rfl (Below.refl _ _) hC
    · -- 10: Op.call { callee := Callee.value (Operand.func 18), args := #[Operand.tmp 94, Operand.tmp 
      obtain ⟨h8, h9, h7, _, -⟩ := hh
      have g8 : f 8 = _ := h8
      have g9 : f 9 = _ := h9
      have g7 : f 7 = _ := h7
      refine tab_yes g7 fun K Q hK => ?_
      simp only [puts, List.foldr_cons, List.foldr_nil, List.setIfInBounds_toArray, List.set_cons_succ, List.set_cons_zero, g8, g9, g7]
      go_step
      go_at_call 18
      refine (Crash_any _ _ _ _ _ _ _ (hI11.later hC) HB.out hKK.1 hKK.2).mono ?_
      rintro e w' ⟨⟨a', n', c', rfl, ho'⟩, hb'⟩
      rw [HCL.out] at ho'
      have hI' := (IsInts.of_owns ho').1
      obtain rfl : n0 = n' := by rw [← HN0.out]; exact hI'.length
      exact fam_fin hK rfl ⟨_, _, rfl, hI'⟩ hb' (hC.trans (hb'.mono hC.size))
    · -- 11: Op.convert 24 9 (Operand.tmp 96)
      obtain ⟨h10, h7, -⟩ := hh
      obtain ⟨a10, c10, g10, s10⟩ := h10
      have g7 : f 7 = _ := h7
      refine tab_yes g7 fun K Q hK => ?_
      simp only [puts, List.foldr_cons, List.foldr_nil, List.setIfInBounds_toArray, List.set_cons_succ, List.set_cons_zero, g10, g7]
      have hcv := run_toString (P := Try.prog) W 24 9 5 Try.underlying24 Try.underlying5 Try.underlying9 _ _ _ _ s10
      go_step
      refine fam_ex hK rfl rfl (by simp only [Act.put, List.setIfInBounds_toArray, List.set_cons_succ, List.set_cons_zero, Array.getD_eq_getD_getElem?, List.getElem?_toArray, List.getElem?_cons_succ, List.getElem?_cons_zero, Option.getD_some] <;> rfl) rfl (Below.refl _ _) hC
    · -- 12: Op.move (Operand.tmp 0)
      obtain ⟨h7, -⟩ := hh
      have g7 : f 7 = _ := h7
      refine tab_yes g7 fun K Q hK => ?_
      simp only [puts, List.foldr_cons, List.foldr_nil, List.setIfInBounds_toArray, List.set_cons_succ, List.set_cons_zero, g7]
      go_step
      refine fam_ex hK rfl rfl (by simp only [Act.put, List.setIfInBounds_toArray, List.set_cons_succ, List.set_cons_zero, Array.getD_eq_getD_getElem?, List.getElem?_toArray, List.getElem?_cons_succ, List.getElem?_cons_zero, Option.getD_some] <;> rfl) rfl (Below.refl _ _) hC
    · -- 13: Op.move (Operand.tmp 1)
      obtain ⟨h7, -⟩ := hh
      have g7 : f 7 = _ := h7
      refine tab_yes g7 fun K Q hK => ?_
      simp only [puts, List.foldr_cons, List.foldr_nil, List.setIfInBounds_toArray, List.set_cons_succ, List.set_cons_zero, g7]
      go_step
      refine fam_ex hK rfl rfl (by simp only [Act.put, List.setIfInBounds_toArray, List.set_cons_succ, List.set_cons_zero, Array.getD_eq_getD_getElem?, List.getElem?_toArray, List.getElem?_cons_succ, List.getElem?_cons_zero, Option.getD_some] <;> rfl) rfl (Below.refl _ _) hC
    · -- 14: Op.build 46 #[(0, Operand.tmp 98), (1, Operand.tmp 99)]
      obtain ⟨h12, h13, h7, -⟩ := hh
      have g12 : f 12 = _ := h12
      have g13 : f 13 = _ := h13
      have g7 : f 7 = _ := h7
      refine tab_yes g7 fun K Q hK => ?_
      simp only [puts, List.foldr_cons, List.foldr_nil, List.setIfInBounds_toArray, List.set_cons_succ, List.set_cons_zero, g12, g13, g7]
      go_step
      refine fam_ex hK rfl rfl (by simp only [Act.put, List.setIfInBounds_toArray, List.set_cons_succ, List.set_cons_zero, Array.getD_eq_getD_getElem?, List.getElem?_toArray, List.getElem?_cons_succ, List.getElem?_cons_zero, Option.getD_some] <;> rfl) rfl (Below.refl _ _) hC
    · -- 15: Op.move (Operand.tmp 2)
      obtain ⟨h7, -⟩ := hh
      have g7 : f 7 = _ := h7
      refine tab_yes g7 fun K Q hK => ?_
      simp only [puts, List.foldr_cons, List.foldr_nil, List.setIfInBounds_toArray, List.set_cons_succ, List.set_cons_zero, g7]
      go_step
      refine fam_ex hK rfl rfl (by simp only [Act.put, List.setIfInBounds_toArray, List.set_cons_succ, List.set_cons_zero, Array.getD_eq_getD_getElem?, List.getElem?_toArray, List.getElem?_cons_succ, List.getElem?_cons_zero, Option.getD_some] <;> rfl) rfl (Below.refl _ _) hC
    · -- 16: Op.call { callee := Callee.value (Operand.func 23), args := #[Operand.tmp 100, Operand.tmp
      obtain ⟨h14, h15, h10, h7, -⟩ := hh
      have g14 : f 14 = _ := h14
      have g15 : f 15 = _ := h15
      obtain ⟨a10, c10, g10, s10⟩ := h10
      have g7 : f 7 = _ := h7
      refine tab_yes g7 fun K Q hK => ?_
      simp only [puts, List.foldr_cons, List.foldr_nil, List.setIfInBounds_toArray, List.set_cons_succ, List.set_cons_zero, g14, g15, g10, g7]
      go_step
      go_at_call 23
      refine (refCrash_any _ _ _ _ _ _ _ (hs11.later hC) HB.out hKK.1 hKK.2).mono ?_
      rintro e w' ⟨⟨a', n', c', rfl, ho'⟩, hb'⟩
      rw [HCL.out] at ho'
      have hI' := (IsInts.of_owns ho').1
      obtain rfl : n0 = n' := by rw [← HN0.out]; exact hI'.length
      exact fam_fin hK rfl ⟨_, _, rfl, hI'⟩ hb' (hC.trans (hb'.mono hC.size))
    · -- 17: Op.convert 24 9 (Operand.tmp 102)
      obtain ⟨h16, h7, -⟩ := hh
      obtain ⟨a16, c16, g16, s16⟩ := h16
      have g7 : f 7 = _ := h7
      refine tab_yes g7 fun K Q hK => ?_
      simp only [puts, List.foldr_cons, List.foldr_nil, List.setIfInBounds_toArray, List.set_cons_succ, List.set_cons_zero, g16, g7]
      have hcv := run_toString (P := Try.prog) W 24 9 5 Try.underlying24 Try.underlying5 Try.underlying9 _ _ _ _ s16
      go_step
      refine fam_ex hK rfl rfl (by simp only [Act.put, List.setIfInBounds_toArray, List.set_cons_succ, List.set_cons_zero, Array.getD_eq_getD_getElem?, List.getElem?_toArray, List.getElem?_cons_succ, List.getElem?_cons_zero, Option.getD_some] <;> rfl) rfl (Below.refl _ _) hC
    · -- 18: Op.binOp BinOp.eql 9 (Operand.tmp 97) (Operand.tmp 103) 9
      obtain ⟨h11, h17, h7, -⟩ := hh
      have g11 : f 11 = _ := h11
      have g17 : f 17 = _ := h17
      have g7 : f 7 = _ := h7
      refine tab_yes g7 fun K Q hK => ?_
      simp only [puts, List.foldr_cons, List.foldr_nil, List.setIfInBounds_toArray, List.set_cons_succ, List.set_cons_zero, g11, g17, g7]
      go_step
      refine fam_ex hK rfl rfl (by simp only [Act.put, List.setIfInBounds_toArray, List.set_cons_succ, List.set_cons_zero, Array.getD_eq_getD_getElem?, List.getElem?_toArray, List.getElem?_cons_succ, List.getElem?_cons_zero, Option.getD_some] <;> rfl) rfl (Below.refl _ _) hC
    · -- 19: Op.pick (Operand.tmp 93) (Operand.tmp 104) (Operand.const (Value.bool false))
      obtain ⟨h7, h18, -⟩ := hh
      have g7 : f 7 = _ := h7
      have g18 : f 18 = _ := h18
      refine tab_plain fun K Q hK => ?_
      simp only [puts, List.foldr_cons, List.foldr_nil, List.setIfInBounds_toArray, List.set_cons_succ, List.set_cons_zero, g7, g18]
      go_step
      refine fam_ex hK rfl rfl (by simp only [Act.put, List.setIfInBounds_toArray, List.set_cons_succ, List.set_cons_zero, Array.getD_eq_getD_getElem?, List.getElem?_toArray, List.getElem?_cons_succ, List.getElem?_cons_zero, Option.getD_some] <;> rfl) rfl (Below.refl _ _) hC
    · -- 20: Op.assign (Operand.tmp 105)
      obtain ⟨h19, h16, h0, h1, h2, h3, h4, h5, h6, h7, h8, h9, h10, h11, h12, h13, h14, h15, _, h17, h18, _, -⟩ := hh
      have g19 : f 19 = _ := h19
      obtain ⟨a16, c16, g16, s16⟩ := h16
      have g0 : f 0 = _ := h0
      have g1 : f 1 = _ := h1
      have g2 : f 2 = _ := h2
      have g3 : f 3 = _ := h3
      have g4 : f 4 = _ := h4
      have g5 : f 5 = _ := h5
      have g6 : f 6 = _ := h6
      have g7 : f 7 = _ := h7
      have g8 : f 8 = _ := h8
      have g9 : f 9 = _ := h9
      obtain ⟨a10, c10, g10, s10⟩ := h10
      have g11 : f 11 = _ := h11
      have g12 : f 12 = _ := h12
      have g13 : f 13 = _ := h13
      have g14 : f 14 = _ := h14
      have g15 : f 15 = _ := h15
      have g17 : f 17 = _ := h17
      have g18 : f 18 = _ := h18
      refine tab_plain fun K Q hK => ?_
      simp only [puts, List.foldr_cons, List.foldr_nil, List.setIfInBounds_toArray, List.set_cons_succ, List.set_cons_zero, g19, g16, g0, g1, g2, g3, g4, g5, g6, g7, g8, g9, g10, g11, g12, g13, g14, g15, g17, g18]
      go_step
      refine fam_ex hK rfl rfl (by simp only [Act.put, List.setIfInBounds_toArray, List.set_cons_succ, List.set_cons_zero, Array.getD_eq_getD_getElem?, List.getElem?_toArray, List.getElem?_cons_succ, List.getElem?_cons_zero, Option.getD_some] <;> rfl) rfl (Below.refl _ _) hC
  case rest =>
    intro f W2 hC hh
    obtain ⟨h0, h1, h2, h3, h4, h5, h6, h7, h8, h9, h10, h11, h12, h13, h14, h15, h16, h17, h18, h19, h20, -⟩ := hh
    have g0 : f 0 = _ := h0
    have g1 : f 1 = _ := h1
    have g2 : f 2 = _ := h2
    have g3 : f 3 = _ := h3
    have g4 : f 4 = _ := h4
    have g5 : f 5 = _ := h5
    have g6 : f 6 = _ := h6
    have g7 : f 7 = _ := h7
    have g8 : f 8 = _ := h8
    have g9 : f 9 = _ := h9
    obtain ⟨a10, c10, g10, s10⟩ := h10
    have g11 : f 11 = _ := h11
    have g12 : f 12 = _ := h12
    have g13 : f 13 = _ := h13
    have g14 : f 14 = _ := h14
    have g15 : f 15 = _ := h15
    obtain ⟨a16, c16, g16, s16⟩ := h16
    have g17 : f 17 = _ := h17
    have g18 : f 18 = _ := h18
    have g19 : f 19 = _ := h19
    have g20 : f 20 = _ := h20
    simp only [puts, List.foldr_cons, List.foldr_nil, List.setIfInBounds_toArray, List.set_cons_succ, List.set_cons_zero, g0, g1, g2, g3, g4, g5, g6, g7, g8, g9, g10, g11, g12, g13, g14, g15, g16, g17, g18, g19, g20]
    clear h0 h1 h2 h3 h4 h5 h6 h7 h8 h9 h11 h12 h13 h14 h15 h17 h18 h19 h20 g0 g1 g2 g3 g4 g5 g6 g7 g8 g9 g11 g12 g13 g14 g15 g17 g18 g19 g20
    go_wp2_with (fail)
    go_ret
    exact ⟨rfl, hb11.trans (hC.mono hb11.size)⟩
end Go.Proofs.Ytpmhnmkpmkeadaa
