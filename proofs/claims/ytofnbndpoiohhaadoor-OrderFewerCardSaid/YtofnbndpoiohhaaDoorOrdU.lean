/-
  The reference: count, Extensions.
-/
import Derived.Test.YtofnbndpoiohhaaDoorOrdT
set_option linter.unusedSimpArgs false
set_option linter.unusedVariables false
set_option maxHeartbeats 8000000
namespace Go.Proofs.YtofnbndpoiohhaaDoor
open Go.RowKit Go.Shelf
attribute [local go_sem] Oper.semAt_some

theorem refCount_any {N : Nat} {es : List (Int × Int)} {B g d : Nat} {r : Nat → Nat} (hv : ValidO N es) (hd : g ≠ d ∧ ∀ i, i < N → r i ≠ d) :
    ∀ (left : Nat) (p : List Int) (M : Nat) (W : World), left ≤ 60 → 1 ≤ M → M ≤ 1000 → MatIs W B g N r (pathB es) → RowIs W d N (fun i => .bool (inB p i)) →
    Calls Tryd.prog 40 #[.slice (some ⟨g, 0, none⟩) N N, .slice (some ⟨d, 0, none⟩) N N, .int .i64 (left : Int), .int .i64 (M : Int)] W
      fun e W' => e = .returned (.int .i64 (min M (cntE es N left p) : Nat)) ∧ RowIs W' d N (fun i => .bool (inB p i)) ∧ But d W W' := by
  intro left
  have hN60 : N ≤ 60 := by have := hv.1.2; omega
  have HV := Lib.hid hv
  clear hv
  induction left with
  | zero =>
    intro p M W hl hM1 hM2 hMat hD
    have hm : Hid (min M (cntE es N 0 p) = 1) := Lib.hid (by show min M 1 = 1; omega)
    rw [hm.out]
    go_enter Tryd.func40, Tryd.ntmps40
    go_wp2
    go_ret
    exact ⟨rfl, hD, But.refl _ _⟩
  | succ left ih =>
    intro p M W hl hM1 hM2 hMat hD
    have IH := Lib.hid ih
    have dl : ((left : Int) + 1 == 0) = false := by simp; omega
    have hlw : (left : Int) + 1 - 1 = left := by omega
    have hfree := refFree_any hN60 hMat hD
    rw [cnt_free HV.out]
    obtain ⟨fl, hfl⟩ : ∃ fl, freeTo (pathB es) (inB p) N N = fl := ⟨_, rfl⟩
    have hflN : fl.length ≤ N := by rw [← hfl]; exact freeTo_length _ _ _ _
    rw [hfl] at hfree ⊢
    have HFI := Lib.hid (fun k hk => free_in (es := es) (N := N) (p := p) hfl (k := k) hk)
    have hdW := hD.lt
    clear ih hfl
    rw [show ((left + 1 : Nat) : Int) = (left : Int) + 1 by omega]
    go_enter Tryd.func40, Tryd.ntmps40
    go_wp2_with (fail)
    go_at_call 37
    refine hfree.mono ?_
    rintro e w1 ⟨ao, co, rfl, hrow, hb1⟩
    clear hfree
    have hM1' := hMat.later hb1
    have hD1 := hD.later hb1
    have hbut1 : But d W w1 := But.of_below hb1
    clear hb1 hMat hD
    go_wp2_with (fail)
    go_loopw [9, 11] (fun v c W' => ∃ k v' : Nat, k ≤ fl.length ∧ c = .int .i64 (k : Int) ∧ v = .int .i64 (v' : Int) ∧ v' ≤ M ∧ Hid (v' = min M (cntL es N left p (fl.take k))) ∧ MatIs W' B g N r (pathB es) ∧ RowIs W' d N (fun i => .bool (inB p i)) ∧ W'.ownsRow W.heap.size 3 1 (.slice ao fl.length co) fl.length (ivs .i64 (fl.map Int.ofNat)) ∧ But d W W') (fun _ c _ => fl.length - (intOf c).toNat)
    case atStart => exact ⟨0, 0, Nat.zero_le _, rfl, rfl, Nat.zero_le _, Lib.hid (by rw [List.take_zero, cntL_nil]; omega), hM1', hD1, hrow, hbut1⟩
    case round =>
      clear hM1' hD1 hrow hbut1
      obtain ⟨k, v', hk, rfl, rfl, hvM, HVV, hMat, hD, hrow, hbut⟩ := hrel
      have hco := (IsInts.of_owns hrow).1.cap
      unfold maxLen at hco
      rcases Nat.lt_or_ge k fl.length with hlt | hge
      · have dlt : decide ((k : Int) < fl.length) = true := decide_eq_true (by omega)
        by_cases hvj : v' < M
        · have t5 : decide ((v' : Int) < M) = true := decide_eq_true (by omega)
          obtain ⟨hxN, hxp⟩ := HFI.out k hlt
          have HS := Lib.hid (cntL_succ (es := es) (N := N) left p hlt)
          have hgx := gi_map fl k hlt
          obtain ⟨x, hx⟩ : ∃ x, fl[k] = x := ⟨_, rfl⟩
          rw [hx] at hxN hxp HS hgx
          have HGX := Lib.hid hgx
          clear hx
          obtain ⟨hI, -⟩ := IsInts.of_owns hrow
          obtain ⟨bf, of, rfl, -, hcx⟩ := hI.at wr (Below.refl _ _) k hlt
          rw [hgx] at hcx
          clear hI hgx
          obtain ⟨hdx, hdf⟩ := hD.cell x hxN
          have hbfd : bf ≠ d := by
            rcases hrow.2 with ⟨h, _⟩ | ⟨g', cap', cur', h, hg', _⟩
            · cases h
            · have : bf = g' := by injection h with h1; injection h1 with h1; injection h1
              omega
          obtain ⟨w2, hw2⟩ : ∃ w2, wr.setCell ⟨d, x, none⟩ (.bool true) = w2 := ⟨_, rfl⟩
          have hb2 : But d wr w2 := by rw [← hw2]; exact (But.refl _ _).setCell x _
          have hD2 : RowIs w2 d N (fun i => .bool (inB (p ++ [(x : Int)]) i)) := by rw [← hw2]; exact (hD.store x (.bool true)).congr fun i _ => inB_snoc p x i
          have hMat2 := hMat.but hb2 hd
          have hrow2 := owns_but hrow hdW hb2
          have hbut2 := hbut.trans hb2
          have hcall := IH.out (p ++ [(x : Int)]) (M - v') w2 (by omega) (by omega) (by omega) hMat2 hD2
          rw [show ((M - v' : Nat) : Int) = (M : Int) - v' by omega] at hcall
          obtain ⟨u, hu⟩ : ∃ u, min (M - v') (cntE es N left (p ++ [(x : Int)])) = u := ⟨_, rfl⟩
          rw [hu] at hcall
          have huM : v' + u ≤ M := by omega
          have HNEW : Hid (v' + u = min M (cntL es N left p (fl.take (k + 1)))) := Lib.hid (by rw [HS.out]; have := HVV.out; omega)
          have hw2' := Lib.hid hw2
          clear hD hMat hrow hbut hb2 hu hw2 HVV HS
          go_wp2_with (fail)
          rw [hw2'.out]
          go_at_call 40
          refine hcall.mono ?_
          rintro e w3 ⟨rfl, hD3, hb3⟩
          clear hcall hdx hdf hcx hw2' hD2
          have hMat3 := hMat2.but hb3 hd
          have hrow3 := owns_but hrow2 hdW hb3
          have hbut3 := hbut2.trans hb3
          obtain ⟨hI, -⟩ := IsInts.of_owns hrow3
          obtain ⟨bf3, of3, he3, -, hcx⟩ := hI.at w3 (Below.refl _ _) k hlt
          obtain ⟨rfl, rfl⟩ : bf = bf3 ∧ of = of3 := by injection he3 with h; injection h with h1 h2; exact ⟨h1, h2⟩
          rw [HGX.out] at hcx
          clear hI he3 hrow2 hbut2 hMat2
          obtain ⟨hdx, hdf⟩ := hD3.cell x hxN
          have hD4 : RowIs (w3.setCell ⟨d, x, none⟩ (.bool false)) d N (fun i => .bool (inB p i)) := (hD3.store x (.bool false)).congr fun i _ => inB_back p x i hxp
          have hb4 : But d w3 (w3.setCell ⟨d, x, none⟩ (.bool false)) := (But.refl _ _).setCell x _
          have hMat4 := hMat3.but hb4 hd
          have hrow4 := owns_but hrow3 hdW hb4
          have hbut4 := hbut3.trans hb4
          clear hD3 hb3 hb4 hMat3 hrow3 hbut3
          go_wp2
          go_roundw
          case rel => exact ⟨k + 1, v' + u, hlt, by go_num, by go_num, huM, HNEW, hMat4, hD4, hrow4, hbut4⟩
          case measure => simp [intOf]; omega
        · have t5 : decide ((v' : Int) < M) = false := decide_eq_false (by omega)
          have hfin : Hid (v' = min M (cntL es N left p fl)) := Lib.hid (by have := cntL_le (es := es) (N := N) left p fl k; have := HVV.out; omega)
          go_wp2
          go_ret
          exact ⟨by rw [← hfin.out] <;> rfl, hD, hbut⟩
      · obtain rfl : fl.length = k := by omega
        have dlt : decide ((fl.length : Int) < fl.length) = false := decide_eq_false (by omega)
        have hfin : Hid (v' = min M (cntL es N left p fl)) := Lib.hid (by have := HVV.out; rw [List.take_length] at this; exact this)
        go_wp2
        go_ret
        exact ⟨by rw [← hfin.out] <;> rfl, hD, hbut⟩

/-- make of a row, as one operation. -/
theorem make_row_op {P : Program} {T E : TypeId} {bytes : Nat} {z : Value} (el : Elem P T E z 1 bytes) (hz1 : z.cells = #[z]) {w : World} {o : Oper} {a : Act} {K : Act → World → Prop} {Q : Exit → Act → World → Prop} (l c : Operand)
    (ho : o.op = .makeSlice T l c) {kl kc : IntKind} {n : Nat} {C C' : Int} (hl : a.eval l = .int kl C') (hc : a.eval c = .int kc C) (hC : C = n) (hC' : C' = n) (hb : n * (bytes + 1) ≤ 140737488355328)
    (h : ∀ w', RowIs w' w.heap.size n (fun _ => z) → Below w.heap.size w w' → w'.heap.size = w.heap.size + 1 → K (a.put o.dst (.slice (some ⟨w.heap.size, 0, none⟩) n n)) w') : o.wp P a w K Q := by
  subst hC hC'
  obtain ⟨i, hi, hz, hsize, hby⟩ := info_parts el.info
  have hb1 : n * bytes + n ≤ 140737488355328 := by rw [← Nat.mul_succ]; exact hb
  have hr := run_make (P := P) w T E i z el.ht hi hz kl kc n n (by omega) (Int.le_refl _) (by have h2 : ((i.bytes * n : Nat) : Int) ≤ 281474976710656 := by (rw [hby, Nat.mul_comm]; omega)
                                                                                              rwa [Int.natCast_mul] at h2) (by omega)
  simp only [Int.toNat_natCast] at hr
  have h0 : madeCells z.cells (n * i.size) = rowCells (fun _ => z) n := by
    apply Array.toList_inj.1
    rw [hsize, Nat.mul_one, hz1, toList_madeCells_one]
    simp [rowCells, List.map_const']
  have hR : RowIs (w.alloc (.cells (madeCells z.cells (n * i.size)) E)) w.heap.size n fun _ => z := ⟨E, by rw [heap_alloc_new, h0]⟩
  have hB : Below w.heap.size w (w.alloc (.cells (madeCells z.cells (n * i.size)) E)) := (Below.refl _ _).alloc (Nat.le_refl _) _
  unfold Oper.wp
  simp [execOp, ho, hl, hc, hr, Result.andThen]
  exact h _ hR hB (by simp)

variable {n : Int} {a : Option Addr} {len cap : Nat} {es : List (Int × Int)} {w : World}

/-- What Extensions returns. -/
def ExtRes (n most : Int) (es : List (Int × Int)) (v c : Int) : Prop := (¬ ValidO n es ∧ v = 0 ∧ c = 1) ∨ (ValidO n es ∧ (most < 1 ∨ 1000 < most) ∧ v = 0 ∧ c = 2) ∨ (ValidO n es ∧ 1 ≤ most ∧ most ≤ 1000 ∧ v = (min most.toNat (cntE es n.toNat n.toNat []) : Nat) ∧ c = 0)
theorem refExt_any (most : Int) (he : IsPairs w a len cap es) (hcap : len ≤ 9223372036854775807) :
    Calls Tryd.prog 29 #[.agg #[.int .i64 n, .slice a len cap], .int .i64 most] w fun e w' => (∃ v c, e = .returned (.tuple #[.int .i64 v, .int .i64 c]) ∧ ExtRes n most es v c) ∧ Below w.heap.size w w' := by
  obtain ⟨hb1, hs1, hO⟩ := boxR n a len cap w
  obtain ⟨W1, hW1⟩ : ∃ W1, w.alloc (.cells #[.int .i64 n, .slice a len cap] 24) = W1 := ⟨_, rfl⟩
  rw [hW1] at hb1 hs1 hO
  rw [← hs1] at hO
  have he1 := he.later hb1
  obtain ⟨c0, c1⟩ := hO _ (Below.refl _ _)
  have HLE := Lib.hid he.length
  have HW := Lib.hid hW1
  have HO := Lib.hid hO
  clear hW1 hO
  go_enter Tryd.func29, Tryd.ntmps29
  go_wp2_with (fail)
  rw [HW.out]
  go_at_call 14
  refine (refValid_any he1 hcap).mono ?_
  rintro e w2 ⟨rfl, hb2⟩
  clear c0 c1
  obtain ⟨c0, c1⟩ := HO.out _ hb2
  have hb02 := hb1.trans (hb2.mono hb1.size)
  by_cases hv : ValidO n es
  rotate_left
  · rw [validB_no hv]
    have HR : Hid (ExtRes n most es 0 1) := Lib.hid (.inl ⟨hv, rfl, rfl⟩)
    clear hv
    go_wp2
    go_ret2
    exact ⟨⟨_, _, rfl, HR.out⟩, hb02⟩
  rw [validB_yes hv]
  by_cases h1 : most < 1
  · have d1 : decide (most < 1) = true := decide_eq_true h1
    have HR : Hid (ExtRes n most es 0 2) := Lib.hid (.inr (.inl ⟨hv, .inl h1, rfl, rfl⟩))
    clear hv h1
    go_wp2
    go_ret2
    exact ⟨⟨_, _, rfl, HR.out⟩, hb02⟩
  have d1 : decide (most < 1) = false := decide_eq_false h1
  by_cases h2 : 1000 < most
  · have d2 : decide (1000 < most) = true := decide_eq_true h2
    have HR : Hid (ExtRes n most es 0 2) := Lib.hid (.inr (.inl ⟨hv, .inr h2, rfl, rfl⟩))
    clear hv h1 h2
    go_wp2
    go_ret2
    exact ⟨⟨_, _, rfl, HR.out⟩, hb02⟩
  have d2 : decide (1000 < most) = false := decide_eq_false h2
  obtain ⟨M, rfl⟩ := Int.eq_ofNat_of_zero_le (show 0 ≤ most by omega)
  obtain ⟨N, rfl⟩ := Int.eq_ofNat_of_zero_le hv.1.1
  have hM1 : 1 ≤ M := by omega
  have hM2 : M ≤ 1000 := by omega
  have hN60 : N ≤ 60 := by have := hv.1.2; omega
  have h36 : len ≤ 3600 := by rw [← HLE.out]; exact hv.2.1
  have HBH := Lib.hid (fun W h => behind_any N hN60 a len cap es W h hv.2.2.1 h36)
  have he2 := he1.later hb2
  obtain ⟨C, hC⟩ : ∃ C, min M (cntE es N N []) = C := ⟨_, rfl⟩
  have hCM : C ≤ M := by omega
  have HR : Hid (ExtRes N M es C 0) := Lib.hid (.inr (.inr ⟨hv, by omega, by omega, by rw [Int.toNat_natCast, Int.toNat_natCast, hC], rfl⟩))
  have HCA := Lib.hid (fun (B g : Nat) (r : Nat → Nat) (d : Nat) (h : g ≠ d ∧ ∀ i, i < N → r i ≠ d) W hm hd => by have := refCount_any (B := B) hv h N [] M W hN60 hM1 hM2 hm hd; rwa [hC] at this)
  have hmn : (if C < M then (C : Int) else (M : Int)) = (C : Int) := by split <;> omega
  clear hv h1 h2 hC h36
  go_wp2_with (fail)
  obtain ⟨S, hSd⟩ : ∃ S : (Nat → Bool) → (Nat → Value) → World → Prop, S = fun L f W => Below w2.heap.size w2 W ∧ (L 2 = true → ∃ B g r, f 2 = .slice (some ⟨g, 0, none⟩) N N ∧ MatIs W B g N r (pathB es) ∧ (L 5 = true → ∀ d, f 5 = .slice (some ⟨d, 0, none⟩) N N → g ≠ d ∧ ∀ i, i < N → r i ≠ d)) ∧ (L 5 = true → ∃ d, f 5 = .slice (some ⟨d, 0, none⟩) N N ∧ w2.heap.size ≤ d ∧ RowIs W d N (fun i => .bool (inB [] i))) := ⟨_, rfl⟩
  refine wp_region_st mixed (by kernel_rfl) [[], [], [(1, 18)], [], [(3, 20)], [(4, 21), (4, 21)], [], [(6, 23)], [], [(2, 19), (5, 22), (7, 24), (8, 25), (2, 19)], [(0, 17), (9, 26)], [(10, 27), (9, 26), (0, 17), (1, 18), (2, 19), (3, 20), (4, 21), (5, 22), (6, 23), (7, 24), (8, 25), (9, 26), (10, 27)], [(11, 4), (0, 17), (1, 18), (2, 19), (3, 20), (4, 21), (5, 22), (6, 23), (7, 24), (8, 25), (9, 26), (10, 27), (11, 4)]] [(0, 17), (1, 18), (2, 19), (3, 20), (4, 21), (5, 22), (6, 23), (7, 24), (8, 25), (9, 26), (10, 27), (11, 4), (12, 5)] rfl rfl [EV ?e0, EV ?e1, fun v => ∃ g, v = .slice (some ⟨g, 0, none⟩) N N, EV ?e3, EV ?e4, fun v => ∃ d, v = .slice (some ⟨d, 0, none⟩) N N, EV ?e6, EV ?e7, EV ?e8, EV (.int .i64 (C : Int)), EV ?e10, EV ?e11, EV ?e12] S ?start ?steps ?rest
  case start =>
    intro f
    rw [hSd]
    exact ⟨(Below.refl _ _).drew, fun h => (by cases h), fun h => (by cases h)⟩
  case steps =>
    refine ⟨fun L f W hi hd hdn hh hS => ?_, fun L f W hi hd hdn hh hS => ?_, fun L f W hi hd hdn hh hS => ?_, fun L f W hi hd hdn hh hS => ?_, fun L f W hi hd hdn hh hS => ?_, fun L f W hi hd hdn hh hS => ?_, fun L f W hi hd hdn hh hS => ?_, fun L f W hi hd hdn hh hS => ?_, fun L f W hi hd hdn hh hS => ?_, fun L f W hi hd hdn hh hS => ?_, fun L f W hi hd hdn hh hS => ?_, fun L f W hi hd hdn hh hS => ?_, fun L f W hi hd hdn hh hS => ?_, trivial⟩
    · -- 0: Op.move (Operand.tmp 1)
      unfold stStep
      rw [if_pos (by simp [Region.wanted])]
      intro K Q hK
      simp only [puts, List.foldr_nil]
      go_step
      refine st_ex hK rfl rfl (by simp only [Act.put, List.setIfInBounds_toArray, List.set_cons_succ, List.set_cons_zero, Array.getD_eq_getD_getElem?, List.getElem?_toArray, List.getElem?_cons_succ, List.getElem?_cons_zero, Option.getD_some] <;> rfl) rfl (by rw [hSd] at hS ⊢; exact hS)
    · -- 1: Op.load 24 (Operand.tmp 2)
      unfold stStep
      rw [if_pos (by simp [Region.wanted])]
      intro K Q hK
      simp only [puts, List.foldr_nil]
      have hS' := hS
      rw [hSd] at hS'
      obtain ⟨c0, c1⟩ := HO.out W (hb2.trans (hS'.1.mono hb2.size))
      go_step
      refine st_ex hK rfl rfl (by simp only [Act.put, List.setIfInBounds_toArray, List.set_cons_succ, List.set_cons_zero, Array.getD_eq_getD_getElem?, List.getElem?_toArray, List.getElem?_cons_succ, List.getElem?_cons_zero, Option.getD_some] <;> rfl) rfl (by rw [hSd] at hS ⊢; exact hS)
    · -- 2: Op.call { callee := Callee.value (Operand.func 34), args := #[Operand.tmp 18], argTypes :=
      obtain ⟨h1, -⟩ := hh
      have g1 : f 1 = _ := h1
      unfold stStep
      rw [if_pos (by simp [Region.wanted])]
      intro K Q hK
      simp only [puts, List.foldr_cons, List.foldr_nil, List.setIfInBounds_toArray, List.set_cons_succ, List.set_cons_zero, g1]
      rw [hSd] at hS hK
      have l2 : L 2 = false := hi
      try simp only [stage, l2, if_true, if_false, Bool.false_eq_true] at hS
      obtain ⟨hb, -, h5⟩ := hS
      go_step
      go_at_call 34
      refine (HBH.out W (he2.later hb)).mono ?_
      rintro e w' ⟨g, r, rfl, hM, hb'⟩
      refine hK.out _ _ rfl ⟨g, rfl⟩ ?_
      refine ⟨hb.trans (hb'.mono hb.size), fun _ => ⟨_, g, r, rfl, hM, fun hL d hd => ?_⟩, fun hL => ?_⟩
      · obtain ⟨d0, e0, hd0, hr0⟩ := h5 hL
        have hlt := hr0.lt
        have e1 := e0.symm.trans hd
        injection e1 with e1
        injection e1 with e1
        injection e1 with e1
        subst e1
        refine ⟨by have := hM.1; omega, fun i hi => by have := (hM.2.1 i hi).1; omega⟩
      · obtain ⟨d0, e0, hd0, hr0⟩ := h5 hL
        exact ⟨d0, e0, hd0, hr0.later hb'⟩
    · -- 3: Op.fieldAddr 24 (Operand.tmp 2) 0
      unfold stStep
      rw [if_pos (by simp [Region.wanted])]
      intro K Q hK
      simp only [puts, List.foldr_nil]
      go_step
      refine st_ex hK rfl rfl (by simp only [Act.put, List.setIfInBounds_toArray, List.set_cons_succ, List.set_cons_zero, Array.getD_eq_getD_getElem?, List.getElem?_toArray, List.getElem?_cons_succ, List.getElem?_cons_zero, Option.getD_some] <;> rfl) rfl (by rw [hSd] at hS ⊢; exact hS)
    · -- 4: Op.load 3 (Operand.tmp 20)
      obtain ⟨h3, -⟩ := hh
      have g3 : f 3 = _ := h3
      unfold stStep
      rw [if_pos (by simp [Region.wanted])]
      intro K Q hK
      simp only [puts, List.foldr_cons, List.foldr_nil, List.setIfInBounds_toArray, List.set_cons_succ, List.set_cons_zero, g3]
      have hS' := hS
      rw [hSd] at hS'
      obtain ⟨c0, c1⟩ := HO.out W (hb2.trans (hS'.1.mono hb2.size))
      go_step
      refine st_ex hK rfl rfl (by simp only [Act.put, List.setIfInBounds_toArray, List.set_cons_succ, List.set_cons_zero, Array.getD_eq_getD_getElem?, List.getElem?_toArray, List.getElem?_cons_succ, List.getElem?_cons_zero, Option.getD_some] <;> rfl) rfl (by rw [hSd] at hS ⊢; exact hS)
    · -- 5: Op.makeSlice 61 (Operand.tmp 21) (Operand.tmp 21)
      obtain ⟨h4, _, -⟩ := hh
      have g4 : f 4 = _ := h4
      unfold stStep
      rw [if_pos (by simp [Region.wanted])]
      intro K Q hK
      simp only [puts, List.foldr_cons, List.foldr_nil, List.setIfInBounds_toArray, List.set_cons_succ, List.set_cons_zero, g4]
      rw [hSd] at hS hK
      have l5 : L 5 = false := hi
      try simp only [stage, l5, if_true, if_false, Bool.false_eq_true] at hS
      obtain ⟨hb, h2, -⟩ := hS
      refine make_row_op elBools rfl _ _ rfl rfl rfl rfl rfl (by omega) ?_
      intro w' hr' hb' hs'
      refine hK.out _ _ rfl ⟨_, rfl⟩ ?_
      have hz : RowIs w' W.heap.size N fun i => .bool (inB [] i) := hr'.congr fun i _ => by rw [inB_nil]
      refine ⟨hb.trans (hb'.mono hb.size), fun hL => ?_, fun _ => ⟨_, rfl, hb.size, hz⟩⟩
      obtain ⟨B, g, r, e2, hM, -⟩ := h2 hL
      refine ⟨B, g, r, e2, hM.later hb', fun _ d hd => ?_⟩
      replace hd : Value.slice (some ⟨W.heap.size, 0, none⟩) N N = .slice (some ⟨d, 0, none⟩) N N := hd
      injection hd with hd
      injection hd with hd
      injection hd with hd
      subst hd
      exact ⟨by have := hM.2.2.2.1.lt; omega, fun i hi => by have := (hM.2.2.2.2 i hi).lt; omega⟩
    · -- 6: Op.fieldAddr 24 (Operand.tmp 2) 0
      unfold stStep
      rw [if_pos (by simp [Region.wanted])]
      intro K Q hK
      simp only [puts, List.foldr_nil]
      go_step
      refine st_ex hK rfl rfl (by simp only [Act.put, List.setIfInBounds_toArray, List.set_cons_succ, List.set_cons_zero, Array.getD_eq_getD_getElem?, List.getElem?_toArray, List.getElem?_cons_succ, List.getElem?_cons_zero, Option.getD_some] <;> rfl) rfl (by rw [hSd] at hS ⊢; exact hS)
    · -- 7: Op.load 3 (Operand.tmp 23)
      obtain ⟨h6, -⟩ := hh
      have g6 : f 6 = _ := h6
      unfold stStep
      rw [if_pos (by simp [Region.wanted])]
      intro K Q hK
      simp only [puts, List.foldr_cons, List.foldr_nil, List.setIfInBounds_toArray, List.set_cons_succ, List.set_cons_zero, g6]
      have hS' := hS
      rw [hSd] at hS'
      obtain ⟨c0, c1⟩ := HO.out W (hb2.trans (hS'.1.mono hb2.size))
      go_step
      refine st_ex hK rfl rfl (by simp only [Act.put, List.setIfInBounds_toArray, List.set_cons_succ, List.set_cons_zero, Array.getD_eq_getD_getElem?, List.getElem?_toArray, List.getElem?_cons_succ, List.getElem?_cons_zero, Option.getD_some] <;> rfl) rfl (by rw [hSd] at hS ⊢; exact hS)
    · -- 8: Op.move (Operand.tmp 1)
      unfold stStep
      rw [if_pos (by simp [Region.wanted])]
      intro K Q hK
      simp only [puts, List.foldr_nil]
      go_step
      refine st_ex hK rfl rfl (by simp only [Act.put, List.setIfInBounds_toArray, List.set_cons_succ, List.set_cons_zero, Array.getD_eq_getD_getElem?, List.getElem?_toArray, List.getElem?_cons_succ, List.getElem?_cons_zero, Option.getD_some] <;> rfl) rfl (by rw [hSd] at hS ⊢; exact hS)
    · -- 9: Op.call { callee := Callee.value (Operand.func 40), args := #[Operand.tmp 19, Operand.tmp 
      obtain ⟨h2, h5, h7, h8, _, -⟩ := hh
      obtain ⟨vg, (g2 : f 2 = _)⟩ := h2
      obtain ⟨vd, (g5 : f 5 = _)⟩ := h5
      have g7 : f 7 = _ := h7
      have g8 : f 8 = _ := h8
      unfold stStep
      rw [if_pos (by simp [Region.wanted])]
      intro K Q hK
      simp only [puts, List.foldr_cons, List.foldr_nil, List.setIfInBounds_toArray, List.set_cons_succ, List.set_cons_zero, g2, g5, g7, g8]
      rw [hSd] at hS hK
      have l9 : L 9 = false := hi
      try simp only [stage, l9, if_true, if_false, Bool.false_eq_true] at hS
      obtain ⟨hb, h2', h5'⟩ := hS
      obtain ⟨B, g, r, e2, hM, hdis⟩ := h2' (hd 2 (by decide))
      obtain ⟨d, e5, hdB, hD⟩ := h5' (hd 5 (by decide))
      replace hdis := hdis (hd 5 (by decide)) d e5
      obtain rfl : vg = g := by
        have e := g2.symm.trans e2
        injection e with e
        injection e with e
        injection e
      obtain rfl : vd = d := by
        have e := g5.symm.trans e5
        injection e with e
        injection e with e
        injection e
      go_step
      go_at_call 40
      refine (HCA.out B vg r vd hdis W hM hD).mono ?_
      rintro e w' ⟨rfl, hD', hbut⟩
      refine hK.out _ _ rfl rfl ?_
      refine ⟨hb.trans (hbut.below hdB hb.size), fun _ => ⟨B, vg, r, e2, hM.but hbut hdis, fun _ d' hd' => ?_⟩, fun _ => ⟨vd, e5, hdB, hD'⟩⟩
      have e := e5.symm.trans hd'
      injection e with e
      injection e with e
      injection e with e
      subst e
      exact hdis
    · -- 10: Op.call { callee := Callee.builtin Builtin.min, args := #[Operand.tmp 17, Operand.tmp 26],
      obtain ⟨h0, h9, -⟩ := hh
      have g0 : f 0 = _ := h0
      have g9 : f 9 = _ := h9
      unfold stStep
      rw [if_pos (by simp [Region.wanted])]
      intro K Q hK
      simp only [puts, List.foldr_cons, List.foldr_nil, List.setIfInBounds_toArray, List.set_cons_succ, List.set_cons_zero, g0, g9]
      go_step
      refine st_ex hK rfl rfl (by simp only [Act.put, List.setIfInBounds_toArray, List.set_cons_succ, List.set_cons_zero, Array.getD_eq_getD_getElem?, List.getElem?_toArray, List.getElem?_cons_succ, List.getElem?_cons_zero, Option.getD_some] <;> rfl) rfl (by rw [hSd] at hS ⊢; exact hS)
    · -- 11: Op.assign (Operand.tmp 27)
      obtain ⟨h10, h9, h0, h1, h2, h3, h4, h5, h6, h7, h8, _, _, -⟩ := hh
      have g10 : f 10 = _ := h10
      have g9 : f 9 = _ := h9
      have g0 : f 0 = _ := h0
      have g1 : f 1 = _ := h1
      obtain ⟨vg, (g2 : f 2 = _)⟩ := h2
      have g3 : f 3 = _ := h3
      have g4 : f 4 = _ := h4
      obtain ⟨vd, (g5 : f 5 = _)⟩ := h5
      have g6 : f 6 = _ := h6
      have g7 : f 7 = _ := h7
      have g8 : f 8 = _ := h8
      unfold stStep
      rw [if_pos (by simp [Region.wanted])]
      intro K Q hK
      simp only [puts, List.foldr_cons, List.foldr_nil, List.setIfInBounds_toArray, List.set_cons_succ, List.set_cons_zero, g10, g9, g0, g1, g2, g3, g4, g5, g6, g7, g8]
      go_step
      refine st_ex hK rfl rfl (by simp only [Act.put, List.setIfInBounds_toArray, List.set_cons_succ, List.set_cons_zero, Array.getD_eq_getD_getElem?, List.getElem?_toArray, List.getElem?_cons_succ, List.getElem?_cons_zero, Option.getD_some] <;> rfl) rfl (by rw [hSd] at hS ⊢; exact hS)
    · -- 12: Op.assign (Operand.const (Value.int IntKind.i64 0))
      obtain ⟨h11, h0, h1, h2, h3, h4, h5, h6, h7, h8, h9, h10, _, -⟩ := hh
      have g11 : f 11 = _ := h11
      have g0 : f 0 = _ := h0
      have g1 : f 1 = _ := h1
      obtain ⟨vg, (g2 : f 2 = _)⟩ := h2
      have g3 : f 3 = _ := h3
      have g4 : f 4 = _ := h4
      obtain ⟨vd, (g5 : f 5 = _)⟩ := h5
      have g6 : f 6 = _ := h6
      have g7 : f 7 = _ := h7
      have g8 : f 8 = _ := h8
      have g9 : f 9 = _ := h9
      have g10 : f 10 = _ := h10
      unfold stStep
      rw [if_pos (by simp [Region.wanted])]
      intro K Q hK
      simp only [puts, List.foldr_cons, List.foldr_nil, List.setIfInBounds_toArray, List.set_cons_succ, List.set_cons_zero, g11, g0, g1, g2, g3, g4, g5, g6, g7, g8, g9, g10]
      go_step
      refine st_ex hK rfl rfl (by simp only [Act.put, List.setIfInBounds_toArray, List.set_cons_succ, List.set_cons_zero, Array.getD_eq_getD_getElem?, List.getElem?_toArray, List.getElem?_cons_succ, List.getElem?_cons_zero, Option.getD_some] <;> rfl) rfl (by rw [hSd] at hS ⊢; exact hS)
  case rest =>
    intro L f W2 hL hh hS
    rw [hSd] at hS
    clear hSd
    obtain ⟨h0, h1, h2, h3, h4, h5, h6, h7, h8, h9, h10, h11, h12, -⟩ := hh
    have g0 : f 0 = _ := h0
    have g1 : f 1 = _ := h1
    obtain ⟨vg, (g2 : f 2 = _)⟩ := h2
    have g3 : f 3 = _ := h3
    have g4 : f 4 = _ := h4
    obtain ⟨vd, (g5 : f 5 = _)⟩ := h5
    have g6 : f 6 = _ := h6
    have g7 : f 7 = _ := h7
    have g8 : f 8 = _ := h8
    have g9 : f 9 = _ := h9
    have g10 : f 10 = _ := h10
    have g11 : f 11 = _ := h11
    have g12 : f 12 = _ := h12
    simp only [puts, List.foldr_cons, List.foldr_nil, List.setIfInBounds_toArray, List.set_cons_succ, List.set_cons_zero, g0, g1, g2, g3, g4, g5, g6, g7, g8, g9, g10, g11, g12]
    clear h0 h1 h3 h4 h6 h7 h8 h9 h10 h11 h12 g0 g1 g3 g4 g6 g7 g8 g9 g10 g11 g12
    obtain ⟨hb, -, -⟩ := hS
    go_wp2
    go_ret2
    exact ⟨⟨_, _, rfl, HR.out⟩, hb02.trans (hb.mono hb02.size)⟩
end Go.Proofs.YtofnbndpoiohhaaDoor
