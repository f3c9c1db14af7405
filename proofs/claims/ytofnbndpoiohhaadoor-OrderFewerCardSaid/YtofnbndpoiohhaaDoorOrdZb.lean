/-
  The reference: Height.
-/
import Derived.Test.YtofnbndpoiohhaaDoorOrdW
import Derived.Test.YtofnbndpoiohhaaDoorOrdS
set_option linter.unusedSimpArgs false
set_option linter.unusedVariables false
set_option maxHeartbeats 8000000
namespace Go.Proofs.YtofnbndpoiohhaaDoor
open Go.RowKit Go.Shelf
attribute [local go_sem] Oper.semAt_some

variable {n : Int} {a : Option Addr} {len cap : Nat} {es : List (Int × Int)} {w : World}

theorem IsInts.get {k : IntKind} {W : World} {b off len cap : Nat} {zs : List Int} (h : IsInts k W (some ⟨b, off, none⟩) len cap zs) (i : Nat) (hi : i < len) : W.cell? ⟨b, off + i, none⟩ = some (.int k (gi zs i)) := by
  rcases h with ⟨h, _⟩ | ⟨b', off', e, _, _, _, hc⟩
  · cases h
  · injection e with e; injection e with e1 e2; subst e1; subst e2
    exact hc i hi

open Classical in
theorem of_path_true {x y : Nat} (h : pathB es x y = true) : Path (Ed es) x y := by unfold pathB at h; exact of_decide_eq_true h

theorem refHeight_no (he : IsPairs w a len cap es) (hcap : len ≤ 9223372036854775807) (hv : ¬ ValidO n es) :
    Calls Tryd.prog 31 #[.agg #[.int .i64 n, .slice a len cap]] w fun e w' => e = .returned (.tuple #[.int .i64 0, .int .i64 1]) ∧ Below w.heap.size w w' := by
  obtain ⟨hb1, hs1, hO⟩ := boxR n a len cap w
  obtain ⟨c0, c1⟩ := hO _ (Below.refl _ _)
  have hc := refLinear_no (he.later hb1) hcap hv
  clear hv he
  go_enter Tryd.func31, Tryd.ntmps31
  go_wp2_with (fail)
  go_at_call 20
  refine hc.mono ?_
  rintro e w2 ⟨rfl, hb2⟩
  clear hc c0 c1
  go_wp2
  go_ret2
  exact ⟨rfl, hb1.trans (hb2.mono hb1.size)⟩

theorem refHeight_yes (he : IsPairs w a len cap es) (hcap : len ≤ 9223372036854775807) (hv : ValidO n es) :
    Calls Tryd.prog 31 #[.agg #[.int .i64 n, .slice a len cap]] w fun e w' => (∃ m : Nat, e = .returned (.tuple #[.int .i64 (m : Int), .int .i64 0]) ∧ IsHeight n.toNat es m) ∧ Below w.heap.size w w' := by
  obtain ⟨hb1, hs1, hO⟩ := boxR n a len cap w
  obtain ⟨W1, hW1⟩ : ∃ W1, w.alloc (.cells #[.int .i64 n, .slice a len cap] 24) = W1 := ⟨_, rfl⟩
  rw [hW1] at hb1 hs1 hO
  have he1 := he.later hb1
  have hc := refLinear_yes he1 hcap hv
  have h36 : len ≤ 3600 := by rw [← he.length]; exact hv.2.1
  obtain ⟨N, rfl⟩ := Int.eq_ofNat_of_zero_le hv.1.1
  rw [Int.toNat_natCast]
  have hN60 : N ≤ 60 := by have := hv.1.2; omega
  have HBH := Lib.hid (fun W h => behind_any N hN60 a len cap es W h hv.2.2.1 h36)
  have HV := Lib.hid hv
  rw [← hs1] at hO
  have HO := Lib.hid hO
  obtain ⟨c0, c1⟩ := hO _ (Below.refl _ _)
  have H1 := Lib.hid hW1
  clear hv he hW1 hO h36
  go_enter Tryd.func31, Tryd.ntmps31
  go_wp2_with (fail)
  rw [H1.out]
  go_at_call 20
  refine hc.mono ?_
  rintro e w2 ⟨lo, ao, co, rfl, hK, hlo, hrow, hb2⟩
  rw [Int.toNat_natCast] at hK hlo
  have hI2 := (IsInts.of_owns hrow).1
  rw [hlo] at hI2
  have HK := Lib.hid hK
  clear hc hK c0 c1 hrow
  obtain ⟨c0, c1⟩ := HO.out _ hb2
  go_wp2_with (fail)
  go_at_call 34
  refine (HBH.out w2 (he1.later hb2)).mono ?_
  rintro e w3 ⟨g, r, rfl, hM, hb3⟩
  clear c0 c1
  have hb13 := hb2.trans (hb3.mono hb2.size)
  obtain ⟨c0, c1⟩ := HO.out _ hb13
  go_wp2_with (refine make_row elI64 rfl rfl _ _ rfl rfl rfl rfl rfl (by omega) ?_; intro W4 hr0 hb34 hs4)
  clear c0 c1
  have hI3 := hI2.later hb3
  have hr0 : RowIs W4 w3.heap.size N (fun _ => .int .i64 ((0 : Nat) : Int)) := hr0
  have HD := Lib.hid (fun W (h : Below w3.heap.size W4 W) => (⟨(HO.out W (hb13.trans ((hb34.trans h).mono hb13.size))).1, hM.later (hb34.trans h), hI3.later (hb34.trans h)⟩ : W.cell? ⟨w.heap.size, 0, none⟩ = some (.int .i64 N) ∧ MatIs W _ g N r (pathB es) ∧ IsInts .i64 W ao N co (lo.map Int.ofNat)))
  have hsW1 := hb13.size
  have HB : Hid (∀ W, Below w3.heap.size W4 W → Below w.heap.size w W) := Lib.hid (fun W h => hb1.trans ((hb13.trans ((hb34.trans h).mono hsW1)).mono (by omega)))
  have HLO := Lib.hid hlo
  clear hb13 hb34 hb3 hb2 hb1 hI2 hI3 hsW1 hs1 hs4 hM he1
  go_loopw [8, 9] (fun mo c W => ∃ (k m : Nat) (H : Nat → Nat), k ≤ N ∧ c = .int .i64 (k : Int) ∧ mo = .int .i64 (m : Int) ∧ m ≤ N ∧ Hid (HtOk es (lo.take k) H ∧ HtTop (lo.take k) H m) ∧ RowIs W w3.heap.size N (fun i => .int .i64 ((H i : Nat) : Int)) ∧ Below w3.heap.size W4 W) (fun _ c _ => N - (intOf c).toNat)
  case atStart => exact ⟨0, 0, fun _ => 0, Nat.zero_le _, rfl, rfl, Nat.zero_le _, Lib.hid (ht_nil _ _), hr0, Below.refl _ _⟩
  case round =>
    clear hr0
    obtain ⟨k, m, H, hk, rfl, rfl, hmN, HH, hR, hB⟩ := hrel
    rcases Nat.lt_or_ge k N with hlt | hge
    · have t1 : decide ((k : Int) < N) = true := decide_eq_true (by omega)
      have hkl : k < lo.length := by rw [HLO.out]; exact hlt
      obtain ⟨-, -, hI⟩ := HD.out wr hB
      obtain ⟨bf, of, rfl, hbf, hcx⟩ := hI.at wr (Below.refl _ _) k hlt
      rw [gi_map _ _ hkl] at hcx
      obtain ⟨x, hx⟩ : ∃ x, lo[k] = x := ⟨_, rfl⟩
      rw [hx] at hcx
      have hxN : x < N := by rw [← hx]; exact HK.out.topo.lt _ (List.getElem_mem hkl)
      have HX := Lib.hid hx
      clear hx hI
      have HLX : Hid (∀ W, Below w3.heap.size W4 W → W.cell? ⟨bf, of + k, none⟩ = some (.int .i64 (x : Int))) := Lib.hid (fun W h => by
        have := (HD.out W h).2.2.get k hlt
        rwa [gi_map _ _ hkl, HX.out] at this)
      obtain ⟨hca, hfa⟩ := hR.cell x hxN
      have hR5 : RowIs (wr.setCell ⟨w3.heap.size, x, none⟩ (.int .i64 1)) w3.heap.size N (fun i => .int .i64 ((updN H x 1 i : Nat) : Int)) := (hR.store x (.int .i64 1)).congr fun i _ => by unfold updN; split <;> rfl
      have hB5 : Below w3.heap.size W4 (wr.setCell ⟨w3.heap.size, x, none⟩ (.int .i64 1)) := hB.setCell (Nat.le_refl _) _
      clear hR hB
      go_wp2_with (fail)
      clear hca hfa hcx
      generalize wr.setCell ⟨w3.heap.size, x, none⟩ (.int .i64 1) = w5 at hR5 hB5 ⊢
      go_loopw [10] (fun c W => ∃ j v : Nat, j ≤ k ∧ c = .int .i64 (j : Int) ∧ v ≤ 61 ∧ Hid (HtAt es H x v (fun c => c ∈ lo.take j)) ∧ RowIs W w3.heap.size N (fun i => .int .i64 ((updN H x v i : Nat) : Int)) ∧ Below w3.heap.size W4 W) (fun c _ => k - (intOf c).toNat)
      case atStart => exact ⟨0, 1, Nat.zero_le _, rfl, by omega, Lib.hid (HtAt.start _ _ (fun c h => by rw [List.take_zero] at h; cases h)), hR5, hB5⟩
      case round =>
        clear hR5 hB5
        obtain ⟨j, v, hj, rfl, hv61, HV2, hR, hB⟩ := hrel
        rcases Nat.lt_or_ge j k with hjk | hjk
        · have t2 : decide ((j : Int) < k) = true := decide_eq_true (by omega)
          have hjN : j < N := by omega
          have hjl : j < lo.length := by omega
          obtain ⟨y, hy⟩ : ∃ y, lo[j] = y := ⟨_, rfl⟩
          have hyN : y < N := by rw [← hy]; exact HK.out.topo.lt _ (List.getElem_mem hjl)
          have htake : lo.take (j + 1) = lo.take j ++ [y] := by rw [List.take_succ_eq_append_getElem hjl, hy]
          have hym : y ∈ lo.take k := by
            rw [← hy]
            exact List.mem_iff_getElem.2 ⟨j, by rw [List.length_take]; omega, by rw [List.getElem_take]⟩
          have hyx : y ≠ x := fun e => take_new HK.out.topo.nodup hkl (by rw [HX.out, ← e]; exact hym)
          have hHc := ht_le HK.out.topo HH.out.1 hym
          obtain ⟨p, hp⟩ : ∃ p, pathB es y x = p := ⟨_, rfl⟩
          have HL : Hid (∀ W, Below w3.heap.size W4 W → W.cell? ⟨bf, of + j, none⟩ = some (.int .i64 (y : Int)) ∧ W.cell? ⟨bf, of + k, none⟩ = some (.int .i64 (x : Int)) ∧ W.cell? ⟨g, y, none⟩ = some (.slice (some ⟨r y, 0, none⟩) N N) ∧ W.cell? ⟨r y, x, none⟩ = some (.bool p)) := Lib.hid (fun W h => by
            obtain ⟨-, hMW, hIW⟩ := HD.out W h
            have q1 := hIW.get j hjN
            rw [gi_map _ _ hjl, hy] at q1
            have q4 := (hMW.cell y x hyN hxN).1
            rw [hp] at q4
            exact ⟨q1, HLX.out W h, hMW.row y hyN, q4⟩)
          have hBs : w3.heap.size ≤ wr.heap.size := Nat.le_of_lt hR.lt
          have HBC : Hid (∀ W, Below wr.heap.size wr W → Below w3.heap.size W4 W) := Lib.hid (fun W h => hB.trans (h.mono hBs))
          obtain ⟨u, hu⟩ : ∃ u, H y = u := ⟨_, rfl⟩
          rw [hu] at hHc
          obtain ⟨mx, hmx⟩ : ∃ mx, max v (u + 1) = mx := ⟨_, rfl⟩
          have HSTEP : Hid ((p = true → HtAt es H x mx (fun c => c ∈ lo.take (j + 1))) ∧ (p = false → HtAt es H x v (fun c => c ∈ lo.take (j + 1)))) := Lib.hid (by
            refine ⟨fun e => ?_, fun e => ?_⟩
            · rw [← hmx, ← hu]
              refine HV2.out.step (c := y) (by rw [e] at hp; exact of_path_true hp) fun d hd => ?_
              rw [htake] at hd
              rcases List.mem_append.1 hd with h | h
              · exact .inl h
              · exact .inr (List.mem_singleton.1 h)
            · refine HV2.out.skip fun d hd => ?_
              rw [htake] at hd
              rcases List.mem_append.1 hd with h | h
              · exact .inl h
              · rw [List.mem_singleton.1 h]
                exact .inr (fun q => by rw [path_true q] at hp; rw [e] at hp; cases hp))
          have hmi : (if (v : Int) < (u : Int) + 1 then (u : Int) + 1 else (v : Int)) = (mx : Int) := by split <;> omega
          have hmx61 : mx ≤ 61 := by omega
          have HBW := Lib.hid (fun (W : World) (hr : RowIs W w3.heap.size N (fun i => .int .i64 ((updN H x v i : Nat) : Int))) => (⟨by have q := (hr.cell x hxN).1; simpa only [updN_self] using q, by have q := (hr.cell y hyN).1; simp only [updN_ne H v hyx, hu] at q; exact q⟩ : W.cell? ⟨w3.heap.size, x, none⟩ = some (.int .i64 (v : Int)) ∧ W.cell? ⟨w3.heap.size, y, none⟩ = some (.int .i64 (u : Int))))
          have HST := Lib.hid (fun (W : World) (hr : RowIs W w3.heap.size N (fun i => .int .i64 ((updN H x v i : Nat) : Int))) => ((hr.store x (.int .i64 (mx : Int))).congr fun i _ => by unfold updN; split <;> rfl : RowIs (W.setCell ⟨w3.heap.size, x, none⟩ (.int .i64 (mx : Int))) w3.heap.size N (fun i => .int .i64 ((updN H x mx i : Nat) : Int))))
          clear hym hyx htake hy hp hu hmx HV2
          go_wp2_with (fail)
          refine wp_region_grow mixed (by kernel_rfl) [[], [], [], [(1, 42), (2, 43)], [(3, 44)], [(0, 41), (4, 45)], [(5, 46)], [], [], [(7, 48), (8, 49)], [(9, 50)], [(6, 47), (10, 51)], [(11, 52)]] [(0, 41), (1, 42), (2, 43), (3, 44), (4, 45), (5, 46), (6, 47), (7, 48), (8, 49), (9, 50), (10, 51), (11, 52), (12, 53)] rfl rfl [Ex ?ex0, Ex ?ex1, Ex ?ex2, Ex ?ex3, Ex ?ex4, Ex ?ex5, Ex ?ex6, Ex ?ex7, Ex ?ex8, Ex ?ex9, Ex ?ex10, Ex ?ex11, Ex ?ex12] ⟨stays_ex _, stays_ex _, stays_ex _, stays_ex _, stays_ex _, stays_ex _, stays_ex _, stays_ex _, stays_ex _, stays_ex _, stays_ex _, stays_ex _, stays_ex _, trivial⟩ ?xsteps ?xrest
          case xsteps =>
            refine ⟨fun f W hC hh => ?_, fun f W hC hh => ?_, fun f W hC hh => ?_, fun f W hC hh => ?_, fun f W hC hh => ?_, fun f W hC hh => ?_, fun f W hC hh => ?_, fun f W hC hh => ?_, fun f W hC hh => ?_, fun f W hC hh => ?_, fun f W hC hh => ?_, fun f W hC hh => ?_, fun f W hC hh => ?_, trivial⟩
            · -- 0: Op.move (Operand.tmp 6)
              refine tab_plain fun K Q hK => ?_
              simp only [puts, List.foldr_nil]
              go_step
              refine fam_ex hK rfl rfl (by simp only [Act.put, List.setIfInBounds_toArray, List.set_cons_succ, List.set_cons_zero, Array.getD_eq_getD_getElem?, List.getElem?_toArray, List.getElem?_cons_succ, List.getElem?_cons_zero, Option.getD_some] <;> rfl) rfl (Below.refl _ _) hC
            · -- 1: Op.move (Operand.tmp 4)
              refine tab_plain fun K Q hK => ?_
              simp only [puts, List.foldr_nil]
              go_step
              refine fam_ex hK rfl rfl (by simp only [Act.put, List.setIfInBounds_toArray, List.set_cons_succ, List.set_cons_zero, Array.getD_eq_getD_getElem?, List.getElem?_toArray, List.getElem?_cons_succ, List.getElem?_cons_zero, Option.getD_some] <;> rfl) rfl (Below.refl _ _) hC
            · -- 2: Op.move (Operand.tmp 10)
              refine tab_plain fun K Q hK => ?_
              simp only [puts, List.foldr_nil]
              go_step
              refine fam_ex hK rfl rfl (by simp only [Act.put, List.setIfInBounds_toArray, List.set_cons_succ, List.set_cons_zero, Array.getD_eq_getD_getElem?, List.getElem?_toArray, List.getElem?_cons_succ, List.getElem?_cons_zero, Option.getD_some] <;> rfl) rfl (Below.refl _ _) hC
            · -- 3: Op.indexAddr 31 (Operand.tmp 42) (Operand.tmp 43)
              obtain ⟨h1, h2, -⟩ := hh
              have g1 : f 1 = _ := h1
              have g2 : f 2 = _ := h2
              refine tab_plain fun K Q hK => ?_
              simp only [puts, List.foldr_cons, List.foldr_nil, List.setIfInBounds_toArray, List.set_cons_succ, List.set_cons_zero, g1, g2]
              go_step
              refine fam_ex hK rfl rfl (by simp only [Act.put, List.setIfInBounds_toArray, List.set_cons_succ, List.set_cons_zero, Array.getD_eq_getD_getElem?, List.getElem?_toArray, List.getElem?_cons_succ, List.getElem?_cons_zero, Option.getD_some] <;> rfl) rfl (Below.refl _ _) hC
            · -- 4: Op.load 3 (Operand.tmp 44)
              obtain ⟨h3, -⟩ := hh
              have g3 : f 3 = _ := h3
              refine tab_plain fun K Q hK => ?_
              simp only [puts, List.foldr_cons, List.foldr_nil, List.setIfInBounds_toArray, List.set_cons_succ, List.set_cons_zero, g3]
              obtain ⟨q1, q2, q3, q4⟩ := HL.out W (HBC.out W hC)
              go_step
              refine fam_ex hK rfl rfl (by simp only [Act.put, List.setIfInBounds_toArray, List.set_cons_succ, List.set_cons_zero, Array.getD_eq_getD_getElem?, List.getElem?_toArray, List.getElem?_cons_succ, List.getElem?_cons_zero, Option.getD_some] <;> rfl) rfl (Below.refl _ _) hC
            · -- 5: Op.indexAddr 59 (Operand.tmp 41) (Operand.tmp 45)
              obtain ⟨h0, h4, -⟩ := hh
              have g0 : f 0 = _ := h0
              have g4 : f 4 = _ := h4
              refine tab_plain fun K Q hK => ?_
              simp only [puts, List.foldr_cons, List.foldr_nil, List.setIfInBounds_toArray, List.set_cons_succ, List.set_cons_zero, g0, g4]
              go_step
              refine fam_ex hK rfl rfl (by simp only [Act.put, List.setIfInBounds_toArray, List.set_cons_succ, List.set_cons_zero, Array.getD_eq_getD_getElem?, List.getElem?_toArray, List.getElem?_cons_succ, List.getElem?_cons_zero, Option.getD_some] <;> rfl) rfl (Below.refl _ _) hC
            · -- 6: Op.load 61 (Operand.tmp 46)
              obtain ⟨h5, -⟩ := hh
              have g5 : f 5 = _ := h5
              refine tab_plain fun K Q hK => ?_
              simp only [puts, List.foldr_cons, List.foldr_nil, List.setIfInBounds_toArray, List.set_cons_succ, List.set_cons_zero, g5]
              obtain ⟨q1, q2, q3, q4⟩ := HL.out W (HBC.out W hC)
              go_step
              refine fam_ex hK rfl rfl (by simp only [Act.put, List.setIfInBounds_toArray, List.set_cons_succ, List.set_cons_zero, Array.getD_eq_getD_getElem?, List.getElem?_toArray, List.getElem?_cons_succ, List.getElem?_cons_zero, Option.getD_some] <;> rfl) rfl (Below.refl _ _) hC
            · -- 7: Op.move (Operand.tmp 4)
              refine tab_plain fun K Q hK => ?_
              simp only [puts, List.foldr_nil]
              go_step
              refine fam_ex hK rfl rfl (by simp only [Act.put, List.setIfInBounds_toArray, List.set_cons_succ, List.set_cons_zero, Array.getD_eq_getD_getElem?, List.getElem?_toArray, List.getElem?_cons_succ, List.getElem?_cons_zero, Option.getD_some] <;> rfl) rfl (Below.refl _ _) hC
            · -- 8: Op.move (Operand.tmp 9)
              refine tab_plain fun K Q hK => ?_
              simp only [puts, List.foldr_nil]
              go_step
              refine fam_ex hK rfl rfl (by simp only [Act.put, List.setIfInBounds_toArray, List.set_cons_succ, List.set_cons_zero, Array.getD_eq_getD_getElem?, List.getElem?_toArray, List.getElem?_cons_succ, List.getElem?_cons_zero, Option.getD_some] <;> rfl) rfl (Below.refl _ _) hC
            · -- 9: Op.indexAddr 31 (Operand.tmp 48) (Operand.tmp 49)
              obtain ⟨h7, h8, -⟩ := hh
              have g7 : f 7 = _ := h7
              have g8 : f 8 = _ := h8
              refine tab_plain fun K Q hK => ?_
              simp only [puts, List.foldr_cons, List.foldr_nil, List.setIfInBounds_toArray, List.set_cons_succ, List.set_cons_zero, g7, g8]
              go_step
              refine fam_ex hK rfl rfl (by simp only [Act.put, List.setIfInBounds_toArray, List.set_cons_succ, List.set_cons_zero, Array.getD_eq_getD_getElem?, List.getElem?_toArray, List.getElem?_cons_succ, List.getElem?_cons_zero, Option.getD_some] <;> rfl) rfl (Below.refl _ _) hC
            · -- 10: Op.load 3 (Operand.tmp 50)
              obtain ⟨h9, -⟩ := hh
              have g9 : f 9 = _ := h9
              refine tab_plain fun K Q hK => ?_
              simp only [puts, List.foldr_cons, List.foldr_nil, List.setIfInBounds_toArray, List.set_cons_succ, List.set_cons_zero, g9]
              obtain ⟨q1, q2, q3, q4⟩ := HL.out W (HBC.out W hC)
              go_step
              refine fam_ex hK rfl rfl (by simp only [Act.put, List.setIfInBounds_toArray, List.set_cons_succ, List.set_cons_zero, Array.getD_eq_getD_getElem?, List.getElem?_toArray, List.getElem?_cons_succ, List.getElem?_cons_zero, Option.getD_some] <;> rfl) rfl (Below.refl _ _) hC
            · -- 11: Op.indexAddr 61 (Operand.tmp 47) (Operand.tmp 51)
              obtain ⟨h6, h10, -⟩ := hh
              have g6 : f 6 = _ := h6
              have g10 : f 10 = _ := h10
              refine tab_plain fun K Q hK => ?_
              simp only [puts, List.foldr_cons, List.foldr_nil, List.setIfInBounds_toArray, List.set_cons_succ, List.set_cons_zero, g6, g10]
              go_step
              refine fam_ex hK rfl rfl (by simp only [Act.put, List.setIfInBounds_toArray, List.set_cons_succ, List.set_cons_zero, Array.getD_eq_getD_getElem?, List.getElem?_toArray, List.getElem?_cons_succ, List.getElem?_cons_zero, Option.getD_some] <;> rfl) rfl (Below.refl _ _) hC
            · -- 12: Op.load 4 (Operand.tmp 52)
              obtain ⟨h11, -⟩ := hh
              have g11 : f 11 = _ := h11
              refine tab_plain fun K Q hK => ?_
              simp only [puts, List.foldr_cons, List.foldr_nil, List.setIfInBounds_toArray, List.set_cons_succ, List.set_cons_zero, g11]
              obtain ⟨q1, q2, q3, q4⟩ := HL.out W (HBC.out W hC)
              go_step
              refine fam_ex hK rfl rfl (by simp only [Act.put, List.setIfInBounds_toArray, List.set_cons_succ, List.set_cons_zero, Array.getD_eq_getD_getElem?, List.getElem?_toArray, List.getElem?_cons_succ, List.getElem?_cons_zero, Option.getD_some] <;> rfl) rfl (Below.refl _ _) hC
          case xrest =>
            intro f WA hC hh
            obtain ⟨h0, h1, h2, h3, h4, h5, h6, h7, h8, h9, h10, h11, h12, -⟩ := hh
            have g0 : f 0 = _ := h0
            have g1 : f 1 = _ := h1
            have g2 : f 2 = _ := h2
            have g3 : f 3 = _ := h3
            have g4 : f 4 = _ := h4
            have g5 : f 5 = _ := h5
            have g6 : f 6 = _ := h6
            have g7 : f 7 = _ := h7
            have g8 : f 8 = _ := h8
            have g9 : f 9 = _ := h9
            have g10 : f 10 = _ := h10
            have g11 : f 11 = _ := h11
            have g12 : f 12 = _ := h12
            simp only [puts, List.foldr_cons, List.foldr_nil, List.setIfInBounds_toArray, List.set_cons_succ, List.set_cons_zero, g0, g1, g2, g3, g4, g5, g6, g7, g8, g9, g10, g11, g12]
            clear h0 h1 h2 h3 h4 h5 h6 h7 h8 h9 h10 h11 h12 g0 g1 g2 g3 g4 g5 g6 g7 g8 g9 g10 g11 g12
            have hRA := hR.later hC
            have hBA := HBC.out WA hC
            clear hR hB hC HBC hBs
            cases p with
            | false =>
              have HV3 := Lib.hid (HSTEP.out.2 rfl)
              clear HSTEP
              go_wp2
              go_roundw
              case rel => exact ⟨j + 1, v, by omega, by go_num, hv61, HV3, hRA, hBA⟩
              case measure => simp [intOf]; omega
            | true =>
              have HV3 := Lib.hid (HSTEP.out.1 rfl)
              clear HSTEP
              go_wp2_with (fail)
              obtain ⟨S, hSd⟩ : ∃ S : (Nat → Bool) → (Nat → Value) → World → Prop, S = fun L f W => (Below w3.heap.size W4 W ∧ stage L f W (fun W => RowIs W w3.heap.size N (fun i => .int .i64 ((updN H x v i : Nat) : Int))) [(22, fun _ W => RowIs W w3.heap.size N (fun i => .int .i64 ((updN H x mx i : Nat) : Int)))]) := ⟨_, rfl⟩
              refine wp_region_st mixed (by kernel_rfl) [[], [], [], [(1, 55), (2, 56)], [(3, 57)], [], [], [], [(6, 60), (7, 61)], [(8, 62)], [(5, 59), (9, 63)], [(10, 64)], [], [], [], [(13, 67), (14, 68)], [(15, 69)], [(12, 66), (16, 70)], [(17, 71)], [(18, 72)], [(11, 65), (19, 73)], [(0, 54), (4, 58), (0, 54), (1, 55), (2, 56), (3, 57), (4, 58), (5, 59), (6, 60), (7, 61), (8, 62), (9, 63), (10, 64), (11, 65), (12, 66), (13, 67), (14, 68), (15, 69), (16, 70), (17, 71), (18, 72), (19, 73), (20, 74)], [(21, 75), (20, 74), (0, 54), (1, 55), (2, 56), (3, 57), (4, 58), (5, 59), (6, 60), (7, 61), (8, 62), (9, 63), (10, 64), (11, 65), (12, 66), (13, 67), (14, 68), (15, 69), (16, 70), (17, 71), (18, 72), (19, 73), (20, 74)]] [(0, 54), (1, 55), (2, 56), (3, 57), (4, 58), (5, 59), (6, 60), (7, 61), (8, 62), (9, 63), (10, 64), (11, 65), (12, 66), (13, 67), (14, 68), (15, 69), (16, 70), (17, 71), (18, 72), (19, 73), (20, 74), (21, 75)] rfl rfl [EV ?ey0, EV ?ey1, EV ?ey2, EV ?ey3, EV ?ey4, EV ?ey5, EV ?ey6, EV ?ey7, EV ?ey8, EV ?ey9, EV ?ey10, EV ?ey11, EV ?ey12, EV ?ey13, EV ?ey14, EV ?ey15, EV ?ey16, EV ?ey17, EV ?ey18, EV ?ey19, EV (.int .i64 (mx : Int)), EV ?ey21, fun _ => True] S ?ystart ?ysteps ?yrest
              case ystart =>
                intro f
                rw [hSd]
                exact ⟨hBA.drew, hRA⟩
              case ysteps =>
                refine ⟨fun L f W hi hd hdn hh hS => ?_, fun L f W hi hd hdn hh hS => ?_, fun L f W hi hd hdn hh hS => ?_, fun L f W hi hd hdn hh hS => ?_, fun L f W hi hd hdn hh hS => ?_, fun L f W hi hd hdn hh hS => ?_, fun L f W hi hd hdn hh hS => ?_, fun L f W hi hd hdn hh hS => ?_, fun L f W hi hd hdn hh hS => ?_, fun L f W hi hd hdn hh hS => ?_, fun L f W hi hd hdn hh hS => ?_, fun L f W hi hd hdn hh hS => ?_, fun L f W hi hd hdn hh hS => ?_, fun L f W hi hd hdn hh hS => ?_, fun L f W hi hd hdn hh hS => ?_, fun L f W hi hd hdn hh hS => ?_, fun L f W hi hd hdn hh hS => ?_, fun L f W hi hd hdn hh hS => ?_, fun L f W hi hd hdn hh hS => ?_, fun L f W hi hd hdn hh hS => ?_, fun L f W hi hd hdn hh hS => ?_, fun L f W hi hd hdn hh hS => ?_, fun L f W hi hd hdn hh hS => ?_, trivial⟩
                · -- 0: Op.move (Operand.tmp 7)
                  unfold stStep
                  rw [if_pos (by simp [Region.wanted])]
                  intro K Q hK
                  simp only [puts, List.foldr_nil]
                  go_step
                  refine st_ex hK rfl rfl (by simp only [Act.put, List.setIfInBounds_toArray, List.set_cons_succ, List.set_cons_zero, Array.getD_eq_getD_getElem?, List.getElem?_toArray, List.getElem?_cons_succ, List.getElem?_cons_zero, Option.getD_some] <;> rfl) rfl (by rw [hSd] at hS ⊢; exact hS)
                · -- 1: Op.move (Operand.tmp 4)
                  unfold stStep
                  rw [if_pos (by simp [Region.wanted])]
                  intro K Q hK
                  simp only [puts, List.foldr_nil]
                  go_step
                  refine st_ex hK rfl rfl (by simp only [Act.put, List.setIfInBounds_toArray, List.set_cons_succ, List.set_cons_zero, Array.getD_eq_getD_getElem?, List.getElem?_toArray, List.getElem?_cons_succ, List.getElem?_cons_zero, Option.getD_some] <;> rfl) rfl (by rw [hSd] at hS ⊢; exact hS)
                · -- 2: Op.move (Operand.tmp 9)
                  unfold stStep
                  rw [if_pos (by simp [Region.wanted])]
                  intro K Q hK
                  simp only [puts, List.foldr_nil]
                  go_step
                  refine st_ex hK rfl rfl (by simp only [Act.put, List.setIfInBounds_toArray, List.set_cons_succ, List.set_cons_zero, Array.getD_eq_getD_getElem?, List.getElem?_toArray, List.getElem?_cons_succ, List.getElem?_cons_zero, Option.getD_some] <;> rfl) rfl (by rw [hSd] at hS ⊢; exact hS)
                · -- 3: Op.indexAddr 31 (Operand.tmp 55) (Operand.tmp 56)
                  obtain ⟨h1, h2, -⟩ := hh
                  have g1 : f 1 = _ := h1
                  have g2 : f 2 = _ := h2
                  unfold stStep
                  rw [if_pos (by simp [Region.wanted])]
                  intro K Q hK
                  simp only [puts, List.foldr_cons, List.foldr_nil, List.setIfInBounds_toArray, List.set_cons_succ, List.set_cons_zero, g1, g2]
                  go_step
                  refine st_ex hK rfl rfl (by simp only [Act.put, List.setIfInBounds_toArray, List.set_cons_succ, List.set_cons_zero, Array.getD_eq_getD_getElem?, List.getElem?_toArray, List.getElem?_cons_succ, List.getElem?_cons_zero, Option.getD_some] <;> rfl) rfl (by rw [hSd] at hS ⊢; exact hS)
                · -- 4: Op.load 3 (Operand.tmp 57)
                  obtain ⟨h3, -⟩ := hh
                  have g3 : f 3 = _ := h3
                  unfold stStep
                  rw [if_pos (by simp [Region.wanted])]
                  intro K Q hK
                  simp only [puts, List.foldr_cons, List.foldr_nil, List.setIfInBounds_toArray, List.set_cons_succ, List.set_cons_zero, g3]
                  have hS' := hS
                  rw [hSd] at hS'
                  obtain ⟨q1, q2, -, -⟩ := HL.out W hS'.1
                  go_step
                  refine st_ex hK rfl rfl (by simp only [Act.put, List.setIfInBounds_toArray, List.set_cons_succ, List.set_cons_zero, Array.getD_eq_getD_getElem?, List.getElem?_toArray, List.getElem?_cons_succ, List.getElem?_cons_zero, Option.getD_some] <;> rfl) rfl (by rw [hSd] at hS ⊢; exact hS)
                · -- 5: Op.move (Operand.tmp 7)
                  unfold stStep
                  rw [if_pos (by simp [Region.wanted])]
                  intro K Q hK
                  simp only [puts, List.foldr_nil]
                  go_step
                  refine st_ex hK rfl rfl (by simp only [Act.put, List.setIfInBounds_toArray, List.set_cons_succ, List.set_cons_zero, Array.getD_eq_getD_getElem?, List.getElem?_toArray, List.getElem?_cons_succ, List.getElem?_cons_zero, Option.getD_some] <;> rfl) rfl (by rw [hSd] at hS ⊢; exact hS)
                · -- 6: Op.move (Operand.tmp 4)
                  unfold stStep
                  rw [if_pos (by simp [Region.wanted])]
                  intro K Q hK
                  simp only [puts, List.foldr_nil]
                  go_step
                  refine st_ex hK rfl rfl (by simp only [Act.put, List.setIfInBounds_toArray, List.set_cons_succ, List.set_cons_zero, Array.getD_eq_getD_getElem?, List.getElem?_toArray, List.getElem?_cons_succ, List.getElem?_cons_zero, Option.getD_some] <;> rfl) rfl (by rw [hSd] at hS ⊢; exact hS)
                · -- 7: Op.move (Operand.tmp 9)
                  unfold stStep
                  rw [if_pos (by simp [Region.wanted])]
                  intro K Q hK
                  simp only [puts, List.foldr_nil]
                  go_step
                  refine st_ex hK rfl rfl (by simp only [Act.put, List.setIfInBounds_toArray, List.set_cons_succ, List.set_cons_zero, Array.getD_eq_getD_getElem?, List.getElem?_toArray, List.getElem?_cons_succ, List.getElem?_cons_zero, Option.getD_some] <;> rfl) rfl (by rw [hSd] at hS ⊢; exact hS)
                · -- 8: Op.indexAddr 31 (Operand.tmp 60) (Operand.tmp 61)
                  obtain ⟨h6, h7, -⟩ := hh
                  have g6 : f 6 = _ := h6
                  have g7 : f 7 = _ := h7
                  unfold stStep
                  rw [if_pos (by simp [Region.wanted])]
                  intro K Q hK
                  simp only [puts, List.foldr_cons, List.foldr_nil, List.setIfInBounds_toArray, List.set_cons_succ, List.set_cons_zero, g6, g7]
                  go_step
                  refine st_ex hK rfl rfl (by simp only [Act.put, List.setIfInBounds_toArray, List.set_cons_succ, List.set_cons_zero, Array.getD_eq_getD_getElem?, List.getElem?_toArray, List.getElem?_cons_succ, List.getElem?_cons_zero, Option.getD_some] <;> rfl) rfl (by rw [hSd] at hS ⊢; exact hS)
                · -- 9: Op.load 3 (Operand.tmp 62)
                  obtain ⟨h8, -⟩ := hh
                  have g8 : f 8 = _ := h8
                  unfold stStep
                  rw [if_pos (by simp [Region.wanted])]
                  intro K Q hK
                  simp only [puts, List.foldr_cons, List.foldr_nil, List.setIfInBounds_toArray, List.set_cons_succ, List.set_cons_zero, g8]
                  have hS' := hS
                  rw [hSd] at hS'
                  obtain ⟨q1, q2, -, -⟩ := HL.out W hS'.1
                  go_step
                  refine st_ex hK rfl rfl (by simp only [Act.put, List.setIfInBounds_toArray, List.set_cons_succ, List.set_cons_zero, Array.getD_eq_getD_getElem?, List.getElem?_toArray, List.getElem?_cons_succ, List.getElem?_cons_zero, Option.getD_some] <;> rfl) rfl (by rw [hSd] at hS ⊢; exact hS)
                · -- 10: Op.indexAddr 31 (Operand.tmp 59) (Operand.tmp 63)
                  obtain ⟨h5, h9, -⟩ := hh
                  have g5 : f 5 = _ := h5
                  have g9 : f 9 = _ := h9
                  unfold stStep
                  rw [if_pos (by simp [Region.wanted])]
                  intro K Q hK
                  simp only [puts, List.foldr_cons, List.foldr_nil, List.setIfInBounds_toArray, List.set_cons_succ, List.set_cons_zero, g5, g9]
                  go_step
                  refine st_ex hK rfl rfl (by simp only [Act.put, List.setIfInBounds_toArray, List.set_cons_succ, List.set_cons_zero, Array.getD_eq_getD_getElem?, List.getElem?_toArray, List.getElem?_cons_succ, List.getElem?_cons_zero, Option.getD_some] <;> rfl) rfl (by rw [hSd] at hS ⊢; exact hS)
                · -- 11: Op.load 3 (Operand.tmp 64)
                  obtain ⟨h10, -⟩ := hh
                  have g10 : f 10 = _ := h10
                  have l20 : L 20 = false := Bool.eq_false_iff.2 fun h => by have q := hdn 20 _ h rfl 11 (by decide); rw [show L 11 = false from hi] at q; cases q
                  have l22 : L 22 = false := Bool.eq_false_iff.2 fun h => by have q := hdn 22 _ h rfl 20 (by decide); rw [show L 20 = false from l20] at q; cases q
                  unfold stStep
                  rw [if_pos (by simp [Region.wanted])]
                  intro K Q hK
                  simp only [puts, List.foldr_cons, List.foldr_nil, List.setIfInBounds_toArray, List.set_cons_succ, List.set_cons_zero, g10]
                  have hS' := hS
                  rw [hSd] at hS'
                  simp only [stage, l22, if_false, Bool.false_eq_true] at hS'
                  obtain ⟨hc3, -⟩ := HBW.out W hS'.2
                  go_step
                  refine st_ex hK rfl rfl (by simp only [Act.put, List.setIfInBounds_toArray, List.set_cons_succ, List.set_cons_zero, Array.getD_eq_getD_getElem?, List.getElem?_toArray, List.getElem?_cons_succ, List.getElem?_cons_zero, Option.getD_some] <;> rfl) rfl (by rw [hSd] at hS ⊢; exact hS)
                · -- 12: Op.move (Operand.tmp 7)
                  unfold stStep
                  rw [if_pos (by simp [Region.wanted])]
                  intro K Q hK
                  simp only [puts, List.foldr_nil]
                  go_step
                  refine st_ex hK rfl rfl (by simp only [Act.put, List.setIfInBounds_toArray, List.set_cons_succ, List.set_cons_zero, Array.getD_eq_getD_getElem?, List.getElem?_toArray, List.getElem?_cons_succ, List.getElem?_cons_zero, Option.getD_some] <;> rfl) rfl (by rw [hSd] at hS ⊢; exact hS)
                · -- 13: Op.move (Operand.tmp 4)
                  unfold stStep
                  rw [if_pos (by simp [Region.wanted])]
                  intro K Q hK
                  simp only [puts, List.foldr_nil]
                  go_step
                  refine st_ex hK rfl rfl (by simp only [Act.put, List.setIfInBounds_toArray, List.set_cons_succ, List.set_cons_zero, Array.getD_eq_getD_getElem?, List.getElem?_toArray, List.getElem?_cons_succ, List.getElem?_cons_zero, Option.getD_some] <;> rfl) rfl (by rw [hSd] at hS ⊢; exact hS)
                · -- 14: Op.move (Operand.tmp 10)
                  unfold stStep
                  rw [if_pos (by simp [Region.wanted])]
                  intro K Q hK
                  simp only [puts, List.foldr_nil]
                  go_step
                  refine st_ex hK rfl rfl (by simp only [Act.put, List.setIfInBounds_toArray, List.set_cons_succ, List.set_cons_zero, Array.getD_eq_getD_getElem?, List.getElem?_toArray, List.getElem?_cons_succ, List.getElem?_cons_zero, Option.getD_some] <;> rfl) rfl (by rw [hSd] at hS ⊢; exact hS)
                · -- 15: Op.indexAddr 31 (Operand.tmp 67) (Operand.tmp 68)
                  obtain ⟨h13, h14, -⟩ := hh
                  have g13 : f 13 = _ := h13
                  have g14 : f 14 = _ := h14
                  unfold stStep
                  rw [if_pos (by simp [Region.wanted])]
                  intro K Q hK
                  simp only [puts, List.foldr_cons, List.foldr_nil, List.setIfInBounds_toArray, List.set_cons_succ, List.set_cons_zero, g13, g14]
                  go_step
                  refine st_ex hK rfl rfl (by simp only [Act.put, List.setIfInBounds_toArray, List.set_cons_succ, List.set_cons_zero, Array.getD_eq_getD_getElem?, List.getElem?_toArray, List.getElem?_cons_succ, List.getElem?_cons_zero, Option.getD_some] <;> rfl) rfl (by rw [hSd] at hS ⊢; exact hS)
                · -- 16: Op.load 3 (Operand.tmp 69)
                  obtain ⟨h15, -⟩ := hh
                  have g15 : f 15 = _ := h15
                  unfold stStep
                  rw [if_pos (by simp [Region.wanted])]
                  intro K Q hK
                  simp only [puts, List.foldr_cons, List.foldr_nil, List.setIfInBounds_toArray, List.set_cons_succ, List.set_cons_zero, g15]
                  have hS' := hS
                  rw [hSd] at hS'
                  obtain ⟨q1, q2, -, -⟩ := HL.out W hS'.1
                  go_step
                  refine st_ex hK rfl rfl (by simp only [Act.put, List.setIfInBounds_toArray, List.set_cons_succ, List.set_cons_zero, Array.getD_eq_getD_getElem?, List.getElem?_toArray, List.getElem?_cons_succ, List.getElem?_cons_zero, Option.getD_some] <;> rfl) rfl (by rw [hSd] at hS ⊢; exact hS)
                · -- 17: Op.indexAddr 31 (Operand.tmp 66) (Operand.tmp 70)
                  obtain ⟨h12, h16, -⟩ := hh
                  have g12 : f 12 = _ := h12
                  have g16 : f 16 = _ := h16
                  unfold stStep
                  rw [if_pos (by simp [Region.wanted])]
                  intro K Q hK
                  simp only [puts, List.foldr_cons, List.foldr_nil, List.setIfInBounds_toArray, List.set_cons_succ, List.set_cons_zero, g12, g16]
                  go_step
                  refine st_ex hK rfl rfl (by simp only [Act.put, List.setIfInBounds_toArray, List.set_cons_succ, List.set_cons_zero, Array.getD_eq_getD_getElem?, List.getElem?_toArray, List.getElem?_cons_succ, List.getElem?_cons_zero, Option.getD_some] <;> rfl) rfl (by rw [hSd] at hS ⊢; exact hS)
                · -- 18: Op.load 3 (Operand.tmp 71)
                  obtain ⟨h17, -⟩ := hh
                  have g17 : f 17 = _ := h17
                  have l19 : L 19 = false := Bool.eq_false_iff.2 fun h => by have q := hdn 19 _ h rfl 18 (by decide); rw [show L 18 = false from hi] at q; cases q
                  have l20 : L 20 = false := Bool.eq_false_iff.2 fun h => by have q := hdn 20 _ h rfl 19 (by decide); rw [show L 19 = false from l19] at q; cases q
                  have l22 : L 22 = false := Bool.eq_false_iff.2 fun h => by have q := hdn 22 _ h rfl 20 (by decide); rw [show L 20 = false from l20] at q; cases q
                  unfold stStep
                  rw [if_pos (by simp [Region.wanted])]
                  intro K Q hK
                  simp only [puts, List.foldr_cons, List.foldr_nil, List.setIfInBounds_toArray, List.set_cons_succ, List.set_cons_zero, g17]
                  have hS' := hS
                  rw [hSd] at hS'
                  simp only [stage, l22, if_false, Bool.false_eq_true] at hS'
                  obtain ⟨-, hc7⟩ := HBW.out W hS'.2
                  go_step
                  refine st_ex hK rfl rfl (by simp only [Act.put, List.setIfInBounds_toArray, List.set_cons_succ, List.set_cons_zero, Array.getD_eq_getD_getElem?, List.getElem?_toArray, List.getElem?_cons_succ, List.getElem?_cons_zero, Option.getD_some] <;> rfl) rfl (by rw [hSd] at hS ⊢; exact hS)
                · -- 19: Op.binOp BinOp.add 3 (Operand.tmp 72) (Operand.const (Value.int IntKind.i64 1)) 3
                  obtain ⟨h18, -⟩ := hh
                  have g18 : f 18 = _ := h18
                  unfold stStep
                  rw [if_pos (by simp [Region.wanted])]
                  intro K Q hK
                  simp only [puts, List.foldr_cons, List.foldr_nil, List.setIfInBounds_toArray, List.set_cons_succ, List.set_cons_zero, g18]
                  go_step
                  refine st_ex hK rfl rfl (by simp only [Act.put, List.setIfInBounds_toArray, List.set_cons_succ, List.set_cons_zero, Array.getD_eq_getD_getElem?, List.getElem?_toArray, List.getElem?_cons_succ, List.getElem?_cons_zero, Option.getD_some] <;> rfl) rfl (by rw [hSd] at hS ⊢; exact hS)
                · -- 20: Op.call { callee := Callee.builtin Builtin.max, args := #[Operand.tmp 65, Operand.tmp 73],
                  obtain ⟨h11, h19, -⟩ := hh
                  have g11 : f 11 = _ := h11
                  have g19 : f 19 = _ := h19
                  unfold stStep
                  rw [if_pos (by simp [Region.wanted])]
                  intro K Q hK
                  simp only [puts, List.foldr_cons, List.foldr_nil, List.setIfInBounds_toArray, List.set_cons_succ, List.set_cons_zero, g11, g19]
                  go_step
                  refine st_ex hK rfl rfl (by simp only [Act.put, List.setIfInBounds_toArray, List.set_cons_succ, List.set_cons_zero, Array.getD_eq_getD_getElem?, List.getElem?_toArray, List.getElem?_cons_succ, List.getElem?_cons_zero, Option.getD_some] <;> rfl) rfl (by rw [hSd] at hS ⊢; exact hS)
                · -- 21: Op.indexAddr 31 (Operand.tmp 54) (Operand.tmp 58)
                  obtain ⟨h0, h4, _, h1, h2, h3, _, h5, h6, h7, h8, h9, h10, h11, h12, h13, h14, h15, h16, h17, h18, h19, h20, -⟩ := hh
                  have g0 : f 0 = _ := h0
                  have g4 : f 4 = _ := h4
                  have g1 : f 1 = _ := h1
                  have g2 : f 2 = _ := h2
                  have g3 : f 3 = _ := h3
                  have g5 : f 5 = _ := h5
                  have g6 : f 6 = _ := h6
                  have g7 : f 7 = _ := h7
                  have g8 : f 8 = _ := h8
                  have g9 : f 9 = _ := h9
                  have g10 : f 10 = _ := h10
                  have g11 : f 11 = _ := h11
                  have g12 : f 12 = _ := h12
                  have g13 : f 13 = _ := h13
                  have g14 : f 14 = _ := h14
                  have g15 : f 15 = _ := h15
                  have g16 : f 16 = _ := h16
                  have g17 : f 17 = _ := h17
                  have g18 : f 18 = _ := h18
                  have g19 : f 19 = _ := h19
                  have g20 : f 20 = _ := h20
                  unfold stStep
                  rw [if_pos (by simp [Region.wanted])]
                  intro K Q hK
                  simp only [puts, List.foldr_cons, List.foldr_nil, List.setIfInBounds_toArray, List.set_cons_succ, List.set_cons_zero, g0, g4, g1, g2, g3, g5, g6, g7, g8, g9, g10, g11, g12, g13, g14, g15, g16, g17, g18, g19, g20]
                  go_step
                  refine st_ex hK rfl rfl (by simp only [Act.put, List.setIfInBounds_toArray, List.set_cons_succ, List.set_cons_zero, Array.getD_eq_getD_getElem?, List.getElem?_toArray, List.getElem?_cons_succ, List.getElem?_cons_zero, Option.getD_some] <;> rfl) rfl (by rw [hSd] at hS ⊢; exact hS)
                · -- 22: Op.store 3 (Operand.tmp 75) (Operand.tmp 74)
                  obtain ⟨h21, h20, h0, h1, h2, h3, h4, h5, h6, h7, h8, h9, h10, h11, h12, h13, h14, h15, h16, h17, h18, h19, _, -⟩ := hh
                  have g21 : f 21 = _ := h21
                  have g20 : f 20 = _ := h20
                  have g0 : f 0 = _ := h0
                  have g1 : f 1 = _ := h1
                  have g2 : f 2 = _ := h2
                  have g3 : f 3 = _ := h3
                  have g4 : f 4 = _ := h4
                  have g5 : f 5 = _ := h5
                  have g6 : f 6 = _ := h6
                  have g7 : f 7 = _ := h7
                  have g8 : f 8 = _ := h8
                  have g9 : f 9 = _ := h9
                  have g10 : f 10 = _ := h10
                  have g11 : f 11 = _ := h11
                  have g12 : f 12 = _ := h12
                  have g13 : f 13 = _ := h13
                  have g14 : f 14 = _ := h14
                  have g15 : f 15 = _ := h15
                  have g16 : f 16 = _ := h16
                  have g17 : f 17 = _ := h17
                  have g18 : f 18 = _ := h18
                  have g19 : f 19 = _ := h19
                  unfold stStep
                  rw [if_pos (by simp [Region.wanted])]
                  intro K Q hK
                  simp only [puts, List.foldr_cons, List.foldr_nil, List.setIfInBounds_toArray, List.set_cons_succ, List.set_cons_zero, g21, g20, g0, g1, g2, g3, g4, g5, g6, g7, g8, g9, g10, g11, g12, g13, g14, g15, g16, g17, g18, g19]
                  rw [hSd] at hS hK
                  have l22 : L 22 = false := hi
                  try simp only [stage, l22, if_true, if_false, Bool.false_eq_true] at hS
                  obtain ⟨hbW, hRW⟩ := hS
                  obtain ⟨hc11, hf11⟩ := hRW.cell x hxN
                  go_step
                  refine hK.out _ _ rfl trivial ?_
                  exact ⟨hbW.setCell (Nat.le_refl _) _, HST.out W hRW⟩
              case yrest =>
                intro L f W2 hL hh hS
                rw [hSd] at hS
                clear hSd
                have l22 : L 22 = true := hL 22 (by decide)
                simp only [stage, l22, if_true] at hS
                clear hL l22
                obtain ⟨h0, h1, h2, h3, h4, h5, h6, h7, h8, h9, h10, h11, h12, h13, h14, h15, h16, h17, h18, h19, h20, h21, -⟩ := hh
                have g0 : f 0 = _ := h0
                have g1 : f 1 = _ := h1
                have g2 : f 2 = _ := h2
                have g3 : f 3 = _ := h3
                have g4 : f 4 = _ := h4
                have g5 : f 5 = _ := h5
                have g6 : f 6 = _ := h6
                have g7 : f 7 = _ := h7
                have g8 : f 8 = _ := h8
                have g9 : f 9 = _ := h9
                have g10 : f 10 = _ := h10
                have g11 : f 11 = _ := h11
                have g12 : f 12 = _ := h12
                have g13 : f 13 = _ := h13
                have g14 : f 14 = _ := h14
                have g15 : f 15 = _ := h15
                have g16 : f 16 = _ := h16
                have g17 : f 17 = _ := h17
                have g18 : f 18 = _ := h18
                have g19 : f 19 = _ := h19
                have g20 : f 20 = _ := h20
                have g21 : f 21 = _ := h21
                simp only [puts, List.foldr_cons, List.foldr_nil, List.setIfInBounds_toArray, List.set_cons_succ, List.set_cons_zero, g0, g1, g2, g3, g4, g5, g6, g7, g8, g9, g10, g11, g12, g13, g14, g15, g16, g17, g18, g19, g20, g21]
                clear h0 h1 h2 h3 h4 h5 h6 h7 h8 h9 h10 h11 h12 h13 h14 h15 h16 h17 h18 h19 h20 h21 g0 g1 g2 g3 g4 g5 g6 g7 g8 g9 g10 g11 g12 g13 g14 g15 g16 g17 g18 g19 g20 g21
                obtain ⟨hbW, hRW⟩ := hS
                clear hRA hBA
                go_wp2
                go_roundw
                case rel => exact ⟨j + 1, mx, by omega, by go_num, hmx61, HV3, hRW, hbW⟩
                case measure => simp [intOf]; omega
        · obtain rfl : k = j := by omega
          have t2 : decide ((k : Int) < k) = false := decide_eq_false (by omega)
          have hnew := ht_snoc HK.out.topo hkl HH.out.1 (v := v) (seen := fun c => c ∈ lo.take k) (by rw [HX.out]; exact HV2.out) (fun c p => pre_take HK.out.topo hkl p)
          have htop := top_snoc HK.out.topo.nodup hkl (v := v) HH.out.2
          rw [HX.out] at hnew htop
          have hvN : v ≤ N := by
            have := ht_le HK.out.topo hnew (x := x) (by rw [← HX.out, List.take_succ_eq_append_getElem hkl]; exact List.mem_append_right _ (List.mem_singleton.2 rfl))
            rwa [updN_self] at this
          obtain ⟨mm, hmm⟩ : ∃ mm, max m v = mm := ⟨_, rfl⟩
          rw [hmm] at htop
          have hmi : (if m < v then (v : Int) else (m : Int)) = (mm : Int) := by split <;> omega
          have hmmN : mm ≤ N := by omega
          have HNEW : Hid (HtOk es (lo.take (k + 1)) (updN H x v) ∧ HtTop (lo.take (k + 1)) (updN H x v) mm) := Lib.hid ⟨hnew, htop⟩
          obtain ⟨hca, -⟩ := hR.cell x hxN
          simp only [updN_self] at hca
          have hcx := HLX.out wr hB
          clear hnew htop hmm HV2
          go_wp2_with (fail)
          go_roundw
          case rel => exact ⟨k + 1, mm, updN H x v, hlt, by go_num, by first | rfl | rw [hmi], hmmN, HNEW, hR, hB⟩
          case measure => simp [intOf]; omega
    · obtain rfl : N = k := by omega
      have t1 : decide ((N : Int) < N) = false := decide_eq_false (by omega)
      go_wp2
      go_ret2
      exact ⟨⟨m, rfl, ht_done HK.out HLO.out HH.out.1 HH.out.2⟩, HB.out _ hB⟩
end Go.Proofs.YtofnbndpoiohhaaDoor
