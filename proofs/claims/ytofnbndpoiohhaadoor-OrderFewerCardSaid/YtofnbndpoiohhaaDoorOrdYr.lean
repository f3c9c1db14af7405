/-
  The reference: Reduce.
-/
import Derived.Test.YtofnbndpoiohhaaDoorOrdY
import Derived.Test.YtofnbndpoiohhaaDoorOrdR
set_option linter.unusedSimpArgs false
set_option linter.unusedVariables false
set_option maxHeartbeats 8000000
namespace Go.Proofs.YtofnbndpoiohhaaDoor
open Go.RowKit Go.Shelf
attribute [local go_sem] Oper.semAt_some

variable {n : Int} {a : Option Addr} {len cap : Nat} {es : List (Int × Int)} {w : World}

theorem iOrdR : (Tryd.prog.info? 24).map (·.size) = some 2 := by kernel_rfl
theorem ordR_load {W : World} {b : Nat} {u v : Value} (h : BoxIs W b u v) : (loadVar 24 ⟨b, 0, none⟩).run Tryd.prog W = .ok (.agg #[u, v]) W := by
  obtain ⟨T, h⟩ := h
  exact run_loadVar_row W b T 24 #[u, v] (0, 0) _ h Tryd.underlying24 rfl (by kernel_rfl)
theorem refRed_res {W : World} {tmps : Array Value} {b : Nat} {u v v3 : Value} (hp : tmps[2]?.getD undef = .pointer (some ⟨b, 0, none⟩)) (h3 : tmps[3]?.getD undef = v3) (hg : BoxIs W b u v) :
    (results Tryd.f30 tmps).run Tryd.prog W = .ok (.tuple #[.agg #[u, v], v3]) W := by
  have hl := ordR_load hg
  simp [results, show Tryd.f30.results = #[.cell 2 24, .tmp 3] from rfl, hp, h3, asAddr, hl]

theorem refReduce_no (he : IsPairs w a len cap es) (hcap : len ≤ 9223372036854775807) (hv : ¬ ValidO n es) :
    Calls Tryd.prog 30 #[.agg #[.int .i64 n, .slice a len cap]] w fun e w' => e = .returned (.tuple #[.agg #[.int .i64 0, .slice none 0 0], .int .i64 1]) ∧ Below w.heap.size w w' := by
  obtain ⟨hb1, hs1, hO⟩ := boxT 24 n a len cap w
  obtain ⟨W1, hW1⟩ : ∃ W1, w.alloc (.cells #[.int .i64 n, .slice a len cap] 24) = W1 := ⟨_, rfl⟩
  rw [hW1] at hb1 hs1 hO
  obtain ⟨W2, hW2⟩ : ∃ W2, W1.alloc (.cells #[.int .i64 0, .slice none 0 0] 24) = W2 := ⟨_, rfl⟩
  have hs2 : W2.heap.size = w.heap.size + 2 := by rw [← hW2]; simp [hs1]
  have hR2 : BoxIs W2 (w.heap.size + 1) (.int .i64 0) (.slice none 0 0) := by rw [← hW2, ← hs1]; exact BoxIs.new W1 _ _ _
  have hb2 : Below (w.heap.size + 1) W1 W2 := by rw [← hW2]; exact (Below.refl _ _).alloc (by omega) _
  have hc := refValid_any (n := n) ((he.later hb1).later (hb2.mono (by omega))) hcap
  rw [validB_no hv] at hc
  obtain ⟨c0, c1⟩ := hO _ hb2
  have H1 := Lib.hid hW1
  have H2 := Lib.hid hW2
  clear hv he hW1 hW2
  go_enter Tryd.func30, Tryd.ntmps30
  go_wp2_with (fail)
  rw [H1.out, H2.out]
  go_at_call 14
  refine hc.mono ?_
  rintro e w3 ⟨rfl, hb3⟩
  clear hc c0 c1
  have hR4 := hR2.later hb3
  obtain ⟨⟨e0, f0⟩, e1, f1⟩ := hR4.cells
  go_wp2
  refine bodyPost_ret (refRed_res (u := .int .i64 0) (v := .slice none 0 0) rfl rfl ((hR4.store0 _).store1 _)) rfl ?_
  exact ⟨rfl, (hb1.trans ((hb2.trans (hb3.mono (by omega))).mono (by omega))).setCell (by show _ ≤ w.heap.size + 1; omega) _ |>.setCell (by show _ ≤ w.heap.size + 1; omega) _⟩

theorem refReduce_yes (he : IsPairs w a len cap es) (hcap : len ≤ 9223372036854775807) (hv : ValidO n es) :
    Calls Tryd.prog 30 #[.agg #[.int .i64 n, .slice a len cap]] w fun e w' => ∃ ao co, e = .returned (.tuple #[.agg #[.int .i64 n, .slice ao (redE es n.toNat).length co], .int .i64 0]) ∧ w'.ownsRow w.heap.size 39 2 (.slice ao (redE es n.toNat).length co) (redE es n.toNat).length (pvs (redE es n.toNat)) ∧ Below w.heap.size w w' := by
  obtain ⟨hb1, hs1, hO⟩ := boxT 24 n a len cap w
  obtain ⟨W1, hW1⟩ : ∃ W1, w.alloc (.cells #[.int .i64 n, .slice a len cap] 24) = W1 := ⟨_, rfl⟩
  rw [hW1] at hb1 hs1 hO
  obtain ⟨W2, hW2⟩ : ∃ W2, W1.alloc (.cells #[.int .i64 0, .slice none 0 0] 24) = W2 := ⟨_, rfl⟩
  have hs2 : W2.heap.size = w.heap.size + 2 := by rw [← hW2]; simp [hs1]
  have hR2 : BoxIs W2 (w.heap.size + 1) (.int .i64 0) (.slice none 0 0) := by rw [← hW2, ← hs1]; exact BoxIs.new W1 _ _ _
  have hb2 : Below (w.heap.size + 1) W1 W2 := by rw [← hW2]; exact (Below.refl _ _).alloc (by omega) _
  have he2 := (he.later hb1).later (hb2.mono (by omega))
  have hc := refValid_any (n := n) he2 hcap
  rw [validB_yes hv] at hc
  have h36 : len ≤ 3600 := by rw [← he.length]; exact hv.2.1
  obtain ⟨N, rfl⟩ := Int.eq_ofNat_of_zero_le hv.1.1
  rw [Int.toNat_natCast]
  have hN60 : N ≤ 60 := by have := hv.1.2; omega
  have HBH := Lib.hid (fun W h => behind_any N hN60 a len cap es W h hv.2.2.1 h36)
  have HV := Lib.hid hv
  have HO := Lib.hid hO
  obtain ⟨c0, c1⟩ := hO _ hb2
  have H1 := Lib.hid hW1
  have H2 := Lib.hid hW2
  clear hv he hW1 hW2 hO h36
  go_enter Tryd.func30, Tryd.ntmps30
  go_wp2_with (fail)
  rw [H1.out, H2.out]
  go_at_call 14
  refine hc.mono ?_
  rintro e w3 ⟨rfl, hb3⟩
  clear hc c0 c1
  obtain ⟨c0, c1⟩ := HO.out w3 (hb2.trans (hb3.mono (by omega)))
  go_wp2_with (fail)
  go_at_call 34
  refine (HBH.out w3 (he2.later hb3)).mono ?_
  rintro e w4 ⟨g, r, rfl, hM, hb4⟩
  have hb24 := hb3.trans (hb4.mono hb3.size)
  clear c0 c1
  obtain ⟨c0, c1⟩ := HO.out w4 (hb2.trans (hb24.mono (by omega)))
  have hR4 := (hR2.later hb3).later hb4
  go_wp2_with (show wpList _ _ _ (⟨_, .store 24 _ _, _, _, _, _⟩ :: _) _ _; refine store_box iOrdR (u := .int .i64 N) (v := .slice none 0 0) rfl _ _ rfl rfl rfl rfl rfl rfl ?_; intro w5 hs5 hb5 hQ5; have hb25 := hb24.trans (hb5.mono hb24.size); obtain ⟨g0, g1⟩ := HO.out w5 (hb2.trans (hb25.mono (by omega))))
  have hR5 := hR4.later hb5
  have hsz24 := hb24.size
  have HD := Lib.hid (fun W (h : Below w4.heap.size w5 W) => (⟨(HO.out W (hb2.trans ((hb25.trans (h.mono hsz24)).mono (by omega)))).1, hM.later (hb5.trans h)⟩ : W.cell? ⟨w.heap.size, 0, none⟩ = some (.int .i64 N) ∧ MatIs W _ g N r (pathB es)))
  have hst0 : RedSt w4.heap.size N (redTo es N 0) w5 w5 := ⟨none, 0, hQ5, World.ownsRow_nil _ _ _ _, by omega, Below.refl _ _⟩
  have HSZ : Hid (W2.heap.size ≤ w4.heap.size ∧ W2.heap.size = w.heap.size + 2) := Lib.hid ⟨hb24.size, hs2⟩
  have HB := Lib.hid (⟨hb1, hb2, hb25⟩ : Below w.heap.size w W1 ∧ Below (w.heap.size + 1) W1 W2 ∧ Below W2.heap.size W2 w5)
  have HR5 := Lib.hid hR5
  clear hR2 hR4 hR5 hb1 hb2 hb25 hb24 hb3 hb4 hb5 hM hQ5 c0 c1 g0 g1 hs1 hs2 hs5 hsz24 he2
  go_loopw [6] (fun c W => ∃ k : Nat, k ≤ N ∧ c = .int .i64 (k : Int) ∧ RedSt w4.heap.size N (redTo es N k) w5 W) (fun c _ => N - (intOf c).toNat)
  case atStart => exact ⟨0, Nat.zero_le _, rfl, hst0⟩
  case round =>
    clear hst0
    obtain ⟨i, hi, rfl, hst⟩ := hrel
    obtain ⟨d0, -⟩ := HD.out wr hst.below
    rcases Nat.lt_or_ge i N with hlt | hge
    · have t1 : decide ((i : Int) < N) = true := decide_eq_true (by omega)
      have hst1 : RedSt w4.heap.size N (redTo es N i ++ redRow es i 0) w5 wr := by rw [redRow_zero, List.append_nil]; exact hst
      clear hst
      go_wp2_with (fail)
      clear d0
      go_loopw [7] (fun c W => ∃ j : Nat, j ≤ N ∧ c = .int .i64 (j : Int) ∧ RedSt w4.heap.size N (redTo es N i ++ redRow es i j) w5 W) (fun c _ => N - (intOf c).toNat)
      case atStart => exact ⟨0, Nat.zero_le _, rfl, hst1⟩
      case round =>
        clear hst1
        obtain ⟨j, hj, rfl, hst⟩ := hrel
        obtain ⟨d0, hM⟩ := HD.out wr hst.below
        rcases Nat.lt_or_ge j N with hjl | hjg
        · have t2 : decide ((j : Int) < N) = true := decide_eq_true (by omega)
          have r1 := hM.row i hlt
          obtain ⟨m1, -⟩ := hM.cell i j hlt hjl
          obtain ⟨b0, hb0⟩ : ∃ b0, pathB es i j = b0 := ⟨_, rfl⟩
          rw [hb0] at m1
          have HB0 := Lib.hid hb0
          clear hM hb0
          go_wp2_with (fail)
          clear r1 m1 d0
          go_loopw [8, 9] (fun b c W => ∃ k : Nat, k ≤ N ∧ c = .int .i64 (k : Int) ∧ b = .bool (dirB (pathB es) i j k) ∧ RedSt w4.heap.size N (redTo es N i ++ redRow es i j) w5 W) (fun _ c _ => N - (intOf c).toNat)
          case atStart => exact ⟨0, Nat.zero_le _, rfl, by rw [dirB_zero, HB0.out], hst⟩
          case round =>
            clear hst
            obtain ⟨k, hk, rfl, rfl, hst⟩ := hrel
            obtain ⟨d0, hM⟩ := HD.out wr hst.below
            rcases Nat.lt_or_ge k N with hkl | hkg
            · have t3 : decide ((k : Int) < N) = true := decide_eq_true (by omega)
              have r1 := hM.row i hlt
              have r2 := hM.row k hkl
              obtain ⟨m1, -⟩ := hM.cell i k hlt hkl
              obtain ⟨m2, -⟩ := hM.cell k j hkl hjl
              have hs := dirB_succ (pathB es) i j k
              obtain ⟨dv, hdv⟩ : ∃ dv, dirB (pathB es) i j k = dv := ⟨_, rfl⟩
              obtain ⟨p, hp⟩ : ∃ p, pathB es i k = p := ⟨_, rfl⟩
              obtain ⟨q, hq⟩ : ∃ q, pathB es k j = q := ⟨_, rfl⟩
              rw [hdv, hp, hq] at hs
              rw [hp] at m1
              rw [hq] at m2
              rw [hdv]
              have HS := Lib.hid hs
              clear hs hdv hp hq hM
              cases dv with
              | false =>
                go_wp2_with (fail)
                go_roundw
                case rel => exact ⟨k + 1, hkl, by go_num, by rw [HS.out]; rfl, hst⟩
                case measure => simp [intOf]; omega
              | true =>
                cases p with
                | false =>
                  go_wp2_with (fail)
                  go_roundw
                  case rel => exact ⟨k + 1, hkl, by go_num, by rw [HS.out]; rfl, hst⟩
                  case measure => simp [intOf]; omega
                | true =>
                  go_wp2_with (fail)
                  go_roundw
                  case rel => exact ⟨k + 1, hkl, by go_num, by rw [HS.out]; cases q <;> rfl, hst⟩
                  case measure => simp [intOf]; omega
            · obtain rfl : N = k := by omega
              have t3 : decide ((N : Int) < N) = false := decide_eq_false (by omega)
              have hred := dirB_red HV.out (i := i) (j := j)
              obtain ⟨dv, hdv⟩ : ∃ dv, dirB (pathB es) i j N = dv := ⟨_, rfl⟩
              rw [hdv] at hred
              rw [hdv]
              clear hM hdv
              cases dv with
              | false =>
                have hst2 : RedSt w4.heap.size N (redTo es N i ++ redRow es i (j + 1)) w5 wr := by rw [redRow_no (fun h => by have := hred.2 h; cases this)]; exact hst
                clear hst hred
                go_wp2_with (fail)
                go_roundw
                case rel => exact ⟨j + 1, hjl, by go_num, hst2⟩
                case measure => simp [intOf]; omega
              | true =>
                have hyes := redRow_yes (es := es) (a := i) (j := j) (hred.1 rfl)
                have hq : (redTo es N i ++ redRow es i j) ++ [((i : Int), (j : Int))] = redTo es N i ++ redRow es i (j + 1) := by rw [hyes, List.append_assoc]
                have hlen : (redTo es N i ++ redRow es i j).length ≤ 4000 := by
                  have l1 := redTo_length (es := es) (N := N) i
                  have l2 := redRow_length (es := es) i j
                  have l3 : i * N ≤ 60 * 60 := Nat.mul_le_mul (by omega) (by omega)
                  rw [List.length_append]; omega
                clear hred hyes
                generalize redTo es N i ++ redRow es i j = qs at hst hq hlen ⊢
                obtain ⟨ao, co, hQ, hown, hsz, hbel⟩ := hst
                obtain ⟨-, q1, q1f⟩ := hQ.cells
                have HQ := Lib.hid hq
                clear hq
                go_wp2_with (at_builtin; refine app_pair elPair rfl _ _ rfl rfl hown rfl (by omega) hsz ?_; intro a1 c1 w1 hown1 hb1 hsz1; have hQ1 := hQ.kept hb1 (by omega); obtain ⟨-, r1, r1f⟩ := hQ1.cells)
                have hst2 : RedSt w4.heap.size N (redTo es N i ++ redRow es i (j + 1)) w5 (w1.setCell ⟨w4.heap.size, 1, none⟩ (.slice a1 (qs.length + 1) c1)) := by
                  rw [← HQ.out]
                  have e : (qs ++ [((i : Int), (j : Int))]).length = qs.length + 1 := by simp
                  refine ⟨a1, c1, ?_, ?_, ?_, ?_⟩
                  · rw [e]; exact hQ1.store1 _
                  · rw [e]; exact ownsRow_setCell_below hown1 (by show w4.heap.size < _; omega) _
                  · rw [size_setCell']; omega
                  · exact (hbel.trans (hb1.mono (by omega))).setCell (Nat.le_refl _) _
                go_roundw
                case rel => exact ⟨j + 1, hjl, by go_num, hst2⟩
                case measure => simp [intOf]; omega
        · obtain rfl : N = j := by omega
          have t2 : decide ((N : Int) < N) = false := decide_eq_false (by omega)
          have hst2 : RedSt w4.heap.size N (redTo es N (i + 1)) w5 wr := by rw [redTo_succ]; exact hst
          clear hst hM
          go_wp2_with (fail)
          go_roundw
          case rel => exact ⟨i + 1, hlt, by go_num, hst2⟩
          case measure => simp [intOf]; omega
    · obtain rfl : N = i := by omega
      have t1 : decide ((N : Int) < N) = false := decide_eq_false (by omega)
      obtain ⟨ao, co, hQ, hown, hsz, hbel⟩ := hst
      obtain ⟨⟨q0, -⟩, q1, -⟩ := hQ.cells
      have hRr := HR5.out.kept hbel (by have := HSZ.out; omega)
      obtain ⟨⟨e0, f0⟩, e1, f1⟩ := hRr.cells
      go_wp2
      refine bodyPost_ret (refRed_res rfl rfl ((hRr.store0 _).store1 _)) rfl ?_
      refine ⟨ao, co, rfl, ?_, ?_⟩
      · have h1 := HB.out
        have h2 := HSZ.out
        have := ownsRow_setCell_below (ownsRow_setCell_below hown (a := ⟨w.heap.size + 1, 0, none⟩) (by show w.heap.size + 1 < _; omega) (.int .i64 N)) (a := ⟨w.heap.size + 1, 1, none⟩) (by show w.heap.size + 1 < _; omega) (.slice ao (redTo es N N).length co)
        exact this.from_mono (by omega)
      · obtain ⟨h1, h2, h3⟩ := HB.out
        have h4 := HSZ.out
        have h5 : Below W2.heap.size W2 wr := h3.trans (hbel.mono (by omega))
        exact ((h1.trans ((h2.trans (h5.mono (by omega))).mono (by omega))).setCell (by show _ ≤ w.heap.size + 1; omega) _).setCell (by show _ ≤ w.heap.size + 1; omega) _
end Go.Proofs.YtofnbndpoiohhaaDoor
