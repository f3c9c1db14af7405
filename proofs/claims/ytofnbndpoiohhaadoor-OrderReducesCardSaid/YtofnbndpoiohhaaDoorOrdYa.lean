/-
  Package order: Reduce of a valid order.
-/
import Derived.Test.YtofnbndpoiohhaaDoorOrdY
import Derived.OpenShut
set_option linter.unusedSimpArgs false
set_option linter.unusedVariables false
set_option maxHeartbeats 8000000
namespace Go.Proofs.YtofnbndpoiohhaaDoor
open Go.RowKit Go.Shelf
attribute [local go_sem] Oper.semAt_some

variable {n : Int} {a : Option Addr} {len cap : Nat} {es : List (Int × Int)} {w : World}

theorem reduce_yes (he : IsPairs w a len cap es) (hT : TabAt 0 Lib.deBruijn64tab w) (hv : ValidO n es) :
    Calls Tryd.prog 28 #[.agg #[.int .i64 n, .slice a len cap]] w fun e w' => ∃ ao co, e = .returned (.tuple #[.agg #[.int .i64 n, .slice ao (redE es n.toNat).length co], .int .i64 0]) ∧ w'.ownsRow w.heap.size 39 2 (.slice ao (redE es n.toNat).length co) (redE es n.toNat).length (pvs (redE es n.toNat)) ∧ Below w.heap.size w w' := by
  obtain ⟨hb1, hs1, hO⟩ := boxO n a len cap w
  obtain ⟨W1, hW1⟩ : ∃ W1, w.alloc (.cells #[.int .i64 n, .slice a len cap] 27) = W1 := ⟨_, rfl⟩
  rw [hW1] at hb1 hs1 hO
  obtain ⟨W2, hW2⟩ : ∃ W2, W1.alloc (.cells #[.int .i64 0, .slice none 0 0] 27) = W2 := ⟨_, rfl⟩
  have hs2 : W2.heap.size = w.heap.size + 2 := by rw [← hW2]; simp [hs1]
  have hR2 : BoxIs W2 (w.heap.size + 1) (.int .i64 0) (.slice none 0 0) := by rw [← hW2, ← hs1]; exact BoxIs.new W1 _ _ _
  have hb2 : Below (w.heap.size + 1) W1 W2 := by rw [← hW2]; exact (Below.refl _ _).alloc (by omega) _
  have he2 := (he.later hb1).later (hb2.mono (by omega))
  have hT2 := tab_later (tab_later hT hb1) (hb2.mono (by omega))
  have hc := closed_yes he2 hT2 hv
  obtain ⟨N, rfl⟩ := Int.eq_ofNat_of_zero_le hv.1.1
  rw [Int.toNat_natCast]
  have hN60 : N ≤ 60 := by have := hv.1.2; omega
  have HV := Lib.hid hv
  have HO := Lib.hid hO
  obtain ⟨c0, c1⟩ := hO _ hb2
  have H1 := Lib.hid hW1
  have H2 := Lib.hid hW2
  have HT2 := Lib.hid hT2
  clear hv he hT he2 hT2 hW1 hW2 hO
  go_enter Tryd.func28, Tryd.ntmps28
  go_wp2_with (fail)
  rw [H1.out, H2.out]
  go_at_call 33
  refine hc.mono ?_
  rintro e w3 ⟨ps, lo, al, cl, rfl, hps, hK, hlo, hrow, hb3⟩
  have hpl := hps.1
  have HPS := Lib.hid hps
  clear hc hK hlo hrow hps c0 c1
  have hR3 := hR2.later hb3
  go_wp2_with (first | (show wpList _ _ _ (⟨_, .store 56 _ _, _, _, _, _⟩ :: _) _ _; refine store_past rfl _ _ rfl rfl rfl rfl hpl ?_; intro w4 hs4 hb4 hP4; replace hs4 := Lib.hid hs4; have hb24 := hb3.trans (hb4.mono hb3.size); obtain ⟨d0, d1⟩ := HO.out w4 (hb2.trans (hb24.mono (by omega)))) | (show wpList _ _ _ (⟨_, .store 27 _ _, _, _, _, _⟩ :: _) _ _; refine store_box iOrd (u := .int .i64 N) (v := .slice none 0 0) rfl _ _ rfl rfl rfl rfl rfl rfl ?_; intro w5 hs5 hb5 hQ5; have hb25 := hb24.trans (hb5.mono hb24.size); obtain ⟨g0, g1⟩ := HO.out w5 (hb2.trans (hb25.mono (by omega)))))
  replace hs4 := hs4.out
  have hR5 := (hR3.later hb4).later hb5
  have hsz24 := hb24.size
  have HD := Lib.hid (fun W (h : Below w4.heap.size w5 W) => (⟨(HO.out W (hb2.trans ((hb25.trans (h.mono hsz24)).mono (by omega)))).1, hP4.kept (hb5.trans h) (by omega), tab_later HT2.out (hb25.trans (h.mono hsz24))⟩ : W.cell? ⟨w.heap.size, 0, none⟩ = some (.int .i64 N) ∧ PastIs W w3.heap.size ps ∧ TabAt 0 Lib.deBruijn64tab W))
  have hst0 : RedSt w4.heap.size N (redTo es N 0) w5 w5 := ⟨none, 0, hQ5, World.ownsRow_nil _ _ _ _, by omega, Below.refl _ _⟩
  have HSZ : Hid (w3.heap.size + 1 = w4.heap.size ∧ W2.heap.size ≤ w3.heap.size ∧ W2.heap.size = w.heap.size + 2) := Lib.hid ⟨hs4.symm, hb3.size, hs2⟩
  have HB := Lib.hid (⟨hb1, hb2, hb25⟩ : Below w.heap.size w W1 ∧ Below (w.heap.size + 1) W1 W2 ∧ Below W2.heap.size W2 w5)
  have HR5 := Lib.hid hR5
  clear hR2 hR3 hR5 hb1 hb2 hb25 hb24 hb3 hb4 hb5 hP4 hQ5 d0 d1 g0 g1 hs1 hs2 hs4 hs5 hsz24
  go_loopw [26] (fun c W => ∃ k : Nat, k ≤ N ∧ c = .int .i64 (k : Int) ∧ RedSt w4.heap.size N (redTo es N k) w5 W) (fun c _ => N - (intOf c).toNat)
  case atStart => exact ⟨0, Nat.zero_le _, rfl, hst0⟩
  case round =>
    clear hst0
    obtain ⟨k, hk, rfl, hst⟩ := hrel
    rcases Nat.lt_or_ge k N with hlt | hge
    · have t1 : decide ((k : Int) < N) = true := decide_eq_true (by omega)
      have hst1 : RedSt w4.heap.size N (redTo es N k ++ redRow es k 0) w5 wr := by rw [redRow_zero, List.append_nil]; exact hst
      obtain ⟨d0, -, -⟩ := HD.out wr hst.below
      clear hst
      go_wp2_with (fail)
      clear d0
      go_loopw [31] (fun c W => ∃ j : Nat, j ≤ N ∧ c = .int .i64 (j : Int) ∧ RedSt w4.heap.size N (redTo es N k ++ redRow es k j) w5 W) (fun c _ => N - (intOf c).toNat)
      case atStart => exact ⟨0, Nat.zero_le _, rfl, hst1⟩
      case round =>
        clear hst1
        obtain ⟨j, hj, rfl, hst⟩ := hrel
        rcases Nat.lt_or_ge j N with hjl | hjg
        · have t2 : decide ((j : Int) < N) = true := decide_eq_true (by omega)
          obtain ⟨-, hP, -⟩ := HD.out wr hst.below
          obtain ⟨hcj, -⟩ := hP.cell j (by omega)
          clear hP
          have hgj := HPS.out.2.1.gi j
          obtain ⟨z0, hz0, hzb⟩ : ∃ z0 : Nat, gi ps j = (z0 : Int) ∧ z0 < 18446744073709551616 := ⟨(gi ps j).toNat, by omega, by omega⟩
          have hbit := HPS.out.2.2 j (by omega) k (by omega)
          have hand := and1_eq hgj k
          rw [hz0] at hcj hbit hand
          clear hgj
          by_cases hp : Path (Ed es) k j
          · have t3 : (bits .and .u64 ((z0 : Int) / 2 ^ k) 1 == 0) = false := by rw [hand, hbit.2 hp]; rfl
            have HM0 := Lib.hid (MidZ.start (a := k) HV.out HPS.out (show j < 60 by omega) hz0)
            have HU0 : Hid (∀ c ∈ upB 64 0 z0, c ∈ upB 64 0 (gi ps j).toNat) := Lib.hid (fun c h => by rw [hz0]; exact h)
            clear hand hbit hz0
            go_wp2_with (fail)
            clear t3 hcj
            go_loopw [10, 11] (fun b c W => ∃ (bv : Bool) (z : Nat), b = .bool bv ∧ c = .int .u64 (z : Int) ∧ z < 18446744073709551616 ∧ Hid (MidZ es k bv z j) ∧ Hid (∀ c ∈ upB 64 0 z, c ∈ upB 64 0 (gi ps j).toNat) ∧ RedSt w4.heap.size N (redTo es N k ++ redRow es k j) w5 W) (fun _ c _ => (intOf c).toNat)
            case atStart => exact ⟨false, z0, rfl, rfl, hzb, HM0, HU0, hst⟩
            case round =>
              clear HM0 HU0 hst hzb
              obtain ⟨bv, z, rfl, rfl, hz, HM, HU, hst⟩ := hrel
              by_cases hzz : z = 0
              · subst hzz
                have hmd := HM.out.done
                cases bv with
                | true =>
                  have hst2 : RedSt w4.heap.size N (redTo es N k ++ redRow es k (j + 1)) w5 wr := by rw [redRow_no (fun h => h.2 (hmd.1 rfl))]; exact hst
                  clear hst hmd
                  go_wp2_with (fail)
                  go_roundw
                  case rel => exact ⟨j + 1, hjl, by go_num, hst2⟩
                  case measure => simp [intOf]; omega
                | false =>
                  have hyes := redRow_yes (es := es) (a := k) (j := j) ⟨hp, fun h => by have := hmd.2 h; cases this⟩
                  have hq : (redTo es N k ++ redRow es k j) ++ [((k : Int), (j : Int))] = redTo es N k ++ redRow es k (j + 1) := by rw [hyes, List.append_assoc]
                  have hlen : (redTo es N k ++ redRow es k j).length ≤ 4000 := by
                    have l1 := redTo_length (es := es) (N := N) k
                    have l2 := redRow_length (es := es) k j
                    have l3 : k * N ≤ 60 * 60 := Nat.mul_le_mul (by omega) (by omega)
                    rw [List.length_append]; omega
                  clear hmd hyes
                  generalize redTo es N k ++ redRow es k j = qs at hst hq hlen ⊢
                  obtain ⟨ao, co, hQ, hown, hsz, hbel⟩ := hst
                  obtain ⟨-, q1, q1f⟩ := hQ.cells
                  have HQ := Lib.hid hq
                  clear hq
                  go_wp2_with (at_builtin; refine app_pair elPair rfl _ _ rfl rfl hown rfl (by omega) hsz ?_; intro a1 c1 w1 hown1 hb1 hsz1; have hQ1 := hQ.kept hb1 (by omega); obtain ⟨-, r1, r1f⟩ := hQ1.cells)
                  have hst2 : RedSt w4.heap.size N (redTo es N k ++ redRow es k (j + 1)) w5 (w1.setCell ⟨w4.heap.size, 1, none⟩ (.slice a1 (qs.length + 1) c1)) := by
                    rw [← HQ.out]
                    have e : (qs ++ [((k : Int), (j : Int))]).length = qs.length + 1 := by simp
                    refine ⟨a1, c1, ?_, ?_, ?_, ?_⟩
                    · rw [e]; exact hQ1.store1 _
                    · rw [e]; exact ownsRow_setCell_below hown1 (by show w4.heap.size < _; omega) _
                    · rw [size_setCell']; omega
                    · exact (hbel.trans (hb1.mono (by omega))).setCell (Nat.le_refl _) _
                  go_roundw
                  case rel => exact ⟨j + 1, hjl, by go_num, hst2⟩
                  case measure => simp [intOf]; omega
              · obtain ⟨c, hcz⟩ : ∃ c : Nat, Lib.ctz 64 z = c := ⟨_, rfl⟩
                have hpc := ctz_past HPS.out (b := j) (by omega) HU.out hzz hz
                have hstep := fun bv' => HM.out.step (bv' := bv') hzz hz
                rw [hcz] at hpc hstep
                have hcN : c < N := by
                  obtain ⟨d, e⟩ := hpc.first
                  exact (HV.out.2.2.1.ed _ _ e).1
                have HU2 : Hid (∀ c ∈ upB 64 0 (z &&& (z - 1)), c ∈ upB 64 0 (gi ps j).toNat) := Lib.hid (fun c hc => HU.out c (by rw [upB_ctz z hzz hz]; exact List.mem_cons_of_mem _ hc))
                have hne : ((z : Int) != 0) = true := by simp; omega
                have hband : bits BinOp.and IntKind.u64 (z : Int) ((z : Int) - 1) = ((z &&& (z - 1) : Nat) : Int) := by
                  rw [show ((z : Int) - 1) = ((z - 1 : Nat) : Int) by omega]
                  exact bits_and_u64_nat z (z - 1) hz (by omega)
                have hlow : z &&& (z - 1) < z := by
                  have := Nat.and_le_right (n := z) (m := z - 1)
                  omega
                have HC := Lib.hid hcz
                have hc60 : c < 60 := by omega
                clear hpc hcz
                cases bv with
                | true =>
                  have HM2 := Lib.hid (hstep true (by simp))
                  clear hstep HM HU
                  go_wp2
                  go_roundw
                  case rel => exact ⟨true, z &&& (z - 1), rfl, rfl, by omega, HM2, HU2, hst⟩
                  case measure => simp [intOf]; omega
                | false =>
                  obtain ⟨u, hu⟩ : ∃ u, tb (gi ps c) k = u := ⟨_, rfl⟩
                  have hgc := HPS.out.2.1.gi c
                  have HM2 := Lib.hid (hstep u (by rw [← hu, HPS.out.2.2 c hc60 k (by omega)]; simp))
                  obtain ⟨zc, hzc⟩ : ∃ zc : Int, gi ps c = zc := ⟨_, rfl⟩
                  have tu : (bits .and .u64 (zc / 2 ^ k) 1 == 1) = u := by rw [← hu, ← hzc]; exact bitI_tb hgc.1 hgc.2 k
                  rw [hzc] at hgc
                  have HZC := Lib.hid hzc
                  clear hstep HM HU hu hzc
                  obtain ⟨-, hPW, hTW⟩ := HD.out wr hst.below
                  obtain ⟨hcc, -⟩ := hPW.cell c (by omega)
                  rw [HZC.out] at hcc
                  have htz := tz_any z hz wr hTW
                  rw [HC.out] at htz
                  clear hPW hTW
                  go_wp2_with (go_at_call 39; refine htz.mono ?_; rintro e w' ⟨rfl, rfl⟩)
                  go_roundw
                  case rel => exact ⟨u, z &&& (z - 1), by first | rfl | rw [tu], rfl, by omega, HM2, HU2, hst⟩
                  case measure => simp [intOf]; omega
          · have t3 : (bits .and .u64 ((z0 : Int) / 2 ^ k) 1 == 0) = true := by rw [hand, Bool.eq_false_iff.2 (fun h => hp (hbit.1 h))]; rfl
            have hst2 : RedSt w4.heap.size N (redTo es N k ++ redRow es k (j + 1)) w5 wr := by rw [redRow_no (fun h => hp h.1)]; exact hst
            clear hst hand hbit
            go_wp2_with (fail)
            go_roundw
            case rel => exact ⟨j + 1, hjl, by go_num, hst2⟩
            case measure => simp [intOf]; omega
        · obtain rfl : N = j := by omega
          have t2 : decide ((N : Int) < N) = false := decide_eq_false (by omega)
          have hst2 : RedSt w4.heap.size N (redTo es N (k + 1)) w5 wr := by rw [redTo_succ]; exact hst
          clear hst
          go_wp2_with (fail)
          go_roundw
          case rel => exact ⟨k + 1, hlt, by go_num, hst2⟩
          case measure => simp [intOf]; omega
    · obtain rfl : N = k := by omega
      have t1 : decide ((N : Int) < N) = false := decide_eq_false (by omega)
      obtain ⟨ao, co, hQ, hown, hsz, hbel⟩ := hst
      obtain ⟨⟨q0, -⟩, q1, -⟩ := hQ.cells
      have hRr := HR5.out.kept hbel (by have := HSZ.out; omega)
      obtain ⟨⟨e0, f0⟩, e1, f1⟩ := hRr.cells
      go_wp2
      refine bodyPost_ret (red_res rfl rfl ((hRr.store0 _).store1 _)) rfl ?_
      refine ⟨ao, co, rfl, ?_, ?_⟩
      · have h1 := HB.out
        have h2 := HSZ.out
        have := ownsRow_setCell_below (ownsRow_setCell_below hown (a := ⟨w.heap.size + 1, 0, none⟩) (by show w.heap.size + 1 < _; omega) (.int .i64 N)) (a := ⟨w.heap.size + 1, 1, none⟩) (by show w.heap.size + 1 < _; omega) (.slice ao (redTo es N N).length co)
        exact this.from_mono (by omega)
      · obtain ⟨h1, h2, h3⟩ := HB.out
        have h4 := HSZ.out
        have h5 : Below W2.heap.size W2 wr := h3.trans (hbel.mono (by omega))
        exact ((h1.trans ((h2.trans (h5.mono (by omega))).mono (by omega))).setCell (by show _ ≤ w.heap.size + 1; omega) _).setCell (by show _ ≤ w.heap.size + 1; omega) _
end Go.Proofs.YtofnbndpoiohhaaDoor
