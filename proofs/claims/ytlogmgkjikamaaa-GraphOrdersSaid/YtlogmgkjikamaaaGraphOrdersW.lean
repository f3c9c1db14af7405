/-
  GraphOrders: the walk.
-/
import Derived.Test.YtlogmgkjikamaaaGraLx
import Derived.Test.YtlogmgkjikamaaaGraOr
import Derived.Test.YtlogmgkjikamaaaFam2
import Derived.Deep.QuietTactic
import Derived.BigQuiet
set_option linter.unusedSimpArgs false
set_option linter.unusedVariables false
set_option maxHeartbeats 4000000
namespace Go.Proofs.Ytlogmgkjikamaaa
open Go.RowKit
attribute [local go_sem] Oper.semAt_some

set_option maxRecDepth 20000 in
theorem graphOrders_walk (a : Option Addr) (len cap : Nat) (g : List (List Int)) (w : World) (hg : IsRows w a len cap g) :
    Calls Try.prog 3 #[.slice a len cap] w fun e w' => e = .returned (.bool true) ∧ Below w.heap.size w w' := by
  have HN := Lib.hid hg.length
  by_cases hf : FewG g
  rotate_left
  · have hg := hg
    go_enter Try.func3, Try.ntmps3
    have HB := Below.refl w.heap.size w
    go_wp2_with (fail)
    refine (awake_any _).mono ?_
    rintro e w1 ⟨rfl, hb⟩
    replace hg := hg.later hb
    replace HB := HB.trans (hb.mono HB.size)
    clear hb
    go_wp2_with (fail)
    refine (few_no hg hf).mono ?_
    rintro e w2 ⟨rfl, rfl⟩
    go_wp2_with (fail)
    go_ret
    exact ⟨rfl, HB⟩
  by_cases hv : ValidG g
  rotate_left
  · have hg := hg
    go_enter Try.func3, Try.ntmps3
    have HB := Below.refl w.heap.size w
    go_wp2_with (fail)
    refine (awake_any _).mono ?_
    rintro e w3 ⟨rfl, hb⟩
    replace hg := hg.later hb
    replace HB := HB.trans (hb.mono HB.size)
    clear hb
    go_wp2_with (fail)
    refine (few_yes hg hf).mono ?_
    rintro e w4 ⟨rfl, rfl⟩
    go_wp2_with (fail)
    refine (refValid_no hg hv).mono ?_
    rintro e w5 ⟨rfl, hb⟩
    replace hg := hg.later hb
    replace HB := HB.trans (hb.mono HB.size)
    clear hb
    go_wp2_with (fail)
    go_ret
    exact ⟨rfl, HB⟩
  have h60 : len ≤ 60 := by rw [← HN.out]; exact hf.1
  have HV := Lib.hid hv
  go_enter Try.func3, Try.ntmps3
  have HB := Below.refl w.heap.size w
  go_wp2_with (fail)
  refine (awake_any _).mono ?_
  rintro e w6 ⟨rfl, hb⟩
  replace hg := hg.later hb
  replace HB := HB.trans (hb.mono HB.size)
  clear hb
  go_wp2_with (fail)
  refine (few_yes hg hf).mono ?_
  rintro e w7 ⟨rfl, rfl⟩
  go_wp2_with (fail)
  refine (refValid_yes hg hv).mono ?_
  rintro e w8 ⟨rfl, hb⟩
  replace hg := hg.later hb
  replace HB := HB.trans (hb.mono HB.size)
  clear hb
  go_wp2_with (fail)
  refine (order_any hg).mono ?_
  rintro e w9 ⟨hR, hb⟩
  replace hg := hg.later hb
  replace HB := HB.trans (hb.mono HB.size)
  rcases hR with ⟨h1, -⟩ | ⟨-, ⟨-, rfl⟩ | ⟨ao, co, out, hA, rfl, ho⟩⟩
  · exact absurd hv h1
  · go_wp2
    go_ret
    exact ⟨rfl, HB⟩
  have HO : Hid (OrdB g len out ∧ out.length = len) := Lib.hid (by
    rw [HN.out] at hA
    rcases hA with ⟨o, e, h1, h2⟩ | ⟨e, -⟩
    · injection e with e; rw [e]; exact ⟨h1, h2⟩
    · cases e)
  have hol := HO.out.2
  rw [hol] at ho ⊢
  have hI := (IsInts.of_owns ho).1.row
  clear hA hv hf ho hb hol
  go_wp2_with (refine make_ints (k := .i64) elI64 rfl _ _ rfl rfl rfl rfl rfl (by omega) (Nat.le_refl _) ?_; intro w1 ho1 hb1 hs1)
  obtain ⟨B, hBe⟩ : ∃ B, w9.heap.size = B := ⟨_, rfl⟩
  have HBE := Lib.hid hBe
  have HB9 : Hid (∀ W, Below B w9 W → Below w.heap.size w W) := Lib.hid (fun W h => HB.trans (by rw [← HBE.out] at h; exact h.mono HB.size))
  have hlo : Hid (∀ W, Below B w9 W → ∀ j, j < len → ∃ bo oo, ao = some ⟨bo, oo, none⟩ ∧ W.cell? ⟨bo, oo + j, none⟩ = some (.int .i64 ((nq out j : Nat) : Int)) ∧ nq out j < len) := Lib.hid (fun W h j hj => by
    obtain ⟨bo, oo, e, hc⟩ := hI.fix j hj
    have := hc W (by rw [HBE.out]; exact h)
    rw [gi_nats] at this
    exact ⟨bo, oo, e, this, HO.out.1.mem.2 _ (nq_mem (by rw [HO.out.2]; exact hj))⟩)
  have hgl : Hid (∀ W, Below B w9 W → IsRows W a len cap g) := Lib.hid (fun W h => hg.later (by rw [HBE.out]; exact h))
  rw [hBe] at ho1 hb1 hs1
  rw [hBe]
  clear hBe HB hg hI
  go_loopw [42] (fun c W => ∃ (k : Nat) (zs : List Int), k ≤ len ∧ c = .int .i64 (k : Int) ∧ zs.length = len ∧ Hid (∀ i, i < k → gi zs i = -1) ∧ W.ownsRow B 3 1 (.slice (some ⟨B, 0, none⟩) len len) len (ivs .i64 zs) ∧ Below B w9 W) (fun c _ => len - (intOf c).toNat)
  case atStart => exact ⟨0, _, Nat.zero_le _, rfl, by simp, Lib.hid (fun i hi => by omega), ho1, hb1⟩
  case round =>
    clear ho1 hb1 hs1
    obtain ⟨k, zs, hk, rfl, hzl, HZ, ho, hB⟩ := hrel
    rcases Nat.lt_or_ge k len with hlt | hge
    · have t1 : decide ((k : Int) < len) = true := decide_eq_true (by omega)
      obtain ⟨hc, hf⟩ := own_cell ho k hlt hzl
      have ho2 := own_store ho k (-1)
      have hB2 := hB.setCell (p := ⟨B, k, none⟩) (Nat.le_refl _) (.int .i64 (-1))
      have HZ2 : Hid (∀ i, i < k + 1 → gi (zs.set k (-1)) i = -1) := Lib.hid (fun i hi => by
        rw [gi_put (by omega)]
        split
        · rfl
        · exact HZ.out i (by omega))
      clear ho hB
      go_wp2
      go_roundw
      case rel => exact ⟨k + 1, _, hlt, by go_num, by rw [List.length_set]; exact hzl, HZ2, ho2, hB2⟩
      case measure => simp [intOf]; omega
    · obtain rfl : k = len := by omega
      have t1 : decide ((k : Int) < k) = false := decide_eq_false (by omega)
      have HA : Hid (AtTo out k 0 (gi zs)) := Lib.hid (AtTo.start HZ.out)
      clear HZ
      go_wp2_with (fail)
      go_loopw [51] (fun c W => ∃ (j : Nat) (zs : List Int), j ≤ k ∧ c = .int .i64 (j : Int) ∧ zs.length = k ∧ Hid (AtTo out k j (gi zs)) ∧ W.ownsRow B 3 1 (.slice (some ⟨B, 0, none⟩) k k) k (ivs .i64 zs) ∧ Below B w9 W) (fun c _ => k - (intOf c).toNat)
      case atStart => exact ⟨0, zs, Nat.zero_le _, rfl, hzl, HA, ho, hB⟩
      case round =>
        clear ho hB HA hzl
        obtain ⟨j, zs, hj, rfl, hzl, HA, ho, hB⟩ := hrel
        rcases Nat.lt_or_ge j k with hlt | hge
        · have t2 : decide ((j : Int) < k) = true := decide_eq_true (by omega)
          obtain ⟨bo, oo, rfl, hco, hxk⟩ := hlo.out wr hB j hlt
          have HAF := HA.out.fresh HO.out.1.mem.1 (by rw [HO.out.2]; exact hlt) hxk
          have HA2 : ∀ d', (∀ n, n < k → d' n = if n = nq out j then (j : Int) else gi zs n) → AtTo out k (j + 1) d' := fun d' h => HA.out.step HO.out.1.mem.1 (by rw [HO.out.2]; exact hlt) h
          obtain ⟨x, hx⟩ : ∃ x, nq out j = x := ⟨_, rfl⟩
          rw [hx] at hco hxk HAF HA2
          have HA3 : Hid (AtTo out k (j + 1) (gi (zs.set x (j : Int)))) := Lib.hid (HA2 _ fun n hn => gi_put (by omega) _ n)
          obtain ⟨hc, hf⟩ := own_cell ho x hxk hzl
          rw [HAF] at hc
          have x1 : decide ((x : Int) < 0) = false := decide_eq_false (by omega)
          have x2 : decide ((k : Int) ≤ (x : Int)) = false := decide_eq_false (by omega)
          have ho2 := own_store ho x (j : Int)
          have hB2 := hB.setCell (p := ⟨B, x, none⟩) (Nat.le_refl _) (.int .i64 (j : Int))
          clear ho hB HA2 HAF hx
          go_wp2
          go_roundw
          case rel => exact ⟨j + 1, _, hlt, by go_num, by rw [List.length_set]; exact hzl, HA3, ho2, hB2⟩
          case measure => simp [intOf]; omega
        · obtain rfl : j = k := by omega
          have t2 : decide ((j : Int) < j) = false := decide_eq_false (by omega)
          have HAT : Hid (AtTo out j out.length (gi zs)) := Lib.hid (by rw [HO.out.2]; exact HA.out)
          go_wp2_with (fail)
          go_loopw [78] (fun c W => ∃ (i : Nat), i ≤ j ∧ c = .int .i64 (i : Int) ∧ W.ownsRow B 3 1 (.slice (some ⟨B, 0, none⟩) j j) j (ivs .i64 zs) ∧ Below B w9 W) (fun c _ => j - (intOf c).toNat)
          case atStart => exact ⟨0, Nat.zero_le _, rfl, ho, hB⟩
          case round =>
            clear ho hB HA
            obtain ⟨i, hi, rfl, ho, hB⟩ := hrel
            rcases Nat.lt_or_ge i j with hlt | hge
            · have t3 : decide ((i : Int) < j) = true := decide_eq_true (by omega)
              obtain ⟨pi, -, -, hpi⟩ := HAT.out.full HO.out.1 HO.out.2 hlt
              obtain ⟨hci, -⟩ := own_cell ho i hlt hzl
              rw [hpi] at hci
              have x1 : decide ((pi : Int) < 0) = false := decide_eq_false (by omega)
              have hgW := hgl.out wr hB
              obtain ⟨b, off, au, lu, cu, rfl, hcell, hrow⟩ := hgW.fix i hlt
              have hcu := hcell wr (Below.refl _ _)
              have HRL : Hid ((gr g i).length = lu) := Lib.hid hrow.length
              have hlu : lu ≤ 400 := by rw [← HRL.out]; exact row_len4 HV.out (by rw [HN.out]; exact hlt)
              have HPI := Lib.hid hpi
              clear hcell hpi hgW
              go_wp2_with (fail)
              go_loopw [91] (fun c W => ∃ (m : Nat), m ≤ lu ∧ c = .int .i64 (m : Int) ∧ W.ownsRow B 3 1 (.slice (some ⟨B, 0, none⟩) j j) j (ivs .i64 zs) ∧ Below B w9 W ∧ Below wr.heap.size wr W) (fun c _ => lu - (intOf c).toNat)
              case atStart => exact ⟨0, Nat.zero_le _, rfl, ho, hB, Below.refl _ _⟩
              case round =>
                obtain ⟨m, hm, rfl, ho', hB', hB2⟩ := hrel
                rcases Nat.lt_or_ge m lu with hml | hmg
                · have t4 : decide ((m : Int) < lu) = true := decide_eq_true (by omega)
                  obtain ⟨br, o2, rfl, hcz⟩ := hrow.fix m hml
                  have hcx := hcz _ hB2
                  have hmL : m < (gr g i).length := by rw [HRL.out]; exact hml
                  have hmem := gi_mem (gr g i) m hmL
                  have hxr := (HV.out.2 _ (gr_mem (g := g) (i := i) (by rw [HN.out]; exact hlt))).2 _ hmem
                  rw [HN.out] at hxr
                  obtain ⟨x, hx⟩ := Int.eq_ofNat_of_zero_le hxr.1
                  rw [hx] at hxr hcx hmem
                  have hxk : x < j := by omega
                  have hed := HAT.out.edge HO.out.1 HO.out.2 hlt hxk hmem
                  obtain ⟨px, -, -, hpx⟩ := HAT.out.full HO.out.1 HO.out.2 hxk
                  rw [hpx, HPI.out] at hed
                  obtain ⟨hc1, -⟩ := own_cell ho' x hxk hzl
                  obtain ⟨hc2, -⟩ := own_cell ho' i hlt hzl
                  rw [hpx] at hc1
                  rw [HPI.out] at hc2
                  have x2 : decide (px ≤ pi) = false := decide_eq_false (by omega)
                  have hBW : w9.heap.size ≤ wr.heap.size := hB'.size
                  have hB0 : B ≤ wr.heap.size := by rw [← HBE.out]; exact hBW
                  clear hcz hx hxr hmem hed hpx hmL hci hcu
                  go_wp2_with (fail)
                  go_quiet (fail)
                  go_wp2
                  go_roundw
                  case rel => exact ⟨m + 1, hml, by go_num, ho'.kept_below (below_drewN _ _), hB'.trans ((below_drewN _ _).mono hB0), hB2.trans ((below_drewN _ _).mono hB2.size)⟩
                  case measure => simp [intOf]; omega
                · obtain rfl : m = lu := by omega
                  have t4 : decide ((m : Int) < m) = false := decide_eq_false (by omega)
                  go_wp2_with (fail)
                  go_roundw
                  case rel => exact ⟨i + 1, hlt, by go_num, ho', hB'⟩
                  case measure => simp [intOf]; omega
            · obtain rfl : i = j := by omega
              have t3 : decide ((i : Int) < i) = false := decide_eq_false (by omega)
              go_wp2_with (fail)
              go_loopw [12] (fun c W => ∃ (p : Nat), 1 ≤ p ∧ p ≤ max 1 i ∧ c = .int .i64 (p : Int) ∧ Below B w9 W) (fun c _ => i - (intOf c).toNat)
              case atStart => exact ⟨1, by omega, by omega, rfl, hB⟩
              case round =>
                clear ho hB
                obtain ⟨p, hp1, hpi, rfl, hB⟩ := hrel
                rcases Nat.lt_or_ge p i with hlt | hge
                · have t4 : decide ((p : Int) < i) = true := decide_eq_true (by omega)
                  obtain ⟨q, rfl⟩ : ∃ q, p = q + 1 := ⟨p - 1, by omega⟩
                  obtain ⟨bo, oo, rfl, hc1, hx1⟩ := hlo.out wr hB q (by omega)
                  obtain ⟨bo', oo', ee, hc2, hx2⟩ := hlo.out wr hB (q + 1) hlt
                  injection ee with ee; injection ee with e1 e2; subst e1; subst e2
                  have hnb := HO.out.1.nbr (i := q) (by rw [HO.out.2]; exact hlt)
                  obtain ⟨x, hx⟩ : ∃ x, nq out q = x := ⟨_, rfl⟩
                  obtain ⟨y, hy⟩ : ∃ y, nq out (q + 1) = y := ⟨_, rfl⟩
                  rw [hx] at hc1 hx1 hnb
                  rw [hy] at hc2 hx2 hnb
                  have hgW := hgl.out wr hB
                  obtain ⟨b, off, au, lu, cu, rfl, hcell, hrow⟩ := hgW.fix x hx1
                  have hlu : lu ≤ 400 := by rw [← hrow.length]; exact row_len4 HV.out (by rw [HN.out]; exact hx1)
                  have HF : Hid (∀ W, Below wr.heap.size wr W → W.cell? ⟨bo, oo + q, none⟩ = some (.int .i64 (x : Int)) ∧ W.cell? ⟨bo, oo + (q + 1), none⟩ = some (.int .i64 (y : Int)) ∧ W.cell? ⟨b, off + x, none⟩ = some (.slice au lu cu) ∧ IsRow .i64 W au lu cu (gr g x)) := Lib.hid (fun W h => ⟨(h.cell (p := ⟨bo, oo + q, none⟩) (lt_of_cell hc1)).trans hc1, (h.cell (p := ⟨bo, oo + (q + 1), none⟩) (lt_of_cell hc2)).trans hc2, hcell W h, hrow.later h⟩)
                  have HB3 : Hid (∀ W, Below wr.heap.size wr W → Below B w9 W) := Lib.hid (fun W h => hB.trans (h.mono (by have := hB.size; rw [HBE.out] at this; exact this)))
                  have HLU := Lib.hid hlu
                  clear hc1 hc2 hx hy hgW hcell hrow hlu hB
                  by_cases hyx : y < x
                  · have d1 : decide (y < x) = true := decide_eq_true hyx
                    have d2 : decide ((y : Int) < (x : Int)) = true := decide_eq_true (by omega)
                    have HH : Hid (decide ((y : Int) ∈ gr g x) = true) := Lib.hid (decide_eq_true (hnb hyx))
                    clear hnb hyx
                    go_wp2_with (fail)
                    refine wp_region_grow mixed (by kernel_rfl) [[], [], [(1, 113)], [(0, 112), (2, 114)], [(3, 115)], [], [], [(5, 117), (6, 118)], [(7, 119)], [(4, 116), (8, 120)], [(9, 121)], [(10, 122)], [(10, 122)], [(10, 122)], [(13, 125), (10, 122)], [(12, 124), (14, 126), (10, 122)], [(15, 127), (10, 122)], [(11, 123), (16, 128), (10, 122)], [(17, 129), (10, 122)], [(10, 122)], [(10, 122)], [(19, 131), (20, 132), (10, 122)], [(21, 133), (10, 122)], [(18, 130), (22, 134), (10, 122), (10, 122)], [(23, 135), (10, 122)], [(10, 122), (24, 136)]] [(0, 112), (1, 113), (2, 114), (3, 115), (4, 116), (5, 117), (6, 118), (7, 119), (8, 120), (9, 121), (10, 122), (11, 123), (12, 124), (13, 125), (14, 126), (15, 127), (16, 128), (17, 129), (18, 130), (19, 131), (20, 132), (21, 133), (22, 134), (23, 135), (24, 136), (25, 137)] rfl rfl [Ex ?e0, Ex ?e1, Ex ?e2, Ex ?e3, Ex ?e4, Ex ?e5, Ex ?e6, Ex ?e7, Ex ?e8, Ex ?e9, Ex ?e10, Ex ?e11, Ex ?e12, Ex ?e13, Ex ?e14, Ex ?e15, Ex ?e16, Ex ?e17, Ex ?e18, Ex ?e19, Ex ?e20, Ex ?e21, Ex ?e22, Ex ?e23, Ex ?e24, Ex ?e25] ⟨stays_ex _, stays_ex _, stays_ex _, stays_ex _, stays_ex _, stays_ex _, stays_ex _, stays_ex _, stays_ex _, stays_ex _, stays_ex _, stays_ex _, stays_ex _, stays_ex _, stays_ex _, stays_ex _, stays_ex _, stays_ex _, stays_ex _, stays_ex _, stays_ex _, stays_ex _, stays_ex _, stays_ex _, stays_ex _, stays_ex _, trivial⟩ ?steps ?rest
                    case steps =>
                      refine ⟨fun f W hC hh => ?_, fun f W hC hh => ?_, fun f W hC hh => ?_, fun f W hC hh => ?_, fun f W hC hh => ?_, fun f W hC hh => ?_, fun f W hC hh => ?_, fun f W hC hh => ?_, fun f W hC hh => ?_, fun f W hC hh => ?_, fun f W hC hh => ?_, fun f W hC hh => ?_, fun f W hC hh => ?_, fun f W hC hh => ?_, fun f W hC hh => ?_, fun f W hC hh => ?_, fun f W hC hh => ?_, fun f W hC hh => ?_, fun f W hC hh => ?_, fun f W hC hh => ?_, fun f W hC hh => ?_, fun f W hC hh => ?_, fun f W hC hh => ?_, fun f W hC hh => ?_, fun f W hC hh => ?_, fun f W hC hh => ?_, trivial⟩
                      · -- 0: Op.move (Operand.tmp 3)
                        refine tab_plain fun K Q hK => ?_
                        simp only [puts, List.foldr_nil]
                        go_step
                        refine fam_ex hK rfl rfl (by simp only [Act.put, List.setIfInBounds_toArray, List.set_cons_succ, List.set_cons_zero, Array.getD_eq_getD_getElem?, List.getElem?_toArray, List.getElem?_cons_succ, List.getElem?_cons_zero, Option.getD_some] <;> rfl) rfl (Below.refl _ _) hC
                      · -- 1: Op.move (Operand.tmp 12)
                        refine tab_plain fun K Q hK => ?_
                        simp only [puts, List.foldr_nil]
                        go_step
                        refine fam_ex hK rfl rfl (by simp only [Act.put, List.setIfInBounds_toArray, List.set_cons_succ, List.set_cons_zero, Array.getD_eq_getD_getElem?, List.getElem?_toArray, List.getElem?_cons_succ, List.getElem?_cons_zero, Option.getD_some] <;> rfl) rfl (Below.refl _ _) hC
                      · -- 2: Op.binOp BinOp.sub 3 (Operand.tmp 113) (Operand.const (Value.int IntKind.i64 1)) 3
                        obtain ⟨h1, -⟩ := hh
                        have g1 : f 1 = _ := h1
                        refine tab_plain fun K Q hK => ?_
                        simp only [puts, List.foldr_cons, List.foldr_nil, List.setIfInBounds_toArray, List.set_cons_succ, List.set_cons_zero, g1]
                        go_step
                        refine fam_ex hK rfl rfl (by simp only [Act.put, List.setIfInBounds_toArray, List.set_cons_succ, List.set_cons_zero, Array.getD_eq_getD_getElem?, List.getElem?_toArray, List.getElem?_cons_succ, List.getElem?_cons_zero, Option.getD_some] <;> rfl) rfl (Below.refl _ _) hC
                      · -- 3: Op.indexAddr 25 (Operand.tmp 112) (Operand.tmp 114)
                        obtain ⟨h0, h2, -⟩ := hh
                        have g0 : f 0 = _ := h0
                        have g2 : f 2 = _ := h2
                        refine tab_plain fun K Q hK => ?_
                        simp only [puts, List.foldr_cons, List.foldr_nil, List.setIfInBounds_toArray, List.set_cons_succ, List.set_cons_zero, g0, g2]
                        go_step
                        refine fam_ex hK rfl rfl (by simp only [Act.put, List.setIfInBounds_toArray, List.set_cons_succ, List.set_cons_zero, Array.getD_eq_getD_getElem?, List.getElem?_toArray, List.getElem?_cons_succ, List.getElem?_cons_zero, Option.getD_some] <;> rfl) rfl (Below.refl _ _) hC
                      · -- 4: Op.load 3 (Operand.tmp 115)
                        obtain ⟨h3, -⟩ := hh
                        have g3 : f 3 = _ := h3
                        refine tab_plain fun K Q hK => ?_
                        simp only [puts, List.foldr_cons, List.foldr_nil, List.setIfInBounds_toArray, List.set_cons_succ, List.set_cons_zero, g3]
                        obtain ⟨q1, q2, q3, -⟩ := HF.out W hC
                        go_step
                        refine fam_ex hK rfl rfl (by simp only [Act.put, List.setIfInBounds_toArray, List.set_cons_succ, List.set_cons_zero, Array.getD_eq_getD_getElem?, List.getElem?_toArray, List.getElem?_cons_succ, List.getElem?_cons_zero, Option.getD_some] <;> rfl) rfl (Below.refl _ _) hC
                      · -- 5: Op.move (Operand.tmp 3)
                        refine tab_plain fun K Q hK => ?_
                        simp only [puts, List.foldr_nil]
                        go_step
                        refine fam_ex hK rfl rfl (by simp only [Act.put, List.setIfInBounds_toArray, List.set_cons_succ, List.set_cons_zero, Array.getD_eq_getD_getElem?, List.getElem?_toArray, List.getElem?_cons_succ, List.getElem?_cons_zero, Option.getD_some] <;> rfl) rfl (Below.refl _ _) hC
                      · -- 6: Op.move (Operand.tmp 12)
                        refine tab_plain fun K Q hK => ?_
                        simp only [puts, List.foldr_nil]
                        go_step
                        refine fam_ex hK rfl rfl (by simp only [Act.put, List.setIfInBounds_toArray, List.set_cons_succ, List.set_cons_zero, Array.getD_eq_getD_getElem?, List.getElem?_toArray, List.getElem?_cons_succ, List.getElem?_cons_zero, Option.getD_some] <;> rfl) rfl (Below.refl _ _) hC
                      · -- 7: Op.indexAddr 25 (Operand.tmp 117) (Operand.tmp 118)
                        obtain ⟨h5, h6, -⟩ := hh
                        have g5 : f 5 = _ := h5
                        have g6 : f 6 = _ := h6
                        refine tab_plain fun K Q hK => ?_
                        simp only [puts, List.foldr_cons, List.foldr_nil, List.setIfInBounds_toArray, List.set_cons_succ, List.set_cons_zero, g5, g6]
                        go_step
                        refine fam_ex hK rfl rfl (by simp only [Act.put, List.setIfInBounds_toArray, List.set_cons_succ, List.set_cons_zero, Array.getD_eq_getD_getElem?, List.getElem?_toArray, List.getElem?_cons_succ, List.getElem?_cons_zero, Option.getD_some] <;> rfl) rfl (Below.refl _ _) hC
                      · -- 8: Op.load 3 (Operand.tmp 119)
                        obtain ⟨h7, -⟩ := hh
                        have g7 : f 7 = _ := h7
                        refine tab_plain fun K Q hK => ?_
                        simp only [puts, List.foldr_cons, List.foldr_nil, List.setIfInBounds_toArray, List.set_cons_succ, List.set_cons_zero, g7]
                        obtain ⟨q1, q2, q3, -⟩ := HF.out W hC
                        go_step
                        refine fam_ex hK rfl rfl (by simp only [Act.put, List.setIfInBounds_toArray, List.set_cons_succ, List.set_cons_zero, Array.getD_eq_getD_getElem?, List.getElem?_toArray, List.getElem?_cons_succ, List.getElem?_cons_zero, Option.getD_some] <;> rfl) rfl (Below.refl _ _) hC
                      · -- 9: Op.binOp BinOp.gtr 3 (Operand.tmp 116) (Operand.tmp 120) 3
                        obtain ⟨h4, h8, -⟩ := hh
                        have g4 : f 4 = _ := h4
                        have g8 : f 8 = _ := h8
                        refine tab_plain fun K Q hK => ?_
                        simp only [puts, List.foldr_cons, List.foldr_nil, List.setIfInBounds_toArray, List.set_cons_succ, List.set_cons_zero, g4, g8]
                        go_step
                        refine fam_ex hK rfl rfl (by simp only [Act.put, List.setIfInBounds_toArray, List.set_cons_succ, List.set_cons_zero, Array.getD_eq_getD_getElem?, List.getElem?_toArray, List.getElem?_cons_succ, List.getElem?_cons_zero, Option.getD_some] <;> rfl) rfl (Below.refl _ _) hC
                      · -- 10: Op.move (Operand.tmp 121)
                        obtain ⟨h9, -⟩ := hh
                        have g9 : f 9 = _ := h9
                        refine tab_plain fun K Q hK => ?_
                        simp only [puts, List.foldr_cons, List.foldr_nil, List.setIfInBounds_toArray, List.set_cons_succ, List.set_cons_zero, g9]
                        go_step
                        refine fam_ex hK rfl rfl (by simp only [Act.put, List.setIfInBounds_toArray, List.set_cons_succ, List.set_cons_zero, Array.getD_eq_getD_getElem?, List.getElem?_toArray, List.getElem?_cons_succ, List.getElem?_cons_zero, Option.getD_some] <;> rfl) rfl (Below.refl _ _) hC
                      · -- 11: Op.move (Operand.tmp 0)
                        obtain ⟨h10, -⟩ := hh
                        have g10 : f 10 = _ := h10
                        refine tab_yes g10 fun K Q hK => ?_
                        simp only [puts, List.foldr_cons, List.foldr_nil, List.setIfInBounds_toArray, List.set_cons_succ, List.set_cons_zero, g10]
                        go_step
                        refine fam_ex hK rfl rfl (by simp only [Act.put, List.setIfInBounds_toArray, List.set_cons_succ, List.set_cons_zero, Array.getD_eq_getD_getElem?, List.getElem?_toArray, List.getElem?_cons_succ, List.getElem?_cons_zero, Option.getD_some] <;> rfl) rfl (Below.refl _ _) hC
                      · -- 12: Op.move (Operand.tmp 3)
                        obtain ⟨h10, -⟩ := hh
                        have g10 : f 10 = _ := h10
                        refine tab_yes g10 fun K Q hK => ?_
                        simp only [puts, List.foldr_cons, List.foldr_nil, List.setIfInBounds_toArray, List.set_cons_succ, List.set_cons_zero, g10]
                        go_step
                        refine fam_ex hK rfl rfl (by simp only [Act.put, List.setIfInBounds_toArray, List.set_cons_succ, List.set_cons_zero, Array.getD_eq_getD_getElem?, List.getElem?_toArray, List.getElem?_cons_succ, List.getElem?_cons_zero, Option.getD_some] <;> rfl) rfl (Below.refl _ _) hC
                      · -- 13: Op.move (Operand.tmp 12)
                        obtain ⟨h10, -⟩ := hh
                        have g10 : f 10 = _ := h10
                        refine tab_yes g10 fun K Q hK => ?_
                        simp only [puts, List.foldr_cons, List.foldr_nil, List.setIfInBounds_toArray, List.set_cons_succ, List.set_cons_zero, g10]
                        go_step
                        refine fam_ex hK rfl rfl (by simp only [Act.put, List.setIfInBounds_toArray, List.set_cons_succ, List.set_cons_zero, Array.getD_eq_getD_getElem?, List.getElem?_toArray, List.getElem?_cons_succ, List.getElem?_cons_zero, Option.getD_some] <;> rfl) rfl (Below.refl _ _) hC
                      · -- 14: Op.binOp BinOp.sub 3 (Operand.tmp 125) (Operand.const (Value.int IntKind.i64 1)) 3
                        obtain ⟨h13, h10, -⟩ := hh
                        have g13 : f 13 = _ := h13
                        have g10 : f 10 = _ := h10
                        refine tab_yes g10 fun K Q hK => ?_
                        simp only [puts, List.foldr_cons, List.foldr_nil, List.setIfInBounds_toArray, List.set_cons_succ, List.set_cons_zero, g13, g10]
                        go_step
                        refine fam_ex hK rfl rfl (by simp only [Act.put, List.setIfInBounds_toArray, List.set_cons_succ, List.set_cons_zero, Array.getD_eq_getD_getElem?, List.getElem?_toArray, List.getElem?_cons_succ, List.getElem?_cons_zero, Option.getD_some] <;> rfl) rfl (Below.refl _ _) hC
                      · -- 15: Op.indexAddr 25 (Operand.tmp 124) (Operand.tmp 126)
                        obtain ⟨h12, h14, h10, -⟩ := hh
                        have g12 : f 12 = _ := h12
                        have g14 : f 14 = _ := h14
                        have g10 : f 10 = _ := h10
                        refine tab_yes g10 fun K Q hK => ?_
                        simp only [puts, List.foldr_cons, List.foldr_nil, List.setIfInBounds_toArray, List.set_cons_succ, List.set_cons_zero, g12, g14, g10]
                        go_step
                        refine fam_ex hK rfl rfl (by simp only [Act.put, List.setIfInBounds_toArray, List.set_cons_succ, List.set_cons_zero, Array.getD_eq_getD_getElem?, List.getElem?_toArray, List.getElem?_cons_succ, List.getElem?_cons_zero, Option.getD_some] <;> rfl) rfl (Below.refl _ _) hC
                      · -- 16: Op.load 3 (Operand.tmp 127)
                        obtain ⟨h15, h10, -⟩ := hh
                        have g15 : f 15 = _ := h15
                        have g10 : f 10 = _ := h10
                        refine tab_yes g10 fun K Q hK => ?_
                        simp only [puts, List.foldr_cons, List.foldr_nil, List.setIfInBounds_toArray, List.set_cons_succ, List.set_cons_zero, g15, g10]
                        obtain ⟨q1, q2, q3, -⟩ := HF.out W hC
                        go_step
                        refine fam_ex hK rfl rfl (by simp only [Act.put, List.setIfInBounds_toArray, List.set_cons_succ, List.set_cons_zero, Array.getD_eq_getD_getElem?, List.getElem?_toArray, List.getElem?_cons_succ, List.getElem?_cons_zero, Option.getD_some] <;> rfl) rfl (Below.refl _ _) hC
                      · -- 17: Op.indexAddr 22 (Operand.tmp 123) (Operand.tmp 128)
                        obtain ⟨h11, h16, h10, -⟩ := hh
                        have g11 : f 11 = _ := h11
                        have g16 : f 16 = _ := h16
                        have g10 : f 10 = _ := h10
                        refine tab_yes g10 fun K Q hK => ?_
                        simp only [puts, List.foldr_cons, List.foldr_nil, List.setIfInBounds_toArray, List.set_cons_succ, List.set_cons_zero, g11, g16, g10]
                        go_step
                        refine fam_ex hK rfl rfl (by simp only [Act.put, List.setIfInBounds_toArray, List.set_cons_succ, List.set_cons_zero, Array.getD_eq_getD_getElem?, List.getElem?_toArray, List.getElem?_cons_succ, List.getElem?_cons_zero, Option.getD_some] <;> rfl) rfl (Below.refl _ _) hC
                      · -- 18: Op.load 25 (Operand.tmp 129)
                        obtain ⟨h17, h10, -⟩ := hh
                        have g17 : f 17 = _ := h17
                        have g10 : f 10 = _ := h10
                        refine tab_yes g10 fun K Q hK => ?_
                        simp only [puts, List.foldr_cons, List.foldr_nil, List.setIfInBounds_toArray, List.set_cons_succ, List.set_cons_zero, g17, g10]
                        obtain ⟨q1, q2, q3, -⟩ := HF.out W hC
                        go_step
                        refine fam_ex hK rfl rfl (by simp only [Act.put, List.setIfInBounds_toArray, List.set_cons_succ, List.set_cons_zero, Array.getD_eq_getD_getElem?, List.getElem?_toArray, List.getElem?_cons_succ, List.getElem?_cons_zero, Option.getD_some] <;> rfl) rfl (Below.refl _ _) hC
                      · -- 19: Op.move (Operand.tmp 3)
                        obtain ⟨h10, -⟩ := hh
                        have g10 : f 10 = _ := h10
                        refine tab_yes g10 fun K Q hK => ?_
                        simp only [puts, List.foldr_cons, List.foldr_nil, List.setIfInBounds_toArray, List.set_cons_succ, List.set_cons_zero, g10]
                        go_step
                        refine fam_ex hK rfl rfl (by simp only [Act.put, List.setIfInBounds_toArray, List.set_cons_succ, List.set_cons_zero, Array.getD_eq_getD_getElem?, List.getElem?_toArray, List.getElem?_cons_succ, List.getElem?_cons_zero, Option.getD_some] <;> rfl) rfl (Below.refl _ _) hC
                      · -- 20: Op.move (Operand.tmp 12)
                        obtain ⟨h10, -⟩ := hh
                        have g10 : f 10 = _ := h10
                        refine tab_yes g10 fun K Q hK => ?_
                        simp only [puts, List.foldr_cons, List.foldr_nil, List.setIfInBounds_toArray, List.set_cons_succ, List.set_cons_zero, g10]
                        go_step
                        refine fam_ex hK rfl rfl (by simp only [Act.put, List.setIfInBounds_toArray, List.set_cons_succ, List.set_cons_zero, Array.getD_eq_getD_getElem?, List.getElem?_toArray, List.getElem?_cons_succ, List.getElem?_cons_zero, Option.getD_some] <;> rfl) rfl (Below.refl _ _) hC
                      · -- 21: Op.indexAddr 25 (Operand.tmp 131) (Operand.tmp 132)
                        obtain ⟨h19, h20, h10, -⟩ := hh
                        have g19 : f 19 = _ := h19
                        have g20 : f 20 = _ := h20
                        have g10 : f 10 = _ := h10
                        refine tab_yes g10 fun K Q hK => ?_
                        simp only [puts, List.foldr_cons, List.foldr_nil, List.setIfInBounds_toArray, List.set_cons_succ, List.set_cons_zero, g19, g20, g10]
                        go_step
                        refine fam_ex hK rfl rfl (by simp only [Act.put, List.setIfInBounds_toArray, List.set_cons_succ, List.set_cons_zero, Array.getD_eq_getD_getElem?, List.getElem?_toArray, List.getElem?_cons_succ, List.getElem?_cons_zero, Option.getD_some] <;> rfl) rfl (Below.refl _ _) hC
                      · -- 22: Op.load 3 (Operand.tmp 133)
                        obtain ⟨h21, h10, -⟩ := hh
                        have g21 : f 21 = _ := h21
                        have g10 : f 10 = _ := h10
                        refine tab_yes g10 fun K Q hK => ?_
                        simp only [puts, List.foldr_cons, List.foldr_nil, List.setIfInBounds_toArray, List.set_cons_succ, List.set_cons_zero, g21, g10]
                        obtain ⟨q1, q2, q3, -⟩ := HF.out W hC
                        go_step
                        refine fam_ex hK rfl rfl (by simp only [Act.put, List.setIfInBounds_toArray, List.set_cons_succ, List.set_cons_zero, Array.getD_eq_getD_getElem?, List.getElem?_toArray, List.getElem?_cons_succ, List.getElem?_cons_zero, Option.getD_some] <;> rfl) rfl (Below.refl _ _) hC
                      · -- 23: Op.call { callee := Callee.value (Operand.func 15), args := #[Operand.tmp 130, Operand.tmp
                        obtain ⟨h18, h22, h10, _, -⟩ := hh
                        have g18 : f 18 = _ := h18
                        have g22 : f 22 = _ := h22
                        have g10 : f 10 = _ := h10
                        refine tab_yes g10 fun K Q hK => ?_
                        simp only [puts, List.foldr_cons, List.foldr_nil, List.setIfInBounds_toArray, List.set_cons_succ, List.set_cons_zero, g18, g22, g10]
                        obtain ⟨-, -, -, r1⟩ := HF.out W hC
                        go_step
                        go_at_call 14
                        refine (has_any r1 (by have := HLU.out; omega)).mono ?_
                        rintro e w' ⟨rfl, rfl⟩
                        rw [HH.out]
                        refine fam_ex hK rfl rfl (by simp only [Act.put, List.setIfInBounds_toArray, List.set_cons_succ, List.set_cons_zero, Array.getD_eq_getD_getElem?, List.getElem?_toArray, List.getElem?_cons_succ, List.getElem?_cons_zero, Option.getD_some] <;> rfl) rfl (Below.refl _ _) hC
                      · -- 24: Op.unOp UnOp.not 4 (Operand.tmp 135)
                        obtain ⟨h23, h10, -⟩ := hh
                        have g23 : f 23 = _ := h23
                        have g10 : f 10 = _ := h10
                        refine tab_yes g10 fun K Q hK => ?_
                        simp only [puts, List.foldr_cons, List.foldr_nil, List.setIfInBounds_toArray, List.set_cons_succ, List.set_cons_zero, g23, g10]
                        go_step
                        refine fam_ex hK rfl rfl (by simp only [Act.put, List.setIfInBounds_toArray, List.set_cons_succ, List.set_cons_zero, Array.getD_eq_getD_getElem?, List.getElem?_toArray, List.getElem?_cons_succ, List.getElem?_cons_zero, Option.getD_some] <;> rfl) rfl (Below.refl _ _) hC
                      · -- 25: Op.pick (Operand.tmp 122) (Operand.tmp 136) (Operand.const (Value.bool false))
                        obtain ⟨h10, h24, -⟩ := hh
                        have g10 : f 10 = _ := h10
                        have g24 : f 24 = _ := h24
                        refine tab_plain fun K Q hK => ?_
                        simp only [puts, List.foldr_cons, List.foldr_nil, List.setIfInBounds_toArray, List.set_cons_succ, List.set_cons_zero, g10, g24]
                        go_step
                        refine fam_ex hK rfl rfl (by simp only [Act.put, List.setIfInBounds_toArray, List.set_cons_succ, List.set_cons_zero, Array.getD_eq_getD_getElem?, List.getElem?_toArray, List.getElem?_cons_succ, List.getElem?_cons_zero, Option.getD_some] <;> rfl) rfl (Below.refl _ _) hC
                    case rest =>
                      intro f WA hC hh
                      obtain ⟨h0, h1, h2, h3, h4, h5, h6, h7, h8, h9, h10, h11, h12, h13, h14, h15, h16, h17, h18, h19, h20, h21, h22, h23, h24, h25, -⟩ := hh
                      have g0 : f 0 = _ := h0
                      have g1 : f 1 = _ := h1
                      have g2 : f 2 = _ := h2
                      have g3 : f 3 = _ := h3
                      have g4 : f 4 = _ := h4
                      have g5 : f 5 = _ := h5
                      have g6 : f 6 = _ := h6
                      have g7 : f 7 = _ := h7
                      have g8 : f 8 = _ := h8
                      have g9 : f 9 = _ := h9
                      have g10 : f 10 = _ := h10
                      have g11 : f 11 = _ := h11
                      have g12 : f 12 = _ := h12
                      have g13 : f 13 = _ := h13
                      have g14 : f 14 = _ := h14
                      have g15 : f 15 = _ := h15
                      have g16 : f 16 = _ := h16
                      have g17 : f 17 = _ := h17
                      have g18 : f 18 = _ := h18
                      have g19 : f 19 = _ := h19
                      have g20 : f 20 = _ := h20
                      have g21 : f 21 = _ := h21
                      have g22 : f 22 = _ := h22
                      have g23 : f 23 = _ := h23
                      have g24 : f 24 = _ := h24
                      have g25 : f 25 = _ := h25
                      simp only [puts, List.foldr_cons, List.foldr_nil, List.setIfInBounds_toArray, List.set_cons_succ, List.set_cons_zero, g0, g1, g2, g3, g4, g5, g6, g7, g8, g9, g10, g11, g12, g13, g14, g15, g16, g17, g18, g19, g20, g21, g22, g23, g24, g25]
                      clear h0 h1 h2 h3 h4 h5 h6 h7 h8 h9 h10 h11 h12 h13 h14 h15 h16 h17 h18 h19 h20 h21 h22 h23 h24 h25 g0 g1 g2 g3 g4 g5 g6 g7 g8 g9 g10 g11 g12 g13 g14 g15 g16 g17 g18 g19 g20 g21 g22 g23 g24 g25
                      have hB4 := HB3.out _ hC
                      go_wp2
                      go_roundw
                      case rel => exact ⟨q + 1 + 1, by omega, by omega, by go_num, hB4⟩
                      case measure => simp [intOf]; omega
                  · have d1 : decide (y < x) = false := decide_eq_false hyx
                    have d2 : decide ((y : Int) < (x : Int)) = false := decide_eq_false (by omega)
                    clear hnb hyx
                    go_wp2_with (fail)
                    refine wp_region_grow mixed (by kernel_rfl) [[], [], [(1, 113)], [(0, 112), (2, 114)], [(3, 115)], [], [], [(5, 117), (6, 118)], [(7, 119)], [(4, 116), (8, 120)], [(9, 121)], [(10, 122)], [(10, 122)], [(10, 122)], [(13, 125), (10, 122)], [(12, 124), (14, 126), (10, 122)], [(15, 127), (10, 122)], [(11, 123), (16, 128), (10, 122)], [(17, 129), (10, 122)], [(10, 122)], [(10, 122)], [(19, 131), (20, 132), (10, 122)], [(21, 133), (10, 122)], [(18, 130), (22, 134), (10, 122), (10, 122)], [(23, 135), (10, 122)], [(10, 122), (24, 136)]] [(0, 112), (1, 113), (2, 114), (3, 115), (4, 116), (5, 117), (6, 118), (7, 119), (8, 120), (9, 121), (10, 122), (11, 123), (12, 124), (13, 125), (14, 126), (15, 127), (16, 128), (17, 129), (18, 130), (19, 131), (20, 132), (21, 133), (22, 134), (23, 135), (24, 136), (25, 137)] rfl rfl [Ex ?ep0, Ex ?ep1, Ex ?ep2, Ex ?ep3, Ex ?ep4, Ex ?ep5, Ex ?ep6, Ex ?ep7, Ex ?ep8, Ex ?ep9, Ex ?ep10, Ex undef, Ex undef, Ex undef, Ex undef, Ex undef, Ex undef, Ex undef, Ex undef, Ex undef, Ex undef, Ex undef, Ex undef, Ex undef, Ex undef, Ex ?ep25] ⟨stays_ex _, stays_ex _, stays_ex _, stays_ex _, stays_ex _, stays_ex _, stays_ex _, stays_ex _, stays_ex _, stays_ex _, stays_ex _, stays_ex _, stays_ex _, stays_ex _, stays_ex _, stays_ex _, stays_ex _, stays_ex _, stays_ex _, stays_ex _, stays_ex _, stays_ex _, stays_ex _, stays_ex _, stays_ex _, stays_ex _, trivial⟩ ?psteps ?prest
                    case psteps =>
                      refine ⟨fun f W hC hh => ?_, fun f W hC hh => ?_, fun f W hC hh => ?_, fun f W hC hh => ?_, fun f W hC hh => ?_, fun f W hC hh => ?_, fun f W hC hh => ?_, fun f W hC hh => ?_, fun f W hC hh => ?_, fun f W hC hh => ?_, fun f W hC hh => ?_, fun f W hC hh => ?_, fun f W hC hh => ?_, fun f W hC hh => ?_, fun f W hC hh => ?_, fun f W hC hh => ?_, fun f W hC hh => ?_, fun f W hC hh => ?_, fun f W hC hh => ?_, fun f W hC hh => ?_, fun f W hC hh => ?_, fun f W hC hh => ?_, fun f W hC hh => ?_, fun f W hC hh => ?_, fun f W hC hh => ?_, fun f W hC hh => ?_, trivial⟩
                      · -- 0: Op.move (Operand.tmp 3)
                        refine tab_plain fun K Q hK => ?_
                        simp only [puts, List.foldr_nil]
                        go_step
                        refine fam_ex hK rfl rfl (by simp only [Act.put, List.setIfInBounds_toArray, List.set_cons_succ, List.set_cons_zero, Array.getD_eq_getD_getElem?, List.getElem?_toArray, List.getElem?_cons_succ, List.getElem?_cons_zero, Option.getD_some] <;> rfl) rfl (Below.refl _ _) hC
                      · -- 1: Op.move (Operand.tmp 12)
                        refine tab_plain fun K Q hK => ?_
                        simp only [puts, List.foldr_nil]
                        go_step
                        refine fam_ex hK rfl rfl (by simp only [Act.put, List.setIfInBounds_toArray, List.set_cons_succ, List.set_cons_zero, Array.getD_eq_getD_getElem?, List.getElem?_toArray, List.getElem?_cons_succ, List.getElem?_cons_zero, Option.getD_some] <;> rfl) rfl (Below.refl _ _) hC
                      · -- 2: Op.binOp BinOp.sub 3 (Operand.tmp 113) (Operand.const (Value.int IntKind.i64 1)) 3
                        obtain ⟨h1, -⟩ := hh
                        have g1 : f 1 = _ := h1
                        refine tab_plain fun K Q hK => ?_
                        simp only [puts, List.foldr_cons, List.foldr_nil, List.setIfInBounds_toArray, List.set_cons_succ, List.set_cons_zero, g1]
                        go_step
                        refine fam_ex hK rfl rfl (by simp only [Act.put, List.setIfInBounds_toArray, List.set_cons_succ, List.set_cons_zero, Array.getD_eq_getD_getElem?, List.getElem?_toArray, List.getElem?_cons_succ, List.getElem?_cons_zero, Option.getD_some] <;> rfl) rfl (Below.refl _ _) hC
                      · -- 3: Op.indexAddr 25 (Operand.tmp 112) (Operand.tmp 114)
                        obtain ⟨h0, h2, -⟩ := hh
                        have g0 : f 0 = _ := h0
                        have g2 : f 2 = _ := h2
                        refine tab_plain fun K Q hK => ?_
                        simp only [puts, List.foldr_cons, List.foldr_nil, List.setIfInBounds_toArray, List.set_cons_succ, List.set_cons_zero, g0, g2]
                        go_step
                        refine fam_ex hK rfl rfl (by simp only [Act.put, List.setIfInBounds_toArray, List.set_cons_succ, List.set_cons_zero, Array.getD_eq_getD_getElem?, List.getElem?_toArray, List.getElem?_cons_succ, List.getElem?_cons_zero, Option.getD_some] <;> rfl) rfl (Below.refl _ _) hC
                      · -- 4: Op.load 3 (Operand.tmp 115)
                        obtain ⟨h3, -⟩ := hh
                        have g3 : f 3 = _ := h3
                        refine tab_plain fun K Q hK => ?_
                        simp only [puts, List.foldr_cons, List.foldr_nil, List.setIfInBounds_toArray, List.set_cons_succ, List.set_cons_zero, g3]
                        obtain ⟨q1, q2, q3, -⟩ := HF.out W hC
                        go_step
                        refine fam_ex hK rfl rfl (by simp only [Act.put, List.setIfInBounds_toArray, List.set_cons_succ, List.set_cons_zero, Array.getD_eq_getD_getElem?, List.getElem?_toArray, List.getElem?_cons_succ, List.getElem?_cons_zero, Option.getD_some] <;> rfl) rfl (Below.refl _ _) hC
                      · -- 5: Op.move (Operand.tmp 3)
                        refine tab_plain fun K Q hK => ?_
                        simp only [puts, List.foldr_nil]
                        go_step
                        refine fam_ex hK rfl rfl (by simp only [Act.put, List.setIfInBounds_toArray, List.set_cons_succ, List.set_cons_zero, Array.getD_eq_getD_getElem?, List.getElem?_toArray, List.getElem?_cons_succ, List.getElem?_cons_zero, Option.getD_some] <;> rfl) rfl (Below.refl _ _) hC
                      · -- 6: Op.move (Operand.tmp 12)
                        refine tab_plain fun K Q hK => ?_
                        simp only [puts, List.foldr_nil]
                        go_step
                        refine fam_ex hK rfl rfl (by simp only [Act.put, List.setIfInBounds_toArray, List.set_cons_succ, List.set_cons_zero, Array.getD_eq_getD_getElem?, List.getElem?_toArray, List.getElem?_cons_succ, List.getElem?_cons_zero, Option.getD_some] <;> rfl) rfl (Below.refl _ _) hC
                      · -- 7: Op.indexAddr 25 (Operand.tmp 117) (Operand.tmp 118)
                        obtain ⟨h5, h6, -⟩ := hh
                        have g5 : f 5 = _ := h5
                        have g6 : f 6 = _ := h6
                        refine tab_plain fun K Q hK => ?_
                        simp only [puts, List.foldr_cons, List.foldr_nil, List.setIfInBounds_toArray, List.set_cons_succ, List.set_cons_zero, g5, g6]
                        go_step
                        refine fam_ex hK rfl rfl (by simp only [Act.put, List.setIfInBounds_toArray, List.set_cons_succ, List.set_cons_zero, Array.getD_eq_getD_getElem?, List.getElem?_toArray, List.getElem?_cons_succ, List.getElem?_cons_zero, Option.getD_some] <;> rfl) rfl (Below.refl _ _) hC
                      · -- 8: Op.load 3 (Operand.tmp 119)
                        obtain ⟨h7, -⟩ := hh
                        have g7 : f 7 = _ := h7
                        refine tab_plain fun K Q hK => ?_
                        simp only [puts, List.foldr_cons, List.foldr_nil, List.setIfInBounds_toArray, List.set_cons_succ, List.set_cons_zero, g7]
                        obtain ⟨q1, q2, q3, -⟩ := HF.out W hC
                        go_step
                        refine fam_ex hK rfl rfl (by simp only [Act.put, List.setIfInBounds_toArray, List.set_cons_succ, List.set_cons_zero, Array.getD_eq_getD_getElem?, List.getElem?_toArray, List.getElem?_cons_succ, List.getElem?_cons_zero, Option.getD_some] <;> rfl) rfl (Below.refl _ _) hC
                      · -- 9: Op.binOp BinOp.gtr 3 (Operand.tmp 116) (Operand.tmp 120) 3
                        obtain ⟨h4, h8, -⟩ := hh
                        have g4 : f 4 = _ := h4
                        have g8 : f 8 = _ := h8
                        refine tab_plain fun K Q hK => ?_
                        simp only [puts, List.foldr_cons, List.foldr_nil, List.setIfInBounds_toArray, List.set_cons_succ, List.set_cons_zero, g4, g8]
                        go_step
                        refine fam_ex hK rfl rfl (by simp only [Act.put, List.setIfInBounds_toArray, List.set_cons_succ, List.set_cons_zero, Array.getD_eq_getD_getElem?, List.getElem?_toArray, List.getElem?_cons_succ, List.getElem?_cons_zero, Option.getD_some] <;> rfl) rfl (Below.refl _ _) hC
                      · -- 10: Op.move (Operand.tmp 121)
                        obtain ⟨h9, -⟩ := hh
                        have g9 : f 9 = _ := h9
                        refine tab_plain fun K Q hK => ?_
                        simp only [puts, List.foldr_cons, List.foldr_nil, List.setIfInBounds_toArray, List.set_cons_succ, List.set_cons_zero, g9]
                        go_step
                        refine fam_ex hK rfl rfl (by simp only [Act.put, List.setIfInBounds_toArray, List.set_cons_succ, List.set_cons_zero, Array.getD_eq_getD_getElem?, List.getElem?_toArray, List.getElem?_cons_succ, List.getElem?_cons_zero, Option.getD_some] <;> rfl) rfl (Below.refl _ _) hC
                      · -- 11: Op.move (Operand.tmp 0)
                        obtain ⟨h10, -⟩ := hh
                        have g10 : f 10 = _ := h10
                        exact tab_no rfl g10 (by decide) rfl
                      · -- 12: Op.move (Operand.tmp 3)
                        obtain ⟨h10, -⟩ := hh
                        have g10 : f 10 = _ := h10
                        exact tab_no rfl g10 (by decide) rfl
                      · -- 13: Op.move (Operand.tmp 12)
                        obtain ⟨h10, -⟩ := hh
                        have g10 : f 10 = _ := h10
                        exact tab_no rfl g10 (by decide) rfl
                      · -- 14: Op.binOp BinOp.sub 3 (Operand.tmp 125) (Operand.const (Value.int IntKind.i64 1)) 3
                        obtain ⟨h13, h10, -⟩ := hh
                        have g13 : f 13 = _ := h13
                        have g10 : f 10 = _ := h10
                        exact tab_no rfl g10 (by decide) rfl
                      · -- 15: Op.indexAddr 25 (Operand.tmp 124) (Operand.tmp 126)
                        obtain ⟨h12, h14, h10, -⟩ := hh
                        have g12 : f 12 = _ := h12
                        have g14 : f 14 = _ := h14
                        have g10 : f 10 = _ := h10
                        exact tab_no rfl g10 (by decide) rfl
                      · -- 16: Op.load 3 (Operand.tmp 127)
                        obtain ⟨h15, h10, -⟩ := hh
                        have g15 : f 15 = _ := h15
                        have g10 : f 10 = _ := h10
                        exact tab_no rfl g10 (by decide) rfl
                      · -- 17: Op.indexAddr 22 (Operand.tmp 123) (Operand.tmp 128)
                        obtain ⟨h11, h16, h10, -⟩ := hh
                        have g11 : f 11 = _ := h11
                        have g16 : f 16 = _ := h16
                        have g10 : f 10 = _ := h10
                        exact tab_no rfl g10 (by decide) rfl
                      · -- 18: Op.load 25 (Operand.tmp 129)
                        obtain ⟨h17, h10, -⟩ := hh
                        have g17 : f 17 = _ := h17
                        have g10 : f 10 = _ := h10
                        exact tab_no rfl g10 (by decide) rfl
                      · -- 19: Op.move (Operand.tmp 3)
                        obtain ⟨h10, -⟩ := hh
                        have g10 : f 10 = _ := h10
                        exact tab_no rfl g10 (by decide) rfl
                      · -- 20: Op.move (Operand.tmp 12)
                        obtain ⟨h10, -⟩ := hh
                        have g10 : f 10 = _ := h10
                        exact tab_no rfl g10 (by decide) rfl
                      · -- 21: Op.indexAddr 25 (Operand.tmp 131) (Operand.tmp 132)
                        obtain ⟨h19, h20, h10, -⟩ := hh
                        have g19 : f 19 = _ := h19
                        have g20 : f 20 = _ := h20
                        have g10 : f 10 = _ := h10
                        exact tab_no rfl g10 (by decide) rfl
                      · -- 22: Op.load 3 (Operand.tmp 133)
                        obtain ⟨h21, h10, -⟩ := hh
                        have g21 : f 21 = _ := h21
                        have g10 : f 10 = _ := h10
                        exact tab_no rfl g10 (by decide) rfl
                      · -- 23: Op.call { callee := Callee.value (Operand.func 15), args := #[Operand.tmp 130, Operand.tmp
                        obtain ⟨h18, h22, h10, _, -⟩ := hh
                        have g18 : f 18 = _ := h18
                        have g22 : f 22 = _ := h22
                        have g10 : f 10 = _ := h10
                        exact tab_no rfl g10 (by decide) rfl
                      · -- 24: Op.unOp UnOp.not 4 (Operand.tmp 135)
                        obtain ⟨h23, h10, -⟩ := hh
                        have g23 : f 23 = _ := h23
                        have g10 : f 10 = _ := h10
                        exact tab_no rfl g10 (by decide) rfl
                      · -- 25: Op.pick (Operand.tmp 122) (Operand.tmp 136) (Operand.const (Value.bool false))
                        obtain ⟨h10, h24, -⟩ := hh
                        have g10 : f 10 = _ := h10
                        have g24 : f 24 = _ := h24
                        refine tab_plain fun K Q hK => ?_
                        simp only [puts, List.foldr_cons, List.foldr_nil, List.setIfInBounds_toArray, List.set_cons_succ, List.set_cons_zero, g10, g24]
                        go_step
                        refine fam_ex hK rfl rfl (by simp only [Act.put, List.setIfInBounds_toArray, List.set_cons_succ, List.set_cons_zero, Array.getD_eq_getD_getElem?, List.getElem?_toArray, List.getElem?_cons_succ, List.getElem?_cons_zero, Option.getD_some] <;> rfl) rfl (Below.refl _ _) hC
                    case prest =>
                      intro f WA hC hh
                      obtain ⟨h0, h1, h2, h3, h4, h5, h6, h7, h8, h9, h10, h11, h12, h13, h14, h15, h16, h17, h18, h19, h20, h21, h22, h23, h24, h25, -⟩ := hh
                      have g0 : f 0 = _ := h0
                      have g1 : f 1 = _ := h1
                      have g2 : f 2 = _ := h2
                      have g3 : f 3 = _ := h3
                      have g4 : f 4 = _ := h4
                      have g5 : f 5 = _ := h5
                      have g6 : f 6 = _ := h6
                      have g7 : f 7 = _ := h7
                      have g8 : f 8 = _ := h8
                      have g9 : f 9 = _ := h9
                      have g10 : f 10 = _ := h10
                      have g11 : f 11 = _ := h11
                      have g12 : f 12 = _ := h12
                      have g13 : f 13 = _ := h13
                      have g14 : f 14 = _ := h14
                      have g15 : f 15 = _ := h15
                      have g16 : f 16 = _ := h16
                      have g17 : f 17 = _ := h17
                      have g18 : f 18 = _ := h18
                      have g19 : f 19 = _ := h19
                      have g20 : f 20 = _ := h20
                      have g21 : f 21 = _ := h21
                      have g22 : f 22 = _ := h22
                      have g23 : f 23 = _ := h23
                      have g24 : f 24 = _ := h24
                      have g25 : f 25 = _ := h25
                      simp only [puts, List.foldr_cons, List.foldr_nil, List.setIfInBounds_toArray, List.set_cons_succ, List.set_cons_zero, g0, g1, g2, g3, g4, g5, g6, g7, g8, g9, g10, g11, g12, g13, g14, g15, g16, g17, g18, g19, g20, g21, g22, g23, g24, g25]
                      clear h0 h1 h2 h3 h4 h5 h6 h7 h8 h9 h10 h11 h12 h13 h14 h15 h16 h17 h18 h19 h20 h21 h22 h23 h24 h25 g0 g1 g2 g3 g4 g5 g6 g7 g8 g9 g10 g11 g12 g13 g14 g15 g16 g17 g18 g19 g20 g21 g22 g23 g24 g25
                      have hB4 := HB3.out _ hC
                      go_wp2
                      go_roundw
                      case rel => exact ⟨q + 1 + 1, by omega, by omega, by go_num, hB4⟩
                      case measure => simp [intOf]; omega
                · have t4 : decide ((p : Int) < i) = false := decide_eq_false (by omega)
                  go_wp2
                  go_ret
                  exact ⟨rfl, HB9.out _ hB⟩
end Go.Proofs.Ytlogmgkjikamaaa
