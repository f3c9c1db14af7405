/-
  WalDamage: the walk.
-/
import Derived.Test.YtpmhnmkpmkeadaaWalP
set_option linter.unusedSimpArgs false
set_option linter.unusedVariables false
set_option maxHeartbeats 8000000
namespace Go.Proofs.Ytpmhnmkpmkeadaa
open Go.RowKit

theorem dmg_words (E m k : Nat) (hE : E < 200000) (hm : m ≤ 100) (hk : k < 100000) : ∃ m2 N1 q kq : Nat, wrap64 (32 * (m : Int)) = (m2 : Int) ∧ wrap64 ((E : Int) + (m2 : Int)) = (N1 : Int) ∧ wrap64 ((k : Int) / 32) = (q : Int) ∧ wrap64 ((q : Int) * 32) = (kq : Int) ∧ N1 = E + 32 * m ∧ kq = 32 * (k / 32) := by
  refine ⟨32 * m, E + 32 * m, k / 32, 32 * (k / 32), ?_, ?_, ?_, ?_, rfl, rfl⟩
  · unfold wrap64; omega
  · unfold wrap64; omega
  · unfold wrap64; omega
  · unfold wrap64; omega
theorem dmg_le {x y N z : Nat} (hN : 32 * x = N) (h : x ≤ y) (h2 : 32 * y ≤ z) : decide (N ≤ z) = true ∧ decide ((N : Int) ≤ (z : Int)) = true := ⟨decide_eq_true (by omega), decide_eq_true (by omega)⟩
theorem dmg_gt {x N z : Nat} (hN : 32 * x = N) (h : z < 32 * x) : decide (N ≤ z) = false ∧ decide ((N : Int) ≤ (z : Int)) = false := ⟨decide_eq_false (by omega), decide_eq_false (by omega)⟩

set_option maxRecDepth 20000 in
theorem walDamage_walk (a : Option Addr) (len cap : Nat) (rs : List (List Int)) (at' to : Int) (w : World) (hs : IsRecs w a len cap rs) (hb : ∀ r ∈ rs, Bytes r) (hwa : (Lit.int .u16 at').wf = true) (hwt : (Lit.int .u8 to).wf = true) :
    Calls Try.prog 5 #[.slice a len cap, .agg #[.int .u16 at', .int .u8 to]] w fun e w' => e = .returned (.bool true) ∧ Below w.heap.size w w' := by
  have hcap := hs.cap
  unfold maxLen at hcap
  have HL := Lib.hid hs.1
  have hA0 := bounds_u16 hwa
  have hT0 := bounds_u8 hwt
  clear hwa hwt
  obtain ⟨A, rfl⟩ := Int.eq_ofNat_of_zero_le hA0.1
  obtain ⟨W0, hW0⟩ : ∃ W0, w.alloc (.cells #[.int .u16 (A : Int), .int .u8 to] 38) = W0 := ⟨_, rfl⟩
  have hb0 : Below w.heap.size w W0 := by rw [← hW0]; exact (Below.refl _ _).alloc (Nat.le_refl _) _
  have hbc : Box2 W0 w.heap.size (.int .u16 (A : Int)) (.int .u8 to) := by rw [← hW0]; exact Box2.new _ _ _ _
  go_enter Try.func5, Try.ntmps5
  go_wp2_with (fail)
  try rw [hW0]
  clear hW0
  go_at_call 10
  refine (awake_any W0).mono ?_
  rintro e w1 ⟨rfl, hb01⟩
  have hb1 := hb0.trans (hb01.mono hb0.size)
  have hbc1 := hbc.later hb01
  have hs1 := hs.later hb1
  cases hfew : fewL rs with
  | false =>
    go_wp2_with (go_at_call 14; refine (Few_any _ _ _ _ _ hs1).mono ?_; rintro e w' ⟨rfl, rfl⟩; rw [hfew])
    go_ret
    exact ⟨rfl, hb1⟩
  | true =>
  obtain ⟨hok, h12⟩ := fewL_yes hfew hb
  have hcnt := hok.cnt
  rw [hs.1] at h12 hcnt
  obtain ⟨zs, hzs⟩ : ∃ zs, encP basis (allP rs) = zs := ⟨_, rfl⟩
  have hzb : Bytes zs := by rw [← hzs]; exact encP_bytes basis_bd.1 basis_bd.2 (allP_ok hok.okR)
  have hzl : zs.length = 32 * (allP rs).length := by rw [← hzs, encP_length (allP_ok hok.okR)]
  have hlo := logOf_any a len cap rs 0 w1 hs1 hok (by omega) (by omega)
  rw [hzs, List.take_zero] at hlo
  obtain ⟨fl, hfl⟩ : ∃ fl, 32 * (allP rs).length = fl := ⟨_, rfl⟩
  rw [hfl] at hlo hzl
  have hfl5 : fl ≤ 2000 := by omega
  have HZ := Lib.hid hzs
  have HF := Lib.hid hfl
  clear hzs hfl hcnt
  go_wp2_with (first | (go_at_call 14; refine (Few_any _ _ _ _ _ hs1).mono ?_; rintro e w' ⟨rfl, rfl⟩; rw [hfew]) | fail)
  go_at_call 16
  refine hlo.mono ?_
  clear hlo
  rintro e w2 ⟨⟨fa, fl', fc, rfl, rfl, ho2⟩, hb2⟩
  rw [show ((32 * (allP ([] : List (List Int))).length : Nat) : Int) = 0 from rfl]
  have hb02 := hb1.trans (hb2.mono hb1.size)
  have hbL : Below w2.heap.size w2 (w2.alloc (.cells #[.slice fa fl' fc, .int .i64 0] 26)) := (Below.refl _ _).alloc (Nat.le_refl _) _
  by_cases hz0 : fl' = 0
  · subst hz0
    go_wp2_with (fail)
    go_ret
    exact ⟨rfl, hb02.trans (hbL.mono hb02.size)⟩
  · have dz : ((fl' : Int) == 0) = false := by simp; omega
    have hbM := hbL.trans (((Below.refl _ (w2.alloc (.cells #[.slice fa fl' fc, .int .i64 0] 26))).alloc (Nat.le_refl _) (.cells #[] 5)).mono hbL.size)
    have hsM := (IsInts.of_owns ho2).1.later hbM
    have hmk : ((w2.alloc (.cells #[.slice fa fl' fc, .int .i64 0] 26)).alloc (.cells #[] 5)).ownsRow (w2.heap.size + 1) 5 1 (.slice (some ⟨w2.heap.size + 1, 0, none⟩) 0 0) 0 [] := by
      have := World.ownsRow_made (base := w2.heap.size + 1) (e := 5) (size := 1) (w2.alloc (.cells #[.slice fa fl' fc, .int .i64 0] 26)) #[] 0 (by simp) (by decide) rfl
      simpa using this
    obtain ⟨c0, c1, -, -⟩ := ((hbc1.later hb2).later hbL).cells
    obtain ⟨k, hk⟩ : ∃ k : Nat, (A : Int) % (fl' : Int) = k := ⟨A % fl', by omega⟩
    have hkl : k < fl' := by
      have := Int.emod_lt_of_pos (A : Int) (show (0 : Int) < fl' by omega)
      omega
    go_wp2_with (at_builtin; refine app_ints0 (k := .u8) (v := .slice (some ⟨w2.heap.size + 1, 0, none⟩) 0 0) elU8 rfl _ _ rfl rfl hmk rfl hsM (by omega) (by simp) ?_; intro a4 c4 w4 ho4 hgr4 hbel4 hnil4; clear hnil4 hgr4)
    clear hk c0 c1 hmk hsM
    have hb24 : Below w2.heap.size w2 w4 := hbM.trans (hbel4.mono (by simp))
    clear hbel4 hbM hbL
    have hb04 := hb02.trans (hb24.mono hb02.size)
    have hbc4 := (hbc1.later hb2).later hb24
    obtain ⟨g4, rfl, hg4, hg4'⟩ := owns_at ho4 (by omega)
    obtain ⟨hc4, hf4⟩ := own_cell ho4 k hkl hzl
    obtain ⟨v0, hv0⟩ : ∃ v0, gi zs k = v0 := ⟨_, rfl⟩
    rw [hv0] at hc4
    have HV := Lib.hid hv0
    clear hv0
    try go_wp2_with (fail)
    refine wp_region_grow mixed (by kernel_rfl) [[], [], [(0, 46), (1, 47)], [(2, 48)], [], [(4, 50)], [(3, 49), (5, 51)]] [(0, 46), (1, 47), (2, 48), (3, 49), (4, 50), (5, 51), (6, 52)] rfl rfl [Ex ?e0, Ex ?e1, Ex ?e2, Ex ?e3, Ex ?e4, Ex ?e5, Ex ?e6] ⟨stays_ex _, stays_ex _, stays_ex _, stays_ex _, stays_ex _, stays_ex _, stays_ex _, trivial⟩ ?steps ?rest
    case steps =>
      refine ⟨fun f W hC hh => ?_, fun f W hC hh => ?_, fun f W hC hh => ?_, fun f W hC hh => ?_, fun f W hC hh => ?_, fun f W hC hh => ?_, fun f W hC hh => ?_, trivial⟩
      · -- 0: Op.move (Operand.tmp 8)
        refine tab_plain fun K Q hK => ?_
        simp only [puts, List.foldr_nil]
        go_step
        refine fam_ex hK rfl rfl (by simp only [Act.put, List.setIfInBounds_toArray, List.set_cons_succ, List.set_cons_zero, Array.getD_eq_getD_getElem?, List.getElem?_toArray, List.getElem?_cons_succ, List.getElem?_cons_zero, Option.getD_some] <;> rfl) rfl (Below.refl _ _) hC
      · -- 1: Op.move (Operand.tmp 7)
        refine tab_plain fun K Q hK => ?_
        simp only [puts, List.foldr_nil]
        go_step
        refine fam_ex hK rfl rfl (by simp only [Act.put, List.setIfInBounds_toArray, List.set_cons_succ, List.set_cons_zero, Array.getD_eq_getD_getElem?, List.getElem?_toArray, List.getElem?_cons_succ, List.getElem?_cons_zero, Option.getD_some] <;> rfl) rfl (Below.refl _ _) hC
      · -- 2: Op.indexAddr 24 (Operand.tmp 46) (Operand.tmp 47)
        obtain ⟨h0, h1, -⟩ := hh
        have g0 : f 0 = _ := h0
        have g1 : f 1 = _ := h1
        refine tab_plain fun K Q hK => ?_
        simp only [puts, List.foldr_cons, List.foldr_nil, List.setIfInBounds_toArray, List.set_cons_succ, List.set_cons_zero, g0, g1]
        go_step
        refine fam_ex hK rfl rfl (by simp only [Act.put, List.setIfInBounds_toArray, List.set_cons_succ, List.set_cons_zero, Array.getD_eq_getD_getElem?, List.getElem?_toArray, List.getElem?_cons_succ, List.getElem?_cons_zero, Option.getD_some] <;> rfl) rfl (Below.refl _ _) hC
      · -- 3: Op.load 5 (Operand.tmp 48)
        obtain ⟨h2, -⟩ := hh
        have g2 : f 2 = _ := h2
        refine tab_plain fun K Q hK => ?_
        simp only [puts, List.foldr_cons, List.foldr_nil, List.setIfInBounds_toArray, List.set_cons_succ, List.set_cons_zero, g2]
        have cc := (hC.cell (p := ⟨g4, k, none⟩) hg4').trans hc4
        go_step
        refine fam_ex hK rfl rfl (by simp only [Act.put, List.setIfInBounds_toArray, List.set_cons_succ, List.set_cons_zero, Array.getD_eq_getD_getElem?, List.getElem?_toArray, List.getElem?_cons_succ, List.getElem?_cons_zero, Option.getD_some] <;> rfl) rfl (Below.refl _ _) hC
      · -- 4: Op.fieldAddr 38 (Operand.tmp 3) 1
        refine tab_plain fun K Q hK => ?_
        simp only [puts, List.foldr_nil]
        go_step
        refine fam_ex hK rfl rfl (by simp only [Act.put, List.setIfInBounds_toArray, List.set_cons_succ, List.set_cons_zero, Array.getD_eq_getD_getElem?, List.getElem?_toArray, List.getElem?_cons_succ, List.getElem?_cons_zero, Option.getD_some] <;> rfl) rfl (Below.refl _ _) hC
      · -- 5: Op.load 5 (Operand.tmp 50)
        obtain ⟨h4, -⟩ := hh
        have g4 : f 4 = _ := h4
        refine tab_plain fun K Q hK => ?_
        simp only [puts, List.foldr_cons, List.foldr_nil, List.setIfInBounds_toArray, List.set_cons_succ, List.set_cons_zero, g4]
        obtain ⟨q0, q1, -, -⟩ := (hbc4.later hC).cells
        go_step
        refine fam_ex hK rfl rfl (by simp only [Act.put, List.setIfInBounds_toArray, List.set_cons_succ, List.set_cons_zero, Array.getD_eq_getD_getElem?, List.getElem?_toArray, List.getElem?_cons_succ, List.getElem?_cons_zero, Option.getD_some] <;> rfl) rfl (Below.refl _ _) hC
      · -- 6: Op.binOp BinOp.eql 5 (Operand.tmp 49) (Operand.tmp 51) 5
        obtain ⟨h3, h5, -⟩ := hh
        have g3 : f 3 = _ := h3
        have g5 : f 5 = _ := h5
        refine tab_plain fun K Q hK => ?_
        simp only [puts, List.foldr_cons, List.foldr_nil, List.setIfInBounds_toArray, List.set_cons_succ, List.set_cons_zero, g3, g5]
        go_step
        refine fam_ex hK rfl rfl (by simp only [Act.put, List.setIfInBounds_toArray, List.set_cons_succ, List.set_cons_zero, Array.getD_eq_getD_getElem?, List.getElem?_toArray, List.getElem?_cons_succ, List.getElem?_cons_zero, Option.getD_some] <;> rfl) rfl (Below.refl _ _) hC
    case rest =>
      intro f W2 hC hh
      obtain ⟨h0, h1, h2, h3, h4, h5, h6, -⟩ := hh
      have g0 : f 0 = _ := h0
      have g1 : f 1 = _ := h1
      have g2 : f 2 = _ := h2
      have g3 : f 3 = _ := h3
      have g4 : f 4 = _ := h4
      have g5 : f 5 = _ := h5
      have g6 : f 6 = _ := h6
      simp only [puts, List.foldr_cons, List.foldr_nil, List.setIfInBounds_toArray, List.set_cons_succ, List.set_cons_zero, g0, g1, g2, g3, g4, g5, g6]
      clear h0 h1 h2 h3 h4 h5 h6 g0 g1 g2 g3 g4 g5 g6
      by_cases heq : v0 = to
      · have dq : (v0 == to) = true := by simp [heq]
        go_wp2_with (fail)
        go_ret
        exact ⟨rfl, hb04.trans (hC.mono hb04.size)⟩
      · have dq : (v0 == to) = false := by simp [heq]
        have ho6 := ho4.kept_below hC
        have hb26 : Below w2.heap.size w2 W2 := hb24.trans (hC.mono hb24.size)
        obtain ⟨hc6, hf6⟩ := own_cell ho6 k hkl hzl
        obtain ⟨c0, c1, -, -⟩ := (hbc4.later hC).cells
        obtain ⟨w7, hw7⟩ : ∃ w7, W2.setCell ⟨g4, k, none⟩ (.int .u8 to) = w7 := ⟨_, rfl⟩
        have hI7 : IsInts .u8 w7 (some ⟨g4, 0, none⟩) fl' c4 (zs.set k to) := by rw [← hw7]; exact (IsInts.of_owns (own_store ho6 k to)).1
        have hb27 : Below w2.heap.size w2 w7 := by rw [← hw7]; exact hb26.setCell (p := ⟨g4, k, none⟩) (by show _ ≤ g4; omega) _
        have hb07 := hb02.trans (hb27.mono hb02.size)
        have hneq : gi zs k ≠ to := by rw [HV.out]; exact heq
        obtain ⟨n, hR0, hnl, hrecs, hlast, hle, hgt⟩ := read_damage hok.okR HZ.out.symm (k := k) (by omega) hT0.1 (by omega) hneq
        have hzb7 : Bytes (zs.set k to) := hzb.set k hT0.1 (by omega)
        have hRd := Read_any _ _ _ _ _ hI7 hzb7 (by omega)
        obtain ⟨ys, hys⟩ : ∃ ys, zs.set k to = ys := ⟨_, rfl⟩
        rw [hys] at hR0 hrecs hlast hRd
        have HR0 := Lib.hid hR0
        have HRE := Lib.hid hrecs
        have HLA := Lib.hid hlast
        clear hbc hbc1 hs1 hb01 hb1 hb2 ho2 hbc4 ho4 hf4 hc4 ho6 hzb7 hI7 hneq hR0 hrecs hlast hys hb24 hb04 hb26 hb0
        go_wp2_with (fail)
        try rw [hw7]
        clear hw7 c0 c1 hf6 hc6
        refine hRd.mono ?_
        clear hRd
        rintro e w8 ⟨k', e', rv, ev, rfl, hR8, hS8, hb8⟩
        obtain ⟨rfl, rfl⟩ := HR0.out.uniq hR8
        clear hR8
        obtain ⟨ar, cr, hrv, hrec⟩ := hS8.recs
        subst hrv
        rw [HRE.out] at hrec ⊢
        rw [HLA.out]
        have hln : (rs.take n).length = n := by rw [List.length_take, HL.out]; rw [HL.out] at hnl; omega
        rw [hln] at hrec ⊢
        clear hS8 HRE HLA HR0
        have hb08 := hb07.trans (hb8.mono hb07.size)
        have hs8 := hs.later hb08
        obtain ⟨kq, hkq⟩ : ∃ kq : Nat, 32 * (k / 32) = kq := ⟨_, rfl⟩
        rw [hkq] at hle hgt
        have HK5 := Lib.hid (show k < 100000 by omega)
        clear hzl hfl5 hz0 dz HF HZ hzb
        go_wp2_with (fail)
        go_loopw [12, 13, 14] (fun ev nv iv W => ∃ i : Nat, i ≤ n ∧ ev = .int .i64 ((32 * (allP (rs.take i)).length : Nat) : Int) ∧ nv = .int .i64 (i : Int) ∧ iv = .int .i64 (i : Int) ∧ Below w8.heap.size w8 W) (fun _ _ iv _ => len - (intOf iv).toNat)
        case atStart => exact ⟨0, Nat.zero_le _, rfl, rfl, rfl, Below.refl _ _⟩
        case round =>
          obtain ⟨i, hi, rfl, rfl, rfl, hB⟩ := hrel
          have hil : i < len := by rw [HL.out] at hnl; omega
          have dlt : decide ((i : Int) < len) = true := decide_eq_true (by omega)
          obtain ⟨b, off, ai, ci, rfl, hbl', hcell, hrow⟩ := hs8.at wr hB i hil
          obtain ⟨lr, hlr⟩ : ∃ lr, (gl rs i).length = lr := ⟨_, rfl⟩
          rw [hlr] at hcell hrow
          have hlrb : lr ≤ 100 := by rw [← hlr]; exact (hok _ (gl_mem rs i (by omega))).2
          have hnx : 32 * (allP (rs.take (i + 1))).length = 32 * (allP (rs.take i)).length + 32 * cellsN lr := by
            rw [take_succ_gl rs i (by omega), allP_append, allP_one, List.length_append, partsL_length, hlr]
            omega
          have hmo := fun (h : i + 1 ≤ n) => cnt_mono rs h
          have hmi := cnt_mono rs hi
          obtain ⟨E, hE⟩ : ∃ E, 32 * (allP (rs.take i)).length = E := ⟨_, rfl⟩
          rw [hE] at hnx ⊢
          have hEle : E ≤ kq := by omega
          have HE := Lib.hid hE
          have HNX := Lib.hid hnx
          have HLN := Lib.hid hln
          have HKQ := Lib.hid hkq
          have HGT := Lib.hid hgt
          have HLE := Lib.hid hle
          have HMO := Lib.hid hmo
          have HKB : Hid (k / 32 * 32 = kq) := Lib.hid (by omega)
          clear hE hnx hlr hkq hln hgt hle hmi hmo dq heq hs hb02 hb27 hb07 hb8
          obtain ⟨m, hm⟩ : ∃ m, cellsN lr = m := ⟨_, rfl⟩
          have hcl := Cells_any ai lr ci wr (by omega)
          have HNX := HNX.out
          rw [hm] at hcl HNX
          have hm5 : m ≤ 100 := by rw [← hm]; unfold cellsN; split <;> omega
          have hk5 := HK5.out
          have hqk := HKQ.out
          obtain ⟨m2, N1, q, kq', e1, e2, e3, e4, hN1, hkq'⟩ := dmg_words E m k (by omega) hm5 hk5
          have hqq : kq' = kq := hkq'.trans hqk
          rw [hqq] at e4
          have hN1' : 32 * (allP (rs.take (i + 1))).length = N1 := by omega
          by_cases hin : i < n
          · obtain ⟨dle, dle'⟩ := dmg_le hN1' (HMO.out hin) HLE.out
            have HN := Lib.hid hN1'
            clear hm hN1 hkq' hqk hqq hk5 hN1' HNX hm5
            go_wp2_with (first | (go_at_call 13; refine hcl.mono ?_; rintro e w9 ⟨rfl, rfl⟩) | fail)
            go_roundw
            case rel => exact ⟨i + 1, by omega, by rw [HN.out, e2], by go_num, by go_num, hB⟩
            case measure => simp [intOf]; omega
          · have hni : n = i := by omega
            subst hni
            have dEE : 32 * ((allP (rs.take n)).length : Int) = (E : Int) := by have := HE.out; omega
            obtain ⟨dle, dle'⟩ := dmg_gt hN1' HGT.out
            have hsa := SameAll_any _ _ _ _ _ _ _ _ _ (hrec.later hB) ((hs8.later hB).slice n (by omega)) (fun r hr => hb r (List.mem_of_mem_take hr)) (fun r hr => hb r (List.mem_of_mem_take hr))
            rw [decide_eq_true rfl] at hsa
            clear hm hN1 hkq' hqk hqq hk5 hN1' HNX hm5
            go_wp2_with (first | (go_at_call 13; refine hcl.mono ?_; rintro e w9 ⟨rfl, rfl⟩) | (go_at_call 15; refine hsa.mono ?_; rintro e w9 ⟨rfl, hb9⟩) | fail)
            go_ret
            exact ⟨rfl, hb08.trans ((hB.trans (hb9.mono hB.size)).mono hb08.size)⟩
end Go.Proofs.Ytpmhnmkpmkeadaa
