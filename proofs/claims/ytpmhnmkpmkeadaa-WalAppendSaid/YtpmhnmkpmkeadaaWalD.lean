/-
  The walk of read, of Read and of Open.
-/
import Derived.Test.YtpmhnmkpmkeadaaWalC
set_option linter.unusedSimpArgs false
set_option linter.unusedVariables false
set_option maxHeartbeats 4000000
namespace Go.Proofs.Ytpmhnmkpmkeadaa
open Go.RowKit

theorem check_lit (seed : Int) (a : Option Addr) (len cap : Nat) (zs : List Int) (w : World) (hs : IsInts .u8 w a len cap zs) (h0 : 0 ≤ seed) (h1 : seed < 18446744073709551616) :
    Calls Try.prog 28 #[.int .u64 seed, .slice a len cap] w fun e w' => (∃ E : List Int, E = eightL (fromH seed zs) ∧ E.length = 8 ∧ e = .returned (.tuple #[.int .u64 (fromH seed zs), .agg #[.int .u8 (gi E 0), .int .u8 (gi E 1), .int .u8 (gi E 2), .int .u8 (gi E 3), .int .u8 (gi E 4), .int .u8 (gi E 5), .int .u8 (gi E 6), .int .u8 (gi E 7)]])) ∧ Below w.heap.size w w' :=
  (check_any seed a len cap zs w hs h0 h1).mono fun _ _ ⟨he, hb⟩ => ⟨⟨_, rfl, rfl, he⟩, hb⟩

theorem eight_ints (E : List Int) (hE : E.length = 8) (w : World) : IsInts .u8 (w.alloc (.cells #[.int .u8 (gi E 0), .int .u8 (gi E 1), .int .u8 (gi E 2), .int .u8 (gi E 3), .int .u8 (gi E 4), .int .u8 (gi E 5), .int .u8 (gi E 6), .int .u8 (gi E 7)] 62)) (some ⟨w.heap.size, 0, none⟩) 8 8 E := by
  refine .inr ⟨_, _, rfl, by decide, by decide, hE, fun i hi => ?_⟩
  rw [Nat.zero_add, cell_of_row _ w.heap.size i _ _ (0, 0) (heap_alloc_new w _)]
  have : i = 0 ∨ i = 1 ∨ i = 2 ∨ i = 3 ∨ i = 4 ∨ i = 5 ∨ i = 6 ∨ i = 7 := by omega
  rcases this with h | h | h | h | h | h | h | h <;> (subst h; rfl)

theorem read_any (a : Option Addr) (len cap : Nat) (zs : List Int) (w : World) (hs : IsInts .u8 w a len cap zs) (hb : Bytes zs) (hlen : len ≤ 100000) :
    Calls Try.prog 29 #[.slice a len cap] w fun e w' => ∃ k e' rv ev, e = .returned (.tuple #[rv, ev, .int .i64 e']) ∧ ReadIs zs k e' ∧ RecSt w' w.heap.size w'.heap.size rv (stB zs k).recs ev (stB zs k).ends ∧ Below w.heap.size w w' := by
  have hcap := hs.cap
  unfold maxLen at hcap
  have HL := Lib.hid hs.length
  go_enter Try.func29, Try.ntmps29
  go_wp2
  go_loopw [2, 3, 5, 6, 7] (fun rv ev sd nv at_ W => ∃ (k : Nat) (T : Nat) (ae an : Option Addr) (ar : Option Addr) (ce cn cr : Nat), at_ = .int .i64 (32 * (k : Int)) ∧ sd = .int .u64 (seedB zs k) ∧ 32 * k ≤ len ∧ (∀ j, j < k → 32 * (j + 1) ≤ zs.length ∧ sumB zs j ∧ formB zs j) ∧
      rv = .slice ar (stB zs k).recs.length cr ∧ ev = .slice ae (stB zs k).ends.length ce ∧ nv = .slice an (stB zs k).now.length cn ∧ RecSt W w.heap.size T rv (stB zs k).recs ev (stB zs k).ends ∧ W.ownsRow T 5 1 nv (stB zs k).now.length (ivs .u8 (stB zs k).now) ∧ w.heap.size ≤ T ∧ T ≤ W.heap.size ∧ Below w.heap.size w W)
    (fun _ _ _ _ at_ _ => len - (intOf at_).toNat)
  case atStart => exact ⟨0, w.heap.size, none, none, none, 0, 0, 0, rfl, rfl, Nat.zero_le _, (fun j hj => absurd hj (by omega)), rfl, rfl, rfl, RecSt.nil _ _ _, World.ownsRow_nil _ _ _ _, Nat.le_refl _, Nat.le_refl _, Below.refl _ _⟩
  case round =>
    obtain ⟨k, T, ae, an, ar, ce, cn, cr, rfl, rfl, hk, hpre, rfl, rfl, rfl, hR, hN, hT0, hT1, hbw⟩ := hrel
    obtain ⟨hl1, hl20, hl3⟩ := ends_len zs k
    have hl2 := Lib.hid hl20
    clear hl20
    obtain ⟨hsd0, hsd1⟩ := seedB_bd zs k
    have HP := Lib.hid hpre
    clear hpre
    by_cases hlt : 32 * (k + 1) ≤ len
    · have dlt : decide (32 * (k : Int) + 32 ≤ len) = true := decide_eq_true (by omega)
      have hs1 := hs.later hbw
      have hhd : IsInts .u8 wr (a.map (·.add (32 * k))) 24 (cap - 32 * k) (hdB zs k) := by
        have := hs1.slice (32 * k) (32 * k + 24) cap (by omega) (by omega) (by omega) (Nat.le_refl _) (a' := a.map (·.add (32 * k))) (fun _ => rfl) (fun h => absurd h (by omega))
        rw [show 32 * k + 24 - 32 * k = 24 by omega] at this
        exact this
      have hck : IsInts .u8 wr (a.map (·.add (32 * k + 24))) 8 (cap - (32 * k + 24)) (ckB zs k) := by
        have := hs1.slice (32 * k + 24) (32 * k + 32) cap (by omega) (by omega) (by omega) (Nat.le_refl _) (a' := a.map (·.add (32 * k + 24))) (fun _ => rfl) (fun h => absurd h (by omega))
        rw [show 32 * k + 32 - (32 * k + 24) = 8 by omega] at this
        exact this
      obtain ⟨ah, hah⟩ : ∃ ah, a.map (·.add (32 * k)) = ah := ⟨_, rfl⟩
      obtain ⟨ac, hac⟩ : ∃ ac, a.map (·.add (32 * k + 24)) = ac := ⟨_, rfl⟩
      rw [hah] at hhd
      rw [hac] at hck
      clear hs1
      go_wp2_with (first | (go_at_call 28; rw [hah]; refine (check_lit _ _ _ _ _ _ hhd hsd0 hsd1).mono ?_; rintro e w1 ⟨⟨E, hE0, hE8, rfl⟩, hb1⟩; have hE := Lib.hid hE0; clear hE0) | fail)
      have hEi := eight_ints E hE8 w1
      obtain ⟨w2, hw2⟩ : ∃ w2, w1.alloc (.cells #[.int .u8 (gi E 0), .int .u8 (gi E 1), .int .u8 (gi E 2), .int .u8 (gi E 3), .int .u8 (gi E 4), .int .u8 (gi E 5), .int .u8 (gi E 6), .int .u8 (gi E 7)] 62) = w2 := ⟨_, rfl⟩
      have hb2 : Below wr.heap.size wr w2 := by rw [← hw2]; exact hb1.alloc hb1.size _
      have hlt2 : w1.heap.size < w2.heap.size := by rw [← hw2]; simp
      rw [hw2] at hEi ⊢
      clear hw2
      have hR2 := hR.later hb2
      have hN2 := hN.kept_below hb2
      have hck2 := hck.later hb2
      have hhd2 := hhd.later hb2
      have hT2 : T ≤ w2.heap.size := Nat.le_trans hT1 hb2.size
      have hbw2 : Below w.heap.size w w2 := hbw.trans (hb2.mono hbw.size)
      have hby : Bytes E := by rw [hE.out]; exact eightL_bytes _ (fromH_bd _ _ hsd0 hsd1).1 (fromH_bd _ _ hsd0 hsd1).2
      have hbc : Bytes (ckB zs k) := (hb.drop _).take _
      clear hR hN hck hhd hb1 hb2
      refine wp_region_grow mixed (by kernel_rfl) [[], [], [], [(2, 29)], [], [(4, 31)], [(1, 28), (3, 30), (5, 32)], [(0, 27), (6, 33)], [(7, 34)]] [(0, 27), (1, 28), (2, 29), (3, 30), (4, 31), (5, 32), (6, 33), (7, 34), (8, 35)] rfl rfl [Ex ?e0, Ex ?e1, Ex ?e2, Ex ?e3, Ex ?e4, Ex ?e5, Ex ?e6, Ex ?e7, Ex ?e8] ⟨stays_ex _, stays_ex _, stays_ex _, stays_ex _, stays_ex _, stays_ex _, stays_ex _, stays_ex _, stays_ex _, trivial⟩ ?steps ?rest
      case steps =>
        refine ⟨fun f W hC hh => ?_, fun f W hC hh => ?_, fun f W hC hh => ?_, fun f W hC hh => ?_, fun f W hC hh => ?_, fun f W hC hh => ?_, fun f W hC hh => ?_, fun f W hC hh => ?_, fun f W hC hh => ?_, trivial⟩
        · -- 0: Op.slice 62 (Operand.tmp 10) none none none
          refine tab_plain fun K Q hK => ?_
          simp only [puts, List.foldr_nil]
          go_step
          refine fam_ex hK rfl rfl (by simp only [Act.put, List.setIfInBounds_toArray, List.set_cons_succ, List.set_cons_zero, Array.getD_eq_getD_getElem?, List.getElem?_toArray, List.getElem?_cons_succ, List.getElem?_cons_zero, Option.getD_some] <;> rfl) rfl (Below.refl _ _) hC
        · -- 1: Op.move (Operand.tmp 0)
          refine tab_plain fun K Q hK => ?_
          simp only [puts, List.foldr_nil]
          go_step
          refine fam_ex hK rfl rfl (by simp only [Act.put, List.setIfInBounds_toArray, List.set_cons_succ, List.set_cons_zero, Array.getD_eq_getD_getElem?, List.getElem?_toArray, List.getElem?_cons_succ, List.getElem?_cons_zero, Option.getD_some] <;> rfl) rfl (Below.refl _ _) hC
        · -- 2: Op.move (Operand.tmp 7)
          refine tab_plain fun K Q hK => ?_
          simp only [puts, List.foldr_nil]
          go_step
          refine fam_ex hK rfl rfl (by simp only [Act.put, List.setIfInBounds_toArray, List.set_cons_succ, List.set_cons_zero, Array.getD_eq_getD_getElem?, List.getElem?_toArray, List.getElem?_cons_succ, List.getElem?_cons_zero, Option.getD_some] <;> rfl) rfl (Below.refl _ _) hC
        · -- 3: Op.binOp BinOp.add 3 (Operand.tmp 29) (Operand.const (Value.int IntKind.i64 24)) 3
          obtain ⟨h2, -⟩ := hh
          have g2 : f 2 = _ := h2
          refine tab_plain fun K Q hK => ?_
          simp only [puts, List.foldr_cons, List.foldr_nil, List.setIfInBounds_toArray, List.set_cons_succ, List.set_cons_zero, g2]
          go_step
          refine fam_ex hK rfl rfl (by simp only [Act.put, List.setIfInBounds_toArray, List.set_cons_succ, List.set_cons_zero, Array.getD_eq_getD_getElem?, List.getElem?_toArray, List.getElem?_cons_succ, List.getElem?_cons_zero, Option.getD_some] <;> rfl) rfl (Below.refl _ _) hC
        · -- 4: Op.move (Operand.tmp 7)
          refine tab_plain fun K Q hK => ?_
          simp only [puts, List.foldr_nil]
          go_step
          refine fam_ex hK rfl rfl (by simp only [Act.put, List.setIfInBounds_toArray, List.set_cons_succ, List.set_cons_zero, Array.getD_eq_getD_getElem?, List.getElem?_toArray, List.getElem?_cons_succ, List.getElem?_cons_zero, Option.getD_some] <;> rfl) rfl (Below.refl _ _) hC
        · -- 5: Op.binOp BinOp.add 3 (Operand.tmp 31) (Operand.const (Value.int IntKind.i64 32)) 3
          obtain ⟨h4, -⟩ := hh
          have g4 : f 4 = _ := h4
          refine tab_plain fun K Q hK => ?_
          simp only [puts, List.foldr_cons, List.foldr_nil, List.setIfInBounds_toArray, List.set_cons_succ, List.set_cons_zero, g4]
          go_step
          refine fam_ex hK rfl rfl (by simp only [Act.put, List.setIfInBounds_toArray, List.set_cons_succ, List.set_cons_zero, Array.getD_eq_getD_getElem?, List.getElem?_toArray, List.getElem?_cons_succ, List.getElem?_cons_zero, Option.getD_some] <;> rfl) rfl (Below.refl _ _) hC
        · -- 6: Op.slice 24 (Operand.tmp 28) (some (Operand.tmp 30)) (some (Operand.tmp 32)) none
          obtain ⟨h1, h3, h5, -⟩ := hh
          have g1 : f 1 = _ := h1
          have g3 : f 3 = _ := h3
          have g5 : f 5 = _ := h5
          refine tab_plain fun K Q hK => ?_
          simp only [puts, List.foldr_cons, List.foldr_nil, List.setIfInBounds_toArray, List.set_cons_succ, List.set_cons_zero, g1, g3, g5]
          have hac2 := hac
          go_step
          rw [hac]
          refine fam_ex hK rfl rfl (by simp only [Act.put, List.setIfInBounds_toArray, List.set_cons_succ, List.set_cons_zero, Array.getD_eq_getD_getElem?, List.getElem?_toArray, List.getElem?_cons_succ, List.getElem?_cons_zero, Option.getD_some] <;> rfl) rfl (Below.refl _ _) hC
        · -- 7: Op.call { callee := Callee.value (Operand.func 40), args := #[Operand.tmp 27, Operand.tmp 
          obtain ⟨h0, h6, -⟩ := hh
          have g0 : f 0 = _ := h0
          have g6 : f 6 = _ := h6
          refine tab_plain fun K Q hK => ?_
          simp only [puts, List.foldr_cons, List.foldr_nil, List.setIfInBounds_toArray, List.set_cons_succ, List.set_cons_zero, g0, g6]
          go_step
          go_at_call 40
          refine (equal_any _ _ _ _ _ _ _ _ _ (hEi.later hC) (hck2.later hC) hby hbc).mono ?_
          rintro e w' ⟨rfl, rfl⟩
          refine fam_ex hK rfl rfl (by simp only [Act.put, List.setIfInBounds_toArray, List.set_cons_succ, List.set_cons_zero, Array.getD_eq_getD_getElem?, List.getElem?_toArray, List.getElem?_cons_succ, List.getElem?_cons_zero, Option.getD_some] <;> rfl) rfl (Below.refl _ _) hC
        · -- 8: Op.unOp UnOp.not 4 (Operand.tmp 34)
          obtain ⟨h7, -⟩ := hh
          have g7 : f 7 = _ := h7
          refine tab_plain fun K Q hK => ?_
          simp only [puts, List.foldr_cons, List.foldr_nil, List.setIfInBounds_toArray, List.set_cons_succ, List.set_cons_zero, g7]
          go_step
          refine fam_ex hK rfl rfl (by simp only [Act.put, List.setIfInBounds_toArray, List.set_cons_succ, List.set_cons_zero, Array.getD_eq_getD_getElem?, List.getElem?_toArray, List.getElem?_cons_succ, List.getElem?_cons_zero, Option.getD_some] <;> rfl) rfl (Below.refl _ _) hC
      case rest =>
        intro f W2 hC hh
        obtain ⟨h0, h1, h2, h3, h4, h5, h6, h7, h8, -⟩ := hh
        have g0 : f 0 = _ := h0
        have g1 : f 1 = _ := h1
        have g2 : f 2 = _ := h2
        have g3 : f 3 = _ := h3
        have g4 : f 4 = _ := h4
        have g5 : f 5 = _ := h5
        have g6 : f 6 = _ := h6
        have g7 : f 7 = _ := h7
        have g8 : f 8 = _ := h8
        simp only [puts, List.foldr_cons, List.foldr_nil, List.setIfInBounds_toArray, List.set_cons_succ, List.set_cons_zero, g0, g1, g2, g3, g4, g5, g6, g7, g8]
        clear h0 h1 h2 h3 h4 h5 h6 h7 h8 g0 g1 g2 g3 g4 g5 g6 g7 g8
        have hR3 := hR2.later hC
        have hN3 := hN2.kept_below hC
        have hhd3 := hhd2.later hC
        have hT3 : T ≤ W2.heap.size := Nat.le_trans hT2 hC.size
        have hbw3 : Below w.heap.size w W2 := hbw2.trans (hC.mono hbw2.size)
        clear hR2 hN2 hck2 hhd2 hEi hlt2
        by_cases hsum : E = ckB zs k
        · have dsum : decide (E = ckB zs k) = true := decide_eq_true hsum
          rw [dsum]
          have hS : Hid (sumB zs k) := Lib.hid (by rw [sumB, seedB, ← hE.out]; exact hsum)
          clear hsum dsum hE hby hbc hE8
          have hhb : Bytes (hdB zs k) := hdB_bytes hb k
          obtain ⟨N, hN1⟩ : ∃ N : Nat, gi (hdB zs k) 1 = N := ⟨(gi (hdB zs k) 1).toNat, by have := (hhb _ (gi_mem (hdB zs k) 1 (by rw [hhd3.length]; decide))).1; omega⟩
          obtain ⟨kd, hkd⟩ : ∃ kd : Int, gi (hdB zs k) 0 = kd := ⟨_, rfl⟩
          obtain ⟨bh, oh, rfl, -, hc0⟩ := hhd3.at W2 (Below.refl _ _) 0 (by decide)
          have hc1 : W2.cell? ⟨bh, oh + 1, none⟩ = some (.int .u8 (gi (hdB zs k) 1)) := by
            obtain ⟨b', off', e, -, hc⟩ := hhd3.at W2 (Below.refl _ _) 1 (by decide)
            cases e
            exact hc
          rw [Nat.add_zero, hkd] at hc0
          rw [hN1] at hc1
          have hbl : bh < W2.heap.size := lt_of_cell hc0
          have hbl0 : bh < w.heap.size := by
            obtain ⟨b, off, ea, hbb, -⟩ := hs.at w (Below.refl _ _) 0 (by omega)
            rw [ea] at hah
            simp only [Option.map_some, addr_add, Option.some.injEq, Addr.mk.injEq, and_true] at hah
            omega
          have HN1 := Lib.hid hN1
          have Hkd := Lib.hid hkd
          clear hN1 hkd
          go_wp2_with (fail)
          go_at_call 41
          refine (proper_any _ _ _ _ _ hhd3 hhb (by omega)).mono ?_
          rintro e w3 ⟨r, rfl, hb3, hr0⟩
          have hr := Lib.hid hr0
          clear hr0
          replace hc0 := (hb3.cell (p := ⟨bh, oh, none⟩) hbl).trans hc0
          replace hc1 := (hb3.cell (p := ⟨bh, oh + 1, none⟩) hbl).trans hc1
          cases r
          · go_wp2
            go_ret3
            have hF : ¬ formB zs k := fun h => absurd (hr.out.2 h) (by decide)
            exact ⟨k, 4, _, _, rfl, ⟨HP.out, .inr (.inl ⟨by rw [HL.out]; exact hlt, hS.out, hF, rfl⟩)⟩, (hR3.later hb3).mono (Nat.le_trans hT3 hb3.size), hbw3.trans (hb3.mono hbw3.size)⟩
          · have hP := hr.out.1 rfl
            have hN22 : N ≤ 22 := by have := hP.2.1; rw [HN1.out] at this; omega
            have hR4 := hR3.later hb3
            have hN4 := hN3.kept_below hb3
            have hT4 : T ≤ w3.heap.size := Nat.le_trans hT3 hb3.size
            have hpay : IsInts .u8 w3 (some ⟨bh, oh + 2, none⟩) (2 + N - 2) (cap - 32 * k - 2) (((hdB zs k).drop 2).take (2 + N - 2)) := by
              have := (hhd3.later hb3).slice 2 (2 + N) (cap - 32 * k) (by omega) (by omega) (by omega) (Nat.le_refl _) (a' := some ⟨bh, oh + 2, none⟩) (fun _ => by simp [addr_add]) (fun h => absurd h (by omega))
              exact this
            obtain ⟨cc, hcc⟩ : ∃ cc, cap - 32 * k = cc := ⟨_, rfl⟩
            have hcc24 : 24 ≤ cc := by omega
            rw [hcc] at hpay ⊢
            have hNN : 2 + N - 2 = N := by omega
            have hbw4 := hbw3.trans (hb3.mono hbw3.size)
            have hnl : ((stB zs k).now ++ ((hdB zs k).drop 2).take N).length = (stB zs k).now.length + N := by
              rw [List.length_append, List.length_take, List.length_drop, hhd3.length]; omega
            have hpre' : Hid (∀ j, j < k + 1 → 32 * (j + 1) ≤ zs.length ∧ sumB zs j ∧ formB zs j) := Lib.hid fun j hj => by
              by_cases e : j = k
              · subst e; exact ⟨by rw [HL.out]; exact hlt, hS.out, hP⟩
              · exact HP.out j (by omega)
            have hdec : Hid (decP zs k = (kd, ((hdB zs k).drop 2).take N)) := Lib.hid (by rw [decP, Hkd.out, HN1.out, Int.toNat_natCast])
            by_cases h2 : kd = 2
            · subst h2
              go_wp2_with (first | (at_builtin; refine app_ints (k := .u8) (xs := (stB zs k).now) (v := .slice an (stB zs k).now.length cn) elU8 rfl _ _ rfl rfl hN4 rfl hpay (by omega) hT4 ?_; intro a5 c5 w5 hown5 hgr5 hbel5 hnil5; clear hnil5; have hR5 := hR4.now hN4 hgr5; rw [hNN] at hown5; have hc50 := (hbel5.cell (p := ⟨bh, oh, none⟩) (Nat.lt_of_lt_of_le hbl0 hT0)).trans hc0; have hb5 := hbw4.trans (hbel5.mono hT0); have hT5 : T ≤ w5.heap.size := Nat.le_trans hT4 hbel5.size) | (at_builtin; refine app_ints0 (k := .u8) (v := .slice (some ⟨w5.heap.size, 0, none⟩) 0 0) elU8 rfl _ _ rfl rfl (World.ownsRow_made _ _ _ (Nat.le_refl _) (by decide) rfl) rfl ((IsInts.of_owns hown5).1.later ((Below.refl _ w5).alloc (Nat.le_refl _) (.cells #[] 5))) (by omega) (by simp) ?_; intro a6 c6 w6 hown6 hgr6 hbel6 hnil6; clear hnil6 hgr6; have hb6 : Below w5.heap.size w5 w6 := ((Below.refl _ w5).alloc (Nat.le_refl _) _).trans hbel6; have hR6 := hR5.later hb6; obtain ⟨vs, hv1, hv2, hv3⟩ := hR6.recRow; have hb6w := hb5.trans (hb6.mono hb5.size); have hu6 := hown6.from_mono hb5.size) | (at_builtin; refine app_val elRec rfl _ _ rfl rfl hv1 (u := .slice a6 ((stB zs k).now.length + N) c6) rfl rfl (by rw [hl2.out]; omega) hb6w.size ?_; intro a7 c7 w7 hown7 hgr7 hbel7; have hR7 := hR6.push (r := (stB zs k).now ++ ((hdB zs k).drop 2).take N) hv1 hv2 hv3 (by rw [hnl]; exact hu6) hgr7 hown7; have hb7w := hb6w.trans hbel7) | (at_builtin; refine app_val elInt rfl _ _ rfl rfl hR7.2 (u := .int .i64 (32 * (k : Int) + 32)) rfl rfl (by omega) hb7w.size ?_; intro a8 c8 w8 hown8 hgr8 hbel8; have hR8 := hR7.pushEnd (x := 32 * (k : Int) + 32) hgr8 (by rw [ivs_append]; exact hown8); have hb8w := hb7w.trans hbel8))
              have hst : stB zs (k + 1) = ⟨(stB zs k).recs ++ [(stB zs k).now ++ ((hdB zs k).drop 2).take N], [], (stB zs k).ends ++ [32 * (k : Int) + 32], k + 1⟩ := by
                rw [stB_succ, hdec.out, RS.step, if_pos rfl, stB_n]
                simp only [RS.mk.injEq, true_and, List.append_cancel_left_eq, List.cons.injEq, and_true]
                omega
              have e1 : (stB zs (k + 1)).recs.length = (stB zs k).recs.length + 1 := by rw [hst]; simp
              have e2 : (stB zs (k + 1)).ends.length = (stB zs k).ends.length + 1 := by rw [hst]; simp
              have e3 : (stB zs (k + 1)).now.length = 0 := by rw [hst]; rfl
              go_roundw
              case rel => exact ⟨k + 1, w8.heap.size, a8, none, a7, c8, 0, c7, by go_num, rfl, by omega, hpre'.out, by rw [e1], by rw [e2], by rw [e3], by rw [hst]; exact hR8, by rw [hst]; exact World.ownsRow_nil _ _ _ _, hb8w.size, Nat.le_refl _, hb8w⟩
              case measure => simp [intOf]; omega
            · have d2 : (kd == 2) = false := by simpa using h2
              go_wp2_with (first | (at_builtin; refine app_ints (k := .u8) (xs := (stB zs k).now) (v := .slice an (stB zs k).now.length cn) elU8 rfl _ _ rfl rfl hN4 rfl hpay (by omega) hT4 ?_; intro a5 c5 w5 hown5 hgr5 hbel5 hnil5; clear hnil5; have hR5 := hR4.now hN4 hgr5; rw [hNN] at hown5; have hc50 := (hbel5.cell (p := ⟨bh, oh, none⟩) (Nat.lt_of_lt_of_le hbl0 hT0)).trans hc0; have hb5 := hbw4.trans (hbel5.mono hT0); have hT5 : T ≤ w5.heap.size := Nat.le_trans hT4 hbel5.size))
              have hst : stB zs (k + 1) = ⟨(stB zs k).recs, (stB zs k).now ++ ((hdB zs k).drop 2).take N, (stB zs k).ends, k + 1⟩ := by
                rw [stB_succ, hdec.out, RS.step, if_neg h2, stB_n]
              have e3 : (stB zs (k + 1)).now.length = (stB zs k).now.length + N := by rw [hst]; exact hnl
              have e4 : (stB zs (k + 1)).recs = (stB zs k).recs := by rw [hst]
              have e5 : (stB zs (k + 1)).ends = (stB zs k).ends := by rw [hst]
              have e6 : (stB zs (k + 1)).now = (stB zs k).now ++ ((hdB zs k).drop 2).take N := by rw [hst]
              go_roundw
              case rel => exact ⟨k + 1, T, ae, a5, ar, ce, c5, cr, by go_num, rfl, by omega, hpre'.out, by rw [e4], by rw [e5], by rw [e3], by rw [e4, e5]; exact hR5, by rw [e3, e6]; exact hown5, hT0, hT5, hb5⟩
              case measure => simp [intOf]; omega
        · have dsum : decide (E = ckB zs k) = false := decide_eq_false hsum
          rw [dsum]
          have hS : Hid (¬ sumB zs k) := Lib.hid (fun h => hsum (by rw [sumB, seedB] at h; rw [hE.out]; exact h))
          clear hsum dsum hE hby hbc hE8
          go_wp2
          go_ret3
          exact ⟨k, 5, _, _, rfl, ⟨HP.out, .inl ⟨by rw [HL.out]; exact hlt, hS.out, rfl⟩⟩, hR3.mono hT3, hbw3⟩
    · have dlt : decide (32 * (k : Int) + 32 ≤ len) = false := decide_eq_false (by omega)
      obtain ⟨hints, -⟩ := IsInts.of_owns hR.2
      by_cases he : lastD (stB zs k).ends = (len : Int)
      · have de : (lastD (stB zs k).ends != (len : Int)) = false := by simpa using he
        have He := Lib.hid he
        clear he
        go_wp2_with (first | (go_at_call 30; refine (last_any _ _ _ _ _ hints).mono ?_; rintro e w3 ⟨rfl, rfl⟩) | fail)
        go_ret3
        exact ⟨k, 0, _, _, rfl, ⟨HP.out, .inr (.inr ⟨by rw [HL.out]; omega, .inl ⟨by rw [HL.out]; exact He.out, rfl⟩⟩)⟩, hR.mono hT1, hbw⟩
      · have de : (lastD (stB zs k).ends != (len : Int)) = true := by simpa using he
        have He := Lib.hid he
        clear he
        go_wp2_with (first | (go_at_call 30; refine (last_any _ _ _ _ _ hints).mono ?_; rintro e w3 ⟨rfl, rfl⟩) | fail)
        go_ret3
        exact ⟨k, 4, _, _, rfl, ⟨HP.out, .inr (.inr ⟨by rw [HL.out]; omega, .inr ⟨by rw [HL.out]; exact He.out, rfl⟩⟩)⟩, hR.mono hT1, hbw⟩
end Go.Proofs.Ytpmhnmkpmkeadaa
