/-
  The walks of the reference: proper, Read, Open, Valid, Crash.
-/
import Derived.Test.YtpmhnmkpmkeadaaWalP
set_option linter.unusedSimpArgs false
set_option linter.unusedVariables false
set_option maxHeartbeats 4000000
namespace Go.Proofs.Ytpmhnmkpmkeadaa
open Go.RowKit

/-- A truth value as the result; nothing is changed. -/
def RetB (e : Ending) (w w' : World) (p : Prop) : Prop := ∃ r : Bool, e = .returned (.bool r) ∧ w = w' ∧ (r = true ↔ p)
theorem RetB.no {e : Ending} {w w' : World} {p : Prop} (he : e = .returned (.bool false)) (hw : w = w') (h : ¬ p) : RetB e w w' p := ⟨false, he, hw, ⟨(fun h => by cases h), fun h' => absurd h' h⟩⟩
theorem RetB.yes {e : Ending} {w w' : World} {p : Prop} (he : e = .returned (.bool true)) (hw : w = w') (h : p) : RetB e w w' p := ⟨true, he, hw, ⟨fun _ => h, fun _ => rfl⟩⟩
def ZP (c : List Int) (N : Nat) : Prop := ∀ i : Nat, 2 + N ≤ i → i < 24 → gi c i = 0
/-- The reference's form of a cell. -/
def refP (c : List Int) : Prop := (gi c 0 = 1 ∨ gi c 0 = 2) ∧ gi c 1 ≤ 22 ∧ ¬ (gi c 0 = 1 ∧ gi c 1 ≠ 22) ∧ ∀ i : Nat, 2 + gi c 1 ≤ i → i < 24 → gi c i = 0

theorem refProper_any (a : Option Addr) (cap : Nat) (c : List Int) (w : World) (hs : IsInts .u8 w a 32 cap c) (hb : Bytes c) :
    Calls Try.prog 35 #[.slice a 32 cap] w fun e w' => RetB e w w' (refP c) := by
  obtain ⟨b, off, rfl, -, hc0⟩ := hs.at w (Below.refl _ _) 0 (by decide)
  have hcap := hs.cap
  unfold maxLen at hcap
  have hc1 : w.cell? ⟨b, off + 1, none⟩ = some (.int .u8 (gi c 1)) := by
    obtain ⟨b', off', e, -, hc⟩ := hs.at w (Below.refl _ _) 1 (by decide)
    cases e
    exact hc
  have hci : ∀ i : Nat, i < 32 → w.cell? ⟨b, off + i, none⟩ = some (.int .u8 (gi c i)) := by
    intro i hi
    obtain ⟨b', off', e, -, hc⟩ := hs.at w (Below.refl _ _) i hi
    cases e
    exact hc
  rw [Nat.add_zero] at hc0
  have hk : 0 ≤ gi c 0 ∧ gi c 0 < 256 := hb _ (gi_mem c 0 (by rw [hs.length]; decide))
  have hn : 0 ≤ gi c 1 ∧ gi c 1 < 256 := hb _ (gi_mem c 1 (by rw [hs.length]; decide))
  obtain ⟨kd, hkd⟩ : ∃ kd, gi c 0 = kd := ⟨_, rfl⟩
  obtain ⟨N, hN⟩ : ∃ N : Nat, gi c 1 = N := ⟨(gi c 1).toNat, by omega⟩
  have hN2 : N < 256 := by omega
  have key : refP c ↔ ((kd = 1 ∨ kd = 2) ∧ N ≤ 22 ∧ ¬ (kd = 1 ∧ N ≠ 22)) ∧ ∀ i : Nat, 2 + N ≤ i → i < 24 → gi c i = 0 := by
    unfold refP
    rw [hkd, hN]
    constructor
    · rintro ⟨h1, h2, h4, h6⟩
      exact ⟨⟨h1, by omega, (fun h => h4 ⟨h.1, by omega⟩)⟩, fun i hi hi2 => h6 i (by omega) hi2⟩
    · rintro ⟨⟨h1, h2, h4⟩, h6⟩
      exact ⟨h1, by omega, (fun h => h4 ⟨h.1, by omega⟩), fun i hi hi2 => h6 i (by omega) hi2⟩
  have KEY := Lib.hid key
  clear key
  rw [hkd] at hc0 hk
  rw [hN] at hc1
  have HC := Lib.hid hci
  clear hkd hN hn hb hci hs
  by_cases hg : (kd = 1 ∨ kd = 2) ∧ N ≤ 22 ∧ ¬ (kd = 1 ∧ N ≠ 22)
  · have HG := Lib.hid hg
    obtain ⟨h12, hN22, hg3⟩ := hg
    have d22 : decide ((22 : Int) < N) = false := decide_eq_false (by omega)
    have done : Calls Try.prog 35 #[.slice (some ⟨b, off, none⟩) 32 cap] w fun e w' => RetB e w w' (ZP c N) := by
      rcases h12 with rfl | rfl
      · have e22 : ((N : Int) != 22) = false := by simp; omega
        go_enter Try.func35, Try.ntmps35
        go_wp2
        go_loopw [4] (fun v W => ∃ j : Nat, 2 + N ≤ j ∧ j ≤ 24 ∧ v = .int .i64 (j : Int) ∧ (∀ i : Nat, 2 + N ≤ i → i < j → gi c i = 0) ∧ W = w) (fun v _ => 24 - (intOf v).toNat)
        case atStart => exact ⟨2 + N, Nat.le_refl _, by omega, by go_num, (fun i h1 h2 => absurd h2 (by omega)), by first | trivial | rfl⟩
        case round =>
          obtain ⟨j, hj1, hj2, rfl, hz, rfl⟩ := hrel
          have HZ := Lib.hid hz
          clear hz
          by_cases hlt : j < 24
          · have dlt : decide ((j : Int) < 24) = true := decide_eq_true (by omega)
            have hcj := HC.out j (by omega)
            by_cases h0 : gi c j = 0
            · have H0 := Lib.hid h0
              rw [h0] at hcj
              clear h0
              go_wp2
              go_roundw
              case rel => exact ⟨j + 1, by omega, hlt, by go_num, (fun i h1 h2 => by rcases Nat.lt_or_ge i j with h | h; exact HZ.out i h1 h; rw [show i = j by omega]; exact H0.out), by first | trivial | rfl⟩
              case measure => simp [intOf]; omega
            · have d0 : (gi c j != 0) = true := by simpa using h0
              have H0 := Lib.hid h0
              clear h0
              go_wp2
              go_ret
              exact RetB.no rfl rfl (fun h => H0.out (h j hj1 hlt))
          · obtain rfl : j = 24 := by omega
            have dlt : decide (((24 : Nat) : Int) < 24) = false := by decide
            go_wp2
            go_ret
            exact RetB.yes rfl rfl HZ.out
      · go_enter Try.func35, Try.ntmps35
        go_wp2
        go_loopw [4] (fun v W => ∃ j : Nat, 2 + N ≤ j ∧ j ≤ 24 ∧ v = .int .i64 (j : Int) ∧ (∀ i : Nat, 2 + N ≤ i → i < j → gi c i = 0) ∧ W = w) (fun v _ => 24 - (intOf v).toNat)
        case atStart => exact ⟨2 + N, Nat.le_refl _, by omega, by go_num, (fun i h1 h2 => absurd h2 (by omega)), by first | trivial | rfl⟩
        case round =>
          obtain ⟨j, hj1, hj2, rfl, hz, rfl⟩ := hrel
          have HZ := Lib.hid hz
          clear hz
          by_cases hlt : j < 24
          · have dlt : decide ((j : Int) < 24) = true := decide_eq_true (by omega)
            have hcj := HC.out j (by omega)
            by_cases h0 : gi c j = 0
            · have H0 := Lib.hid h0
              rw [h0] at hcj
              clear h0
              go_wp2
              go_roundw
              case rel => exact ⟨j + 1, by omega, hlt, by go_num, (fun i h1 h2 => by rcases Nat.lt_or_ge i j with h | h; exact HZ.out i h1 h; rw [show i = j by omega]; exact H0.out), by first | trivial | rfl⟩
              case measure => simp [intOf]; omega
            · have d0 : (gi c j != 0) = true := by simpa using h0
              have H0 := Lib.hid h0
              clear h0
              go_wp2
              go_ret
              exact RetB.no rfl rfl (fun h => H0.out (h j hj1 hlt))
          · obtain rfl : j = 24 := by omega
            have dlt : decide (((24 : Nat) : Int) < 24) = false := by decide
            go_wp2
            go_ret
            exact RetB.yes rfl rfl HZ.out
    refine done.mono ?_
    rintro e w' ⟨r, rfl, rfl, hr⟩
    exact ⟨r, rfl, rfl, hr.trans (Iff.trans ⟨fun h => ⟨HG.out, h⟩, fun h => h.2⟩ KEY.out.symm)⟩
  · have fin : ¬ refP c := fun h => hg (KEY.out.1 h).1
    have FIN := Lib.hid fin
    have HG := Lib.hid hg
    clear hg fin
    by_cases h1 : kd = 1
    · subst h1
      have hnn : ¬ N = 22 := fun h => HG.out ⟨.inl rfl, by omega, fun h' => h'.2 h⟩
      have e22 : ((N : Int) != 22) = true := by simp; omega
      go_enter Try.func35, Try.ntmps35
      go_wp2
      all_goals
        go_ret
        exact RetB.no rfl rfl FIN.out
    · have d1 : (kd != 1) = true := by simp [h1]
      by_cases h2 : kd = 2
      · subst h2
        have hnn : 22 < N := by
          rcases Nat.lt_or_ge 22 N with h | h
          · exact h
          · exact absurd ⟨.inr rfl, h, fun h' => absurd h'.1 (by decide)⟩ HG.out
        have d22 : decide ((22 : Int) < N) = true := decide_eq_true (by omega)
        go_enter Try.func35, Try.ntmps35
        go_wp2
        all_goals
          go_ret
          exact RetB.no rfl rfl FIN.out
      · have d2 : (kd != 2) = true := by simp [h2]
        go_enter Try.func35, Try.ntmps35
        go_wp2
        all_goals
          go_ret
          exact RetB.no rfl rfl FIN.out

theorem form_ref {hd c : List Int} (h : hd = c.take 24) {kd : Int} {N before : Nat} (h0 : gi hd 0 = kd) (h1 : gi hd 1 = N) : properL hd before ↔ refP c ∧ ¬ (kd = 2 ∧ N = 0 ∧ 0 < before) ∧ before + N ≤ 2000 := by
  have hg : ∀ i, i < 24 → gi hd i = gi c i := fun i hi => by rw [h, gi_take _ _ _ hi]
  unfold properL refP
  rw [← hg 0 (by decide), ← hg 1 (by decide), h0, h1]
  constructor
  · rintro ⟨a1, a2, a3, a4, a5, a6⟩
    exact ⟨⟨a1, a2, a4, fun i b1 b2 => by rw [← hg i b2]; exact a6 i b1 b2⟩, fun h => a5 ⟨h.1, by omega, h.2.2⟩, by omega⟩
  · rintro ⟨⟨a1, a2, a4, a6⟩, a5, a3⟩
    exact ⟨a1, a2, by omega, a4, fun h => a5 ⟨h.1, by omega, h.2.2⟩, fun i b1 b2 => by rw [hg i b2]; exact a6 i b1 b2⟩

set_option maxRecDepth 20000 in
theorem refRead_any (a : Option Addr) (len cap : Nat) (zs : List Int) (w : World) (hs : IsInts .u8 w a len cap zs) (hb : Bytes zs) (hlen : len ≤ 100000) :
    Calls Try.prog 19 #[.slice a len cap] w fun e w' => ∃ k e' rv, e = .returned (.tuple #[rv, .int .i64 (lastD (stB zs k).ends), .int .i64 e']) ∧ ReadIs zs k e' ∧ RecSt w' w.heap.size w'.heap.size rv (stB zs k).recs (.slice none 0 0) [] ∧ Below w.heap.size w w' := by
  have hcap := hs.cap
  unfold maxLen at hcap
  have HL := Lib.hid hs.length
  go_enter Try.func19, Try.ntmps19
  go_wp2
  go_loopw [5, 6, 7, 8, 9] (fun rv nv sd at_ us W => ∃ (k : Nat) (T : Nat) (an : Option Addr) (ar : Option Addr) (cn cr : Nat) (U : Int), at_ = .int .i64 (32 * (k : Int)) ∧ us = .int .i64 U ∧ U = lastD (stB zs k).ends ∧ sd = .int .u64 (seedB zs k) ∧ 32 * k ≤ len ∧ (∀ j, j < k → 32 * (j + 1) ≤ zs.length ∧ sumB zs j ∧ formB zs j) ∧
      rv = .slice ar (stB zs k).recs.length cr ∧ nv = .slice an (stB zs k).now.length cn ∧ RecSt W w.heap.size T rv (stB zs k).recs (.slice none 0 0) [] ∧ W.ownsRow T 5 1 nv (stB zs k).now.length (ivs .u8 (stB zs k).now) ∧ w.heap.size ≤ T ∧ T ≤ W.heap.size ∧ Below w.heap.size w W)
    (fun _ _ _ at_ _ _ => len - (intOf at_).toNat)
  case atStart => exact ⟨0, w.heap.size, none, none, 0, 0, 0, rfl, rfl, rfl, rfl, Nat.zero_le _, (fun j hj => absurd hj (by omega)), rfl, rfl, RecSt.nil _ _ _, World.ownsRow_nil _ _ _ _, Nat.le_refl _, Nat.le_refl _, Below.refl _ _⟩
  case round =>
    obtain ⟨k, T, an, ar, cn, cr, U, rfl, rfl, hU, rfl, hk, hpre, rfl, rfl, hR, hN, hT0, hT1, hbw⟩ := hrel
    have HU := Lib.hid hU
    clear hU
    obtain ⟨hl1, hl20, hl3⟩ := ends_len zs k
    have hl2 := Lib.hid hl20
    clear hl20
    obtain ⟨hsd0, hsd1⟩ := seedB_bd zs k
    have HP := Lib.hid hpre
    clear hpre
    by_cases hlt : 32 * (k + 1) ≤ len
    · have dlt : decide (32 * (k : Int) + 32 ≤ len) = true := decide_eq_true (by omega)
      have hs1 := hs.later hbw
      have hcc : IsInts .u8 wr (a.map (·.add (32 * k))) 32 (cap - 32 * k) ((zs.drop (32 * k)).take 32) := by
        have := hs1.slice (32 * k) (32 * k + 32) cap (by omega) (by omega) (by omega) (Nat.le_refl _) (a' := a.map (·.add (32 * k))) (fun _ => rfl) (fun h => absurd h (by omega))
        rw [show 32 * k + 32 - 32 * k = 32 by omega] at this
        exact this
      obtain ⟨ah, hah⟩ : ∃ ah, a.map (·.add (32 * k)) = ah := ⟨_, rfl⟩
      obtain ⟨cx, hcx⟩ : ∃ cx, cap - 32 * k = cx := ⟨_, rfl⟩
      have hcx32 : 32 ≤ cx := by omega
      have hcxm : cx ≤ 2 ^ 63 - 1 := by omega
      rw [hah, hcx] at hcc
      have hhd : IsInts .u8 wr ah 24 cx (hdB zs k) := by
        have := hcc.slice 0 24 cx (by omega) (by omega) (by omega) (Nat.le_refl _) (a' := ah) (fun h => (by cases ah with | none => rfl | some x => simp [Addr.add])) (fun _ => rfl)
        simpa [hdB, List.take_take] using this
      have hck : IsInts .u8 wr (ah.map (·.add 24)) 8 (cx - 24) (ckB zs k) := by
        have := hcc.slice 24 32 cx (by omega) (by omega) (by omega) (Nat.le_refl _) (a' := ah.map (·.add 24)) (fun _ => rfl) (fun h => absurd h (by omega))
        rw [List.drop_take, List.drop_drop, List.take_take] at this
        exact this
      have hbc : Bytes (ckB zs k) := (hb.drop _).take _
      obtain ⟨hE0, hE1⟩ := seedB_bd zs (k + 1)
      have hrf := refFrom_any (seedB zs k) ah 24 cx (hdB zs k) wr hhd
      rw [show fromH (seedB zs k) (hdB zs k) = seedB zs (k + 1) from rfl] at hrf
      obtain ⟨sn, hsn⟩ : ∃ sn, seedB zs (k + 1) = sn := ⟨_, rfl⟩
      rw [hsn] at hrf hE0 hE1
      have HSN : Hid (Value.int .u64 sn = .int .u64 (seedB zs (k + 1))) := Lib.hid (by rw [hsn])
      have hbE := eightL_bytes _ hE0 hE1
      have HE := bsOf_eq hbE hbc
      obtain ⟨E, hE⟩ : ∃ E, eightL sn = E := ⟨_, rfl⟩
      rw [hE] at HE hbE
      have HSUM : Hid (sumB zs k ↔ E = ckB zs k) := Lib.hid (by rw [sumB, hsn, hE])
      have HE0 := Lib.hid hE
      clear hsn hE
      obtain ⟨ac, hac⟩ : ∃ ac, ah.map (·.add 24) = ac := ⟨_, rfl⟩
      rw [hac] at hck
      have hac' : ah.map (fun x => ({ block := x.block, off := x.off + 24 } : Addr)) = ac := by rw [← hac]; rfl
      clear hs1
      go_wp2_with (first | (go_at_call 33; refine hrf.mono ?_; rintro e w1 ⟨rfl, rfl⟩) | fail)
      clear hrf
      refine wp_region_grow mixed (by kernel_rfl) [[], [(0, 27)], [(1, 28)], [], [(3, 30)], [(4, 31)], [(2, 29), (5, 32)]] [(0, 27), (1, 28), (2, 29), (3, 30), (4, 31), (5, 32), (6, 33)] rfl rfl [Ex ?e0, SlP .u8 8 E, Ex ?e2, Ex ?e3, Ex ?e4, Ex ?e5, Ex ?e6] ⟨stays_ex _, stays_sl _ _ _, stays_ex _, stays_ex _, stays_ex _, stays_ex _, stays_ex _, trivial⟩ ?steps ?rest
      case steps =>
        refine ⟨fun f W hC hh => ?_, fun f W hC hh => ?_, fun f W hC hh => ?_, fun f W hC hh => ?_, fun f W hC hh => ?_, fun f W hC hh => ?_, fun f W hC hh => ?_, trivial⟩
        · -- 0: Op.move (Operand.tmp 11)
          refine tab_plain fun K Q hK => ?_
          simp only [puts, List.foldr_nil]
          go_step
          refine fam_ex hK rfl rfl (by simp only [Act.put, List.setIfInBounds_toArray, List.set_cons_succ, List.set_cons_zero, Array.getD_eq_getD_getElem?, List.getElem?_toArray, List.getElem?_cons_succ, List.getElem?_cons_zero, Option.getD_some] <;> rfl) rfl (Below.refl _ _) hC
        · -- 1: Op.call { callee := Callee.value (Operand.func 34), args := #[Operand.tmp 27], argTypes :=
          obtain ⟨h0, -⟩ := hh
          have g0 : f 0 = _ := h0
          refine tab_plain fun K Q hK => ?_
          simp only [puts, List.foldr_cons, List.foldr_nil, List.setIfInBounds_toArray, List.set_cons_succ, List.set_cons_zero, g0]
          go_step
          go_at_call 34
          refine (refEight_any _ _ hE0 hE1).mono ?_
          rintro e w' ⟨av, cv, rfl, hv, hb⟩
          rw [HE0.out] at hv
          exact fam_fin hK rfl ⟨_, _, rfl, (IsInts.of_owns hv).1⟩ hb (hC.trans (hb.mono hC.size))
        · -- 2: Op.convert 24 9 (Operand.tmp 28)
          obtain ⟨h1, -⟩ := hh
          obtain ⟨a1, c1, g1, s1⟩ := h1
          refine tab_plain fun K Q hK => ?_
          simp only [puts, List.foldr_cons, List.foldr_nil, List.setIfInBounds_toArray, List.set_cons_succ, List.set_cons_zero, g1]
          have hcv := run_toString (P := Try.prog) W 24 9 5 Try.underlying24 Try.underlying5 Try.underlying9 _ _ _ _ s1
          go_step
          refine fam_ex hK rfl rfl (by simp only [Act.put, List.setIfInBounds_toArray, List.set_cons_succ, List.set_cons_zero, Array.getD_eq_getD_getElem?, List.getElem?_toArray, List.getElem?_cons_succ, List.getElem?_cons_zero, Option.getD_some] <;> rfl) rfl (Below.refl _ _) hC
        · -- 3: Op.move (Operand.tmp 10)
          refine tab_plain fun K Q hK => ?_
          simp only [puts, List.foldr_nil]
          go_step
          refine fam_ex hK rfl rfl (by simp only [Act.put, List.setIfInBounds_toArray, List.set_cons_succ, List.set_cons_zero, Array.getD_eq_getD_getElem?, List.getElem?_toArray, List.getElem?_cons_succ, List.getElem?_cons_zero, Option.getD_some] <;> rfl) rfl (Below.refl _ _) hC
        · -- 4: Op.slice 24 (Operand.tmp 30) (some (Operand.const (Value.int IntKind.i64 24))) none none
          obtain ⟨h3, -⟩ := hh
          have g3 : f 3 = _ := h3
          refine tab_plain fun K Q hK => ?_
          simp only [puts, List.foldr_cons, List.foldr_nil, List.setIfInBounds_toArray, List.set_cons_succ, List.set_cons_zero, g3]
          have hac2 := hac'
          go_step
          refine fam_ex hK rfl rfl (by simp only [Act.put, List.setIfInBounds_toArray, List.set_cons_succ, List.set_cons_zero, Array.getD_eq_getD_getElem?, List.getElem?_toArray, List.getElem?_cons_succ, List.getElem?_cons_zero, Option.getD_some] <;> rfl) rfl (Below.refl _ _) hC
        · -- 5: Op.convert 24 9 (Operand.tmp 31)
          obtain ⟨h4, -⟩ := hh
          have g4 : f 4 = _ := h4
          refine tab_plain fun K Q hK => ?_
          simp only [puts, List.foldr_cons, List.foldr_nil, List.setIfInBounds_toArray, List.set_cons_succ, List.set_cons_zero, g4]
          have hcv := run_toString (P := Try.prog) W 24 9 5 Try.underlying24 Try.underlying5 Try.underlying9 _ _ _ _ (hck.later hC)
          go_step
          refine fam_ex hK rfl rfl (by simp only [Act.put, List.setIfInBounds_toArray, List.set_cons_succ, List.set_cons_zero, Array.getD_eq_getD_getElem?, List.getElem?_toArray, List.getElem?_cons_succ, List.getElem?_cons_zero, Option.getD_some] <;> rfl) rfl (Below.refl _ _) hC
        · -- 6: Op.binOp BinOp.neq 9 (Operand.tmp 29) (Operand.tmp 32) 9
          obtain ⟨h2, h5, -⟩ := hh
          have g2 : f 2 = _ := h2
          have g5 : f 5 = _ := h5
          refine tab_plain fun K Q hK => ?_
          simp only [puts, List.foldr_cons, List.foldr_nil, List.setIfInBounds_toArray, List.set_cons_succ, List.set_cons_zero, g2, g5]
          go_step
          refine fam_ex hK rfl rfl (by simp only [Act.put, List.setIfInBounds_toArray, List.set_cons_succ, List.set_cons_zero, Array.getD_eq_getD_getElem?, List.getElem?_toArray, List.getElem?_cons_succ, List.getElem?_cons_zero, Option.getD_some] <;> rfl) rfl (Below.refl _ _) hC
      case rest =>
        intro f W2 hC hh
        obtain ⟨h0, h1, h2, h3, h4, h5, h6, -⟩ := hh
        have g0 : f 0 = _ := h0
        obtain ⟨a1, c1, g1, s1⟩ := h1
        have g2 : f 2 = _ := h2
        have g3 : f 3 = _ := h3
        have g4 : f 4 = _ := h4
        have g5 : f 5 = _ := h5
        have g6 : f 6 = _ := h6
        simp only [puts, List.foldr_cons, List.foldr_nil, List.setIfInBounds_toArray, List.set_cons_succ, List.set_cons_zero, g0, g1, g2, g3, g4, g5, g6]
        clear h0 h2 h3 h4 h5 h6 g0 g2 g3 g4 g5 g6
        have hR3 := hR.later hC
        have hN3 := hN.kept_below hC
        have hcc3 := hcc.later hC
        have hhd3 := hhd.later hC
        have hT3 : T ≤ W2.heap.size := Nat.le_trans hT1 hC.size
        have hbw3 : Below w.heap.size w W2 := hbw.trans (hC.mono hbw.size)
        clear hR hN hck hcc hhd
        by_cases hsum : E = ckB zs k
        · have dsum : decide (E = ckB zs k) = true := decide_eq_true hsum
          have hS : Hid (sumB zs k) := Lib.hid (HSUM.out.2 hsum)
          clear HE hsum
          rw [dsum]
          have hhb : Bytes (hdB zs k) := hdB_bytes hb k
          obtain ⟨N, hN1⟩ : ∃ N : Nat, gi (hdB zs k) 1 = N := ⟨(gi (hdB zs k) 1).toNat, by have := (hhb _ (gi_mem (hdB zs k) 1 (by rw [hhd3.length]; decide))).1; omega⟩
          have hNb : N < 256 := by have := (hhb _ (gi_mem (hdB zs k) 1 (by rw [hhd3.length]; decide))).2; omega
          obtain ⟨kd, hkd⟩ : ∃ kd : Int, gi (hdB zs k) 0 = kd := ⟨_, rfl⟩
          obtain ⟨bh, oh, rfl, -, hc0⟩ := hhd3.at W2 (Below.refl _ _) 0 (by decide)
          have hc1 : W2.cell? ⟨bh, oh + 1, none⟩ = some (.int .u8 (gi (hdB zs k) 1)) := by
            obtain ⟨b', off', e, -, hc⟩ := hhd3.at W2 (Below.refl _ _) 1 (by decide)
            cases e
            exact hc
          rw [Nat.add_zero, hkd] at hc0
          rw [hN1] at hc1
          have hbl : bh < W2.heap.size := lt_of_cell hc0
          have hbl0 : bh < w.heap.size := by
            obtain ⟨b, off, ea, hbb, -⟩ := hs.at w (Below.refl _ _) 0 (by omega)
            rw [ea] at hah
            simp only [Option.map_some, addr_add, Option.some.injEq, Addr.mk.injEq, and_true] at hah
            omega
          have hfr := form_ref (before := (stB zs k).now.length) (c := (zs.drop (32 * k)).take 32) (hd := hdB zs k) (by rw [hdB, List.take_take]; rfl) hkd hN1
          have HFR : Hid (formB zs k ↔ refP ((zs.drop (32 * k)).take 32) ∧ ¬ (kd = 2 ∧ N = 0 ∧ 0 < (stB zs k).now.length) ∧ (stB zs k).now.length + N ≤ 2000) := Lib.hid hfr
          have HN1 := Lib.hid hN1
          have Hkd := Lib.hid hkd
          clear hN1 hkd hfr
          have hpr := refProper_any _ _ _ W2 hcc3 ((hb.drop _).take _)
          clear hac hac' hC s1 g1 hbE hbc
          go_wp2_with (fail)
          refine hpr.mono ?_
          clear hpr
          rintro e w3 ⟨r, rfl, rfl, hr0⟩
          by_cases hF : formB zs k
          · obtain ⟨f1, f2, f3⟩ := HFR.out.1 hF
            obtain rfl : r = true := hr0.2 f1
            have hP := hF
            have hN22 : N ≤ 22 := by have := hP.2.1; rw [HN1.out] at this; omega
            have hkd12 : kd = 1 ∨ kd = 2 := by
              have g1 := hP.1
              rw [Hkd.out] at g1
              exact g1
            have hR4 := hR3
            have hN4 := hN3
            have hT4 := hT3
            have hbw4 := hbw3
            have hpay : IsInts .u8 W2 (some ⟨bh, oh + 2, none⟩) (2 + N - 2) (cx - 2) (((hdB zs k).drop 2).take (2 + N - 2)) := by
              have := hhd3.slice 2 (2 + N) cx (by omega) (by omega) (by omega) (Nat.le_refl _) (a' := some ⟨bh, oh + 2, none⟩) (fun _ => by simp [addr_add]) (fun h => absurd h (by omega))
              exact this
            have hNN : 2 + N - 2 = N := by omega
            have hnl : ((stB zs k).now ++ ((hdB zs k).drop 2).take N).length = (stB zs k).now.length + N := by
              rw [List.length_append, List.length_take, List.length_drop, hhd3.length]; omega
            have hpre' : Hid (∀ j, j < k + 1 → 32 * (j + 1) ≤ zs.length ∧ sumB zs j ∧ formB zs j) := Lib.hid fun j hj => by
              by_cases e : j = k
              · subst e; exact ⟨by rw [HL.out]; exact hlt, hS.out, hP⟩
              · exact HP.out j (by omega)
            have hdec : Hid (decP zs k = (kd, ((hdB zs k).drop 2).take N)) := Lib.hid (by rw [decP, Hkd.out, HN1.out, Int.toNat_natCast])
            have d2000 : decide (2000 < ((stB zs k).now.length : Int) + N) = false := decide_eq_false (by omega)
            clear hR3 hN3 hT3 hbw3 hF hP f1 f3 hr0 hcc3
            rcases hkd12 with rfl | rfl
            · --<P1
              go_wp2_with (at_builtin; refine app_ints (k := .u8) (xs := (stB zs k).now) (v := .slice an (stB zs k).now.length cn) elU8 rfl _ _ rfl rfl hN4 rfl hpay (by omega) hT4 ?_; intro a5 c5 w5 hown5 hgr5 hbel5 hnil5; clear hnil5; have hR5 := hR4.now hN4 hgr5; rw [hNN] at hown5; have hc50 := (hbel5.cell (p := ⟨bh, oh, none⟩) (Nat.lt_of_lt_of_le hbl0 hT0)).trans hc0; have hb5 := hbw4.trans (hbel5.mono hT0); have hT5 : T ≤ w5.heap.size := Nat.le_trans hT4 hbel5.size)
              have hst : stB zs (k + 1) = ⟨(stB zs k).recs, (stB zs k).now ++ ((hdB zs k).drop 2).take N, (stB zs k).ends, k + 1⟩ := by
                rw [stB_succ, hdec.out, RS.step, if_neg (show ¬ (1 : Int) = 2 by decide), stB_n]
              have e3 : (stB zs (k + 1)).now.length = (stB zs k).now.length + N := by rw [hst]; exact hnl
              have e4 : (stB zs (k + 1)).recs = (stB zs k).recs := by rw [hst]
              have e5 : (stB zs (k + 1)).ends = (stB zs k).ends := by rw [hst]
              have e6 : (stB zs (k + 1)).now = (stB zs k).now ++ ((hdB zs k).drop 2).take N := by rw [hst]
              go_roundw
              case rel => exact ⟨k + 1, T, a5, ar, c5, cr, U, by go_num, rfl, by rw [e5]; exact HU.out, HSN.out, by omega, hpre'.out, by rw [e4], by rw [e3], by rw [e4]; exact hR5, by rw [e3, e6]; exact hown5, hT0, hT5, hb5⟩
              case measure => simp [intOf]; omega
            · by_cases hN0 : N = 0
              · --<P2
                have dN : ((N : Int) == 0) = true := by simp [hN0]
                have dl : decide (0 < ((stB zs k).now.length : Int)) = false := decide_eq_false (fun h => f2 ⟨rfl, hN0, by omega⟩)
                have dl' : decide (0 < (stB zs k).now.length) = false := decide_eq_false (fun h => f2 ⟨rfl, hN0, h⟩)
                clear f2 hN0
                go_wp2_with (first | (at_builtin; refine app_ints (k := .u8) (xs := (stB zs k).now) (v := .slice an (stB zs k).now.length cn) elU8 rfl _ _ rfl rfl hN4 rfl hpay (by omega) hT4 ?_; intro a5 c5 w5 hown5 hgr5 hbel5 hnil5; clear hnil5; have hR5 := hR4.now hN4 hgr5; rw [hNN] at hown5; have hc50 := (hbel5.cell (p := ⟨bh, oh, none⟩) (Nat.lt_of_lt_of_le hbl0 hT0)).trans hc0; have hb5 := hbw4.trans (hbel5.mono hT0); have hT5 : T ≤ w5.heap.size := Nat.le_trans hT4 hbel5.size) | (at_builtin; refine app_ints0 (k := .u8) (v := .slice (some ⟨w5.heap.size, 0, none⟩) 0 0) elU8 rfl _ _ rfl rfl (World.ownsRow_made _ _ _ (Nat.le_refl _) (by decide) rfl) rfl ((IsInts.of_owns hown5).1.later ((Below.refl _ w5).alloc (Nat.le_refl _) (.cells #[] 5))) (by omega) (by simp) ?_; intro a6 c6 w6 hown6 hgr6 hbel6 hnil6; clear hnil6 hgr6; have hb6 : Below w5.heap.size w5 w6 := ((Below.refl _ w5).alloc (Nat.le_refl _) _).trans hbel6; have hR6 := hR5.later hb6; obtain ⟨vs, hv1, hv2, hv3⟩ := hR6.recRow; have hb6w := hb5.trans (hb6.mono hb5.size); have hu6 := hown6.from_mono hb5.size) | (at_builtin; refine app_val elRec rfl _ _ rfl rfl hv1 (u := .slice a6 ((stB zs k).now.length + N) c6) rfl rfl (by rw [hl2.out]; omega) hb6w.size ?_; intro a7 c7 w7 hown7 hgr7 hbel7; have hR7 := hR6.push (r := (stB zs k).now ++ ((hdB zs k).drop 2).take N) hv1 hv2 hv3 (by rw [hnl]; exact hu6) hgr7 hown7; have hb7w := hb6w.trans hbel7))
                have hst : stB zs (k + 1) = ⟨(stB zs k).recs ++ [(stB zs k).now ++ ((hdB zs k).drop 2).take N], [], (stB zs k).ends ++ [32 * (k : Int) + 32], k + 1⟩ := by
                  rw [stB_succ, hdec.out, RS.step, if_pos rfl, stB_n]
                  simp only [RS.mk.injEq, true_and, List.append_cancel_left_eq, List.cons.injEq, and_true]
                  omega
                have e1 : (stB zs (k + 1)).recs.length = (stB zs k).recs.length + 1 := by rw [hst]; simp
                have e3 : (stB zs (k + 1)).now.length = 0 := by rw [hst]; rfl
                go_roundw
                case rel => exact ⟨k + 1, w7.heap.size, none, a7, 0, c7, 32 * (k : Int) + 32, by go_num, rfl, by rw [hst, lastD_snoc], HSN.out, by omega, hpre'.out, by rw [e1], by rw [e3], by rw [hst]; exact hR7, by rw [hst]; exact World.ownsRow_nil _ _ _ _, hb7w.size, Nat.le_refl _, hb7w⟩
                case measure => simp [intOf]; omega
              · --<P3
                have dN : ((N : Int) == 0) = false := by simp; omega
                clear f2
                go_wp2_with (first | (at_builtin; refine app_ints (k := .u8) (xs := (stB zs k).now) (v := .slice an (stB zs k).now.length cn) elU8 rfl _ _ rfl rfl hN4 rfl hpay (by omega) hT4 ?_; intro a5 c5 w5 hown5 hgr5 hbel5 hnil5; clear hnil5; have hR5 := hR4.now hN4 hgr5; rw [hNN] at hown5; have hc50 := (hbel5.cell (p := ⟨bh, oh, none⟩) (Nat.lt_of_lt_of_le hbl0 hT0)).trans hc0; have hb5 := hbw4.trans (hbel5.mono hT0); have hT5 : T ≤ w5.heap.size := Nat.le_trans hT4 hbel5.size) | (at_builtin; refine app_ints0 (k := .u8) (v := .slice (some ⟨w5.heap.size, 0, none⟩) 0 0) elU8 rfl _ _ rfl rfl (World.ownsRow_made _ _ _ (Nat.le_refl _) (by decide) rfl) rfl ((IsInts.of_owns hown5).1.later ((Below.refl _ w5).alloc (Nat.le_refl _) (.cells #[] 5))) (by omega) (by simp) ?_; intro a6 c6 w6 hown6 hgr6 hbel6 hnil6; clear hnil6 hgr6; have hb6 : Below w5.heap.size w5 w6 := ((Below.refl _ w5).alloc (Nat.le_refl _) _).trans hbel6; have hR6 := hR5.later hb6; obtain ⟨vs, hv1, hv2, hv3⟩ := hR6.recRow; have hb6w := hb5.trans (hb6.mono hb5.size); have hu6 := hown6.from_mono hb5.size) | (at_builtin; refine app_val elRec rfl _ _ rfl rfl hv1 (u := .slice a6 ((stB zs k).now.length + N) c6) rfl rfl (by rw [hl2.out]; omega) hb6w.size ?_; intro a7 c7 w7 hown7 hgr7 hbel7; have hR7 := hR6.push (r := (stB zs k).now ++ ((hdB zs k).drop 2).take N) hv1 hv2 hv3 (by rw [hnl]; exact hu6) hgr7 hown7; have hb7w := hb6w.trans hbel7))
                have hst : stB zs (k + 1) = ⟨(stB zs k).recs ++ [(stB zs k).now ++ ((hdB zs k).drop 2).take N], [], (stB zs k).ends ++ [32 * (k : Int) + 32], k + 1⟩ := by
                  rw [stB_succ, hdec.out, RS.step, if_pos rfl, stB_n]
                  simp only [RS.mk.injEq, true_and, List.append_cancel_left_eq, List.cons.injEq, and_true]
                  omega
                have e1 : (stB zs (k + 1)).recs.length = (stB zs k).recs.length + 1 := by rw [hst]; simp
                have e3 : (stB zs (k + 1)).now.length = 0 := by rw [hst]; rfl
                go_roundw
                case rel => exact ⟨k + 1, w7.heap.size, none, a7, 0, c7, 32 * (k : Int) + 32, by go_num, rfl, by rw [hst, lastD_snoc], HSN.out, by omega, hpre'.out, by rw [e1], by rw [e3], by rw [hst]; exact hR7, by rw [hst]; exact World.ownsRow_nil _ _ _ _, hb7w.size, Nat.le_refl _, hb7w⟩
                case measure => simp [intOf]; omega
          · --<P4
            have HF := Lib.hid hF
            have hend : Hid (ReadIs zs k 4) := Lib.hid ⟨HP.out, .inr (.inl ⟨by rw [HL.out]; exact hlt, hS.out, hF, rfl⟩)⟩
            cases r with
            | false =>
              clear hF HFR hr0
              go_wp2
              all_goals
                go_ret3
                exact ⟨k, 4, _, by rw [← HU.out]; first | done | rfl, hend.out, hR3.mono hT3, hbw3⟩
            | true =>
              by_cases hx : kd = 2 ∧ N = 0 ∧ 0 < (stB zs k).now.length
              · --<Q2
                obtain ⟨rfl, hN0, hx⟩ := hx
                have dN : ((N : Int) == 0) = true := by simp [hN0]
                have dl : decide (0 < ((stB zs k).now.length : Int)) = true := decide_eq_true (by omega)
                clear hF HFR hr0 hN0
                go_wp2
                all_goals
                  go_ret3
                  exact ⟨k, 4, _, by rw [← HU.out]; first | done | rfl, hend.out, hR3.mono hT3, hbw3⟩
              · have h2 : 2000 < (stB zs k).now.length + N := by
                  rcases Nat.lt_or_ge 2000 ((stB zs k).now.length + N) with h | h
                  · exact h
                  · exact absurd (HFR.out.2 ⟨hr0.1 rfl, hx, h⟩) hF
                have d2000 : decide (2000 < ((stB zs k).now.length : Int) + N) = true := decide_eq_true (by omega)
                by_cases k2 : kd = 2
                · subst k2
                  by_cases hN0 : N = 0
                  · exfalso
                    have : ¬ 0 < (stB zs k).now.length := fun h => hx ⟨rfl, hN0, h⟩
                    omega
                  · --<Q4
                    have dN : ((N : Int) == 0) = false := by simp; omega
                    clear hF HFR hr0 hx hN0 h2
                    go_wp2
                    all_goals
                      go_ret3
                      exact ⟨k, 4, _, by rw [← HU.out]; first | done | rfl, hend.out, hR3.mono hT3, hbw3⟩
                · --<Q5
                  have d2 : (kd == 2) = false := by simpa using k2
                  clear hF HFR hr0 hx k2 h2
                  go_wp2
                  all_goals
                    go_ret3
                    exact ⟨k, 4, _, by rw [← HU.out]; first | done | rfl, hend.out, hR3.mono hT3, hbw3⟩
        · have dsum : decide (E = ckB zs k) = false := decide_eq_false hsum
          have hS : Hid (¬ sumB zs k) := Lib.hid (fun h => hsum (HSUM.out.1 h))
          clear HE hsum
          rw [dsum]
          go_wp2
          go_ret3
          exact ⟨k, 5, _, by rw [← HU.out]; first | done | rfl, ⟨HP.out, .inl ⟨by rw [HL.out]; exact hlt, hS.out, rfl⟩⟩, hR3.mono hT3, hbw3⟩
    · have dlt : decide (32 * (k : Int) + 32 ≤ len) = false := decide_eq_false (by omega)
      by_cases he : U = (len : Int)
      · have de : (U != (len : Int)) = false := by simpa using he
        have He := Lib.hid he
        clear he
        go_wp2_with (fail)
        go_ret3
        exact ⟨k, 0, _, by rw [← HU.out]; first | done | rfl, ⟨HP.out, .inr (.inr ⟨by rw [HL.out]; omega, .inl ⟨by rw [HL.out, ← HU.out]; exact He.out, rfl⟩⟩)⟩, hR.mono hT1, hbw⟩
      · have de : (U != (len : Int)) = true := by simpa using he
        have He := Lib.hid he
        clear he
        go_wp2_with (fail)
        go_ret3
        exact ⟨k, 4, _, by rw [← HU.out]; first | done | rfl, ⟨HP.out, .inr (.inr ⟨by rw [HL.out]; omega, .inr ⟨by rw [HL.out, ← HU.out]; exact He.out, rfl⟩⟩)⟩, hR.mono hT1, hbw⟩
end Go.Proofs.Ytpmhnmkpmkeadaa
