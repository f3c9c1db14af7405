/-
  The walks of the reference: seed, cell, Append, Make.
-/
import Derived.Test.YtpmhnmkpmkeadaaWalR
import Derived.Test.YtpmhnmkpmkeadaaWalI
set_option linter.unusedSimpArgs false
set_option linter.unusedVariables false
set_option maxHeartbeats 8000000
namespace Go.Proofs.Ytpmhnmkpmkeadaa
open Go.RowKit Go.Shelf
attribute [local go_sem] Oper.semAt_some

theorem refSeed_any (a : Option Addr) (len cap : Nat) (zs : List Int) (w : World) (hs : IsInts .u8 w a len cap zs) (hlen : len ≤ 100000) :
    Calls Try.prog 44 #[.slice a len cap] w fun e w' => e = .returned (.int .u64 (seedB zs (len / 32))) ∧ w = w' := by
  have hcap := hs.cap
  unfold maxLen at hcap
  go_enter Try.func44, Try.ntmps44
  go_wp2
  go_loop [3, 4] (fun h i => ∃ k : Nat, 32 * k ≤ len ∧ i = .int .i64 (32 * (k : Int)) ∧ h = .int .u64 (seedB zs k)) (fun _ i => len - (intOf i).toNat)
  case atStart => exact ⟨0, Nat.zero_le _, rfl, rfl⟩
  case round =>
    obtain ⟨k, hk, rfl, rfl⟩ := hrel
    by_cases hlt : 32 * (k + 1) ≤ len
    · have dlt : decide (32 * (k : Int) + 32 ≤ len) = true := decide_eq_true (by omega)
      have hcc : IsInts .u8 w (a.map (·.add (32 * k))) 24 (cap - 32 * k) (hdB zs k) := by
        have := hs.slice (32 * k) (32 * k + 24) cap (by omega) (by omega) (by omega) (Nat.le_refl _) (a' := a.map (·.add (32 * k))) (fun _ => rfl) (fun h => absurd h (by omega))
        rw [show 32 * k + 24 - 32 * k = 24 by omega] at this
        exact this
      obtain ⟨ah, hah⟩ : ∃ ah, a.map (·.add (32 * k)) = ah := ⟨_, rfl⟩
      obtain ⟨cx, hcx⟩ : ∃ cx, cap - 32 * k = cx := ⟨_, rfl⟩
      rw [hah, hcx] at hcc
      have hrf := refFrom_any (seedB zs k) ah 24 cx (hdB zs k) w hcc
      rw [show fromH (seedB zs k) (hdB zs k) = seedB zs (k + 1) from rfl] at hrf
      obtain ⟨sn, hsn⟩ : ∃ sn, seedB zs (k + 1) = sn := ⟨_, rfl⟩
      rw [hsn] at hrf
      have HSN : Hid (Value.int .u64 sn = .int .u64 (seedB zs (k + 1))) := Lib.hid (by rw [hsn])
      clear hsn
      go_wp2_with (fail)
      rw [show 32 * k + 2 + 22 - 32 * k = 24 by omega]
      go_at_call 33
      refine hrf.mono ?_
      rintro e w1 ⟨rfl, rfl⟩
      clear hrf
      go_wp2
      go_round
      case rel => exact ⟨k + 1, hlt, by go_num, HSN.out⟩
      case measure => simp [intOf]; omega
    · have dlt : decide (32 * (k : Int) + 32 ≤ len) = false := decide_eq_false (by omega)
      obtain rfl : k = len / 32 := by omega
      go_wp2
      go_ret
      exact ⟨rfl, rfl⟩

theorem refCell_any (kd : Int) (ap : Option Addr) (m cap : Nat) (pl : List Int) (s : Int) (w : World) (hk0 : 0 ≤ kd) (hk1 : kd ≤ 255) (hs : IsRow .u8 w ap m cap pl) (hm : m ≤ 22) (hs0 : 0 ≤ s) (hs1 : s < 18446744073709551616) :
    Calls Try.prog 43 #[.int .i64 kd, .slice ap m cap, .int .u64 s] w fun e w' => (∃ a c, e = .returned (.slice a 32 c) ∧ w'.ownsRow w.heap.size 5 1 (.slice a 32 c) 32 (ivs .u8 (cellL s (kd, pl)))) ∧ Below w.heap.size w w' := by
  obtain ⟨hc1, hc2⟩ := hs.cap
  unfold maxLen at hc2
  have HL := Lib.hid hs.length
  have hbl : Below w.heap.size w (w.alloc (.cells #[.int .u8 kd, .int .u8 (m : Int)] 5)) := (Below.refl _ w).alloc (Nat.le_refl _) _
  have hmk : (w.alloc (.cells #[.int .u8 kd, .int .u8 (m : Int)] 5)).ownsRow w.heap.size 5 1 (.slice (some ⟨w.heap.size, 0, none⟩) 2 2) 2 (ivs .u8 [kd, (m : Int)]) :=
    World.ownsRow_lit (base := w.heap.size) (e := 5) (size := 1) w #[.int .u8 kd, .int .u8 (m : Int)] 2 (Nat.le_refl _) (by decide) rfl
  have hsrc : (ivs .u8 pl).length = m * 1 ∧ (∀ ad, ap = some ad → ∀ j u, (ivs .u8 pl)[j]? = some u → (w.alloc (.cells #[.int .u8 kd, .int .u8 (m : Int)] 5)).cell? (ad.add j) = some u) ∧ (ap = none → m = 0 ∧ cap = 0) := by
    rcases hs.later hbl with h | ⟨rfl, rfl, rfl⟩
    · exact ints_src h
    · exact ⟨rfl, (fun _ _ j u h => by simp [ivs] at h), fun _ => ⟨rfl, rfl⟩⟩
  go_enter Try.func43, Try.ntmps43
  go_wp2_with (at_builtin; refine app_own (B := w.heap.size) (xs := ivs .u8 [kd, (m : Int)]) (n := 2) (v := .slice (some ⟨w.heap.size, 0, none⟩) 2 2) (news := ivs .u8 pl) (ao := ap) (m := m) (c := cap) elU8 rfl _ _ rfl rfl hmk rfl hsrc (ivs_one .u8 pl) (by omega) (by simp only [World.size_alloc]; omega) ?_; intro a2 c2 w2 h2 hgr hbel hnil; clear hnil hgr)
  rw [← ivs_append] at h2
  go_loopw [7] (fun v W => ∃ (n : Nat) (a : Option Addr) (c : Nat), 2 + m ≤ n ∧ n ≤ 24 ∧ v = .slice a n c ∧ W.ownsRow w.heap.size 5 1 (.slice a n c) n (ivs .u8 (kd :: (m : Int) :: (pl ++ List.replicate (n - 2 - m) 0))) ∧ Below w.heap.size w W) (fun v _ => match v with | .slice _ n _ => 24 - n | _ => 0)
  case atStart => exact ⟨2 + m, a2, c2, Nat.le_refl _, by omega, rfl, by simpa using h2, hbl.trans hbel⟩
  case round =>
    obtain ⟨n, a, c, hn1, hn2, rfl, ho, hB⟩ := hrel
    clear h2 hmk hsrc hbl hbel
    by_cases hlt : n < 24
    · have dlt : decide ((n : Int) < 24) = true := decide_eq_true (by omega)
      go_wp2_with (at_builtin; refine app_one (k := .u8) (z := 0) (B := w.heap.size) (n := n) (v := .slice a n c) elU8 rfl _ _ rfl rfl ho rfl (by omega) hB.size ?_; intro a3 c3 w3 h3 hb3)
      go_roundw
      case rel =>
        refine ⟨n + 1, a3, c3, by omega, hlt, rfl, ?_, hB.trans hb3⟩
        have e : (kd :: (m : Int) :: (pl ++ List.replicate (n - 2 - m) 0)) ++ [0] = kd :: (m : Int) :: (pl ++ List.replicate (n + 1 - 2 - m) 0) := by
          rw [show n + 1 - 2 - m = (n - 2 - m) + 1 by omega, List.replicate_succ']
          simp
        rw [← e]
        exact h3
      case measure => simp only []; omega
    · obtain rfl : n = 24 := by omega
      have hhd : headL (kd, pl) = kd :: (m : Int) :: (pl ++ List.replicate (24 - 2 - m) 0) := by
        simp only [headL, HL.out]
      rw [← hhd] at ho
      have HH := Lib.hid hhd
      clear hhd
      have hf := refFrom_any s a 24 c (headL (kd, pl)) wr (IsInts.of_owns ho).1
      obtain ⟨hf0, hf1⟩ := fromH_bd s (headL (kd, pl)) hs0 hs1
      obtain ⟨F, hF⟩ : ∃ F, fromH s (headL (kd, pl)) = F := ⟨_, rfl⟩
      rw [hF] at hf hf0 hf1
      have HF := Lib.hid hF
      clear hF
      go_wp2_with (fail)
      go_at_call 33
      refine hf.mono ?_
      rintro e w1 ⟨rfl, rfl⟩
      clear hf
      go_wp2_with (fail)
      go_at_call 34
      refine (refEight_any _ _ hf0 hf1).mono ?_
      rintro e w2 ⟨a8, c8, rfl, h8, hb8⟩
      have ho2 := ho.kept_below hb8
      go_wp2_with (at_builtin; refine app_ints (k := .u8) (B := w.heap.size) (xs := headL (kd, pl)) (n := 24) (v := .slice a 24 c) (ys := eightL F) (m := 8) elU8 rfl _ _ rfl rfl ho2 rfl (IsInts.of_owns h8).1 (by decide) (by have := hb8.size; have := hB.size; omega) ?_; intro a3 c3 w3 h3 hgr hbel hnil; clear hnil hgr)
      go_ret
      exact ⟨⟨a3, c3, rfl, by rw [cellL, HF.out]; exact h3⟩, (hB.trans (hb8.mono hB.size)).trans hbel⟩

theorem run_slice_int {P : Program} (W : World) (T e : TypeId) (ht : P.underlying T = some (.slice e)) (hsz : (P.info? e).map (·.size) = some 1) (a : Option Addr) (len cap : Nat) (l h : Int) {l' h' : Nat} (h0 : l = l') (h1 : h = h') (h2 : l' ≤ h') (h3 : h' ≤ cap) :
    (Instr.slice T (.slice a len cap) (some (.int .i64 l)) (some (.int .i64 h)) none).run P W = .ok (.slice (if cap = l' then a else a.map (·.add l')) (h' - l') (cap - l')) W := by
  subst h0 h1
  have he : P.elem T = e := by simp [Program.elem, ht]
  rw [run_slice_lh W T a len cap (by rw [he]; exact ht) .i64 .i64 _ _ (by omega) (by omega) (by omega), he]
  cases hq : P.info? e with
  | none => simp [hq] at hsz
  | some i =>
    simp only [hq, Option.map_some, Option.some.injEq] at hsz
    simp [sizeOf, typeInfo, hq, hsz, go_sem]

theorem app_step {ps : List Prt} {r : List Int} {k n : Nat} (hP : ∀ x ∈ ps, OkP x) (hrb : Bytes r) (hk : k < cellsN r.length) (hn : n = ps.length + k) :
    encP basis (ps ++ (partsL r).take k) ++ cellL (seedB (encP basis (ps ++ (partsL r).take k)) n) (partR r k) = encP basis (ps ++ (partsL r).take (k + 1)) := by
  have hok : ∀ x ∈ ps ++ (partsL r).take k, OkP x := by
    intro x hx
    rcases List.mem_append.1 hx with hx | hx
    · exact hP x hx
    · exact partsL_ok hrb x (List.mem_of_mem_take hx)
  have hlen : (ps ++ (partsL r).take k).length = n := by
    rw [List.length_append, List.length_take, partsL_length]; omega
  have hsd := seed_pre (t := []) hok (List.append_nil _).symm n (by omega)
  rw [show (ps ++ (partsL r).take k).take n = ps ++ (partsL r).take k from List.take_of_length_le (by omega)] at hsd
  rw [hsd, List.take_succ_eq_append_getElem (by rw [partsL_length]; exact hk), partsL_get, ← List.append_assoc, encP_append _ (ps ++ (partsL r).take k)]
  simp [encP]

theorem refAppend_any (a : Option Addr) (len cap : Nat) (s : Int) (ps : List Prt) (ar : Option Addr) (lr cr : Nat) (r : List Int) (w : World) (hs : IsInts .u8 w a len cap (encP basis ps)) (hP : ∀ x ∈ ps, OkP x) (hr : IsRow .u8 w ar lr cr r) (hrb : Bytes r) (hlr : lr ≤ 2000) (hlen : len ≤ 90000) :
    Calls Try.prog 37 #[.agg #[.slice a len cap, .int .i64 s], .slice ar lr cr] w fun e w' => (∃ a' n' c', e = .returned (.tuple #[.agg #[.slice a' n' c', .int .i64 s], .int .i64 0]) ∧ w'.ownsRow w.heap.size 5 1 (.slice a' n' c') n' (ivs .u8 (encP basis (ps ++ partsL r))) ∧ n' = len + 32 * cellsN lr) ∧ Below w.heap.size w w' := by
  have dl : decide ((2000 : Int) < lr) = false := decide_eq_false (by omega)
  have hcap := hs.cap
  unfold maxLen at hcap
  obtain ⟨hrc1, hrc2⟩ := hr.cap
  unfold maxLen at hrc2
  have hl0 := Lib.hid (show len = 32 * ps.length by rw [← hs.length, encP_length hP])
  obtain ⟨N, hN⟩ : ∃ N, cellsN lr = N := ⟨_, rfl⟩
  have hN1 := cellsN_last lr
  have hN0 := cellsN_pos lr
  rw [hN] at hN1 hN0
  obtain ⟨W1, hW1⟩ : ∃ W1, (w.alloc (.cells #[.slice a len cap, .int .i64 s] 46)).alloc (.cells #[.slice none 0 0, .int .i64 0] 46) = W1 := ⟨_, rfl⟩
  have hbA : Below w.heap.size w W1 := by rw [← hW1]; exact ((Below.refl _ w).alloc (Nat.le_refl _) _).alloc (by simp only [World.size_alloc]; omega) _
  have hz1 : W1.heap.size = w.heap.size + 2 := by rw [← hW1]; simp
  have hbx : Box2 W1 w.heap.size (.slice a len cap) (.int .i64 s) := by rw [← hW1]; exact (Box2.new w _ _ _).later ((Below.refl _ _).alloc (Nat.le_refl _) _)
  have hbr : Box2 W1 (w.heap.size + 1) (.slice none 0 0) (.int .i64 0) := by
    have := Box2.new (w.alloc (.cells #[.slice a len cap, .int .i64 s] 46)) (.slice none 0 0) (.int .i64 0) 46
    rw [World.size_alloc, hW1] at this
    exact this
  have hbl : Below W1.heap.size W1 (W1.alloc (.cells #[] 5)) := (Below.refl _ _).alloc (Nat.le_refl _) _
  have hmk : (W1.alloc (.cells #[] 5)).ownsRow (w.heap.size + 2) 5 1 (.slice (some ⟨W1.heap.size, 0, none⟩) 0 0) 0 [] := by
    have := World.ownsRow_made (base := w.heap.size + 2) (e := 5) (size := 1) W1 #[] 0 (by omega) (by decide) rfl
    simpa using this
  have hs1 := (hs.later hbA).later hbl
  have hrC := hr.later hbA
  have hz1' := Lib.hid hz1
  clear hz1
  subst hW1
  go_enter Try.func37, Try.ntmps37
  obtain ⟨q0, q1, -, -⟩ := (hbx.later hbl).cells
  have hrc := fun w => refCells_any ar lr cr w (by omega)
  rw [hN] at hrc
  have HN := Lib.hid hN
  have HC := Lib.hid hrc
  clear hN hrc
  go_wp2_with (first | (at_builtin; refine app_ints0 (k := .u8) (B := w.heap.size + 2) (v := .slice (some ⟨w.heap.size + 1 + 1, 0, none⟩) 0 0) (ys := encP basis ps) elU8 rfl _ _ rfl rfl (by simpa using hmk) rfl hs1 (by omega) (by simp only [World.size_alloc]; omega) ?_; intro a2 c2 w2 h2 hgr hbel hnil; clear hnil hgr; have hb2 := hbl.trans (hbel.mono (by simp only [World.size_alloc]; omega)); have hbx2 := hbx.later hb2; have hbr2 := hbr.later hb2; have hB2 := hbA.trans (hb2.mono hbA.size); have hsz2 : w.heap.size + 2 ≤ w2.heap.size := (by have := hb2.size; have := hz1'.out; omega); clear hbx hbr hrC hb2 hbl hmk hs1 q0 q1 hbA hbel hz1') | (go_at_call 25; refine (HC.out _).mono ?_; rintro e w3 ⟨rfl, rfl⟩) | fail)
  go_loopw [6, 8] (fun v i W => ∃ (k : Nat) (fa : Option Addr) (fl fc : Nat), k ≤ N ∧ i = .int .i64 (k : Int) ∧ v = .slice fa fl fc ∧ fl = len + 32 * k ∧ W.ownsRow (w.heap.size + 2) 5 1 (.slice fa fl fc) fl (ivs .u8 (encP basis (ps ++ (partsL r).take k))) ∧ Box2 W w.heap.size (.slice a len cap) (.int .i64 s) ∧ Box2 W (w.heap.size + 1) (.slice none 0 0) (.int .i64 0) ∧ Below w.heap.size w W ∧ w.heap.size + 2 ≤ W.heap.size) (fun _ i _ => N - (intOf i).toNat)
  case atStart => exact ⟨0, a2, len, c2, Nat.zero_le _, rfl, rfl, by omega, by simpa using h2, hbx2, hbr2, hB2, hsz2⟩
  case round =>
    obtain ⟨k, fa, fl, fc, hk, rfl, rfl, hfl, ho, hX, hR, hB, hsz⟩ := hrel
    have Hfl := Lib.hid hfl
    clear h2 hbx2 hbr2 hB2 hsz2
    by_cases hlt : k < N
    · have dlt : decide ((k : Int) < N) = true := decide_eq_true (by omega)
      have hstep := app_step (n := fl / 32) hP hrb (k := k) (by rw [hr.length, HN.out]; exact hlt) (by have := hl0.out; omega)
      obtain ⟨zs, hzs⟩ : ∃ zs, encP basis (ps ++ (partsL r).take k) = zs := ⟨_, rfl⟩
      rw [hzs] at ho hstep
      have HST := Lib.hid hstep
      clear hzs hstep
      obtain ⟨hsd0, hsd1⟩ := seedB_bd zs (fl / 32)
      obtain ⟨sd, hsd⟩ : ∃ sd, seedB zs (fl / 32) = sd := ⟨_, rfl⟩
      rw [hsd] at hsd0 hsd1 HST
      have hfb : fl ≤ 99000 := by omega
      have hse : ∀ W, W.ownsRow (w.heap.size + 2) 5 1 (.slice fa fl fc) fl (ivs .u8 zs) → Calls Try.prog 44 #[.slice fa fl fc] W fun e w' => e = .returned (.int .u64 sd) ∧ W = w' := fun W h => by
        rw [← hsd]
        exact refSeed_any _ _ _ _ W (IsInts.of_owns h).1 (by omega)
      have HSE := Lib.hid hse
      clear hsd hse hfl
      by_cases hlast : k + 1 = N
      · skip
        have dk : ((k : Int) == (N : Int) - 1) = true := by simp; omega
        have hk22 : lr ≤ 22 * (k + 1) := by omega
        obtain ⟨pl, hpl⟩ : ∃ pl, (partR r k).2 = pl := ⟨_, rfl⟩
        have hpart : partR r k = (2, pl) := by
          rw [← hpl, partR_last (by rw [hr.length]; omega)]
        obtain ⟨ap, hap⟩ : ∃ ap, (if cr = k * 22 then ar else ar.map (·.add (k * 22))) = ap := ⟨_, rfl⟩
        have hklr : k * 22 ≤ lr := by omega
        have hsl : ∀ W, (Instr.slice 24 (.slice ar lr cr) (some (.int .i64 ((k : Int) * 22))) (some (.int .i64 (lr : Int))) none).run Try.prog W = .ok (.slice ap (lr - k * 22) (cr - k * 22)) W := by
          intro W
          rw [← hap]
          exact run_slice_int W 24 5 Try.underlying24 (by kernel_rfl) _ _ _ _ _ (by omega) (by omega) (by omega) (by omega)
        have HSL := Lib.hid hsl
        have hsrc : IsRow .u8 w ap (lr - k * 22) (cr - k * 22) pl := by
          rcases hr with hr | ⟨rfl, rfl, rfl⟩
          · left
            have := hr.slice (k * 22) lr cr (by omega) (by omega) (by omega) (Nat.le_refl _) (a' := ap) (fun h => by rw [← hap, if_neg h]) (fun h => by rw [← hap, if_pos h])
            rw [← hpl, partR_last (by rw [hr.length]; omega), Nat.mul_comm 22 k]
            rwa [List.take_of_length_le (by rw [List.length_drop, hr.length]; exact Nat.le_refl _)] at this
          · right
            refine ⟨by omega, by omega, ?_⟩
            rw [← hpl]
            unfold partR
            simp
        have hm22 : lr - k * 22 ≤ 22 := by omega
        clear hpl hsl hap
        go_wp2
        obtain ⟨S, hSd⟩ : ∃ S : (Nat → Bool) → (Nat → Value) → World → Prop, S = fun L f W' => (Below w.heap.size w W' ∧ Box2 W' w.heap.size (.slice a len cap) (.int .i64 s) ∧ Box2 W' (w.heap.size + 1) (.slice none 0 0) (.int .i64 0) ∧ w.heap.size + 2 ≤ W'.heap.size) ∧ stage L f W' (fun W' => W'.ownsRow (w.heap.size + 2) 5 1 (.slice fa fl fc) fl (ivs .u8 zs)) [(11, fun f W' => W'.ownsRow (w.heap.size + 2) 5 1 (f 11) (fl + 32) (ivs .u8 (zs ++ cellL sd (2, pl)))), (10, fun f W' => W'.ownsRow (w.heap.size + 2) 5 1 (f 10) (fl + 32) (ivs .u8 (zs ++ cellL sd (2, pl)))), (9, fun f W' => W'.ownsRow (w.heap.size + 2) 5 1 (.slice fa fl fc) fl (ivs .u8 zs) ∧ W'.ownsRow (w.heap.size + 2) 5 1 (f 9) 32 (ivs .u8 (cellL sd (2, pl))))] := ⟨_, rfl⟩
        refine wp_region_st mixed (by kernel_rfl) [[], [], [], [], [(3, 38)], [], [(2, 37), (4, 39), (5, 40)], [], [(7, 42)], [(1, 36), (6, 41), (8, 43), (8, 43)], [(0, 35), (9, 44), (9, 44)], [(10, 45), (10, 45), (0, 35), (1, 36), (2, 37), (3, 38), (4, 39), (5, 40), (6, 41), (7, 42), (8, 43), (9, 44), (10, 45)]] [(0, 35), (1, 36), (2, 37), (3, 38), (4, 39), (5, 40), (6, 41), (7, 42), (8, 43), (9, 44), (10, 45), (11, 6)] rfl rfl [EV ?ez0, EV ?ez1, EV ?ez2, EV ?ez3, EV ?ez4, EV ?ez5, EV ?ez6, EV ?ez7, EV ?ez8, fun v => ∃ a c, v = .slice a 32 c, fun v => ∃ a c, v = .slice a (fl + 32) c, fun v => ∃ a c, v = .slice a (fl + 32) c] S ?zstart ?zsteps ?zrest
        case zstart =>
          intro f
          rw [hSd]
          exact ⟨⟨hB.drew, hX, hR, hsz⟩, ho⟩
        case zsteps =>
          refine ⟨fun L f W hi hd hdn hh hS => ?_, fun L f W hi hd hdn hh hS => ?_, fun L f W hi hd hdn hh hS => ?_, fun L f W hi hd hdn hh hS => ?_, fun L f W hi hd hdn hh hS => ?_, fun L f W hi hd hdn hh hS => ?_, fun L f W hi hd hdn hh hS => ?_, fun L f W hi hd hdn hh hS => ?_, fun L f W hi hd hdn hh hS => ?_, fun L f W hi hd hdn hh hS => ?_, fun L f W hi hd hdn hh hS => ?_, fun L f W hi hd hdn hh hS => ?_, trivial⟩
          · -- 0: Op.move (Operand.tmp 6)
            unfold stStep
            rw [if_pos (by simp [Region.wanted])]
            intro K Q hK
            simp only [puts, List.foldr_nil]
            go_step
            refine st_ex hK rfl rfl (by simp only [Act.put, List.setIfInBounds_toArray, List.set_cons_succ, List.set_cons_zero, Array.getD_eq_getD_getElem?, List.getElem?_toArray, List.getElem?_cons_succ, List.getElem?_cons_zero, Option.getD_some] <;> rfl) rfl (by rw [hSd] at hS ⊢; exact hS)
          · -- 1: Op.move (Operand.tmp 9)
            unfold stStep
            rw [if_pos (by simp [Region.wanted])]
            intro K Q hK
            simp only [puts, List.foldr_nil]
            go_step
            refine st_ex hK rfl rfl (by simp only [Act.put, List.setIfInBounds_toArray, List.set_cons_succ, List.set_cons_zero, Array.getD_eq_getD_getElem?, List.getElem?_toArray, List.getElem?_cons_succ, List.getElem?_cons_zero, Option.getD_some] <;> rfl) rfl (by rw [hSd] at hS ⊢; exact hS)
          · -- 2: Op.move (Operand.tmp 1)
            unfold stStep
            rw [if_pos (by simp [Region.wanted])]
            intro K Q hK
            simp only [puts, List.foldr_nil]
            go_step
            refine st_ex hK rfl rfl (by simp only [Act.put, List.setIfInBounds_toArray, List.set_cons_succ, List.set_cons_zero, Array.getD_eq_getD_getElem?, List.getElem?_toArray, List.getElem?_cons_succ, List.getElem?_cons_zero, Option.getD_some] <;> rfl) rfl (by rw [hSd] at hS ⊢; exact hS)
          · -- 3: Op.move (Operand.tmp 8)
            unfold stStep
            rw [if_pos (by simp [Region.wanted])]
            intro K Q hK
            simp only [puts, List.foldr_nil]
            go_step
            refine st_ex hK rfl rfl (by simp only [Act.put, List.setIfInBounds_toArray, List.set_cons_succ, List.set_cons_zero, Array.getD_eq_getD_getElem?, List.getElem?_toArray, List.getElem?_cons_succ, List.getElem?_cons_zero, Option.getD_some] <;> rfl) rfl (by rw [hSd] at hS ⊢; exact hS)
          · -- 4: Op.binOp BinOp.mul 3 (Operand.tmp 38) (Operand.const (Value.int IntKind.i64 22)) 3
            obtain ⟨h3, -⟩ := hh
            have g3 : f 3 = _ := h3
            unfold stStep
            rw [if_pos (by simp [Region.wanted])]
            intro K Q hK
            simp only [puts, List.foldr_cons, List.foldr_nil, List.setIfInBounds_toArray, List.set_cons_succ, List.set_cons_zero, g3]
            go_step
            refine st_ex hK rfl rfl (by simp only [Act.put, List.setIfInBounds_toArray, List.set_cons_succ, List.set_cons_zero, Array.getD_eq_getD_getElem?, List.getElem?_toArray, List.getElem?_cons_succ, List.getElem?_cons_zero, Option.getD_some] <;> rfl) rfl (by rw [hSd] at hS ⊢; exact hS)
          · -- 5: Op.move (Operand.tmp 10)
            unfold stStep
            rw [if_pos (by simp [Region.wanted])]
            intro K Q hK
            simp only [puts, List.foldr_nil]
            go_step
            refine st_ex hK rfl rfl (by simp only [Act.put, List.setIfInBounds_toArray, List.set_cons_succ, List.set_cons_zero, Array.getD_eq_getD_getElem?, List.getElem?_toArray, List.getElem?_cons_succ, List.getElem?_cons_zero, Option.getD_some] <;> rfl) rfl (by rw [hSd] at hS ⊢; exact hS)
          · -- 6: Op.slice 24 (Operand.tmp 37) (some (Operand.tmp 39)) (some (Operand.tmp 40)) none
            obtain ⟨h2, h4, h5, -⟩ := hh
            have g2 : f 2 = _ := h2
            have g4 : f 4 = _ := h4
            have g5 : f 5 = _ := h5
            unfold stStep
            rw [if_pos (by simp [Region.wanted])]
            intro K Q hK
            simp only [puts, List.foldr_cons, List.foldr_nil, List.setIfInBounds_toArray, List.set_cons_succ, List.set_cons_zero, g2, g4, g5]
            have hslw := HSL.out W
            go_step
            refine st_ex hK rfl rfl (by simp only [Act.put, List.setIfInBounds_toArray, List.set_cons_succ, List.set_cons_zero, Array.getD_eq_getD_getElem?, List.getElem?_toArray, List.getElem?_cons_succ, List.getElem?_cons_zero, Option.getD_some] <;> rfl) rfl (by rw [hSd] at hS ⊢; exact hS)
          · -- 7: Op.move (Operand.tmp 6)
            unfold stStep
            rw [if_pos (by simp [Region.wanted])]
            intro K Q hK
            simp only [puts, List.foldr_nil]
            go_step
            refine st_ex hK rfl rfl (by simp only [Act.put, List.setIfInBounds_toArray, List.set_cons_succ, List.set_cons_zero, Array.getD_eq_getD_getElem?, List.getElem?_toArray, List.getElem?_cons_succ, List.getElem?_cons_zero, Option.getD_some] <;> rfl) rfl (by rw [hSd] at hS ⊢; exact hS)
          · -- 8: Op.call { callee := Callee.value (Operand.func 44), args := #[Operand.tmp 42], argTypes :=
            obtain ⟨h7, -⟩ := hh
            have g7 : f 7 = _ := h7
            have l9 : L 9 = false := Bool.eq_false_iff.2 fun h => by have q := hdn 9 _ h rfl 8 (by decide); rw [show L 8 = false from hi] at q; cases q
            have l10 : L 10 = false := Bool.eq_false_iff.2 fun h => by have q := hdn 10 _ h rfl 9 (by decide); rw [show L 9 = false from l9] at q; cases q
            have l11 : L 11 = false := Bool.eq_false_iff.2 fun h => by have q := hdn 11 _ h rfl 10 (by decide); rw [show L 10 = false from l10] at q; cases q
            unfold stStep
            rw [if_pos (by simp [Region.wanted])]
            intro K Q hK
            simp only [puts, List.foldr_cons, List.foldr_nil, List.setIfInBounds_toArray, List.set_cons_succ, List.set_cons_zero, g7]
            have hS' := hS
            rw [hSd] at hS'
            simp only [stage, l9, l10, l11, if_false, Bool.false_eq_true] at hS'
            go_step
            go_at_call 44
            refine (HSE.out W hS'.2).mono ?_
            rintro e w' ⟨rfl, rfl⟩
            refine st_ex hK rfl rfl (by simp only [Act.put, List.setIfInBounds_toArray, List.set_cons_succ, List.set_cons_zero, Array.getD_eq_getD_getElem?, List.getElem?_toArray, List.getElem?_cons_succ, List.getElem?_cons_zero, Option.getD_some] <;> rfl) rfl (by rw [hSd] at hS ⊢; exact hS)
          · -- 9: Op.call { callee := Callee.value (Operand.func 43), args := #[Operand.tmp 36, Operand.tmp 
            obtain ⟨h1, h6, h8, _, -⟩ := hh
            have g1 : f 1 = _ := h1
            have g6 : f 6 = _ := h6
            have g8 : f 8 = _ := h8
            have l10 : L 10 = false := Bool.eq_false_iff.2 fun h => by have q := hdn 10 _ h rfl 9 (by decide); rw [show L 9 = false from hi] at q; cases q
            have l11 : L 11 = false := Bool.eq_false_iff.2 fun h => by have q := hdn 11 _ h rfl 10 (by decide); rw [show L 10 = false from l10] at q; cases q
            unfold stStep
            rw [if_pos (by simp [Region.wanted])]
            intro K Q hK
            simp only [puts, List.foldr_cons, List.foldr_nil, List.setIfInBounds_toArray, List.set_cons_succ, List.set_cons_zero, g1, g6, g8]
            rw [hSd] at hS hK
            have l9 : L 9 = false := hi
            simp only [stage, l10, l11, l9, if_true, if_false, Bool.false_eq_true] at hS
            obtain ⟨⟨hB, hX, hR, hsz⟩, ho⟩ := hS
            go_step
            go_at_call 43
            refine (refCell_any _ _ _ _ _ _ _ (by decide) (by decide) (hsrc.later hB) hm22 hsd0 hsd1).mono ?_
            rintro e w' ⟨⟨a', c', rfl, hown'⟩, hb'⟩
            refine hK.out _ _ rfl ⟨_, _, rfl⟩ ?_
            refine ⟨⟨hB.trans (hb'.mono hB.size), hX.later hb', hR.later hb', Nat.le_trans hsz hb'.size⟩, ?_⟩
            simp only [stage, l10, l11]
            exact ⟨ho.kept_below hb', hown'.from_mono hsz⟩
          · -- 10: Op.call { callee := Callee.builtin Builtin.append, args := #[Operand.tmp 35, Operand.tmp 4
            obtain ⟨h0, h9, _, -⟩ := hh
            have g0 : f 0 = _ := h0
            obtain ⟨a9, c9, g9⟩ := h9
            have l9 : L 9 = true := hd 9 (by decide)
            have l11 : L 11 = false := Bool.eq_false_iff.2 fun h => by have q := hdn 11 _ h rfl 10 (by decide); rw [show L 10 = false from hi] at q; cases q
            unfold stStep
            rw [if_pos (by simp [Region.wanted])]
            intro K Q hK
            simp only [puts, List.foldr_cons, List.foldr_nil, List.setIfInBounds_toArray, List.set_cons_succ, List.set_cons_zero, g0, g9]
            rw [hSd] at hS hK
            have l10 : L 10 = false := hi
            simp only [stage, l11, l10, l9, if_true, if_false, Bool.false_eq_true] at hS
            obtain ⟨⟨hB, hX, hR, hsz⟩, ho, hc⟩ := hS
            have e9 : f 9 = _ := g9
            rw [e9] at hc
            refine wp_app_ints (k := .u8) (B := w.heap.size + 2) (xs := zs) (n := fl) elU8 _ _ rfl rfl ho rfl (IsInts.of_owns hc).1 (by omega) hsz ?_
            intro a' c' W2 j1 j2 j3 _
            refine hK.out _ _ rfl ⟨_, _, rfl⟩ ?_
            exact ⟨⟨hB.trans (j3.mono (by omega)), hX.kept j3 (by omega), hR.kept j3 (by omega), Nat.le_trans hsz j3.size⟩, by simp only [stage, l11]; exact j1⟩
          · -- 11: Op.assign (Operand.tmp 45)
            obtain ⟨h10, _, h0, h1, h2, h3, h4, h5, h6, h7, h8, h9, _, -⟩ := hh
            obtain ⟨a10, c10, g10⟩ := h10
            have g0 : f 0 = _ := h0
            have g1 : f 1 = _ := h1
            have g2 : f 2 = _ := h2
            have g3 : f 3 = _ := h3
            have g4 : f 4 = _ := h4
            have g5 : f 5 = _ := h5
            have g6 : f 6 = _ := h6
            have g7 : f 7 = _ := h7
            have g8 : f 8 = _ := h8
            obtain ⟨a9, c9, g9⟩ := h9
            have l10 : L 10 = true := hd 10 (by decide)
            unfold stStep
            rw [if_pos (by simp [Region.wanted])]
            intro K Q hK
            simp only [puts, List.foldr_cons, List.foldr_nil, List.setIfInBounds_toArray, List.set_cons_succ, List.set_cons_zero, g10, g0, g1, g2, g3, g4, g5, g6, g7, g8, g9]
            rw [hSd] at hS hK
            have l11 : L 11 = false := hi
            simp only [stage, l11, l10, if_true, if_false, Bool.false_eq_true] at hS
            obtain ⟨hA, ho⟩ := hS
            have e10 : f 10 = _ := g10
            rw [e10] at ho
            go_step
            refine hK.out _ _ rfl ⟨_, _, rfl⟩ ?_
            exact ⟨hA, ho⟩
        case zrest =>
          intro L f W2 hL hh hS
          rw [hSd] at hS
          clear hSd
          have l11 : L 11 = true := hL 11 (by decide)
          simp only [stage, l11, if_true] at hS
          clear hL l11
          obtain ⟨h0, h1, h2, h3, h4, h5, h6, h7, h8, h9, h10, h11, -⟩ := hh
          have g0 : f 0 = _ := h0
          have g1 : f 1 = _ := h1
          have g2 : f 2 = _ := h2
          have g3 : f 3 = _ := h3
          have g4 : f 4 = _ := h4
          have g5 : f 5 = _ := h5
          have g6 : f 6 = _ := h6
          have g7 : f 7 = _ := h7
          have g8 : f 8 = _ := h8
          obtain ⟨a9, c9, g9⟩ := h9
          obtain ⟨a10, c10, g10⟩ := h10
          obtain ⟨a11, c11, g11⟩ := h11
          simp only [puts, List.foldr_cons, List.foldr_nil, List.setIfInBounds_toArray, List.set_cons_succ, List.set_cons_zero, g0, g1, g2, g3, g4, g5, g6, g7, g8, g9, g10, g11]
          clear h0 h1 h2 h3 h4 h5 h6 h7 h8 g0 g1 g2 g3 g4 g5 g6 g7 g8
          obtain ⟨⟨hB', hX', hR', hsz'⟩, ho'⟩ := hS
          have e11 : f 11 = _ := g11
          rw [e11] at ho'
          rw [← hpart, HST.out] at ho'
          go_wp2
          go_roundw
          case rel => exact ⟨k + 1, a11, fl + 32, c11, hlt, by go_num, rfl, by have := Hfl.out; omega, ho', hX', hR', hB', hsz'⟩
          case measure => simp [intOf]; omega
      · have dk : ((k : Int) == (N : Int) - 1) = false := by simp; omega
        have hk22 : 22 * (k + 1) ≤ lr := by omega
        obtain ⟨pl, hpl⟩ : ∃ pl, (partR r k).2 = pl := ⟨_, rfl⟩
        have hpart : partR r k = (1, pl) := by
          rw [← hpl, partR_more (by rw [hr.length]; omega)]
        have hsrc : IsRow .u8 w (ar.map (·.add (k * 22))) ((k + 1) * 22 - k * 22) (cr - k * 22) pl := by
          rcases hr with hr | ⟨rfl, rfl, rfl⟩
          · left
            have := hr.slice (k * 22) ((k + 1) * 22) cr (by omega) (by omega) (by omega) (Nat.le_refl _) (a' := ar.map (·.add (k * 22))) (fun _ => rfl) (fun h => absurd h (by omega))
            rw [← hpl, partR_more (by rw [hr.length]; omega), Nat.mul_comm 22 k]
            rw [show (k + 1) * 22 - k * 22 = 22 by omega] at this ⊢
            exact this
          · omega
        have hm22 : (k + 1) * 22 - k * 22 ≤ 22 := by omega
        clear hpl
        go_wp2
        obtain ⟨S, hSd⟩ : ∃ S : (Nat → Bool) → (Nat → Value) → World → Prop, S = fun L f W' => (Below w.heap.size w W' ∧ Box2 W' w.heap.size (.slice a len cap) (.int .i64 s) ∧ Box2 W' (w.heap.size + 1) (.slice none 0 0) (.int .i64 0) ∧ w.heap.size + 2 ≤ W'.heap.size) ∧ stage L f W' (fun W' => W'.ownsRow (w.heap.size + 2) 5 1 (.slice fa fl fc) fl (ivs .u8 zs)) [(11, fun f W' => W'.ownsRow (w.heap.size + 2) 5 1 (f 11) (fl + 32) (ivs .u8 (zs ++ cellL sd (1, pl)))), (10, fun f W' => W'.ownsRow (w.heap.size + 2) 5 1 (f 10) (fl + 32) (ivs .u8 (zs ++ cellL sd (1, pl)))), (9, fun f W' => W'.ownsRow (w.heap.size + 2) 5 1 (.slice fa fl fc) fl (ivs .u8 zs) ∧ W'.ownsRow (w.heap.size + 2) 5 1 (f 9) 32 (ivs .u8 (cellL sd (1, pl))))] := ⟨_, rfl⟩
        refine wp_region_st mixed (by kernel_rfl) [[], [], [], [], [(3, 38)], [], [(2, 37), (4, 39), (5, 40)], [], [(7, 42)], [(1, 36), (6, 41), (8, 43), (8, 43)], [(0, 35), (9, 44), (9, 44)], [(10, 45), (10, 45), (0, 35), (1, 36), (2, 37), (3, 38), (4, 39), (5, 40), (6, 41), (7, 42), (8, 43), (9, 44), (10, 45)]] [(0, 35), (1, 36), (2, 37), (3, 38), (4, 39), (5, 40), (6, 41), (7, 42), (8, 43), (9, 44), (10, 45), (11, 6)] rfl rfl [EV ?ey0, EV ?ey1, EV ?ey2, EV ?ey3, EV ?ey4, EV ?ey5, EV ?ey6, EV ?ey7, EV ?ey8, fun v => ∃ a c, v = .slice a 32 c, fun v => ∃ a c, v = .slice a (fl + 32) c, fun v => ∃ a c, v = .slice a (fl + 32) c] S ?ystart ?ysteps ?yrest
        case ystart =>
          intro f
          rw [hSd]
          exact ⟨⟨hB.drew, hX, hR, hsz⟩, ho⟩
        case ysteps =>
          refine ⟨fun L f W hi hd hdn hh hS => ?_, fun L f W hi hd hdn hh hS => ?_, fun L f W hi hd hdn hh hS => ?_, fun L f W hi hd hdn hh hS => ?_, fun L f W hi hd hdn hh hS => ?_, fun L f W hi hd hdn hh hS => ?_, fun L f W hi hd hdn hh hS => ?_, fun L f W hi hd hdn hh hS => ?_, fun L f W hi hd hdn hh hS => ?_, fun L f W hi hd hdn hh hS => ?_, fun L f W hi hd hdn hh hS => ?_, fun L f W hi hd hdn hh hS => ?_, trivial⟩
          · -- 0: Op.move (Operand.tmp 6)
            unfold stStep
            rw [if_pos (by simp [Region.wanted])]
            intro K Q hK
            simp only [puts, List.foldr_nil]
            go_step
            refine st_ex hK rfl rfl (by simp only [Act.put, List.setIfInBounds_toArray, List.set_cons_succ, List.set_cons_zero, Array.getD_eq_getD_getElem?, List.getElem?_toArray, List.getElem?_cons_succ, List.getElem?_cons_zero, Option.getD_some] <;> rfl) rfl (by rw [hSd] at hS ⊢; exact hS)
          · -- 1: Op.move (Operand.tmp 9)
            unfold stStep
            rw [if_pos (by simp [Region.wanted])]
            intro K Q hK
            simp only [puts, List.foldr_nil]
            go_step
            refine st_ex hK rfl rfl (by simp only [Act.put, List.setIfInBounds_toArray, List.set_cons_succ, List.set_cons_zero, Array.getD_eq_getD_getElem?, List.getElem?_toArray, List.getElem?_cons_succ, List.getElem?_cons_zero, Option.getD_some] <;> rfl) rfl (by rw [hSd] at hS ⊢; exact hS)
          · -- 2: Op.move (Operand.tmp 1)
            unfold stStep
            rw [if_pos (by simp [Region.wanted])]
            intro K Q hK
            simp only [puts, List.foldr_nil]
            go_step
            refine st_ex hK rfl rfl (by simp only [Act.put, List.setIfInBounds_toArray, List.set_cons_succ, List.set_cons_zero, Array.getD_eq_getD_getElem?, List.getElem?_toArray, List.getElem?_cons_succ, List.getElem?_cons_zero, Option.getD_some] <;> rfl) rfl (by rw [hSd] at hS ⊢; exact hS)
          · -- 3: Op.move (Operand.tmp 8)
            unfold stStep
            rw [if_pos (by simp [Region.wanted])]
            intro K Q hK
            simp only [puts, List.foldr_nil]
            go_step
            refine st_ex hK rfl rfl (by simp only [Act.put, List.setIfInBounds_toArray, List.set_cons_succ, List.set_cons_zero, Array.getD_eq_getD_getElem?, List.getElem?_toArray, List.getElem?_cons_succ, List.getElem?_cons_zero, Option.getD_some] <;> rfl) rfl (by rw [hSd] at hS ⊢; exact hS)
          · -- 4: Op.binOp BinOp.mul 3 (Operand.tmp 38) (Operand.const (Value.int IntKind.i64 22)) 3
            obtain ⟨h3, -⟩ := hh
            have g3 : f 3 = _ := h3
            unfold stStep
            rw [if_pos (by simp [Region.wanted])]
            intro K Q hK
            simp only [puts, List.foldr_cons, List.foldr_nil, List.setIfInBounds_toArray, List.set_cons_succ, List.set_cons_zero, g3]
            go_step
            refine st_ex hK rfl rfl (by simp only [Act.put, List.setIfInBounds_toArray, List.set_cons_succ, List.set_cons_zero, Array.getD_eq_getD_getElem?, List.getElem?_toArray, List.getElem?_cons_succ, List.getElem?_cons_zero, Option.getD_some] <;> rfl) rfl (by rw [hSd] at hS ⊢; exact hS)
          · -- 5: Op.move (Operand.tmp 10)
            unfold stStep
            rw [if_pos (by simp [Region.wanted])]
            intro K Q hK
            simp only [puts, List.foldr_nil]
            go_step
            refine st_ex hK rfl rfl (by simp only [Act.put, List.setIfInBounds_toArray, List.set_cons_succ, List.set_cons_zero, Array.getD_eq_getD_getElem?, List.getElem?_toArray, List.getElem?_cons_succ, List.getElem?_cons_zero, Option.getD_some] <;> rfl) rfl (by rw [hSd] at hS ⊢; exact hS)
          · -- 6: Op.slice 24 (Operand.tmp 37) (some (Operand.tmp 39)) (some (Operand.tmp 40)) none
            obtain ⟨h2, h4, h5, -⟩ := hh
            have g2 : f 2 = _ := h2
            have g4 : f 4 = _ := h4
            have g5 : f 5 = _ := h5
            unfold stStep
            rw [if_pos (by simp [Region.wanted])]
            intro K Q hK
            simp only [puts, List.foldr_cons, List.foldr_nil, List.setIfInBounds_toArray, List.set_cons_succ, List.set_cons_zero, g2, g4, g5]
            go_step
            refine st_ex hK rfl rfl (by simp only [Act.put, List.setIfInBounds_toArray, List.set_cons_succ, List.set_cons_zero, Array.getD_eq_getD_getElem?, List.getElem?_toArray, List.getElem?_cons_succ, List.getElem?_cons_zero, Option.getD_some] <;> rfl) rfl (by rw [hSd] at hS ⊢; exact hS)
          · -- 7: Op.move (Operand.tmp 6)
            unfold stStep
            rw [if_pos (by simp [Region.wanted])]
            intro K Q hK
            simp only [puts, List.foldr_nil]
            go_step
            refine st_ex hK rfl rfl (by simp only [Act.put, List.setIfInBounds_toArray, List.set_cons_succ, List.set_cons_zero, Array.getD_eq_getD_getElem?, List.getElem?_toArray, List.getElem?_cons_succ, List.getElem?_cons_zero, Option.getD_some] <;> rfl) rfl (by rw [hSd] at hS ⊢; exact hS)
          · -- 8: Op.call { callee := Callee.value (Operand.func 44), args := #[Operand.tmp 42], argTypes :=
            obtain ⟨h7, -⟩ := hh
            have g7 : f 7 = _ := h7
            have l9 : L 9 = false := Bool.eq_false_iff.2 fun h => by have q := hdn 9 _ h rfl 8 (by decide); rw [show L 8 = false from hi] at q; cases q
            have l10 : L 10 = false := Bool.eq_false_iff.2 fun h => by have q := hdn 10 _ h rfl 9 (by decide); rw [show L 9 = false from l9] at q; cases q
            have l11 : L 11 = false := Bool.eq_false_iff.2 fun h => by have q := hdn 11 _ h rfl 10 (by decide); rw [show L 10 = false from l10] at q; cases q
            unfold stStep
            rw [if_pos (by simp [Region.wanted])]
            intro K Q hK
            simp only [puts, List.foldr_cons, List.foldr_nil, List.setIfInBounds_toArray, List.set_cons_succ, List.set_cons_zero, g7]
            have hS' := hS
            rw [hSd] at hS'
            simp only [stage, l9, l10, l11, if_false, Bool.false_eq_true] at hS'
            go_step
            go_at_call 44
            refine (HSE.out W hS'.2).mono ?_
            rintro e w' ⟨rfl, rfl⟩
            refine st_ex hK rfl rfl (by simp only [Act.put, List.setIfInBounds_toArray, List.set_cons_succ, List.set_cons_zero, Array.getD_eq_getD_getElem?, List.getElem?_toArray, List.getElem?_cons_succ, List.getElem?_cons_zero, Option.getD_some] <;> rfl) rfl (by rw [hSd] at hS ⊢; exact hS)
          · -- 9: Op.call { callee := Callee.value (Operand.func 43), args := #[Operand.tmp 36, Operand.tmp 
            obtain ⟨h1, h6, h8, _, -⟩ := hh
            have g1 : f 1 = _ := h1
            have g6 : f 6 = _ := h6
            have g8 : f 8 = _ := h8
            have l10 : L 10 = false := Bool.eq_false_iff.2 fun h => by have q := hdn 10 _ h rfl 9 (by decide); rw [show L 9 = false from hi] at q; cases q
            have l11 : L 11 = false := Bool.eq_false_iff.2 fun h => by have q := hdn 11 _ h rfl 10 (by decide); rw [show L 10 = false from l10] at q; cases q
            unfold stStep
            rw [if_pos (by simp [Region.wanted])]
            intro K Q hK
            simp only [puts, List.foldr_cons, List.foldr_nil, List.setIfInBounds_toArray, List.set_cons_succ, List.set_cons_zero, g1, g6, g8]
            rw [hSd] at hS hK
            have l9 : L 9 = false := hi
            simp only [stage, l10, l11, l9, if_true, if_false, Bool.false_eq_true] at hS
            obtain ⟨⟨hB, hX, hR, hsz⟩, ho⟩ := hS
            go_step
            go_at_call 43
            refine (refCell_any _ _ _ _ _ _ _ (by decide) (by decide) (hsrc.later hB) hm22 hsd0 hsd1).mono ?_
            rintro e w' ⟨⟨a', c', rfl, hown'⟩, hb'⟩
            refine hK.out _ _ rfl ⟨_, _, rfl⟩ ?_
            refine ⟨⟨hB.trans (hb'.mono hB.size), hX.later hb', hR.later hb', Nat.le_trans hsz hb'.size⟩, ?_⟩
            simp only [stage, l10, l11]
            exact ⟨ho.kept_below hb', hown'.from_mono hsz⟩
          · -- 10: Op.call { callee := Callee.builtin Builtin.append, args := #[Operand.tmp 35, Operand.tmp 4
            obtain ⟨h0, h9, _, -⟩ := hh
            have g0 : f 0 = _ := h0
            obtain ⟨a9, c9, g9⟩ := h9
            have l9 : L 9 = true := hd 9 (by decide)
            have l11 : L 11 = false := Bool.eq_false_iff.2 fun h => by have q := hdn 11 _ h rfl 10 (by decide); rw [show L 10 = false from hi] at q; cases q
            unfold stStep
            rw [if_pos (by simp [Region.wanted])]
            intro K Q hK
            simp only [puts, List.foldr_cons, List.foldr_nil, List.setIfInBounds_toArray, List.set_cons_succ, List.set_cons_zero, g0, g9]
            rw [hSd] at hS hK
            have l10 : L 10 = false := hi
            simp only [stage, l11, l10, l9, if_true, if_false, Bool.false_eq_true] at hS
            obtain ⟨⟨hB, hX, hR, hsz⟩, ho, hc⟩ := hS
            have e9 : f 9 = _ := g9
            rw [e9] at hc
            refine wp_app_ints (k := .u8) (B := w.heap.size + 2) (xs := zs) (n := fl) elU8 _ _ rfl rfl ho rfl (IsInts.of_owns hc).1 (by omega) hsz ?_
            intro a' c' W2 j1 j2 j3 _
            refine hK.out _ _ rfl ⟨_, _, rfl⟩ ?_
            exact ⟨⟨hB.trans (j3.mono (by omega)), hX.kept j3 (by omega), hR.kept j3 (by omega), Nat.le_trans hsz j3.size⟩, by simp only [stage, l11]; exact j1⟩
          · -- 11: Op.assign (Operand.tmp 45)
            obtain ⟨h10, _, h0, h1, h2, h3, h4, h5, h6, h7, h8, h9, _, -⟩ := hh
            obtain ⟨a10, c10, g10⟩ := h10
            have g0 : f 0 = _ := h0
            have g1 : f 1 = _ := h1
            have g2 : f 2 = _ := h2
            have g3 : f 3 = _ := h3
            have g4 : f 4 = _ := h4
            have g5 : f 5 = _ := h5
            have g6 : f 6 = _ := h6
            have g7 : f 7 = _ := h7
            have g8 : f 8 = _ := h8
            obtain ⟨a9, c9, g9⟩ := h9
            have l10 : L 10 = true := hd 10 (by decide)
            unfold stStep
            rw [if_pos (by simp [Region.wanted])]
            intro K Q hK
            simp only [puts, List.foldr_cons, List.foldr_nil, List.setIfInBounds_toArray, List.set_cons_succ, List.set_cons_zero, g10, g0, g1, g2, g3, g4, g5, g6, g7, g8, g9]
            rw [hSd] at hS hK
            have l11 : L 11 = false := hi
            simp only [stage, l11, l10, if_true, if_false, Bool.false_eq_true] at hS
            obtain ⟨hA, ho⟩ := hS
            have e10 : f 10 = _ := g10
            rw [e10] at ho
            go_step
            refine hK.out _ _ rfl ⟨_, _, rfl⟩ ?_
            exact ⟨hA, ho⟩
        case yrest =>
          intro L f W2 hL hh hS
          rw [hSd] at hS
          clear hSd
          have l11 : L 11 = true := hL 11 (by decide)
          simp only [stage, l11, if_true] at hS
          clear hL l11
          obtain ⟨h0, h1, h2, h3, h4, h5, h6, h7, h8, h9, h10, h11, -⟩ := hh
          have g0 : f 0 = _ := h0
          have g1 : f 1 = _ := h1
          have g2 : f 2 = _ := h2
          have g3 : f 3 = _ := h3
          have g4 : f 4 = _ := h4
          have g5 : f 5 = _ := h5
          have g6 : f 6 = _ := h6
          have g7 : f 7 = _ := h7
          have g8 : f 8 = _ := h8
          obtain ⟨a9, c9, g9⟩ := h9
          obtain ⟨a10, c10, g10⟩ := h10
          obtain ⟨a11, c11, g11⟩ := h11
          simp only [puts, List.foldr_cons, List.foldr_nil, List.setIfInBounds_toArray, List.set_cons_succ, List.set_cons_zero, g0, g1, g2, g3, g4, g5, g6, g7, g8, g9, g10, g11]
          clear h0 h1 h2 h3 h4 h5 h6 h7 h8 g0 g1 g2 g3 g4 g5 g6 g7 g8
          obtain ⟨⟨hB', hX', hR', hsz'⟩, ho'⟩ := hS
          have e11 : f 11 = _ := g11
          rw [e11] at ho'
          rw [← hpart, HST.out] at ho'
          go_wp2
          go_roundw
          case rel => exact ⟨k + 1, a11, fl + 32, c11, hlt, by go_num, rfl, by have := Hfl.out; omega, ho', hX', hR', hB', hsz'⟩
          case measure => simp [intOf]; omega
    · obtain rfl : k = N := by omega
      have dlt : decide ((k : Int) < k) = false := decide_eq_false (by omega)
      rw [List.take_of_length_le (by rw [partsL_length, hr.length, HN.out]; exact Nat.le_refl _)] at ho
      obtain ⟨q0, q1, -, -⟩ := hX.cells
      obtain ⟨q2, q3, q4, q5⟩ := hR.cells
      clear hfl
      go_wp2_with (fail)
      have hst := hR.store (.slice fa fl fc) (.int .i64 s)
      have ho2 := ownsRow_setCell_below (ownsRow_setCell_below ho (a := ⟨w.heap.size + 1, 0, none⟩) (by show w.heap.size + 1 < _; omega) (.slice fa fl fc)) (a := ⟨w.heap.size + 1, 1, none⟩) (by show w.heap.size + 1 < _; omega) (.int .i64 s)
      exact bodyPost_ret (ref_res_log_tmp rfl rfl rfl hst) rfl ⟨⟨fa, fl, fc, rfl, ho2.from_mono (by omega), by rw [HN.out]; exact Hfl.out⟩, (hB.setCell (p := ⟨w.heap.size + 1, 0, none⟩) (Nat.le_succ _) _).setCell (p := ⟨w.heap.size + 1, 1, none⟩) (Nat.le_succ _) _⟩
end Go.Proofs.Ytpmhnmkpmkeadaa
