/-
  Path of the document's answer.
-/
import Derived.Test.YtlogmgkjikamaaaGraPa
import Derived.Test.YtlogmgkjikamaaaGraPb
set_option linter.unusedSimpArgs false
set_option linter.unusedVariables false
set_option maxHeartbeats 4000000
namespace Go.Proofs.Ytlogmgkjikamaaa
open Go.RowKit
attribute [local go_sem] Oper.semAt_some

variable {a : Option Addr} {len cap : Nat} {g : List (List Int)} {w : World}

theorem refDist_one {T : Nat} (hg : IsRows w a len cap g) (hv : ValidG g) (hT : T < len) :
    Calls Try.prog 26 #[.slice a len cap, .slice (some ⟨w.heap.size, 0, none⟩) 1 1] (w.alloc (.cells #[.int .i64 (T : Int)] 3)) fun e w' => ∃ ad ld cd zs, e = .returned (.tuple #[.slice ad ld cd, .int .i64 0]) ∧ IsRow .i64 w' ad ld cd zs ∧ DistL g [(T : Int)] zs ∧ Below w.heap.size w w' := by
  have hbA : Below w.heap.size w (w.alloc (.cells #[.int .i64 (T : Int)] 3)) := (Below.refl _ _).alloc (Nat.le_refl _) _
  have hc : checkV g [(T : Int)] = 0 := checkV_one hv (by rw [hg.length]; exact hT)
  refine (refDist_l (hg.later hbA) (new_ints .i64 w 3 [(T : Int)] 1 rfl (by decide)).row).mono ?_
  rintro e w' ⟨⟨⟨ad, ld, cd, rfl, h1, -⟩, hD⟩, hb⟩
  exact ⟨ad, ld, cd, _, by rw [hc], h1, hD.out hc, hbA.trans (hb.mono hbA.size)⟩
theorem refNodes_two (hl : len ≤ 9223372036854775807) (x y : Int) (u : Bool) (hu : decide (NodesOk len [x, y]) = u) :
    Calls Try.prog 44 #[.slice a len cap, .slice (some ⟨w.heap.size, 0, none⟩) 2 2] (w.alloc (.cells #[.int .i64 x, .int .i64 y] 3)) fun e w' => e = .returned (.bool u) ∧ Below w.heap.size w w' := by
  have hbA : Below w.heap.size w (w.alloc (.cells #[.int .i64 x, .int .i64 y] 3)) := (Below.refl _ _).alloc (Nat.le_refl _) _
  refine (refNodes_any (new_ints .i64 w 3 [x, y] 2 rfl (by decide)).row hl).mono ?_
  rintro e w' ⟨rfl, rfl⟩
  exact ⟨by rw [hu], hbA⟩
/-- The search for the next node. -/
def NextAt (zs : List Int) (q : Nat) (l : List Int) (j : Nat) (r : Int) : Prop := (r = -1 ∧ ∀ k, k < j → nearP zs q (gi l k) = false) ∨ ∃ i, i < j ∧ 0 ≤ r ∧ r = gi l i ∧ nearP zs q (gi l i) = true ∧ ∀ k, k < i → nearP zs q (gi l k) = false
theorem NextAt.step_no {zs : List Int} {q j : Nat} {l : List Int} (h : NextAt zs q l j (-1)) (hp : nearP zs q (gi l j) = false) : NextAt zs q l (j + 1) (-1) := by
  rcases h with ⟨-, h⟩ | ⟨i, -, h, -⟩
  · refine .inl ⟨rfl, fun k hk => ?_⟩
    rcases Nat.lt_or_ge k j with h1 | h1
    · exact h k h1
    · rw [show k = j by omega]; exact hp
  · omega
theorem NextAt.step_yes {zs : List Int} {q j : Nat} {l : List Int} (h : NextAt zs q l j (-1)) (h0 : 0 ≤ gi l j) (hp : nearP zs q (gi l j) = true) : NextAt zs q l (j + 1) (gi l j) := by
  rcases h with ⟨-, h⟩ | ⟨i, -, h, -⟩
  · exact .inr ⟨j, Nat.lt_succ_self j, h0, rfl, hp, h⟩
  · omega
theorem NextAt.keep {zs : List Int} {q j : Nat} {l : List Int} {r : Int} (h : NextAt zs q l j r) (h0 : 0 ≤ r) : NextAt zs q l (j + 1) r := by
  rcases h with ⟨h, -⟩ | ⟨i, h1, h2⟩
  · omega
  · exact .inr ⟨i, by omega, h2⟩
theorem NextAt.fin {zs : List Int} {q u : Nat} {r : Int} (h : NextAt zs q (gr g u) (gr g u).length r) (hs : ∃ i, i < (gr g u).length ∧ nearP zs q (gi (gr g u) i) = true ∧ ∀ k, k < i → nearP zs q (gi (gr g u) k) = false) : r = ((nxt g zs q u : Nat) : Int) := by
  obtain ⟨i, hi, hp, hn⟩ := hs
  rcases h with ⟨-, h⟩ | ⟨j, h1, h2, h3, h4, h5⟩
  · rw [h i hi] at hp; cases hp
  · rw [nxt_first h1 h4 h5, ← h3]; omega

set_option maxRecDepth 20000 in
theorem refPath_ok {F T : Nat} (hg : IsRows w a len cap g) (hv : ValidG g) (hF : F < len) (hT : T < len) :
    Calls Try.prog 27 #[.slice a len cap, .int .i64 (F : Int), .int .i64 (T : Int)] w fun e w' => LRes (ptR g (F : Int) (T : Int)) (ptE g (F : Int) (T : Int)) e w' ∧ Below w.heap.size w w' := by
  have HL := Lib.hid hg.length
  have hN4 : len ≤ 400 := by rw [← HL.out]; exact hv.1
  have HV := Lib.hid hv
  have HC0 : Hid (checkV g [(F : Int), (T : Int)] = 0) := Lib.hid (checkV_two.2 ⟨hv, F, T, rfl, rfl, by rw [HL.out]; exact hF, by rw [HL.out]; exact hT⟩)
  have hbk0 := refBack_g hg
  rw [bkR_yes hv, bkE_yes hv] at hbk0
  have hno : decide (NodesOk len [(F : Int), (T : Int)]) = true := decide_eq_true (fun z hz => by
    rcases List.mem_cons.1 hz with rfl | hz
    · omega
    · rw [List.mem_singleton.1 hz]; omega)
  have HNO := Lib.hid hno
  clear hv hno
  go_enter Try.func27, Try.ntmps27
  go_wp2_with (fail)
  refine hbk0.mono ?_
  rintro e w1 ⟨⟨ao, lo, co, rfl, hbk, -⟩, hb1⟩
  have hlo : lo = len := by rw [← hbk.length, backG_length, HL.out]
  subst hlo
  have hg1 := hg.later hb1
  clear hbk0
  go_wp2_with (fail)
  refine (refNodes_two (by omega) _ _ true HNO.out).mono ?_
  rintro e w2 ⟨rfl, hb2⟩
  have hg2 := hg1.later hb2
  replace hbk := hbk.later hb2
  have hb02 := hb1.trans (hb2.mono hb1.size)
  clear hb1 hb2 hg1
  go_wp2_with (fail)
  refine (refDist_one hbk (backG_valid HV.out) hT).mono ?_
  rintro e w3 ⟨ad, ld, cd, zs, rfl, hz, hD, hb3⟩
  have hld : ld = lo := by rw [← hz.length, hD.1, backG_length, HL.out]
  subst hld
  have hg3 := hg2.later hb3
  have hb03 := hb02.trans (hb3.mono hb02.size)
  have HE : Hid (ToEnd g T zs ∧ dsR (backG g) [(T : Int)] = zs) := Lib.hid ⟨⟨HV.out, by rw [HL.out]; exact hT, hD⟩, dsR_is (backG_valid HV.out) (fun z hz => by rw [List.mem_singleton.1 hz, backG_length, HL.out]; omega) hD⟩
  have HPE : Hid (ptE g (F : Int) (T : Int) = if gi zs F < 0 then 8 else 0) := Lib.hid (by unfold ptE; rw [if_pos HC0.out, HE.out.2, show ((F : Int)).toNat = F by omega])
  have HPR : Hid (ptR g (F : Int) (T : Int) = if 0 ≤ gi zs F then (pth g zs (gi zs F).toNat F).map Int.ofNat else []) := Lib.hid (by
    unfold ptR
    rw [HE.out.2, show ((F : Int)).toNat = F by omega]
    by_cases h : 0 ≤ gi zs F
    · rw [if_pos ⟨HC0.out, h⟩, if_pos h]
    · rw [if_neg (fun h' => h h'.2), if_neg h])
  clear hb02 hb3 hD hbk hg2
  obtain ⟨bz, oz, rfl, hcf⟩ := hz.fix F hF
  obtain ⟨z, hzf⟩ : ∃ z, gi zs F = z := ⟨_, rfl⟩
  rw [hzf] at hcf HPE HPR
  have hzlo : -1 ≤ z ∧ z < (ld : Int) := by rw [← hzf, ← HL.out]; exact ⟨HE.out.1.lo (by rw [HL.out]; exact hF), HE.out.1.hi (by rw [HL.out]; exact hF)⟩
  have hc3 := hcf _ (Below.refl _ _)
  have HZF := Lib.hid hzf
  have HZ := Lib.hid hz
  clear hcf hzf hz
  by_cases h0 : z < 0
  · have d0 : decide (z < 0) = true := decide_eq_true h0
    have HR : Hid (ptR g (F : Int) (T : Int) = [] ∧ ptE g (F : Int) (T : Int) = 8) := Lib.hid ⟨by rw [HPR.out, if_neg (by omega)], by rw [HPE.out, if_pos h0]⟩
    clear h0 hzlo
    go_wp2
    go_ret2
    exact ⟨by rw [HR.out.1, HR.out.2]; exact ⟨_, _, _, rfl, isRow_nil _, by omega⟩, hb03⟩
  have d0 : decide (z < 0) = false := decide_eq_false h0
  obtain ⟨m, rfl⟩ := Int.eq_ofNat_of_zero_le (by omega : 0 ≤ z)
  have HP : Hid (OnPath g zs T (pth g zs m F) [] F m) := Lib.hid ⟨HE.out.1, by rw [HL.out]; exact hF, HZF.out, rfl⟩
  have HR : Hid (ptR g (F : Int) (T : Int) = (pth g zs m F).map Int.ofNat ∧ ptE g (F : Int) (T : Int) = 0) := Lib.hid ⟨by rw [HPR.out, if_pos (by omega), show ((m : Int)).toNat = m by omega], by rw [HPE.out, if_neg h0]⟩
  have HM : Hid (m < 400) := Lib.hid (by omega)
  have hlen : Hid ((pth g zs m F).length = m + 1) := Lib.hid (pth_length _ _ _ _)
  have HG3 : Hid (∀ W, Below w3.heap.size w3 W → IsRows W a ld cap g ∧ IsRow .i64 W (some ⟨bz, oz, none⟩) ld cd zs) := Lib.hid (fun W h => ⟨hg3.later h, HZ.out.later h⟩)
  have hb34 : Below w3.heap.size w3 (w3.alloc (.cells #[.int .i64 (F : Int)] 3)) := (Below.refl _ _).alloc (Nat.le_refl _) _
  have ho4 : (w3.alloc (.cells #[.int .i64 (F : Int)] 3)).ownsRow w3.heap.size 3 1 (.slice (some ⟨w3.heap.size, 0, none⟩) 1 1) 1 (ivs .i64 [(F : Int)]) := World.ownsRow_lit (size := 1) w3 #[.int .i64 (F : Int)] 1 (Nat.le_refl _) (by decide) rfl
  clear h0 hzlo HPR HPE HC0 hg
  go_wp2_with (fail)
  go_loopg [12, 13] m (fun q v s W => ∃ (o : List Nat) (u co : Nat) (ao : Option Addr), v = .slice ao (o.length + 1) co ∧ s = .int .i64 (u : Int) ∧ u < ld ∧ o.length + q ≤ 400 ∧ Hid (OnPath g zs T (pth g zs m F) o u q) ∧ W.ownsRow w3.heap.size 3 1 v (o.length + 1) (ivs .i64 (o.map Int.ofNat ++ [(u : Int)])) ∧ Below w3.heap.size w3 W)
  case atStart => exact ⟨[], F, 1, _, rfl, rfl, hF, by have := HM.out; simp; omega, HP, ho4, hb34⟩
  case round =>
    clear ho4 hb34 hc3 HP
    obtain ⟨o, u, co, ao', rfl, rfl, huk, hoq, HP, hW, hB⟩ := hrel
    have hcn := (HG3.out _ hB).2.get u huk
    rw [HP.out.2.2.1] at hcn
    cases gk with
    | zero =>
      obtain ⟨e1, e2⟩ := HP.out.stop
      have HPO := Lib.hid e2
      have hI := (IsInts.of_owns hW).1.row
      have hBF := hb03.trans (hB.mono hb03.size)
      clear e1 e2 hoq
      go_wp2
      go_ret2
      refine ⟨?_, hBF⟩
      rw [HR.out.1, HR.out.2, HPO.out, List.map_append]
      exact ⟨_, _, _, rfl, hI, by have h1 := hlen.out; have h2 := HM.out; rw [HPO.out, List.length_append, List.length_singleton] at h1; omega⟩
    | succ q =>
      have d1 : decide (0 < ((q + 1 : Nat) : Int)) = true := decide_eq_true (by omega)
      have d1' : decide (0 < (q : Int) + 1) = true := decide_eq_true (by omega)
      have HS := Lib.hid (HP.out.1.some HP.out.2.1 HP.out.2.2.1)
      have HN := HP.out.step
      have hxk := HN.2.1
      rw [HL.out] at hxk
      obtain ⟨x, hx⟩ : ∃ x, nxt g zs q u = x := ⟨_, rfl⟩
      rw [hx] at HN hxk
      have HNP := Lib.hid HN
      have HX := Lib.hid hx
      obtain ⟨b, off, au, lu, cu, rfl, hcell, hrow⟩ := hg3.fix u huk
      have hlu : lu ≤ 400 := by rw [← hrow.length]; exact row_len4 HV.out HP.out.2.1
      have HRL := Lib.hid hrow.length
      have hrng : ∀ k, k < lu → ∃ y : Nat, gi (gr g u) k = (y : Int) ∧ y < ld := fun k hk => by
        have h := (HV.out.2 _ (gr_mem HP.out.2.1)).2 _ (gi_mem (gr g u) k (by rw [HRL.out]; exact hk))
        rw [HL.out] at h
        exact ⟨(gi (gr g u) k).toNat, by omega, by omega⟩
      have HRG := Lib.hid hrng
      have HF : Hid (∀ W, Below w3.heap.size w3 W → W.cell? ⟨b, off + u, none⟩ = some (.slice au lu cu) ∧ W.cell? ⟨bz, oz + u, none⟩ = some (.int .i64 ((q : Int) + 1)) ∧ IsRow .i64 W au lu cu (gr g u) ∧ IsRow .i64 W (some ⟨bz, oz, none⟩) ld cd zs) := Lib.hid (fun W h => by
        obtain ⟨h1, h2⟩ := HG3.out W h
        refine ⟨hcell W h, ?_, hrow.later h, h2⟩
        have h3 := h2.get u huk
        rwa [HP.out.2.2.1] at h3)
      have HQ : Hid (o.length + 1 + q ≤ 400) := Lib.hid (by omega)
      have hqb : q ≤ 400 := by omega
      clear hcell hrow hx hrng HN hoq
      go_wp2_with (fail)
      clear hcn
      go_loopw [14, 15] (fun r c W => ∃ (j : Nat) (z : Int), j ≤ lu ∧ c = .int .i64 (j : Int) ∧ r = .int .i64 z ∧ Hid (NextAt zs q (gr g u) j z) ∧ W.ownsRow w3.heap.size 3 1 (.slice ao' (o.length + 1) co) (o.length + 1) (ivs .i64 (o.map Int.ofNat ++ [(u : Int)])) ∧ Below w3.heap.size w3 W) (fun _ c _ => lu - (intOf c).toNat)
      case atStart => exact ⟨0, -1, Nat.zero_le _, rfl, rfl, Lib.hid (.inl ⟨rfl, fun k hk => absurd hk (Nat.not_lt_zero _)⟩), hW, hB⟩
      case round =>
        clear hW hB
        obtain ⟨j, z, hj, rfl, rfl, HZN, hW, hB⟩ := hrel
        obtain ⟨f1, f2, f3, f4⟩ := HF.out _ hB
        rcases Nat.lt_or_ge j lu with hjl | hjg
        · have t1 : decide ((j : Int) < lu) = true := decide_eq_true (by omega)
          by_cases hz0 : z < 0
          · have hz1 : z = -1 := by
              rcases HZN.out with ⟨h, -⟩ | ⟨_, _, h, _⟩
              · exact h
              · omega
            subst hz1
            have d2 : decide ((-1 : Int) < 0) = true := by decide
            obtain ⟨y, hy, hyk⟩ := HRG.out j hjl
            obtain ⟨br, orr, rfl, hcx⟩ := f3.fix j hjl
            rw [hy] at hcx
            have hcy := f4.get y hyk
            obtain ⟨zy, hzy⟩ : ∃ zy, gi zs y = zy := ⟨_, rfl⟩
            rw [hzy] at hcy
            have hnp : nearP zs q (gi (gr g u) j) = decide (zy = (q : Int)) := by unfold nearP; rw [hy, show ((y : Int)).toNat = y by omega, hzy]
            have HF2 : Hid (∀ W, Below wr.heap.size wr W → W.cell? ⟨b, off + u, none⟩ = some (.slice (some ⟨br, orr, none⟩) lu cu) ∧ W.cell? ⟨bz, oz + u, none⟩ = some (.int .i64 ((q : Int) + 1)) ∧ W.cell? ⟨br, orr + j, none⟩ = some (.int .i64 (y : Int)) ∧ W.cell? ⟨bz, oz + y, none⟩ = some (.int .i64 zy)) := Lib.hid (fun W h => ⟨(h.cell (p := ⟨b, off + u, none⟩) (lt_of_cell f1)).trans f1, (h.cell (p := ⟨bz, oz + u, none⟩) (lt_of_cell f2)).trans f2, hcx W h, (h.cell (p := ⟨bz, oz + y, none⟩) (lt_of_cell hcy)).trans hcy⟩)
            clear f2 f3 f4 hcx hcy
            by_cases h1 : zy = (q : Int)
            · have d3 : (zy == (q : Int)) = true := by simpa using h1
              have HZ2 : Hid (NextAt zs q (gr g u) (j + 1) (y : Int)) := Lib.hid (by
                have := HZN.out.step_yes (by rw [hy]; omega) (by rw [hnp]; exact decide_eq_true h1)
                rwa [hy] at this)
              clear h1 hnp hzy hy
              go_wp2_with (fail)
              obtain ⟨q1, q2, q3, q4⟩ := HF2.out wr (Below.refl _ _)
              go_quiet (fail)
              have hbn := below_drewN wr nq
              obtain ⟨p1, -, p3, -⟩ := HF2.out _ hbn
              go_wp2
              go_roundw
              case rel => exact ⟨j + 1, (y : Int), hjl, by go_num, rfl, HZ2, hW.kept_below hbn, hB.trans (hbn.mono hB.size)⟩
              case measure => simp [intOf]; omega
            · have d3 : (zy == (q : Int)) = false := by simpa using h1
              have HZ2 : Hid (NextAt zs q (gr g u) (j + 1) (-1)) := Lib.hid (HZN.out.step_no (by rw [hnp]; exact decide_eq_false h1))
              clear h1 hnp hzy hy
              go_wp2_with (fail)
              obtain ⟨q1, q2, q3, q4⟩ := HF2.out wr (Below.refl _ _)
              go_quiet (fail)
              have hbn := below_drewN wr nq
              go_wp2
              go_roundw
              case rel => exact ⟨j + 1, -1, hjl, by go_num, rfl, HZ2, hW.kept_below hbn, hB.trans (hbn.mono hB.size)⟩
              case measure => simp [intOf]; omega
          · have d2 : decide (z < 0) = false := decide_eq_false hz0
            have HZ2 : Hid (NextAt zs q (gr g u) (j + 1) z) := Lib.hid (HZN.out.keep (by omega))
            clear hz0 f2 f3 f4
            go_wp2_with (fail)
            go_quiet (fail)
            have hbn := below_drewN wr nq
            go_wp2
            go_roundw
            case rel => exact ⟨j + 1, z, hjl, by go_num, rfl, HZ2, hW.kept_below hbn, hB.trans (hbn.mono hB.size)⟩
            case measure => simp [intOf]; omega
        · obtain rfl : j = lu := by omega
          have t1 : decide ((j : Int) < j) = false := decide_eq_false (by omega)
          have hfin : z = (x : Int) := by
            rw [← HX.out]
            exact NextAt.fin (by rw [HRL.out]; exact HZN.out) HS.out
          subst hfin
          have hsW := hB.size
          clear f2 f3 f4
          go_wp2_with (at_builtin; refine app_one (k := .i64) elI64 rfl _ _ rfl rfl hW rfl (by have := HQ.out; omega) hsW ?_; intro a6 c6 w6 ho6 hb6)
          go_roundg q
          case rel => exact ⟨o ++ [u], x, c6, a6, by rw [List.length_append]; rfl, rfl, hxk, by rw [List.length_append]; exact HQ.out, HNP.out, by rw [List.length_append, List.map_append]; exact ho6, hB.trans hb6⟩
          case measure => exact Nat.lt_succ_self q

theorem refPath_bad {x y : Int} (hg : IsRows w a len cap g) (h0 : checkV g [x, y] ≠ 0) :
    Calls Try.prog 27 #[.slice a len cap, .int .i64 x, .int .i64 y] w fun e w' => LRes (ptR g x y) (ptE g x y) e w' ∧ Below w.heap.size w w' := by
  have hck := refBack_g hg
  have hlc := hg.cap
  unfold maxLen at hlc
  have HR : Hid (ptR g x y = [] ∧ ptE g x y = checkV g [x, y]) := Lib.hid ⟨by unfold ptR; rw [if_neg (fun h => h0 h.1)], by unfold ptE; rw [if_neg h0]⟩
  by_cases hv : ValidG g
  · rw [bkR_yes hv, bkE_yes hv] at hck
    have hN4 : len ≤ 400 := by rw [← hg.length]; exact hv.1
    have hno : decide (NodesOk len [x, y]) = false := decide_eq_false (fun h => h0 (checkV_zero.2 ⟨hv, by rw [hg.length]; exact h⟩))
    have HC : Hid (checkV g [x, y] = 2) := Lib.hid (by
      unfold checkV
      rw [if_pos hv, if_neg]
      rw [hg.length]
      exact of_decide_eq_false hno)
    have HNO := Lib.hid hno
    clear h0 hv hno
    go_enter Try.func27, Try.ntmps27
    go_wp2_with (fail)
    refine hck.mono ?_
    rintro e w1 ⟨⟨ao, lo, co, rfl, -, -⟩, hb1⟩
    clear hck
    go_wp2_with (fail)
    refine (refNodes_two (by omega) _ _ false HNO.out).mono ?_
    rintro e w2 ⟨rfl, hb2⟩
    have hb := hb1.trans (hb2.mono hb1.size)
    go_wp2
    go_ret2
    exact ⟨by rw [HR.out.1, HR.out.2, HC.out]; exact ⟨_, _, _, rfl, isRow_nil _, by omega⟩, hb⟩
  · have hE : bkE g = 1 := by unfold bkE; rw [validGB_no hv]; rfl
    rw [hE] at hck
    have HC : Hid (checkV g [x, y] = 1) := Lib.hid (by unfold checkV; rw [if_neg hv])
    clear h0 hv hE
    go_enter Try.func27, Try.ntmps27
    go_wp2_with (fail)
    refine hck.mono ?_
    rintro e w1 ⟨⟨ao, lo, co, rfl, -, -⟩, hb1⟩
    clear hck
    go_wp2
    go_ret2
    exact ⟨by rw [HR.out.1, HR.out.2, HC.out]; exact ⟨_, _, _, rfl, isRow_nil _, by omega⟩, hb1⟩

theorem refPath_l {x y : Int} (hg : IsRows w a len cap g) :
    Calls Try.prog 27 #[.slice a len cap, .int .i64 x, .int .i64 y] w fun e w' => LRes (ptR g x y) (ptE g x y) e w' ∧ Below w.heap.size w w' := by
  by_cases h0 : checkV g [x, y] = 0
  · obtain ⟨hv, F, T, rfl, rfl, hF, hT⟩ := checkV_two.1 h0
    exact refPath_ok hg hv (by rw [← hg.length]; exact hF) (by rw [← hg.length]; exact hT)
  · exact refPath_bad hg h0
end Go.Proofs.Ytlogmgkjikamaaa
