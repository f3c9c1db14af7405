import Derived.Deep.DeepCutAuto
import Derived.Test.YtpcbmhfnefhenaaMG36
/-
  DfaNu, DfaRc
-/
set_option linter.unusedSimpArgs false
set_option linter.unusedVariables false
namespace Go.Proofs.Ytpcbmhfnefhenaa
open List (foldr_cons foldr_nil setIfInBounds_toArray set_cons_succ set_cons_zero)
open Go.RowKit
attribute [local go_sem] Oper.semAt_some

variable {d : Dfa} {h : DH} {w : World}
def numPs (bo : Nat) (Q : List Int) (A : List A3) (fs : List Bool) (vq vfb vf vab va : Value) : List Pc :=
 [.row 3 1 vq Q.length (ivs .i64 Q), .blk bo #[.int .i64 0, .int .i64 0, vfb, vab], .row 4 1 vf fs.length (bvs fs), .row 66 3 va A.length (tvs A)]
theorem numPs_start {W : World} {B : Nat} (hB : B = W.heap.size) (S : Int) (T : TypeId) : Pcs ((W.alloc (.cells #[.int .i64 S] 3)).alloc (.cells #[.int .i64 0, .int .i64 0, .slice none 0 0, .slice none 0 0] T)) B (numPs (B + 1) [S] [] [] (.slice (some ⟨B, 0, none⟩) 1 1) (.slice none 0 0) (.slice none 0 0) (.slice none 0 0) (.slice none 0 0)) := by
 subst hB
 have hl := World.ownsRow_lit (base := W.heap.size) (e := 3) (size := 1) W #[.int .i64 S] 1 (Nat.le_refl _) (by unfold maxLen; omega) rfl
 have h1 := (Pcs.one (p := .row 3 1 (.slice (some ⟨W.heap.size, 0, none⟩) 1 1) 1 (ivs .i64 [S])) hl).new (by simp) #[.int .i64 0, .int .i64 0, .slice none 0 0, .slice none 0 0] T
 rw [World.size_alloc] at h1
 exact (h1.empty 4 1).empty 66 3
theorem elRB : Elem Try.prog 23 66 (.agg #[.int .i64 0, .int .i64 0, .int .i64 0]) 3 24 := ⟨Try.underlying23, by kernel_rfl, rfl, by decide⟩
def OwnA (B : Nat) (es : List A3) : Value → World → Prop := fun v W => ∃ a c, v = .slice a es.length c ∧ W.ownsRow B 66 3 (.slice a es.length c) es.length (tvs es)
theorem stays_ownA (B : Nat) (es : List A3) : Stays (OwnA B es) := fun v W W' hb ⟨a, c, e, h⟩ => ⟨a, c, e, h.kept_below hb⟩
set_option maxRecDepth 20000 in
set_option maxHeartbeats 8000000 in
theorem refNumber_any (hv : ValidD d) (hd : IsDfa w h d) {ak : Option Addr} {lk ck : Nat} {ks : List Int} (hk : IsInts .i64 w ak lk ck ks) (hkl : lk ≤ 1000000) {keep : List Bool} (hm : ∀ T : Nat, (T : Int) < d.n → decide ((T : Int) ∈ ks) = gb keep T) :
  Calls Try.prog 39 #[vDf d h, .slice ak lk ck] w (GivesD (numD d keep) w) := by
 obtain ⟨hs0, hsn⟩ := hv.2.1
 have hn := hv.1
 have HV := Lib.hid hv
 have HD := Lib.hid hd
 obtain ⟨W1, hW1, hs1, hb1, hO⟩ := boxRW d h w hd
 obtain ⟨W2, hW2, hb2, hs2, hZ2⟩ := rbox_ready hs1
 obtain ⟨n, s, fin, es⟩ := d
 obtain ⟨fa, fl, fc, aa, al, ac⟩ := h
 simp only [vDf] at hW1 hs1 hb1 hO hs0 hsn hn hkl HV HD hm ⊢
 obtain ⟨s0, rfl⟩ := Int.eq_ofNat_of_zero_le hs0
 obtain ⟨N, rfl⟩ := Int.eq_ofNat_of_zero_le (show 0 ≤ n by omega)
 have hO2 : ∀ W, Below (w.heap.size + 2) W2 W → (W.cell? ⟨w.heap.size, 0, none⟩ = some (.int .i64 (N : Int)) ∧ W.cell? ⟨w.heap.size, 1, none⟩ = some (.int .i64 (s0 : Int)) ∧ W.cell? ⟨w.heap.size, 2, none⟩ = some (.slice fa fl fc) ∧ W.cell? ⟨w.heap.size, 3, none⟩ = some (.slice aa al ac)) ∧ IsDfa W ⟨fa, fl, fc, aa, al, ac⟩ ⟨N, s0, fin, es⟩ ∧ Below w.heap.size w W ∧ W.heap[w.heap.size + 1]? = some (.cells #[.int .i64 0, .int .i64 0, .slice none 0 0, .slice none 0 0] 25 (0, 0)) := fun W hb => by
  have h1 := hO W ((hb2.mono (by omega)).trans (hb.mono (by omega)))
  exact ⟨h1.1, h1.2.1, h1.2.2, by rw [hb.block _ (by omega)]; exact hZ2⟩
 obtain ⟨⟨c1, c2, c3, c4⟩, -, hbW, -⟩ := hO2 W2 (Below.refl _ _)
 have HO2 := Lib.hid hO2
 have HKS := Lib.hid hk
 have HM := Lib.hid hm
 have HS2 := Lib.hid hs2
 have hNN : Hid (N ≤ 1000) := Lib.hid (by omega)
 clear hO hO2 hk hm hv hd hb1 hb2 hZ2 hbW
 go_enter Try.func39, Try.ntmps39
 go_wp2_with (fail)
 have hX := numPs_start HS2.out.symm (s0 : Int) 25
 obtain ⟨X, hXe⟩ : ∃ X, ((W2.alloc (.cells #[.int .i64 (s0 : Int)] 3)).alloc (.cells #[.int .i64 0, .int .i64 0, .slice none 0 0, .slice none 0 0] 25)) = X := ⟨_, rfl⟩
 have hbX : Below (w.heap.size + 2) W2 X := by
  rw [← hXe, ← HS2.out]
  exact ((Below.refl _ _).alloc (Nat.le_refl _) _).alloc (by simp) _
 have hsX : w.heap.size + 3 ≤ X.heap.size := by rw [← hXe]; simp; have := HS2.out; omega
 rw [hXe] at hX ⊢
 clear hXe c1 c2 c3 c4 hW1 hW2 hs1 hs2

 obtain ⟨BQ, hBQ⟩ : ∃ BQ, BQ = bq (oD ⟨N, s0, fin, es⟩ keep) (s0 : Int) := ⟨_, rfl⟩
 have HB0 : Hid (BQ 0 = ⟨[(s0 : Int)], [[]], []⟩) := Lib.hid (by rw [hBQ]; rfl)
 have HLEN : Hid (∀ k, (BQ k).q.length ≤ N) := Lib.hid (fun k => by have := bqD_len HV.out keep k; rw [← hBQ] at this; simpa using this)
 have HIN : Hid (∀ k y, y ∈ (BQ k).q → 0 ≤ y ∧ y < (N : Int)) := Lib.hid (fun k y hy => by rw [hBQ] at hy; exact bqD_in HV.out keep k y hy)
 have HAL : Hid (∀ k, (BQ k).a.length ≤ k * 20000) := Lib.hid (fun k => by rw [hBQ]; exact bqD_alen (d := ⟨N, s0, fin, es⟩) HV.out.2.2.2.1 keep k)
 have HST : Hid (∀ k, k < (BQ k).q.length → BQ (k + 1) = bqs k (BQ k) (kd keep (outsD es (gi (BQ k).q k)))) := Lib.hid (fun k hk => by
  rw [hBQ] at hk ⊢
  rw [gi_eq _ _ hk]
  exact bqh_at hk)
 have HFI : Hid (∀ k, (BQ k).q.length ≤ k → numD ⟨N, s0, fin, es⟩ keep = resB (BQ k) fin) := Lib.hid (fun k hk => by
  rw [hBQ] at hk ⊢
  unfold numD
  rw [bqD_fin HV.out keep hk])
 have HND : Hid (∀ k, (BQ k).q.Nodup) := Lib.hid (fun k => by rw [hBQ]; exact bq_nodup _ _ k)
 clear hBQ
 go_loopw [5, 7] (fun vq c W => ∃ (k : Nat) (aq : Option Addr) (cq : Nat) (af : Option Addr) (cf : Nat) (va : Option Addr) (ca : Nat), k ≤ (BQ k).q.length ∧ c = .int .i64 (k : Int) ∧ vq = .slice aq (BQ k).q.length cq ∧ Pcs W (w.heap.size + 2) (numPs (w.heap.size + 2 + 1) (BQ k).q (BQ k).a (((BQ k).q.take k).map fun q => gb fin q.toNat) (.slice aq (BQ k).q.length cq) (.slice af k cf) (.slice af k cf) (.slice va (BQ k).a.length ca) (.slice va (BQ k).a.length ca)) ∧ Below (w.heap.size + 2) W2 W ∧ w.heap.size + 3 ≤ W.heap.size) (fun _ c _ => N - (intOf c).toNat)
 case atStart =>
  refine ⟨0, some ⟨w.heap.size + 2, 0, none⟩, 1, none, 0, none, 0, Nat.zero_le _, rfl, by rw [HB0.out]; rfl, ?_, hbX, hsX⟩
  rw [HB0.out]
  exact hX
 case round =>
  clear hX hbX hsX
  obtain ⟨k, aq, cq, af, cf, va, ca, hk, rfl, rfl, hP, hb, hsz⟩ := hrel
  have hkN := HLEN.out k
  obtain ⟨⟨c1, c2, c3, c4⟩, hdw, hbW, hZ⟩ := HO2.out wr hb
  rcases Nat.lt_or_ge k (BQ k).q.length with hlt | hge
  ·have t1 : decide (k < (BQ k).q.length) = true := decide_eq_true hlt
   obtain ⟨Y, hY⟩ : ∃ Y, gi (BQ k).q k = Y := ⟨_, rfl⟩
   have hYin := HIN.out k Y (by rw [← hY]; exact gi_mem _ _ hlt)
   obtain ⟨Y, rfl⟩ := Int.eq_ofNat_of_zero_le hYin.1
   obtain ⟨gq, rfl, -, -⟩ := owns_at (hP.row 0 rfl) (by omega)
   have hffl := HD.out.fin.length
   have hvf := HV.out.2.2.1
   simp only at hffl hvf
   obtain ⟨bf, of, rfl, hfc⟩ := HD.out.fin.fix (by simp only; omega)
   have HFC := Lib.hid hfc
   have hYl : Y < fl := by omega
   obtain ⟨fs, hfs⟩ : ∃ fs, ((BQ k).q.take k).map (fun q => gb fin q.toNat) = fs := ⟨_, rfl⟩
   have hfl : fs.length = k := by rw [← hfs, List.length_map, List.length_take]; omega
   rw [hfs] at hP
   have HFS := Lib.hid hfs
   have HFL := Lib.hid hfl
   have HYY := Lib.hid hY
   have HLT := Lib.hid hlt
   have HP0 := Lib.hid hP
   have HBB := Lib.hid hb
   have hYn : Y < N := by omega
   clear hfs hfl hY hfc hP hb hvf hffl hYin hdw hbW hZ c1 c2 c3 c4 hk
   go_wp2_with (fail)
   obtain ⟨S, hSd⟩ : ∃ S : (Nat → Bool) → (Nat → Value) → World → Prop, S = fun L f W => Below (w.heap.size + 2) W2 W ∧ w.heap.size + 3 ≤ W.heap.size ∧ (L 10 = true → L 11 = false → ∃ q, f 10 = .slice (some ⟨q, 0, none⟩) 1 1 ∧ BlkAt W q #[.bool (gb fin Y)]) ∧ Pcs W (w.heap.size + 2) (numPs (w.heap.size + 2 + 1) (BQ k).q (BQ k).a (if L 11 = true then fs ++ [gb fin Y] else fs) (.slice (some ⟨gq, 0, none⟩) (BQ k).q.length cq) (if L 13 = true then f 11 else .slice af k cf) (if L 11 = true then f 11 else .slice af k cf) (.slice va (BQ k).a.length ca) (.slice va (BQ k).a.length ca)) := ⟨_, rfl⟩
   refine wp_region_st mixed (by kernel_rfl) [[], [(0, 21)], [], [(2, 23)], [], [], [(4, 25), (5, 26)], [(6, 27)], [(3, 24), (7, 28)], [(8, 29)], [(9, 30)], [(1, 22), (10, 31)], [(0, 21), (1, 22), (2, 23), (3, 24), (4, 25), (5, 26), (6, 27), (7, 28), (8, 29), (9, 30), (10, 31), (11, 32)], [(12, 33), (11, 32), (11, 32), (0, 21), (1, 22), (2, 23), (3, 24), (4, 25), (5, 26), (6, 27), (7, 28), (8, 29), (9, 30), (10, 31), (11, 32)]] [(0, 21), (1, 22), (2, 23), (3, 24), (4, 25), (5, 26), (6, 27), (7, 28), (8, 29), (9, 30), (10, 31), (11, 32), (12, 33)] rfl rfl [EV ?e0, EV ?e1, EV ?e2, EV ?e3, EV ?e4, EV ?e5, EV ?e6, EV ?e7, EV ?e8, EV ?e9, fun v => ∃ b, v = .slice (some ⟨b, 0, none⟩) 1 1, fun v => ∃ a c, v = .slice a (k + 1) c, EV ?e12, fun _ => True] S ?start ?steps ?rest
   case start =>
    intro f
    rw [hSd]
    exact ⟨HBB.out.drew, hsz, fun h => (by cases h), HP0.out.quiet (below_grows ((Below.refl _ _).drew) none)⟩
   case steps =>
    refine ⟨fun L f W hi hd hdn hh hS => ?_, fun L f W hi hd hdn hh hS => ?_, fun L f W hi hd hdn hh hS => ?_, fun L f W hi hd hdn hh hS => ?_, fun L f W hi hd hdn hh hS => ?_, fun L f W hi hd hdn hh hS => ?_, fun L f W hi hd hdn hh hS => ?_, fun L f W hi hd hdn hh hS => ?_, fun L f W hi hd hdn hh hS => ?_, fun L f W hi hd hdn hh hS => ?_, fun L f W hi hd hdn hh hS => ?_, fun L f W hi hd hdn hh hS => ?_, fun L f W hi hd hdn hh hS => ?_, fun L f W hi hd hdn hh hS => ?_, trivial⟩
    ·
     unfold stStep
     rw [if_pos (by simp [Region.wanted])]
     intro K Q hK
     simp only [puts, foldr_nil]
     go_step
     refine st_ex hK rfl rfl (by simp only [Act.put, setIfInBounds_toArray, set_cons_succ, set_cons_zero, Array.getD_eq_getD_getElem?, List.getElem?_toArray, List.getElem?_cons_succ, List.getElem?_cons_zero, Option.getD_some] <;> rfl) rfl (by rw [hSd] at hS ⊢; exact hS)
    ·
     obtain ⟨h0, -⟩ := hh
     have g0 : f 0 = _ := h0
     have l11 : L 11 = false := Bool.eq_false_iff.2 fun h => by have q := hdn 11 _ h rfl 1 (by decide); rw [show L 1 = false from hi] at q; cases q
     have l13 : L 13 = false := Bool.eq_false_iff.2 fun h => by have q := hdn 13 _ h rfl 11 (by decide); rw [show L 11 = false from l11] at q; cases q
     unfold stStep
     rw [if_pos (by simp [Region.wanted])]
     intro K Q hK
     simp only [puts, Za, Zb, Zc, Zd, Ze, g0]
     have hS' := hS
     rw [hSd] at hS'
     simp only [l11, l13, if_false, Bool.false_eq_true] at hS'
     have x1 : W.cell? ⟨w.heap.size + 2 + 1, 2, none⟩ = some (.slice af k cf) := ((hS'.2.2.2.blk 1 rfl).2.cell 2).1
     go_step
     refine st_ex hK rfl rfl (by simp only [Act.put, setIfInBounds_toArray, set_cons_succ, set_cons_zero, Array.getD_eq_getD_getElem?, List.getElem?_toArray, List.getElem?_cons_succ, List.getElem?_cons_zero, Option.getD_some] <;> rfl) rfl (by rw [hSd] at hS ⊢; exact hS)
    ·
     unfold stStep
     rw [if_pos (by simp [Region.wanted])]
     intro K Q hK
     simp only [puts, foldr_nil]
     go_step
     refine st_ex hK rfl rfl (by simp only [Act.put, setIfInBounds_toArray, set_cons_succ, set_cons_zero, Array.getD_eq_getD_getElem?, List.getElem?_toArray, List.getElem?_cons_succ, List.getElem?_cons_zero, Option.getD_some] <;> rfl) rfl (by rw [hSd] at hS ⊢; exact hS)
    ·
     obtain ⟨h2, -⟩ := hh
     have g2 : f 2 = _ := h2
     unfold stStep
     rw [if_pos (by simp [Region.wanted])]
     intro K Q hK
     simp only [puts, Za, Zb, Zc, Zd, Ze, g2]
     have hS' := hS
     rw [hSd] at hS'
     have x3 := (HO2.out W hS'.1).1.2.2.1
     go_step
     refine st_ex hK rfl rfl (by simp only [Act.put, setIfInBounds_toArray, set_cons_succ, set_cons_zero, Array.getD_eq_getD_getElem?, List.getElem?_toArray, List.getElem?_cons_succ, List.getElem?_cons_zero, Option.getD_some] <;> rfl) rfl (by rw [hSd] at hS ⊢; exact hS)
    ·
     unfold stStep
     rw [if_pos (by simp [Region.wanted])]
     intro K Q hK
     simp only [puts, foldr_nil]
     go_step
     refine st_ex hK rfl rfl (by simp only [Act.put, setIfInBounds_toArray, set_cons_succ, set_cons_zero, Array.getD_eq_getD_getElem?, List.getElem?_toArray, List.getElem?_cons_succ, List.getElem?_cons_zero, Option.getD_some] <;> rfl) rfl (by rw [hSd] at hS ⊢; exact hS)
    ·
     unfold stStep
     rw [if_pos (by simp [Region.wanted])]
     intro K Q hK
     simp only [puts, foldr_nil]
     go_step
     refine st_ex hK rfl rfl (by simp only [Act.put, setIfInBounds_toArray, set_cons_succ, set_cons_zero, Array.getD_eq_getD_getElem?, List.getElem?_toArray, List.getElem?_cons_succ, List.getElem?_cons_zero, Option.getD_some] <;> rfl) rfl (by rw [hSd] at hS ⊢; exact hS)
    ·
     obtain ⟨h4, h5, -⟩ := hh
     have g4 : f 4 = _ := h4
     have g5 : f 5 = _ := h5
     unfold stStep
     rw [if_pos (by simp [Region.wanted])]
     intro K Q hK
     simp only [puts, Za, Zb, Zc, Zd, Ze, g4, g5]
     go_step
     refine st_ex hK rfl rfl (by simp only [Act.put, setIfInBounds_toArray, set_cons_succ, set_cons_zero, Array.getD_eq_getD_getElem?, List.getElem?_toArray, List.getElem?_cons_succ, List.getElem?_cons_zero, Option.getD_some] <;> rfl) rfl (by rw [hSd] at hS ⊢; exact hS)
    ·
     obtain ⟨h6, -⟩ := hh
     have g6 : f 6 = _ := h6
     unfold stStep
     rw [if_pos (by simp [Region.wanted])]
     intro K Q hK
     simp only [puts, Za, Zb, Zc, Zd, Ze, g6]
     have hS' := hS
     rw [hSd] at hS'
     have x7 := (own_cell (hS'.2.2.2.row 0 rfl) k HLT.out rfl).1
     rw [HYY.out] at x7
     go_step
     refine st_ex hK rfl rfl (by simp only [Act.put, setIfInBounds_toArray, set_cons_succ, set_cons_zero, Array.getD_eq_getD_getElem?, List.getElem?_toArray, List.getElem?_cons_succ, List.getElem?_cons_zero, Option.getD_some] <;> rfl) rfl (by rw [hSd] at hS ⊢; exact hS)
    ·
     obtain ⟨h3, h7, -⟩ := hh
     have g3 : f 3 = _ := h3
     have g7 : f 7 = _ := h7
     unfold stStep
     rw [if_pos (by simp [Region.wanted])]
     intro K Q hK
     simp only [puts, Za, Zb, Zc, Zd, Ze, g3, g7]
     go_step
     refine st_ex hK rfl rfl (by simp only [Act.put, setIfInBounds_toArray, set_cons_succ, set_cons_zero, Array.getD_eq_getD_getElem?, List.getElem?_toArray, List.getElem?_cons_succ, List.getElem?_cons_zero, Option.getD_some] <;> rfl) rfl (by rw [hSd] at hS ⊢; exact hS)
    ·
     obtain ⟨h8, -⟩ := hh
     have g8 : f 8 = _ := h8
     unfold stStep
     rw [if_pos (by simp [Region.wanted])]
     intro K Q hK
     simp only [puts, Za, Zb, Zc, Zd, Ze, g8]
     have hS' := hS
     rw [hSd] at hS'
     have x9 := HFC.out W (HO2.out W hS'.1).2.2.1 Y hYl
     go_step
     refine st_ex hK rfl rfl (by simp only [Act.put, setIfInBounds_toArray, set_cons_succ, set_cons_zero, Array.getD_eq_getD_getElem?, List.getElem?_toArray, List.getElem?_cons_succ, List.getElem?_cons_zero, Option.getD_some] <;> rfl) rfl (by rw [hSd] at hS ⊢; exact hS)
    ·
     obtain ⟨h9, -⟩ := hh
     have g9 : f 9 = _ := h9
     have l11 : L 11 = false := Bool.eq_false_iff.2 fun h => by have q := hdn 11 _ h rfl 10 (by decide); rw [show L 10 = false from hi] at q; cases q
     have l13 : L 13 = false := Bool.eq_false_iff.2 fun h => by have q := hdn 13 _ h rfl 11 (by decide); rw [show L 11 = false from l11] at q; cases q
     unfold stStep
     rw [if_pos (by simp [Region.wanted])]
     intro K Q hK
     simp only [puts, Za, Zb, Zc, Zd, Ze, g9]
     rw [hSd] at hS hK
     have l10 : L 10 = false := hi
     try simp only [stage, l11, l13, l10, if_true, if_false, Bool.false_eq_true] at hS
     obtain ⟨hbW, hzW, -, hPW⟩ := hS
     have hal : Below W.heap.size W (W.alloc (.cells #[.bool (gb fin Y)] 4)) := (Below.refl _ _).alloc (Nat.le_refl _) _
     go_step
     refine hK.out _ _ rfl ⟨_, rfl⟩ ?_
     refine ⟨hbW.alloc (by omega) _, by simp; omega, fun _ _ => ⟨_, rfl, BlkAt.new W _ _⟩, ?_⟩
     simp only [l11, l13, Bool.false_eq_true, ↓reduceIte, Nat.reduceEqDiff] at hPW ⊢
     exact hPW.quiet (below_grows hal none)
    ·
     obtain ⟨h1, h10, -⟩ := hh
     have g1 : f 1 = _ := h1
     obtain ⟨b10, (g10 : f 10 = _)⟩ := h10
     have l10 : L 10 = true := hd 10 (by decide)
     have l13 : L 13 = false := Bool.eq_false_iff.2 fun h => by have q := hdn 13 _ h rfl 11 (by decide); rw [show L 11 = false from hi] at q; cases q
     unfold stStep
     rw [if_pos (by simp [Region.wanted])]
     intro K Q hK
     simp only [puts, Za, Zb, Zc, Zd, Ze, g1, g10]
     rw [hSd] at hS hK
     have l11 : L 11 = false := hi
     try simp only [stage, l13, l11, l10, if_true, if_false, Bool.false_eq_true] at hS
     obtain ⟨hbW, hzW, h10, hPW⟩ := hS
     obtain ⟨q, e10, hq⟩ := h10 trivial trivial
     rw [g10] at e10
     obtain rfl : b10 = q := by simpa using e10
     try simp only [l11, l13, if_false, Bool.false_eq_true] at hPW
     refine wp_app_pcs elB _ _ rfl 2 (v := .slice af k cf) (n := fs.length) rfl hPW rfl (news := [.bool (gb fin Y)]) rfl ⟨rfl, fun ad e j u hj => by injection e with e; subst e; rw [addr_add, Nat.zero_add, (hq.cell j).1, ← hj]; simp, fun e => by cases e⟩ (by intro u hu; rw [List.mem_singleton.1 hu]; rfl) (by have := HFL.out; have := hNN.out; omega) (by omega) ?_
     intro a' c' w' hp' hbw
     rw [HFL.out] at hp' ⊢
     refine hK.out _ _ rfl ⟨a', c', rfl⟩ ?_
     refine ⟨hbW.trans hbw, Nat.le_trans hzW hbw.size, fun _ h => (by simp at h), ?_⟩
     simp only [l13, Bool.false_eq_true, ↓reduceIte, Nat.reduceEqDiff]
     have e1 : (fs ++ [gb fin Y]).length = k + 1 := by rw [List.length_append, HFL.out]; rfl
     have e2 : bvs (fs ++ [gb fin Y]) = bvs fs ++ [.bool (gb fin Y)] := by simp [bvs]
     unfold numPs
     rw [e1, e2]
     exact hp'
    ·
     obtain ⟨h0, h1, h2, h3, h4, h5, h6, h7, h8, h9, h10, h11, -⟩ := hh
     have g0 : f 0 = _ := h0
     have g1 : f 1 = _ := h1
     have g2 : f 2 = _ := h2
     have g3 : f 3 = _ := h3
     have g4 : f 4 = _ := h4
     have g5 : f 5 = _ := h5
     have g6 : f 6 = _ := h6
     have g7 : f 7 = _ := h7
     have g8 : f 8 = _ := h8
     have g9 : f 9 = _ := h9
     obtain ⟨b10, (g10 : f 10 = _)⟩ := h10
     obtain ⟨a11, c11, (g11 : f 11 = _)⟩ := h11
     unfold stStep
     rw [if_pos (by simp [Region.wanted])]
     intro K Q hK
     simp only [puts, Za, Zb, Zc, Zd, Ze, g0, g1, g2, g3, g4, g5, g6, g7, g8, g9, g10, g11]
     go_step
     refine st_ex hK rfl rfl (by simp only [Act.put, setIfInBounds_toArray, set_cons_succ, set_cons_zero, Array.getD_eq_getD_getElem?, List.getElem?_toArray, List.getElem?_cons_succ, List.getElem?_cons_zero, Option.getD_some] <;> rfl) rfl (by rw [hSd] at hS ⊢; exact hS)
    ·
     obtain ⟨h12, h11, _, h0, h1, h2, h3, h4, h5, h6, h7, h8, h9, h10, _, -⟩ := hh
     have g12 : f 12 = _ := h12
     obtain ⟨a11, c11, (g11 : f 11 = _)⟩ := h11
     have g0 : f 0 = _ := h0
     have g1 : f 1 = _ := h1
     have g2 : f 2 = _ := h2
     have g3 : f 3 = _ := h3
     have g4 : f 4 = _ := h4
     have g5 : f 5 = _ := h5
     have g6 : f 6 = _ := h6
     have g7 : f 7 = _ := h7
     have g8 : f 8 = _ := h8
     have g9 : f 9 = _ := h9
     obtain ⟨b10, (g10 : f 10 = _)⟩ := h10
     have l11 : L 11 = true := hd 11 (by decide)
     unfold stStep
     rw [if_pos (by simp [Region.wanted])]
     intro K Q hK
     simp only [puts, Za, Zb, Zc, Zd, Ze, g12, g11, g0, g1, g2, g3, g4, g5, g6, g7, g8, g9, g10]
     rw [hSd] at hS hK
     have l13 : L 13 = false := hi
     try simp only [stage, l13, l11, if_true, if_false, Bool.false_eq_true] at hS
     obtain ⟨hbW, hzW, -, hPW⟩ := hS
     have l11' : L 11 = true := hd 11 (by decide)
     simp only [l11', l13, if_false, if_true, Bool.false_eq_true, g11] at hPW
     have y1 := ((hPW.blk 1 rfl).2.cell 2)
     have y2 : W.cell? ⟨w.heap.size + 2 + 1, 2, none⟩ = some (.slice af k cf) := y1.1
     have y3 := y1.2
     go_step
     refine hK.out _ _ rfl trivial ?_
     refine ⟨hbW.setCell (by show _ ≤ w.heap.size + 2 + 1; omega) _, by rw [World.size_setCell]; exact hzW, fun _ h => (by simp [l11'] at h), ?_⟩
     simp only [l11', ↓reduceIte, Nat.reduceEqDiff, g11]
     exact hPW.blkStore 1 rfl 2 _
   case rest =>
    intro L f WA hL hh hS
    rw [hSd] at hS
    clear hSd
    have l10 : L 10 = true := hL 10 (by decide)
    have l11 : L 11 = true := hL 11 (by decide)
    have l13 : L 13 = true := hL 13 (by decide)
    simp only [stage, l10, l11, l13, if_true] at hS
    clear hL l10 l11 l13
    obtain ⟨h0, h1, h2, h3, h4, h5, h6, h7, h8, h9, h10, h11, h12, -⟩ := hh
    have g0 : f 0 = _ := h0
    have g1 : f 1 = _ := h1
    have g2 : f 2 = _ := h2
    have g3 : f 3 = _ := h3
    have g4 : f 4 = _ := h4
    have g5 : f 5 = _ := h5
    have g6 : f 6 = _ := h6
    have g7 : f 7 = _ := h7
    have g8 : f 8 = _ := h8
    have g9 : f 9 = _ := h9
    obtain ⟨b10, (g10 : f 10 = _)⟩ := h10
    obtain ⟨a11, c11, (g11 : f 11 = _)⟩ := h11
    have g12 : f 12 = _ := h12
    simp only [puts, Za, Zb, Zc, Zd, Ze, g0, g1, g2, g3, g4, g5, g6, g7, g8, g9, g10, g11, g12]
    clear h0 h1 h2 h3 h4 h5 h6 h7 h8 h9 h12 g0 g1 g2 g3 g4 g5 g6 g7 g8 g9 g12
    simp only [g11] at hS
    obtain ⟨hbA, hzA, -, hPA⟩ := hS
    have hcm : ∀ W, Below WA.heap.size WA W → (W.cell? ⟨w.heap.size, 0, none⟩ = some (.int .i64 (N : Int)) ∧ W.cell? ⟨w.heap.size, 1, none⟩ = some (.int .i64 (s0 : Int)) ∧ W.cell? ⟨w.heap.size, 2, none⟩ = some (.slice (some ⟨bf, of, none⟩) fl fc) ∧ W.cell? ⟨w.heap.size, 3, none⟩ = some (.slice aa al ac)) ∧ IsDfa W ⟨some ⟨bf, of, none⟩, fl, fc, aa, al, ac⟩ ⟨N, s0, fin, es⟩ ∧ W.cell? ⟨gq, k, none⟩ = some (.int .i64 (Y : Int)) := fun W h => by
     have h1 := HO2.out W (hbA.trans (h.mono (by omega)))
     have h2 := (own_cell ((hPA.quiet (below_grows h none)).row 0 rfl) k HLT.out rfl).1
     rw [HYY.out] at h2
     exact ⟨h1.1, h1.2.1, h2⟩
    have HPA := Lib.hid hPA
    have HBA := Lib.hid hbA
    clear hPA hbA
    go_wp2_with (fail)
    refine wp_region_grow mixed (by kernel_rfl) [[], [], [], [(1, 35), (2, 36)], [(3, 37)], [(0, 34), (4, 38)], [(5, 39), (5, 39), (0, 34), (1, 35), (2, 36), (3, 37), (4, 38), (5, 39)]] [(0, 34), (1, 35), (2, 36), (3, 37), (4, 38), (5, 39), (6, 8)] rfl rfl [Ex ?eb0, Ex ?eb1, Ex ?eb2, Ex ?eb3, Ex ?eb4, OwnA WA.heap.size (outsD es Y), OwnA WA.heap.size (outsD es Y)] ⟨stays_ex _, stays_ex _, stays_ex _, stays_ex _, stays_ex _, stays_ownA _ _, stays_ownA _ _, trivial⟩ ?bsteps ?brest
    case bsteps =>
     refine ⟨fun f W hC hh => ?_, fun f W hC hh => ?_, fun f W hC hh => ?_, fun f W hC hh => ?_, fun f W hC hh => ?_, fun f W hC hh => ?_, fun f W hC hh => ?_, trivial⟩
     ·
      refine tab_plain fun K Q hK => ?_
      simp only [puts, foldr_nil]
      obtain ⟨⟨f1, f2, f3, f4⟩, f5, f6⟩ := hcm W hC
      go_step
      exact fam_e hK rfl rfl (Below.refl _ _) hC
     ·
      refine tab_plain fun K Q hK => ?_
      simp only [puts, foldr_nil]
      go_step
      exact fam_e hK rfl rfl (Below.refl _ _) hC
     ·
      refine tab_plain fun K Q hK => ?_
      simp only [puts, foldr_nil]
      go_step
      exact fam_e hK rfl rfl (Below.refl _ _) hC
     ·
      obtain ⟨h1, h2, -⟩ := hh
      have g1 : f 1 = _ := h1
      have g2 : f 2 = _ := h2
      refine tab_plain fun K Q hK => ?_
      simp only [puts, Za, Zb, Zc, Zd, Ze, g1, g2]
      go_step
      exact fam_e hK rfl rfl (Below.refl _ _) hC
     ·
      obtain ⟨h3, -⟩ := hh
      have g3 : f 3 = _ := h3
      refine tab_plain fun K Q hK => ?_
      simp only [puts, Za, Zb, Zc, Zd, Ze, g3]
      obtain ⟨⟨f1, f2, f3, f4⟩, f5, f6⟩ := hcm W hC
      go_step
      exact fam_e hK rfl rfl (Below.refl _ _) hC
     ·
      obtain ⟨h0, h4, -⟩ := hh
      have g0 : f 0 = _ := h0
      have g4 : f 4 = _ := h4
      refine tab_plain fun K Q hK => ?_
      simp only [puts, Za, Zb, Zc, Zd, Ze, g0, g4]
      obtain ⟨⟨f1, f2, f3, f4⟩, f5, f6⟩ := hcm W hC
      go_step
      go_at_call 63
      refine (refOuts_own (w := W) (Y : Int) f5 HV.out.2.2.2.1).mono ?_
      rintro e w' ⟨⟨a', c', rfl, hI⟩, hb⟩
      exact fam_fin hK rfl ⟨a', c', rfl, hI.from_mono (by have := hC.size; omega)⟩ hb (hC.trans (hb.mono hC.size))
     ·
      obtain ⟨h5, _, h0, h1, h2, h3, h4, _, -⟩ := hh
      obtain ⟨a5, c5, g5, s5⟩ := h5
      have g0 : f 0 = _ := h0
      have g1 : f 1 = _ := h1
      have g2 : f 2 = _ := h2
      have g3 : f 3 = _ := h3
      have g4 : f 4 = _ := h4
      refine tab_plain fun K Q hK => ?_
      simp only [puts, Za, Zb, Zc, Zd, Ze, g5, g0, g1, g2, g3, g4]
      go_step
      exact fam_fin hK rfl ⟨a5, c5, rfl, s5⟩ (Below.refl _ _) hC
    case brest =>
     intro f WC hC hh
     obtain ⟨h0, h1, h2, h3, h4, h5, h6, -⟩ := hh
     have g0 : f 0 = _ := h0
     have g1 : f 1 = _ := h1
     have g2 : f 2 = _ := h2
     have g3 : f 3 = _ := h3
     have g4 : f 4 = _ := h4
     obtain ⟨a5, c5, g5, s5⟩ := h5
     obtain ⟨a6, c6, g6, s6⟩ := h6
     simp only [puts, Za, Zb, Zc, Zd, Ze, g0, g1, g2, g3, g4, g5, g6]
     clear h0 h1 h2 h3 h4 g0 g1 g2 g3 g4
     obtain ⟨IN, hIN⟩ : ∃ IN : Nat → Bq Int, IN = fun j => bqs k (BQ k) (kd keep ((outsD es Y).take j)) := ⟨_, rfl⟩
     have HFN : Hid (((BQ (k + 1)).q.take (k + 1)).map (fun q => gb fin q.toNat) = fs ++ [gb fin Y]) := Lib.hid (by
      rw [fin_next (f := fun q => gb fin q.toNat) (st := BQ k) (by rw [HST.out k HLT.out]; exact bqs_pre k _ _) HLT.out, HFS.out, HYY.out]
      rfl)
     have HKN : Hid (k + 1 ≤ (BQ (k + 1)).q.length) := Lib.hid (by
      have h1 := (bqs_pre k (kd keep (outsD es (gi (BQ k).q k))) (BQ k)).length_le
      rw [← HST.out k HLT.out] at h1
      have := HLT.out
      omega)
     have HI0 : Hid (IN 0 = BQ k) := Lib.hid (by rw [hIN]; rfl)
     have HIE : Hid (IN (outsD es Y).length = BQ (k + 1)) := Lib.hid (by rw [hIN, HST.out k HLT.out, HYY.out]; simp only [List.take_length])
     have HI1 : Hid (∀ j, j < (outsD es Y).length → IN (j + 1) = if gb keep (g3 (outsD es Y) j).t.toNat = true then bq1 k (IN j) ((g3 (outsD es Y) j).l, (g3 (outsD es Y) j).t) else IN j) := Lib.hid (fun j hj => by
      rw [hIN]
      simp only [kd_take keep _ hj]
      split
      ·rw [bqs_snoc]
      ·rw [List.append_nil])
     have HIA : Hid (∀ j, j ≤ (outsD es Y).length → (IN j).a.length ≤ k * 20000 + j) := Lib.hid (fun j hj => by
      rw [hIN]
      simp only [bqs_alen]
      have h1 := HAL.out k
      have h2 := kd_len keep ((outsD es Y).take j)
      rw [List.length_take] at h2
      omega)
     have HIR : Hid (∀ j y, y ∈ (IN j).q → 0 ≤ y ∧ y < (N : Int)) := Lib.hid (fun j => by
      rw [hIN]
      refine bqs_all k _ _ (HIN.out k) fun x hx => ?_
      unfold kd at hx
      obtain ⟨y, hy, rfl⟩ := List.mem_map.1 hx
      have h1 := List.mem_of_mem_take (List.mem_filter.1 hy).1
      unfold outsD at h1
      exact (HV.out.arc (List.mem_filter.1 h1).1).1.2)
     have HIN2 : Hid (∀ j, (IN j).q.length ≤ N) := Lib.hid (fun j => by
      have h1 := ints_le (q := (IN j).q) (n := (N : Int)) (by rw [hIN]; exact bqs_nodup k _ _ (HND.out k)) (HIR.out j)
      simpa using h1)
     have HIM : Hid (∀ j, j < (outsD es Y).length → ∃ l T : Nat, g3 (outsD es Y) j = ⟨Y, l, T⟩ ∧ T < N) := Lib.hid (fun j hj => by
      obtain ⟨l, T, h1, h2⟩ := outs_arc HV.out hj
      exact ⟨l, T, h1, Int.ofNat_lt.1 h2⟩)
     have HOL : Hid ((outsD es Y).length ≤ 20000) := Lib.hid (by have := List.length_filter_le (fun x : A3 => decide (x.f = (Y : Int))) es; have := HV.out.2.2.2.1; unfold outsD; simp only at this; omega)
     have hPC0 := HPA.out.add (.row 66 3 (.slice a6 (outsD es Y).length c6) (outsD es Y).length (tvs (outsD es Y))) (below_grows hC none) (s6.from_mono (by have := HBA.out.size; omega)) (fun k e => (World.ownsRow.lt s6 k e).1)
     have HPC : Hid (Pcs WC (w.heap.size + 2) (numPs (w.heap.size + 2 + 1) (BQ k).q (BQ k).a (fs ++ [gb fin Y]) (.slice (some ⟨gq, 0, none⟩) (BQ k).q.length cq) (.slice a11 (k + 1) c11) (.slice a11 (k + 1) c11) (.slice va (BQ k).a.length ca) (.slice va (BQ k).a.length ca) ++ [.row 66 3 (.slice a6 (outsD es Y).length c6) (outsD es Y).length (tvs (outsD es Y))])) := Lib.hid hPC0
     have HBC : Hid (Below (w.heap.size + 2) W2 WC ∧ w.heap.size + 3 ≤ WC.heap.size) := Lib.hid ⟨HBA.out.trans (hC.mono (by omega)), Nat.le_trans hzA hC.size⟩
     obtain ⟨OL, hOL⟩ : ∃ OL, (outsD es (Y : Int)).length = OL := ⟨_, rfl⟩
     obtain ⟨OE, hOE⟩ : ∃ OE, outsD es (Y : Int) = OE := ⟨_, rfl⟩
     rw [hOL] at HI1 HIA HIE HIM HOL HPC ⊢
     rw [hOE] at HI1 HIM HPC
     clear hIN s6 hC hzA hcm hOE hOL hPC0
     go_wp2_with (fail)
     go_loopw [5, 9] (fun vq c W => ∃ (j : Nat) (aq : Option Addr) (cq : Nat) (va : Option Addr) (ca : Nat), j ≤ OL ∧ c = .int .i64 (j : Int) ∧ vq = .slice aq (IN j).q.length cq ∧ Pcs W (w.heap.size + 2) (numPs (w.heap.size + 2 + 1) (IN j).q (IN j).a (fs ++ [gb fin Y]) (.slice aq (IN j).q.length cq) (.slice a11 (k + 1) c11) (.slice a11 (k + 1) c11) (.slice va (IN j).a.length ca) (.slice va (IN j).a.length ca) ++ [.row 66 3 (.slice a6 OL c6) OL (tvs OE)]) ∧ Below (w.heap.size + 2) W2 W ∧ w.heap.size + 3 ≤ W.heap.size) (fun _ c _ => OL - (intOf c).toNat)
     case atStart =>
      refine ⟨0, some ⟨gq, 0, none⟩, cq, va, ca, Nat.zero_le _, rfl, by rw [HI0.out], ?_, HBC.out.1, HBC.out.2⟩
      rw [HI0.out]
      exact HPC.out
     case round =>
      clear HPC HBC HPA HBA
      obtain ⟨j, aq, cq, va, ca, hj, rfl, rfl, hP, hb, hsz⟩ := hrel
      obtain ⟨-, -, hbW, -⟩ := HO2.out wr hb
      rcases Nat.lt_or_ge j OL with hlt | hge
      ·have hI := (IsArcs.of_owns (hP.row 4 rfl)).1
       obtain ⟨b5, o5, rfl, hc5⟩ := hI.fix (by omega)
       have t2 : decide (j < OL) = true := decide_eq_true hlt
       obtain ⟨l, T, hx, hT⟩ := HIM.out j hlt
       obtain ⟨x1, x2, x3⟩ := hc5 wr (Below.refl _ _) j hlt
       rw [hx] at x1 x2 x3
       simp only at x1 x2 x3
       have HJ := HI1.out j hlt
       rw [hx] at HJ
       simp only [Int.toNat_natCast] at HJ
       have HJ := Lib.hid HJ
       have HXX := Lib.hid hx
       clear hx hI hc5
       have hol := HOL.out
       have hHas := refHas_any _ _ _ _ (T : Int) wr (HKS.out.later hbW) (by omega)
       rw [HM.out T (by omega)] at hHas
       cases hkp : gb keep T with
       | false =>
        rw [hkp] at hHas
        have HJ2 : Hid (IN (j + 1) = IN j) := Lib.hid (by rw [HJ.out, hkp]; rfl)
        have HP6 := Lib.hid hP
        have HB6 := Lib.hid hb
        clear hP hb HJ hbW
        go_wp2_with (go_at_call 43; refine hHas.mono ?_; rintro e w6 ⟨rfl, rfl⟩)
        go_roundw
        case rel =>
         refine ⟨j + 1, aq, cq, va, ca, hlt, by go_num, by rw [HJ2.out], ?_, HB6.out, hsz⟩
         rw [HJ2.out]
         exact HP6.out
        case measure => simp [intOf]; omega
       | true =>
        rw [hkp] at hHas
        have HJ2 : Hid (IN (j + 1) = bq1 k (IN j) ((l : Int), (T : Int))) := Lib.hid (by rw [HJ.out, hkp]; rfl)
        have hIdx := refIndex_any (IsInts.of_owns (hP.row 0 rfl)).1 (z := (T : Int)) (by have := HIN2.out j; have := hNN.out; omega)
        obtain ⟨y, hy⟩ : ∃ y, idxI (IN j).q (T : Int) = y := ⟨_, rfl⟩
        rw [hy] at hIdx
        obtain ⟨QJ, hQJ⟩ : ∃ QJ, (IN (j + 1)).q = QJ := ⟨_, rfl⟩
        have hTm : (T : Int) ∈ QJ := by rw [← hQJ, HJ2.out]; exact bq1_mem k (IN j) (_, _)
        obtain ⟨p, hp⟩ : ∃ p : Nat, idxI QJ (T : Int) = (p : Int) := ⟨_, idxI_yes hTm⟩
        have hql := HIN2.out j
        have HY := Lib.hid hy
        have HQ := Lib.hid hQJ
        have HPP := Lib.hid hp
        have HP6 := Lib.hid hP
        have HB6 := Lib.hid hb
        clear hP hb HJ hbW hy hQJ hTm hp
        go_upto_if 62 with (first | (go_at_call 43; refine hHas.mono ?_; rintro e w6 ⟨rfl, rfl⟩) | (go_at_call 66; refine hIdx.mono ?_; rintro e w7 ⟨rfl, rfl⟩))
        go_cut [5, 10] (fun vq nv wc => ∃ (aq : Option Addr) (cq : Nat), vq = .slice aq QJ.length cq ∧ nv = .int .i64 (p : Int) ∧ Pcs wc (w.heap.size + 2) (numPs (w.heap.size + 2 + 1) QJ (IN j).a (fs ++ [gb fin Y]) (.slice aq QJ.length cq) (.slice a11 (k + 1) c11) (.slice a11 (k + 1) c11) (.slice va (IN j).a.length ca) (.slice va (IN j).a.length ca) ++ [.row 66 3 (.slice (some ⟨b5, o5, none⟩) OL c6) OL (tvs OE)]) ∧ Below (w.heap.size + 2) W2 wc ∧ w.heap.size + 3 ≤ wc.heap.size)
        case first =>
         by_cases h0 : y < 0
         ·have d5 : decide (y < 0) = true := decide_eq_true h0
          have hnm : (T : Int) ∉ (IN j).q := idxI_neg.1 (by rw [HY.out]; exact h0)
          obtain ⟨h1, h2⟩ := bq1_new (h := k) (l := (l : Int)) hnm
          have HQ2 : Hid (QJ = (IN j).q ++ [(T : Int)]) := Lib.hid (by rw [← HQ.out, HJ2.out]; exact h1)
          have HPL : Hid (((IN j).q.length : Int) = (p : Int)) := Lib.hid (by
           have e := bq1_a k (IN j) (l : Int) (T : Int)
           rw [h2] at e
           have e2 := List.append_cancel_left e
           simp only [List.cons.injEq, A3.mk.injEq, and_true, true_and] at e2
           rw [e2, ← HJ2.out, HQ.out, HPP.out])
          have hP8 := HP6.out.quiet (below_grows ((Below.refl _ _).alloc (Nat.le_refl _) (.cells #[.int .i64 (T : Int)] 3)) none)
          have hB8 : Below (w.heap.size + 2) W2 (wr.alloc (.cells #[.int .i64 (T : Int)] 3)) := HB6.out.alloc (by omega) _
          have hs8 : Hid ((wr.alloc (.cells #[.int .i64 (T : Int)] 3)).heap.size = wr.heap.size + 1) := Lib.hid (by simp)
          have HP8 := Lib.hid hP8
          have HB8 := Lib.hid hB8
          have HE : Hid (ivs .i64 QJ = ivs .i64 (IN j).q ++ [.int .i64 (T : Int)] ∧ QJ.length = (IN j).q.length + 1) := Lib.hid ⟨by rw [HQ2.out]; simp [ivs], by rw [HQ2.out]; simp⟩
          clear hP8 hB8 hnm h1 h2 hHas hIdx
          go_wp2_with (at_builtin; refine app_pcs elI64 rfl _ _ rfl 0 rfl HP8.out rfl rfl (new_src wr #[.int .i64 (T : Int)] _ rfl) (by intro u hu; rw [List.mem_singleton.1 hu]; rfl) (by have := hNN.out; omega) (by have := hs8.out; omega) ?_; intro a9 c9 w9 hp9 hb9)
          go_meet
          case rel =>
           obtain ⟨e2, e3⟩ := HE.out
           refine ⟨a9, c9, by rw [e3], by rw [HPL.out], ?_, HB8.out.trans hb9, Nat.le_trans (by have := hs8.out; omega) hb9.size⟩
           unfold numPs
           rw [e2, e3]
           exact hp9
         ·have d5 : decide (y < 0) = false := decide_eq_false h0
          have hm : (T : Int) ∈ (IN j).q := by
           refine Classical.byContradiction fun hn => h0 ?_
           rw [← HY.out]
           exact idxI_neg.2 hn
          have HQ2 : Hid (QJ = (IN j).q) := Lib.hid (by rw [← HQ.out, HJ2.out, bq1_old hm])
          have HPY : Hid (y = (p : Int)) := Lib.hid (by rw [← HPP.out, HQ2.out, HY.out])
          clear hm hHas hIdx
          go_wp2_with (fail)
          go_meet
          case rel => exact ⟨aq, cq, by rw [HQ2.out], by rw [HPY.out], by rw [HQ2.out]; exact HP6.out, HB6.out, by omega⟩
        case rest =>
         clear x1 x2 x3 hHas hIdx
         obtain ⟨aq, cq, rfl, rfl, hPc, hBc, hzc⟩ := hcut
         have HPc := Lib.hid hPc
         have hal : (IN j).a.length ≤ k * 20000 + j := HIA.out j (by omega)
         have hkk : k * 20000 ≤ 20000000 := by have := hNN.out; omega
         clear hPc
         go_wp2_with (fail)
         obtain ⟨S, hSd⟩ : ∃ S : (Nat → Bool) → (Nat → Value) → World → Prop, S = fun L f W => Below (w.heap.size + 2) W2 W ∧ w.heap.size + 3 ≤ W.heap.size ∧ (L 10 = true → L 11 = false → ∃ q, f 10 = .slice (some ⟨q, 0, none⟩) 1 1 ∧ BlkAt W q #[.int .i64 (k : Int), .int .i64 (l : Int), .int .i64 (p : Int)]) ∧ Pcs W (w.heap.size + 2) (numPs (w.heap.size + 2 + 1) QJ (if L 11 = true then (IN j).a ++ [⟨k, l, p⟩] else (IN j).a) (fs ++ [gb fin Y]) (.slice aq QJ.length cq) (.slice a11 (k + 1) c11) (.slice a11 (k + 1) c11) (if L 13 = true then f 11 else .slice va (IN j).a.length ca) (if L 11 = true then f 11 else .slice va (IN j).a.length ca) ++ [.row 66 3 (.slice (some ⟨b5, o5, none⟩) OL c6) OL (tvs OE)]) := ⟨_, rfl⟩
         refine wp_region_st mixed (by kernel_rfl) [[], [(0, 73)], [], [], [], [(3, 76), (4, 77)], [(5, 78)], [(6, 79)], [], [(2, 75), (7, 80), (8, 81)], [(9, 82)], [(1, 74), (10, 83)], [(0, 73), (1, 74), (2, 75), (3, 76), (4, 77), (5, 78), (6, 79), (7, 80), (8, 81), (9, 82), (10, 83), (11, 84)], [(12, 85), (11, 84), (11, 84), (0, 73), (1, 74), (2, 75), (3, 76), (4, 77), (5, 78), (6, 79), (7, 80), (8, 81), (9, 82), (10, 83), (11, 84)]] [(0, 73), (1, 74), (2, 75), (3, 76), (4, 77), (5, 78), (6, 79), (7, 80), (8, 81), (9, 82), (10, 83), (11, 84), (12, 85)] rfl rfl [EV ?ec0, EV ?ec1, EV ?ec2, EV ?ec3, EV ?ec4, EV ?ec5, EV ?ec6, EV ?ec7, EV ?ec8, EV ?ec9, fun v => ∃ b, v = .slice (some ⟨b, 0, none⟩) 1 1, fun v => ∃ a c, v = .slice a ((IN j).a.length + 1) c, EV ?ec12, fun _ => True] S ?cstart ?csteps ?crest
         case cstart =>
          intro f
          rw [hSd]
          exact ⟨hBc.drew, hzc, fun h => (by cases h), HPc.out.quiet (below_grows ((Below.refl _ _).drew) none)⟩
         case csteps =>
          refine ⟨fun L f W hi hd hdn hh hS => ?_, fun L f W hi hd hdn hh hS => ?_, fun L f W hi hd hdn hh hS => ?_, fun L f W hi hd hdn hh hS => ?_, fun L f W hi hd hdn hh hS => ?_, fun L f W hi hd hdn hh hS => ?_, fun L f W hi hd hdn hh hS => ?_, fun L f W hi hd hdn hh hS => ?_, fun L f W hi hd hdn hh hS => ?_, fun L f W hi hd hdn hh hS => ?_, fun L f W hi hd hdn hh hS => ?_, fun L f W hi hd hdn hh hS => ?_, fun L f W hi hd hdn hh hS => ?_, fun L f W hi hd hdn hh hS => ?_, trivial⟩
          ·
           unfold stStep
           rw [if_pos (by simp [Region.wanted])]
           intro K Q hK
           simp only [puts, foldr_nil]
           go_step
           refine st_ex hK rfl rfl (by simp only [Act.put, setIfInBounds_toArray, set_cons_succ, set_cons_zero, Array.getD_eq_getD_getElem?, List.getElem?_toArray, List.getElem?_cons_succ, List.getElem?_cons_zero, Option.getD_some] <;> rfl) rfl (by rw [hSd] at hS ⊢; exact hS)
          ·
           obtain ⟨h0, -⟩ := hh
           have g0 : f 0 = _ := h0
           have l11 : L 11 = false := Bool.eq_false_iff.2 fun h => by have q := hdn 11 _ h rfl 1 (by decide); rw [show L 1 = false from hi] at q; cases q
           have l13 : L 13 = false := Bool.eq_false_iff.2 fun h => by have q := hdn 13 _ h rfl 11 (by decide); rw [show L 11 = false from l11] at q; cases q
           unfold stStep
           rw [if_pos (by simp [Region.wanted])]
           intro K Q hK
           simp only [puts, Za, Zb, Zc, Zd, Ze, g0]
           have hS' := hS
           rw [hSd] at hS'
           simp only [l11, l13, if_false, Bool.false_eq_true] at hS'
           have x1 : W.cell? ⟨w.heap.size + 2 + 1, 3, none⟩ = some (.slice va (IN j).a.length ca) := ((hS'.2.2.2.blk 1 rfl).2.cell 3).1
           go_step
           refine st_ex hK rfl rfl (by simp only [Act.put, setIfInBounds_toArray, set_cons_succ, set_cons_zero, Array.getD_eq_getD_getElem?, List.getElem?_toArray, List.getElem?_cons_succ, List.getElem?_cons_zero, Option.getD_some] <;> rfl) rfl (by rw [hSd] at hS ⊢; exact hS)
          ·
           unfold stStep
           rw [if_pos (by simp [Region.wanted])]
           intro K Q hK
           simp only [puts, foldr_nil]
           go_step
           refine st_ex hK rfl rfl (by simp only [Act.put, setIfInBounds_toArray, set_cons_succ, set_cons_zero, Array.getD_eq_getD_getElem?, List.getElem?_toArray, List.getElem?_cons_succ, List.getElem?_cons_zero, Option.getD_some] <;> rfl) rfl (by rw [hSd] at hS ⊢; exact hS)
          ·
           unfold stStep
           rw [if_pos (by simp [Region.wanted])]
           intro K Q hK
           simp only [puts, foldr_nil]
           go_step
           refine st_ex hK rfl rfl (by simp only [Act.put, setIfInBounds_toArray, set_cons_succ, set_cons_zero, Array.getD_eq_getD_getElem?, List.getElem?_toArray, List.getElem?_cons_succ, List.getElem?_cons_zero, Option.getD_some] <;> rfl) rfl (by rw [hSd] at hS ⊢; exact hS)
          ·
           unfold stStep
           rw [if_pos (by simp [Region.wanted])]
           intro K Q hK
           simp only [puts, foldr_nil]
           go_step
           refine st_ex hK rfl rfl (by simp only [Act.put, setIfInBounds_toArray, set_cons_succ, set_cons_zero, Array.getD_eq_getD_getElem?, List.getElem?_toArray, List.getElem?_cons_succ, List.getElem?_cons_zero, Option.getD_some] <;> rfl) rfl (by rw [hSd] at hS ⊢; exact hS)
          ·
           obtain ⟨h3, h4, -⟩ := hh
           have g3 : f 3 = _ := h3
           have g4 : f 4 = _ := h4
           unfold stStep
           rw [if_pos (by simp [Region.wanted])]
           intro K Q hK
           simp only [puts, Za, Zb, Zc, Zd, Ze, g3, g4]
           go_step
           refine st_ex hK rfl rfl (by simp only [Act.put, setIfInBounds_toArray, set_cons_succ, set_cons_zero, Array.getD_eq_getD_getElem?, List.getElem?_toArray, List.getElem?_cons_succ, List.getElem?_cons_zero, Option.getD_some] <;> rfl) rfl (by rw [hSd] at hS ⊢; exact hS)
          ·
           obtain ⟨h5, -⟩ := hh
           have g5 : f 5 = _ := h5
           unfold stStep
           rw [if_pos (by simp [Region.wanted])]
           intro K Q hK
           simp only [puts, Za, Zb, Zc, Zd, Ze, g5]
           go_step
           refine st_ex hK rfl rfl (by simp only [Act.put, setIfInBounds_toArray, set_cons_succ, set_cons_zero, Array.getD_eq_getD_getElem?, List.getElem?_toArray, List.getElem?_cons_succ, List.getElem?_cons_zero, Option.getD_some] <;> rfl) rfl (by rw [hSd] at hS ⊢; exact hS)
          ·
           obtain ⟨h6, -⟩ := hh
           have g6 : f 6 = _ := h6
           unfold stStep
           rw [if_pos (by simp [Region.wanted])]
           intro K Q hK
           simp only [puts, Za, Zb, Zc, Zd, Ze, g6]
           have hS' := hS
           rw [hSd] at hS'
           have x7 := ((IsArcs.of_owns (hS'.2.2.2.row 4 rfl)).1.get j hlt).2.1
           simp only [HXX.out] at x7
           go_step
           refine st_ex hK rfl rfl (by simp only [Act.put, setIfInBounds_toArray, set_cons_succ, set_cons_zero, Array.getD_eq_getD_getElem?, List.getElem?_toArray, List.getElem?_cons_succ, List.getElem?_cons_zero, Option.getD_some] <;> rfl) rfl (by rw [hSd] at hS ⊢; exact hS)
          ·
           unfold stStep
           rw [if_pos (by simp [Region.wanted])]
           intro K Q hK
           simp only [puts, foldr_nil]
           go_step
           refine st_ex hK rfl rfl (by simp only [Act.put, setIfInBounds_toArray, set_cons_succ, set_cons_zero, Array.getD_eq_getD_getElem?, List.getElem?_toArray, List.getElem?_cons_succ, List.getElem?_cons_zero, Option.getD_some] <;> rfl) rfl (by rw [hSd] at hS ⊢; exact hS)
          ·
           obtain ⟨h2, h7, h8, -⟩ := hh
           have g2 : f 2 = _ := h2
           have g7 : f 7 = _ := h7
           have g8 : f 8 = _ := h8
           unfold stStep
           rw [if_pos (by simp [Region.wanted])]
           intro K Q hK
           simp only [puts, Za, Zb, Zc, Zd, Ze, g2, g7, g8]
           go_step
           refine st_ex hK rfl rfl (by simp only [Act.put, setIfInBounds_toArray, set_cons_succ, set_cons_zero, Array.getD_eq_getD_getElem?, List.getElem?_toArray, List.getElem?_cons_succ, List.getElem?_cons_zero, Option.getD_some] <;> rfl) rfl (by rw [hSd] at hS ⊢; exact hS)
          ·
           obtain ⟨h9, -⟩ := hh
           have g9 : f 9 = _ := h9
           have l11 : L 11 = false := Bool.eq_false_iff.2 fun h => by have q := hdn 11 _ h rfl 10 (by decide); rw [show L 10 = false from hi] at q; cases q
           have l13 : L 13 = false := Bool.eq_false_iff.2 fun h => by have q := hdn 13 _ h rfl 11 (by decide); rw [show L 11 = false from l11] at q; cases q
           unfold stStep
           rw [if_pos (by simp [Region.wanted])]
           intro K Q hK
           simp only [puts, Za, Zb, Zc, Zd, Ze, g9]
           rw [hSd] at hS hK
           have l10 : L 10 = false := hi
           try simp only [stage, l11, l13, l10, if_true, if_false, Bool.false_eq_true] at hS
           obtain ⟨hbW, hzW, -, hPW⟩ := hS
           have hal : Below W.heap.size W (W.alloc (.cells #[.int .i64 (k : Int), .int .i64 (l : Int), .int .i64 (p : Int)] 66)) := (Below.refl _ _).alloc (Nat.le_refl _) _
           go_step
           refine hK.out _ _ rfl ⟨_, rfl⟩ ?_
           refine ⟨hbW.alloc (by omega) _, by simp; omega, fun _ _ => ⟨_, rfl, BlkAt.new W _ _⟩, ?_⟩
           simp only [l11, l13, Bool.false_eq_true, ↓reduceIte, Nat.reduceEqDiff] at hPW ⊢
           exact hPW.quiet (below_grows hal none)
          ·
           obtain ⟨h1, h10, -⟩ := hh
           have g1 : f 1 = _ := h1
           obtain ⟨b10, (g10 : f 10 = _)⟩ := h10
           have l10 : L 10 = true := hd 10 (by decide)
           have l13 : L 13 = false := Bool.eq_false_iff.2 fun h => by have q := hdn 13 _ h rfl 11 (by decide); rw [show L 11 = false from hi] at q; cases q
           unfold stStep
           rw [if_pos (by simp [Region.wanted])]
           intro K Q hK
           simp only [puts, Za, Zb, Zc, Zd, Ze, g1, g10]
           rw [hSd] at hS hK
           have l11 : L 11 = false := hi
           try simp only [stage, l13, l11, l10, if_true, if_false, Bool.false_eq_true] at hS
           obtain ⟨hbW, hzW, h10, hPW⟩ := hS
           obtain ⟨q, e10, hq⟩ := h10 trivial trivial
           rw [g10] at e10
           obtain rfl : b10 = q := by simpa using e10
           try simp only [l11, l13, if_false, Bool.false_eq_true] at hPW
           refine wp_app_pcs elRB _ _ rfl 3 (v := .slice va (IN j).a.length ca) (n := (IN j).a.length) rfl hPW rfl (news := [.int .i64 (k : Int), .int .i64 (l : Int), .int .i64 (p : Int)]) rfl ⟨rfl, fun ad e i u hi => by injection e with e; subst e; rw [addr_add, Nat.zero_add, (hq.cell i).1, ← hi]; simp, fun e => by cases e⟩ (by intro u hu; simp only [List.mem_cons, List.not_mem_nil, or_false] at hu; rcases hu with rfl | rfl | rfl <;> rfl) (by omega) (by omega) ?_
           intro a' c' w' hp' hbw
           refine hK.out _ _ rfl ⟨a', c', rfl⟩ ?_
           refine ⟨hbW.trans hbw, Nat.le_trans hzW hbw.size, fun _ h => (by simp at h), ?_⟩
           simp only [l13, Bool.false_eq_true, ↓reduceIte, Nat.reduceEqDiff]
           have e1 : ((IN j).a ++ [(⟨(k : Int), (l : Int), (p : Int)⟩ : A3)]).length = (IN j).a.length + 1 := by rw [List.length_append]; rfl
           unfold numPs
           rw [e1, tvs_append]
           exact hp'
          ·
           obtain ⟨h0, h1, h2, h3, h4, h5, h6, h7, h8, h9, h10, h11, -⟩ := hh
           have g0 : f 0 = _ := h0
           have g1 : f 1 = _ := h1
           have g2 : f 2 = _ := h2
           have g3 : f 3 = _ := h3
           have g4 : f 4 = _ := h4
           have g5 : f 5 = _ := h5
           have g6 : f 6 = _ := h6
           have g7 : f 7 = _ := h7
           have g8 : f 8 = _ := h8
           have g9 : f 9 = _ := h9
           obtain ⟨b10, (g10 : f 10 = _)⟩ := h10
           obtain ⟨ar11, cr11, (g11 : f 11 = _)⟩ := h11
           unfold stStep
           rw [if_pos (by simp [Region.wanted])]
           intro K Q hK
           simp only [puts, Za, Zb, Zc, Zd, Ze, g0, g1, g2, g3, g4, g5, g6, g7, g8, g9, g10, g11]
           go_step
           refine st_ex hK rfl rfl (by simp only [Act.put, setIfInBounds_toArray, set_cons_succ, set_cons_zero, Array.getD_eq_getD_getElem?, List.getElem?_toArray, List.getElem?_cons_succ, List.getElem?_cons_zero, Option.getD_some] <;> rfl) rfl (by rw [hSd] at hS ⊢; exact hS)
          ·
           obtain ⟨h12, h11, _, h0, h1, h2, h3, h4, h5, h6, h7, h8, h9, h10, _, -⟩ := hh
           have g12 : f 12 = _ := h12
           obtain ⟨ar11, cr11, (g11 : f 11 = _)⟩ := h11
           have g0 : f 0 = _ := h0
           have g1 : f 1 = _ := h1
           have g2 : f 2 = _ := h2
           have g3 : f 3 = _ := h3
           have g4 : f 4 = _ := h4
           have g5 : f 5 = _ := h5
           have g6 : f 6 = _ := h6
           have g7 : f 7 = _ := h7
           have g8 : f 8 = _ := h8
           have g9 : f 9 = _ := h9
           obtain ⟨b10, (g10 : f 10 = _)⟩ := h10
           have l11 : L 11 = true := hd 11 (by decide)
           unfold stStep
           rw [if_pos (by simp [Region.wanted])]
           intro K Q hK
           simp only [puts, Za, Zb, Zc, Zd, Ze, g12, g11, g0, g1, g2, g3, g4, g5, g6, g7, g8, g9, g10]
           rw [hSd] at hS hK
           have l13 : L 13 = false := hi
           try simp only [stage, l13, l11, if_true, if_false, Bool.false_eq_true] at hS
           obtain ⟨hbW, hzW, -, hPW⟩ := hS
           have l11' : L 11 = true := hd 11 (by decide)
           simp only [l11', l13, if_false, if_true, Bool.false_eq_true, g11] at hPW
           have y1 := ((hPW.blk 1 rfl).2.cell 3)
           have y2 : W.cell? ⟨w.heap.size + 2 + 1, 3, none⟩ = some (.slice va (IN j).a.length ca) := y1.1
           have y3 := y1.2
           go_step
           refine hK.out _ _ rfl trivial ?_
           refine ⟨hbW.setCell (by show _ ≤ w.heap.size + 2 + 1; omega) _, by rw [World.size_setCell]; exact hzW, fun _ h => (by simp [l11'] at h), ?_⟩
           simp only [l11', ↓reduceIte, Nat.reduceEqDiff, g11]
           exact hPW.blkStore 1 rfl 3 _
         case crest =>
          intro L f WD hL hh hS
          rw [hSd] at hS
          clear hSd
          have l10 : L 10 = true := hL 10 (by decide)
          have l11 : L 11 = true := hL 11 (by decide)
          have l13 : L 13 = true := hL 13 (by decide)
          simp only [stage, l10, l11, l13, if_true] at hS
          clear hL l10 l11 l13
          obtain ⟨h0, h1, h2, h3, h4, h5, h6, h7, h8, h9, h10, h11, h12, -⟩ := hh
          have g0 : f 0 = _ := h0
          have g1 : f 1 = _ := h1
          have g2 : f 2 = _ := h2
          have g3 : f 3 = _ := h3
          have g4 : f 4 = _ := h4
          have g5 : f 5 = _ := h5
          have g6 : f 6 = _ := h6
          have g7 : f 7 = _ := h7
          have g8 : f 8 = _ := h8
          have g9 : f 9 = _ := h9
          obtain ⟨b10, (g10 : f 10 = _)⟩ := h10
          obtain ⟨ar11, cr11, (g11 : f 11 = _)⟩ := h11
          have g12 : f 12 = _ := h12
          simp only [puts, Za, Zb, Zc, Zd, Ze, g0, g1, g2, g3, g4, g5, g6, g7, g8, g9, g10, g11, g12]
          clear h0 h1 h2 h3 h4 h5 h6 h7 h8 h9 h12 g0 g1 g2 g3 g4 g5 g6 g7 g8 g9 g12
          simp only [g11] at hS
          obtain ⟨hbD, hzD, -, hPD⟩ := hS
          have HEA : Hid ((IN (j + 1)).a = (IN j).a ++ [⟨k, l, p⟩]) := Lib.hid (by rw [HJ2.out, bq1_a, ← HJ2.out, HQ.out, HPP.out])
          have HPD := Lib.hid hPD
          clear hPD
          go_wp2_with (fail)
          go_roundw
          case rel =>
           refine ⟨j + 1, aq, cq, ar11, cr11, hlt, by go_num, by rw [HQ.out], ?_, hbD, hzD⟩
           have h1 := HPD.out
           have e1 : ((IN j).a ++ [(⟨(k : Int), (l : Int), (p : Int)⟩ : A3)]).length = (IN j).a.length + 1 := by rw [List.length_append]; rfl
           rw [HQ.out, HEA.out, e1]
           exact h1
          case measure => simp [intOf]; omega
      ·have t2 : decide (j < OL) = false := decide_eq_false (by omega)
       obtain rfl : j = OL := by omega
       have HPE : Hid (Pcs wr (w.heap.size + 2) (numPs (w.heap.size + 2 + 1) (BQ (k + 1)).q (BQ (k + 1)).a (((BQ (k + 1)).q.take (k + 1)).map fun q => gb fin q.toNat) (.slice aq (BQ (k + 1)).q.length cq) (.slice a11 (k + 1) c11) (.slice a11 (k + 1) c11) (.slice va (BQ (k + 1)).a.length ca) (.slice va (BQ (k + 1)).a.length ca))) := Lib.hid (by rw [HFN.out, ← HIE.out]; exact hP.init)
       have HQE : Hid ((IN j).q.length = (BQ (k + 1)).q.length ∧ k + 1 ≤ (BQ (k + 1)).q.length) := Lib.hid ⟨by rw [HIE.out], HKN.out⟩
       clear hP
       go_wp2_with (fail)
       go_roundw
       case rel => exact ⟨k + 1, aq, cq, a11, c11, va, ca, HQE.out.2, by go_num, by rw [HQE.out.1], HPE.out, hb, hsz⟩
       case measure => simp [intOf]; omega
  ·have hke : (BQ k).q.length = k := by omega
   have t1 : decide (k < (BQ k).q.length) = false := decide_eq_false (by omega)
   obtain ⟨L, hL⟩ : ∃ L, (BQ k).q.length = L := ⟨_, rfl⟩
   have hB1 := (hP.blk 1 rfl).2
   have b0 := hB1.cell 0
   have hP5 := hP.blkStore 1 rfl 0 (.int .i64 (L : Int))
   obtain ⟨W5, hW5⟩ : ∃ W5, wr.setCell ⟨w.heap.size + 2 + 1, 0, none⟩ (.int .i64 (L : Int)) = W5 := ⟨_, rfl⟩
   have hb5 : Below (w.heap.size + 2) W2 W5 := by rw [← hW5]; exact hb.setCell (by show _ ≤ w.heap.size + 2 + 1; omega) _
   rw [hW5] at hP5
   have hB5 := (hP5.blk 1 rfl).2
   have e0 : W5.cell? ⟨w.heap.size + 2 + 1, 0, none⟩ = some (.int .i64 (L : Int)) := (hB5.cell 0).1
   have e1 : W5.cell? ⟨w.heap.size + 2 + 1, 1, none⟩ = some (.int .i64 0) := (hB5.cell 1).1
   have e2 : W5.cell? ⟨w.heap.size + 2 + 1, 2, none⟩ = some (.slice af k cf) := (hB5.cell 2).1
   have e3 : W5.cell? ⟨w.heap.size + 2 + 1, 3, none⟩ = some (.slice va (BQ k).a.length ca) := (hB5.cell 3).1
   have b01 : wr.cell? ⟨w.heap.size + 2 + 1, 0, none⟩ = some (.int .i64 0) := b0.1
   have b02 := b0.2
   obtain ⟨-, -, hbW5, hZ5⟩ := HO2.out W5 hb5
   have hZ6 := setRow_heap W5 (w.heap.size + 1) _ #[.int .i64 (L : Int), .int .i64 0, .slice af k cf, .slice va (BQ k).a.length ca] _ _ hZ5
   have hlen5 : (((BQ k).q.take k).map fun q => gb fin q.toNat).length = k := by rw [List.length_map, List.length_take]; omega
   have hbs := below_setRow (g := w.heap.size + 1) (Below.refl (w.heap.size + 1) W5) (Nat.le_refl _) #[.int .i64 (L : Int), .int .i64 0, .slice af k cf, .slice va (BQ k).a.length ca]
   have hgs : W5.grownBy (W5.setRow (w.heap.size + 1) #[.int .i64 (L : Int), .int .i64 0, .slice af k cf, .slice va (BQ k).a.length ca]) (some (w.heap.size + 1)) := ⟨hbs.os, hbs.tape, hbs.output, hbs.size, fun b _ hne => setRow_other W5 _ b _ (fun e => hne (by rw [e]))⟩
   have hF5 := (hP5.each 2 _ rfl).grown hgs fun b hb e => by have := ((hP5.each 2 _ rfl).lt hb).1; injection e with e; omega
   have hA5 := (hP5.each 3 _ rfl).grown hgs fun b hb e => by have := ((hP5.each 3 _ rfl).lt hb).1; injection e with e; omega
   simp only [Pc.At] at hF5 hA5
   have hIF := (IsBools.of_owns hF5).1
   have hIA := (IsArcs.of_owns hA5).1
   have hb6 := below_setRow (g := w.heap.size + 1) hbW5 (by omega) #[.int .i64 (L : Int), .int .i64 0, .slice af k cf, .slice va (BQ k).a.length ca]
   have HH := Lib.hid (And.intro hIF hIA)
   have HE := Lib.hid hke
   have HLL := Lib.hid hL
   have HR := Lib.hid (HFI.out k (by omega))
   rw [hL] at t1 ⊢
   clear hIF hIA hF5 hA5 hlen5 hP5 hB5 hP hB1 b0 hke hL hk hge hbs hgs
   go_wp2_with (show wpList _ _ _ (⟨_, .store 25 _ _, _, _, _, _⟩ :: _) _ _; refine wpList_store_row rfl 25 _ _ rfl (w.heap.size + 1) #[.int .i64 (L : Int), .int .i64 0, .slice af k cf, .slice va (BQ k).a.length ca] rfl rfl _ _ hZ5 ref_i rfl (dfa_one _ _ _ _ _ _ _ _) ?_)
   try simp only [Exit.inBlock, Exit.then]
   refine bodyPost_ret (results_cell_row rfl _ _ (w.heap.size + 1) _ _ _ _ rfl hZ6 Try.underlying25 rfl ref_i) rfl ?_
   rw [HR.out]
   have hq : (BQ k).q.take k = (BQ k).q := List.take_of_length_le (by rw [HE.out]; exact Nat.le_refl _)
   obtain ⟨hIF, hIA⟩ := HH.out
   rw [hq] at hIF
   refine ⟨⟨⟨af, k, cf, va, (BQ k).a.length, ca⟩, ?_, hIF, hIA⟩, hb6⟩
   unfold vDf resB
   rw [HLL.out]
end Go.Proofs.Ytpcbmhfnefhenaa

set_option linter.unusedSimpArgs false
set_option linter.unusedVariables false
namespace Go.Proofs.Ytpcbmhfnefhenaa
open List (foldr_cons foldr_nil setIfInBounds_toArray set_cons_succ set_cons_zero)
open Go.RowKit
attribute [local go_sem] Oper.semAt_some

theorem lets_all {n T : Nat} (h : T < n) : decide ((T : Int) ∈ lets n) = gb (allK n) T := by
 rw [gb_allK h]
 exact decide_eq_true ((lets_mem n (T : Int)).2 ⟨by omega, by omega⟩)
theorem num_all {d : Dfa} {h : DH} (hv : ValidD d) : ∀ W, IsDfa W h d → ∀ {a : Option Addr} {c : Nat}, IsInts .i64 W a d.n.toNat c (lets d.n.toNat) → Calls Try.prog 39 #[vDf d h, .slice a d.n.toNat c] W (GivesD (canF d) W) := by
 intro W hd a c hI
 have hn := hv.1
 have h1 := refNumber_any hv hd hI (by omega) (keep := allK d.n.toNat) (fun T hT => lets_all (by omega))
 unfold canF
 rw [canD_all hv]
 exact h1
set_option maxRecDepth 20000 in
set_option maxHeartbeats 4000000 in
theorem refCanonical_yes {d : Dfa} {h : DH} {w : World} (hv : ValidD d) (hd : IsDfa w h d) : Calls Try.prog 15 #[vDf d h] w (GivesDE (canF d) 0 w) := by
 have HV := Lib.hid hv
 have hn := Lib.hid hv.1
 have HNUM := Lib.hid (num_all hv (h := h))
 obtain ⟨W1, hW1, hs1, hb1, hO⟩ := boxRW d h w hd
 obtain ⟨W2, hW2, hb2, hs2, hZ2⟩ := rbox_ready hs1
 have HO : Hid (∀ W, Below (w.heap.size + 1) W2 W → (W.cell? ⟨w.heap.size, 0, none⟩ = some (.int .i64 d.n) ∧ W.cell? ⟨w.heap.size, 1, none⟩ = some (.int .i64 d.s) ∧ W.cell? ⟨w.heap.size, 2, none⟩ = some (.slice h.fa h.fl h.fc) ∧ W.cell? ⟨w.heap.size, 3, none⟩ = some (.slice h.aa h.al h.ac)) ∧ IsDfa W h d ∧ Below w.heap.size w W) := Lib.hid (fun W hb => hO W ((hb2.mono (by omega)).trans hb))
 obtain ⟨⟨c1, c2, c3, c4⟩, hd2, -⟩ := HO.out W2 (Below.refl _ _)
 have hva := refValid_yes hv hd2
 have HS2 := Lib.hid hs2
 have HZ2 := Lib.hid hZ2
 unfold vDf at hva ⊢
 clear hO hb2 hb1 hd2 hv hs2 hZ2
 go_enter Try.func15, Try.ntmps15
 go_wp2_with (go_at_call 25; refine hva.mono ?_; rintro e w3 ⟨rfl, hb3⟩; obtain ⟨⟨k1, k2, k3, k4⟩, hd3, hbw3⟩ := HO.out w3 (hb3.mono (by rw [HS2.out]; omega)))
 have hb3' : Below (w.heap.size + 1) W2 w3 := hb3.mono (by rw [HS2.out]; omega)
 have hZ3 : w3.heap[w.heap.size + 1]? = some (.cells #[.int .i64 0, .int .i64 0, .slice none 0 0, .slice none 0 0] 25 (0, 0)) := by rw [hb3.block _ (by rw [HS2.out]; omega)]; exact HZ2.out
 have HS3 : Hid (w.heap.size + 2 ≤ w3.heap.size) := Lib.hid (by rw [← HS2.out]; exact hb3.size)
 have HZ3 := Lib.hid hZ3
 have HB3 := Lib.hid hb3'
 clear k1 k2 k3 k4 hd3 hbw3 c1 c2 c3 c4 hva hb3 hb3' hZ3 hs1 hW1 hW2
 obtain ⟨S, hSd⟩ : ∃ S : (Nat → Bool) → (Nat → Value) → World → Prop, S = fun L f W => Below (w.heap.size + 1) W2 W ∧ w.heap.size + 2 ≤ W.heap.size ∧ (if L 4 = true then RBox (w.heap.size + 1) (canF d) W else W.heap[w.heap.size + 1]? = some (.cells #[.int .i64 0, .int .i64 0, .slice none 0 0, .slice none 0 0] 25 (0, 0)) ∧ (L 2 = true → ∃ a c, f 2 = .slice a d.n.toNat c ∧ IsInts .i64 W a d.n.toNat c (lets d.n.toNat)) ∧ (L 3 = true → ∃ h', f 3 = vDf (canF d) h' ∧ IsDfa W h' (canF d))) := ⟨_, rfl⟩
 refine wp_region_st mixed (by kernel_rfl) [[], [], [(1, 9)], [(0, 8), (2, 10), (2, 10)], [(3, 11), (3, 11), (0, 8), (1, 9), (2, 10), (3, 11)], [(0, 8), (1, 9), (2, 10), (3, 11)]] [(0, 8), (1, 9), (2, 10), (3, 11), (5, 3)] rfl rfl [EV ?e0, EV ?e1, fun v => ∃ a c, v = .slice a d.n.toNat c, fun v => ∃ h', v = vDf (canF d) h', fun _ => True, EV ?e5] S ?start ?steps ?rest
 case start =>
  intro f
  rw [hSd]
  exact ⟨HB3.out.drew, HS3.out, HZ3.out, fun h => (by cases h), fun h => (by cases h)⟩
 case steps =>
  refine ⟨fun L f W hi hd hdn hh hS => ?_, fun L f W hi hd hdn hh hS => ?_, fun L f W hi hd hdn hh hS => ?_, fun L f W hi hd hdn hh hS => ?_, fun L f W hi hd hdn hh hS => ?_, fun L f W hi hd hdn hh hS => ?_, trivial⟩
  ·
   unfold stStep
   rw [if_pos (by simp [Region.wanted])]
   intro K Q hK
   simp only [puts, foldr_nil]
   have hS' := hS
   rw [hSd] at hS'
   obtain ⟨⟨k1, k2, k3, k4⟩, -, -⟩ := HO.out W hS'.1
   go_step
   refine st_ex hK rfl rfl (by simp only [Act.put, setIfInBounds_toArray, set_cons_succ, set_cons_zero, Array.getD_eq_getD_getElem?, List.getElem?_toArray, List.getElem?_cons_succ, List.getElem?_cons_zero, Option.getD_some] <;> rfl) rfl (by rw [hSd] at hS ⊢; exact hS)
  ·
   unfold stStep
   rw [if_pos (by simp [Region.wanted])]
   intro K Q hK
   simp only [puts, foldr_nil]
   have hS' := hS
   rw [hSd] at hS'
   obtain ⟨⟨k1, k2, k3, k4⟩, -, -⟩ := HO.out W hS'.1
   go_step
   refine st_ex hK rfl rfl (by simp only [Act.put, setIfInBounds_toArray, set_cons_succ, set_cons_zero, Array.getD_eq_getD_getElem?, List.getElem?_toArray, List.getElem?_cons_succ, List.getElem?_cons_zero, Option.getD_some] <;> rfl) rfl (by rw [hSd] at hS ⊢; exact hS)
  ·
   obtain ⟨h1, -⟩ := hh
   have g1 : f 1 = _ := h1
   have l3 : L 3 = false := Bool.eq_false_iff.2 fun h => by have q := hdn 3 _ h rfl 2 (by decide); rw [show L 2 = false from hi] at q; cases q
   have l4 : L 4 = false := Bool.eq_false_iff.2 fun h => by have q := hdn 4 _ h rfl 3 (by decide); rw [show L 3 = false from l3] at q; cases q
   unfold stStep
   rw [if_pos (by simp [Region.wanted])]
   intro K Q hK
   simp only [puts, Za, Zb, Zc, Zd, Ze, g1]
   rw [hSd] at hS hK
   have l2 : L 2 = false := hi
   try simp only [stage, l3, l4, l2, if_true, if_false, Bool.false_eq_true] at hS
   obtain ⟨hbW, hzW, hRest⟩ := hS
   obtain ⟨hZW, -, -⟩ := hRest
   obtain ⟨-, hdW, -⟩ := HO.out W hbW
   go_step
   go_at_call 40
   refine (refAll_any (w := W) hdW (by have := hn.out; omega)).mono ?_
   rintro e w' ⟨⟨a', c', rfl, hI⟩, hb⟩
   refine hK.out _ _ rfl ⟨a', c', rfl⟩ ?_
   refine ⟨hbW.trans (hb.mono (by omega)), Nat.le_trans hzW hb.size, ?_⟩
   simp only [l3, l4, Bool.false_eq_true, ↓reduceIte, Nat.reduceEqDiff]
   exact ⟨by rw [hb.block _ (by omega)]; exact hZW, fun _ => ⟨a', c', rfl, hI⟩, fun h => (by cases h)⟩
  ·
   obtain ⟨h0, h2, _, -⟩ := hh
   have g0 : f 0 = _ := h0
   obtain ⟨a2, c2, (g2 : f 2 = _)⟩ := h2
   have l2 : L 2 = true := hd 2 (by decide)
   have l4 : L 4 = false := Bool.eq_false_iff.2 fun h => by have q := hdn 4 _ h rfl 3 (by decide); rw [show L 3 = false from hi] at q; cases q
   unfold stStep
   rw [if_pos (by simp [Region.wanted])]
   intro K Q hK
   simp only [puts, Za, Zb, Zc, Zd, Ze, g0, g2]
   rw [hSd] at hS hK
   have l3 : L 3 = false := hi
   try simp only [stage, l4, l3, l2, if_true, if_false, Bool.false_eq_true] at hS
   obtain ⟨hbW, hzW, hRest⟩ := hS
   obtain ⟨hZW, h2W, -⟩ := hRest
   obtain ⟨a', c', e2, hI⟩ := h2W trivial
   rw [g2] at e2
   injection e2 with e21 e22 e23
   subst e21 e23
   obtain ⟨-, hdW, -⟩ := HO.out W hbW
   go_step
   go_at_call 39
   refine (HNUM.out W hdW hI).mono ?_
   rintro e w' ⟨⟨h', rfl, hD⟩, hb⟩
   refine hK.out _ _ rfl ⟨h', rfl⟩ ?_
   refine ⟨hbW.trans (hb.mono (by omega)), Nat.le_trans hzW hb.size, ?_⟩
   simp only [l4, Bool.false_eq_true, ↓reduceIte, Nat.reduceEqDiff]
   exact ⟨by rw [hb.block _ (by omega)]; exact hZW, fun _ => ⟨_, _, g2, hI.later hb⟩, fun _ => ⟨h', rfl, hD⟩⟩
  ·
   obtain ⟨h3, _, h0, h1, h2, _, -⟩ := hh
   obtain ⟨y3, (g3 : f 3 = _)⟩ := h3
   have g0 : f 0 = _ := h0
   have g1 : f 1 = _ := h1
   obtain ⟨a2, c2, (g2 : f 2 = _)⟩ := h2
   have l3 : L 3 = true := hd 3 (by decide)
   unfold stStep
   rw [if_pos (by simp [Region.wanted])]
   intro K Q hK
   simp only [puts, Za, Zb, Zc, Zd, Ze, g3, g0, g1, g2]
   rw [hSd] at hS hK
   have l4 : L 4 = false := hi
   try simp only [stage, l4, l3, if_true, if_false, Bool.false_eq_true] at hS
   obtain ⟨hbW, hzW, hRest⟩ := hS
   obtain ⟨hZW, -, h3W⟩ := hRest
   obtain ⟨h', e3, hD⟩ := h3W trivial
   have e3' : f 3 = .agg #[.int .i64 (canF d).n, .int .i64 (canF d).s, .slice h'.fa h'.fl h'.fc, .slice h'.aa h'.al h'.ac] := e3
   rw [g3] at e3'
   simp only [e3']
   refine wp_store_row 25 _ _ rfl (w.heap.size + 1) #[.int .i64 (canF d).n, .int .i64 (canF d).s, .slice h'.fa h'.fl h'.fc, .slice h'.aa h'.al h'.ac] rfl rfl _ _ hZW ref_i rfl (dfa_one _ _ _ _ _ _ _ _) ?_
   refine hK.out _ _ rfl trivial ?_
   refine ⟨below_setRow hbW (Nat.le_refl _) _, by simp [World.setRow]; omega, ?_⟩
   simp only [↓reduceIte, Nat.reduceEqDiff]
   exact RBox.put hZW rfl hD
  ·
   obtain ⟨h0, h1, h2, h3, -⟩ := hh
   have g0 : f 0 = _ := h0
   have g1 : f 1 = _ := h1
   obtain ⟨a2, c2, (g2 : f 2 = _)⟩ := h2
   obtain ⟨y3, (g3 : f 3 = _)⟩ := h3
   unfold stStep
   rw [if_pos (by simp [Region.wanted])]
   intro K Q hK
   simp only [puts, Za, Zb, Zc, Zd, Ze, g0, g1, g2, g3]
   go_step
   refine st_ex hK rfl rfl (by simp only [Act.put, setIfInBounds_toArray, set_cons_succ, set_cons_zero, Array.getD_eq_getD_getElem?, List.getElem?_toArray, List.getElem?_cons_succ, List.getElem?_cons_zero, Option.getD_some] <;> rfl) rfl (by rw [hSd] at hS ⊢; exact hS)
 case rest =>
  intro L f WA hL hh hS
  rw [hSd] at hS
  clear hSd
  have l2 : L 2 = true := hL 2 (by decide)
  have l3 : L 3 = true := hL 3 (by decide)
  have l4 : L 4 = true := hL 4 (by decide)
  simp only [stage, l2, l3, l4, if_true] at hS
  clear hL l2 l3 l4
  obtain ⟨h0, h1, h2, h3, h5, -⟩ := hh
  have g0 : f 0 = _ := h0
  have g1 : f 1 = _ := h1
  obtain ⟨a2, c2, (g2 : f 2 = _)⟩ := h2
  obtain ⟨y3, (g3 : f 3 = _)⟩ := h3
  have g5 : f 5 = _ := h5
  simp only [puts, Za, Zb, Zc, Zd, Ze, g0, g1, g2, g3, g5]
  clear h0 h1 h5 g0 g1 g5
  obtain ⟨hbA, hzA, hDB⟩ := hS
  obtain ⟨h', hZA, hDA⟩ := hDB
  obtain ⟨-, -, hbw⟩ := HO.out WA hbA
  go_wp2_with (fail)
  refine bodyPost_ret (results_cell_row2 rfl _ _ (w.heap.size + 1) _ _ _ _ rfl rfl hZA Try.underlying25 rfl ref_i) rfl ?_
  exact ⟨⟨h', rfl, hDA⟩, hbw⟩
set_option maxRecDepth 20000 in
set_option maxHeartbeats 4000000 in
theorem refCanonical_no {d : Dfa} {h : DH} {w : World} (hv : ¬ ValidD d) (hd : IsDfa w h d) : Calls Try.prog 15 #[vDf d h] w (GivesDE zeroD 1 w) := by
 obtain ⟨W1, hW1, hs1, hb1, hO⟩ := boxRW d h w hd
 obtain ⟨W2, hW2, hb2, hs2, hZ2⟩ := rbox_ready hs1
 have HO : Hid (∀ W, Below (w.heap.size + 1) W2 W → (W.cell? ⟨w.heap.size, 0, none⟩ = some (.int .i64 d.n) ∧ W.cell? ⟨w.heap.size, 1, none⟩ = some (.int .i64 d.s) ∧ W.cell? ⟨w.heap.size, 2, none⟩ = some (.slice h.fa h.fl h.fc) ∧ W.cell? ⟨w.heap.size, 3, none⟩ = some (.slice h.aa h.al h.ac)) ∧ IsDfa W h d ∧ Below w.heap.size w W) := Lib.hid (fun W hb => hO W ((hb2.mono (by omega)).trans hb))
 obtain ⟨⟨c1, c2, c3, c4⟩, hd2, -⟩ := HO.out W2 (Below.refl _ _)
 have hva := refValid_no hv hd2
 have HS2 := Lib.hid hs2
 have HZ2 := Lib.hid hZ2
 unfold vDf at hva ⊢
 clear hO hb2 hb1 hd2 hv hs2 hZ2
 go_enter Try.func15, Try.ntmps15
 go_wp2_with (first | (go_at_call 25; refine hva.mono ?_; rintro e w3 ⟨rfl, hb3⟩; obtain ⟨⟨k1, k2, k3, k4⟩, hd3, hbw3⟩ := HO.out w3 (hb3.mono (by rw [HS2.out]; omega)); have HZ3 : Hid (w3.heap[w.heap.size + 1]? = some (.cells #[.int .i64 0, .int .i64 0, .slice none 0 0, .slice none 0 0] 25 (0, 0))) := Lib.hid (by rw [hb3.block _ (by rw [HS2.out]; omega)]; exact HZ2.out)) | (show wpList _ _ _ (⟨_, .store 25 _ _, _, _, _, _⟩ :: _) _ _; refine wpList_store_row rfl 25 _ _ rfl (w.heap.size + 1) #[.int .i64 0, .int .i64 0, .slice none 0 0, .slice none 0 0] rfl rfl _ _ HZ3.out ref_i rfl (dfa_one _ _ _ _ _ _ _ _) ?_))
 refine bodyPost_ret (results_cell_row2 rfl _ _ (w.heap.size + 1) _ _ _ _ rfl rfl (setRow_heap _ _ _ _ _ _ HZ3.out) Try.underlying25 rfl ref_i) rfl ?_
 exact ⟨⟨⟨none, 0, 0, none, 0, 0⟩, rfl, isDfa_zero _⟩, below_setRow hbw3 (by omega) _⟩

theorem refCanonical_any {d : Dfa} {h : DH} {w : World} (hd : IsDfa w h d) : Calls Try.prog 15 #[vDf d h] w (GivesDE (orZero d (canF d)) (orErr d) w) := by
 by_cases hv : ValidD d
 ·unfold orZero orErr
  rw [if_pos hv, if_pos hv]
  exact refCanonical_yes hv hd
 ·unfold orZero orErr
  rw [if_neg hv, if_neg hv]
  exact refCanonical_no hv hd
end Go.Proofs.Ytpcbmhfnefhenaa
