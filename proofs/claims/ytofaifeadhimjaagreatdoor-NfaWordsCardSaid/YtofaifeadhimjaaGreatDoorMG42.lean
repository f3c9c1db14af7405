import Derived.Test.YtofaifeadhimjaaGreatDoorMG1
import Derived.Test.YtofaifeadhimjaaGreatDoorMG3
import Derived.Test.YtofaifeadhimjaaGreatDoorMG31
import Derived.Test.YtofaifeadhimjaaGreatDoorMG35
/-
  NfaRo, Wds
-/
set_option linter.unusedSimpArgs false
set_option linter.unusedVariables false
namespace Go.Proofs.YtofaifeadhimjaaGreatDoor
open Go.RowKit
attribute [local go_sem] Oper.semAt_some

theorem withO_any {a : Option Addr} {len cap : Nat} {xs : List Int} (n : Int) {w : World} (hs : IsInts .i64 w a len cap xs) (hl : len ≤ 1000000) : Calls Tryz.prog 52 #[.slice a len cap, .int .i64 n] w (GivesR (Bt.withL xs n) w) := by
 refine (Bt.refWith_any a len cap xs n w hs hl).mono ?_
 rintro e w' ⟨a3, n3, c3, rfl, ho, hb⟩
 have h2 : (Bt.withL xs n).length = n3 := (IsInts.of_owns ho).1.length
 subst h2
 exact ⟨⟨a3, c3, rfl, ho⟩, hb⟩
set_option maxRecDepth 20000 in
set_option maxHeartbeats 4000000 in
theorem sortedO_any {w : World} {aq : Option Addr} {lq cq : Nat} {zs : List Int} (hq : IsInts .i64 w aq lq cq zs) (hl : lq ≤ 100000) :
  Calls Tryz.prog 50 #[.slice aq lq cq] w (GivesR (sortW Bt.withL zs) w) := by
 have HQL := Lib.hid hq.length
 go_enter Tryz.func50, Tryz.ntmps50
 go_wp2_with (fail)
 go_loopw [3, 4] (fun v c W => ∃ (k : Nat) (a : Option Addr) (cp : Nat), k ≤ lq ∧ c = .int .i64 (k : Int) ∧ v = .slice a (sortW Bt.withL (zs.take k)).length cp ∧ W.ownsRow w.heap.size 3 1 (.slice a (sortW Bt.withL (zs.take k)).length cp) (sortW Bt.withL (zs.take k)).length (ivs .i64 (sortW Bt.withL (zs.take k))) ∧ Below w.heap.size w W) (fun _ c _ => lq - (intOf c).toNat)
 case atStart => exact ⟨0, none, 0, Nat.zero_le _, rfl, rfl, World.ownsRow_nil _ _ _ _, Below.refl _ _⟩
 case round =>
  obtain ⟨k, a, cp, hk, rfl, rfl, hi, hb⟩ := hrel
  rcases Nat.lt_or_ge k lq with hlt | hge
  ·have t1 : decide (k < lq) = true := decide_eq_true hlt
   obtain ⟨bs, os, rfl, hbl, hc⟩ := hq.at wr hb k hlt
   have HN : Hid (sortW Bt.withL (zs.take (k + 1)) = Bt.withL (sortW Bt.withL (zs.take k)) (gi zs k)) := Lib.hid (sortW_take (by rw [HQL.out]; exact hlt))
   have hsl := sortW_len zs k (by rw [HQL.out]; exact hk)
   obtain ⟨S, hS⟩ : ∃ S, sortW Bt.withL (zs.take k) = S := ⟨_, rfl⟩
   rw [hS] at HN hi hsl ⊢
   obtain ⟨z, hz⟩ : ∃ z, gi zs k = z := ⟨_, rfl⟩
   rw [hz] at HN hc
   have hw := withO_any z (IsInts.of_owns hi).1 (by omega)
   have HB := Lib.hid hb
   clear hS hz hi hb hsl
   go_wp2_with (go_at_call 52; refine hw.mono ?_; rintro e w2 ⟨⟨a2, c2, rfl, hi2⟩, hb2⟩; clear hw)
   go_roundw
   case rel => exact ⟨k + 1, a2, c2, hlt, by go_num, by rw [HN.out], by rw [HN.out]; exact hi2.from_mono HB.out.size, HB.out.trans (hb2.mono HB.out.size)⟩
   case measure => simp [intOf]; omega
  ·have t1 : decide (k < lq) = false := decide_eq_false (by omega)
   obtain rfl : k = lq := by omega
   rw [List.take_of_length_le (by rw [HQL.out]; exact Nat.le_refl _)] at hi ⊢
   have HI := Lib.hid hi
   clear hi
   go_wp2_with (fail)
   go_ret
   exact ⟨⟨a, cp, rfl, HI.out⟩, hb⟩
set_option maxRecDepth 20000 in
set_option maxHeartbeats 8000000 in
theorem closureO_any {a : Nfa} {h : NH} {w : World} {aq : Option Addr} {lq cq : Nat} {zs : List Int} (hv : ValidN a) (hd : IsNfa w h a) (hq : IsInts .i64 w aq lq cq zs) (hz : Bd a.n zs) (hl : lq ≤ 100000) :
  Calls Tryz.prog 23 #[vNf a h, .slice aq lq cq] w (GivesR (cloL a.arcs zs) w) := by
 obtain ⟨W1, hW1, hs1, hb1, hO⟩ := boxRN a h w hd
 have hso := sortedO_any (hq.later hb1) hl
 have HA := Lib.hid hv.arcsIn
 have hn0 := hv.1
 obtain ⟨n, ss, fin, es⟩ := a
 obtain ⟨sa, sl, sc, fa, fl, fc, aa, al, ac⟩ := h
 have hel := hd.3.length
 simp only at hn0 hel hz HA hO hW1 ⊢
 have HEL := Lib.hid hel
 have HO := Lib.hid hO
 have HS1 := Lib.hid hs1
 have HZ := Lib.hid hz
 have hal : al ≤ 2000 := by have := hv.2.2.1; simp only at this; omega
 unfold vNf
 simp only
 clear hd hq hO hb1 hs1 hz hv hel
 go_enter Tryz.func23, Tryz.ntmps23
 go_wp2_with (go_at_call 50; refine hso.mono ?_; rintro e w2 ⟨⟨a2, c2, rfl, hi2⟩, hb2⟩)
 have HI0 : Hid (CloI es zs (sortW Bt.withL zs) ∧ 0 ≤ (sortW Bt.withL zs).length) := Lib.hid ⟨CloI.start with_law zs es, Nat.zero_le _⟩
 have HB2 : Hid (Below (w.heap.size + 1) W1 w2) := Lib.hid (hb2.mono (by rw [HS1.out]; exact Nat.le_refl _))
 have HI2 : Hid (w2.ownsRow w.heap.size 3 1 (.slice a2 (sortW Bt.withL zs).length c2) (sortW Bt.withL zs).length (ivs .i64 (sortW Bt.withL zs))) := Lib.hid (hi2.from_mono (by rw [HS1.out]; exact Nat.le_succ _))
 clear hb2 hi2 hso hW1
 go_loopw [5, 6] (fun v c W => ∃ (r : Nat) (aS : Option Addr) (cS : Nat) (S : List Int), c = .int .i64 (r : Int) ∧ (r : Int) ≤ n ∧ v = .slice aS S.length cS ∧ W.ownsRow w.heap.size 3 1 (.slice aS (S).length cS) (S).length (ivs .i64 (S)) ∧ Hid (CloI es zs S ∧ r ≤ S.length) ∧ Below (w.heap.size + 1) W1 W) (fun _ c _ => n.toNat - (intOf c).toNat)
 case atStart => exact ⟨0, a2, c2, _, rfl, by omega, rfl, HI2.out, HI0, HB2.out⟩
 case round =>
  clear HI0 HI2 HB2
  obtain ⟨r, aS, cS, S, rfl, hr, rfl, hi, HC, hb⟩ := hrel
  obtain ⟨⟨e1, e2, e3, e4⟩, hdr, hbw⟩ := HO.out wr hb
  by_cases hrn : (r : Int) < n
  ·have t1 : decide ((r : Int) < n) = true := decide_eq_true hrn
   have HI := Lib.hid hi
   have HB := Lib.hid hb
   have hz1 : w.heap.size + 1 ≤ wr.heap.size := by have := hb.size; have := HS1.out; omega
   clear hi hb hdr hbw
   go_wp2_with (fail)
   obtain ⟨wo, hwo⟩ : ∃ wo : World, wo = wr := ⟨_, rfl⟩
   subst hwo
   clear e1 e2 e3 e4
   go_loopw [5, 8] (fun v c W => ∃ (j : Nat) (aT : Option Addr) (cT : Nat), j ≤ al ∧ c = .int .i64 (j : Int) ∧ v = .slice aT (roundE Bt.withL (es.take j) S).length cT ∧ W.ownsRow w.heap.size 3 1 (.slice aT (roundE Bt.withL (es.take j) S).length cT) (roundE Bt.withL (es.take j) S).length (ivs .i64 (roundE Bt.withL (es.take j) S)) ∧ Below wo.heap.size wo W) (fun _ c _ => al - (intOf c).toNat)
   case atStart => exact ⟨0, aS, cS, Nat.zero_le _, rfl, rfl, HI.out, Below.refl _ _⟩
   case round =>
    clear HI
    obtain ⟨j, aT, cT, hj, rfl, rfl, hiT, hbT⟩ := hrel
    obtain ⟨⟨e1, e2, e3, e4⟩, hdr, hbw⟩ := HO.out wr (HB.out.trans (hbT.mono hz1))
    have HCT : Hid (CloI es zs (roundE Bt.withL (es.take j) S)) := Lib.hid (roundE_keep with_law _ (fun x hx => List.mem_of_mem_take hx) HC.out.1)
    have HTL : Hid ((roundE Bt.withL (es.take j) S).length ≤ 4096) := Lib.hid (by
     have h1 := bd_len HCT.out.1 (HCT.out.bd HA.out HZ.out)
     have h2 := HA.out.1
     omega)
    rcases Nat.lt_or_ge j al with hlt | hge
    ·have t2 : decide (j < al) = true := decide_eq_true hlt
     obtain ⟨b, off, rfl, hcell⟩ := hdr.3.fix (by simp only; omega)
     obtain ⟨x1, x2, x3, hx⟩ : ∃ x1 x2 x3, g3 es j = ⟨x1, x2, x3⟩ := ⟨_, _, _, rfl⟩
     obtain ⟨cx1, cx2, cx3⟩ := hcell wr (Below.refl _ _) j hlt
     simp only at cx1 cx2 cx3
     rw [hx] at cx1 cx2 cx3
     simp only at cx1 cx2 cx3
     have HN : Hid (roundE Bt.withL (es.take (j + 1)) S = stepE Bt.withL (roundE Bt.withL (es.take j) S) ⟨x1, x2, x3⟩) := Lib.hid (by rw [roundE_succ _ _ _ (by rw [HEL.out]; exact hlt), hx])
     obtain ⟨T, hT⟩ : ∃ T, roundE Bt.withL (es.take j) S = T := ⟨_, rfl⟩
     rw [hT] at HN HTL hiT HCT ⊢
     obtain ⟨Wn, hWn⟩ : ∃ Wn, wr.alloc (.cells #[.int .i64 x1, .int .i64 x2, .int .i64 x3] 57) = Wn := ⟨_, rfl⟩
     have hbn : Below wr.heap.size wr Wn := by rw [← hWn]; exact (Below.refl _ _).alloc (Nat.le_refl _) _
     have HX : Hid (∀ W, Below Wn.heap.size Wn W → W.cell? ⟨wr.heap.size, 0, none⟩ = some (.int .i64 x1) ∧ W.cell? ⟨wr.heap.size, 1, none⟩ = some (.int .i64 x2) ∧ W.cell? ⟨wr.heap.size, 2, none⟩ = some (.int .i64 x3)) := Lib.hid (fun W h => (boxRA ⟨x1, x2, x3⟩ wr).2.2 W (by simp only; rw [hWn]; exact h.mono (by rw [← hWn]; simp)))
     obtain ⟨f5, f6, f7⟩ := HX.out Wn (Below.refl _ _)
     have hoN := hiT.kept_below hbn
     have hiN := (IsInts.of_owns hoN).1
     have HBN : Hid (Below wo.heap.size wo Wn) := Lib.hid (hbT.trans (hbn.mono hbT.size))
     have HWN := Lib.hid hWn
     have htl := HTL.out
     clear hT hx hWn hcell hbn hiT hbT hdr hbw
     go_upto_region 10 with (fail)
     rw [HWN.out]
     clear e1 e2 e3 e4 cx1 cx2 cx3
     by_cases h0 : x2 = 0
     ·have q1 : (x2 == 0) = true := by simp [h0]
      have hhas := Bt.refHas_any aT T.length cT T x1 Wn hiN (by omega)
      by_cases hm : x1 ∈ T
      ·rw [decide_eq_true hm] at hhas
       have HE : Hid (roundE Bt.withL (es.take (j + 1)) S = Bt.withL T x3) := Lib.hid (by rw [HN.out]; unfold stepE; rw [if_pos ⟨h0, hm⟩])
       have hw := withO_any x3 hiN (by omega)
       clear h0 hm
       go_wp2_with (first
        | (go_at_call 51; refine hhas.mono ?_; rintro e w4 ⟨rfl, rfl⟩)
        | (go_at_call 52; refine hw.mono ?_; rintro e w5 ⟨⟨a5, c5, rfl, hi5⟩, hb5⟩; clear hw))
       go_roundw
       case rel => exact ⟨j + 1, a5, c5, hlt, by go_num, by rw [HE.out], by rw [HE.out]; exact hi5.from_mono (Nat.le_trans (Nat.le_of_succ_le hz1) HBN.out.size), HBN.out.trans (hb5.mono HBN.out.size)⟩
       case measure => simp [intOf]; omega
      ·rw [decide_eq_false hm] at hhas
       have HE : Hid (roundE Bt.withL (es.take (j + 1)) S = T) := Lib.hid (by rw [HN.out]; unfold stepE; rw [if_neg (fun h => hm h.2)])
       clear h0 hm
       go_wp2_with (go_at_call 51; refine hhas.mono ?_; rintro e w4 ⟨rfl, rfl⟩)
       go_roundw
       case rel => exact ⟨j + 1, aT, cT, hlt, by go_num, by rw [HE.out], by rw [HE.out]; exact hoN, HBN.out⟩
       case measure => simp [intOf]; omega
     ·have q1 : (x2 == 0) = false := by simp [h0]
      have HE : Hid (roundE Bt.withL (es.take (j + 1)) S = T) := Lib.hid (by rw [HN.out]; unfold stepE; rw [if_neg (fun h => h0 h.1)])
      clear h0
      go_wp2_with (fail)
      go_roundw
      case rel => exact ⟨j + 1, aT, cT, hlt, by go_num, by rw [HE.out], by rw [HE.out]; exact hoN, HBN.out⟩
      case measure => simp [intOf]; omega
    ·have t2 : decide (j < al) = false := decide_eq_false (by omega)
     obtain rfl : j = al := by omega
     have hful : es.take j = es := List.take_of_length_le (by rw [HEL.out]; exact Nat.le_refl _)
     rw [hful] at hiT HCT HTL ⊢
     have hlen := roundE_len with_law es (fun x hx => hx) HC.out.1
     obtain ⟨T, hT⟩ : ∃ T, roundE Bt.withL es S = T := ⟨_, rfl⟩
     rw [hT] at hiT HCT HTL hlen ⊢
     have HIT := Lib.hid hiT
     have HBO : Hid (Below (w.heap.size + 1) W1 wr) := Lib.hid (HB.out.trans (hbT.mono hz1))
     have HBW := Lib.hid hbw
     have HLEN := Lib.hid hlen
     clear hful hT hiT hbT hdr hbw hlen
     by_cases hm : T.length = S.length
     ·have t3 : ((T.length : Int) == (S.length : Int)) = true := by simp [hm]
      have HEE : Hid (S = cloL es zs ∧ T = S) := Lib.hid (by
       obtain ⟨h1, h2⟩ := HLEN.out.2 hm
       exact ⟨HC.out.1.closed HA.out HZ.out h2, h1⟩)
      clear hm
      go_wp2_with (fail)
      go_ret
      rw [← HEE.out.1, ← HEE.out.2]
      exact ⟨⟨aT, cT, rfl, HIT.out⟩, HBW.out⟩
     ·have t3 : ((T.length : Int) == (S.length : Int)) = false := by simp; omega
      have HCR : Hid (CloI es zs T ∧ r + 1 ≤ T.length) := Lib.hid ⟨HCT.out, by have := HLEN.out.1; have := HC.out.2; omega⟩
      have hrb : n ≤ 4096 := HA.out.1
      clear hm
      go_wp2_with (fail)
      go_roundw
      case rel => exact ⟨r + 1, aT, cT, T, by go_num, by omega, rfl, HIT.out, HCR, HBO.out⟩
      case measure => simp [intOf]; omega
  ·have t1 : decide ((r : Int) < n) = false := decide_eq_false hrn
   have HEE : Hid (S = cloL es zs) := Lib.hid (HC.out.1.full HA.out HZ.out (by have := HC.out.2; omega))
   have HI := Lib.hid hi
   have HBW := Lib.hid hbw
   clear hi hdr hbw
   go_wp2_with (fail)
   go_ret
   rw [← HEE.out]
   exact ⟨⟨aS, cS, rfl, HI.out⟩, HBW.out⟩
set_option maxRecDepth 20000 in
set_option maxHeartbeats 8000000 in
theorem refstepO_any {a : Nfa} {h : NH} {w : World} {aq : Option Addr} {lq cq : Nat} {zs : List Int} {c : Int} (hv : ValidN a) (hd : IsNfa w h a) (hq : IsInts .i64 w aq lq cq zs) (hz : Bd a.n zs) (hl : lq ≤ 100000) :
  Calls Tryz.prog 24 #[vNf a h, .slice aq lq cq, .int .i64 c] w (GivesR (stpL a.arcs zs c) w) := by
 obtain ⟨W1, hW1, hs1, hb1, hO⟩ := boxRN a h w hd
 have hcl := closureO_any hv (hd.later hb1) (hq.later hb1) hz hl
 have HCL := Lib.hid (fun W hW {aq : Option Addr} {lq cq : Nat} {zs : List Int} (hq : IsInts .i64 W aq lq cq zs) (hz : Bd a.n zs) (hl : lq ≤ 100000) => closureO_any hv (hO W hW).2.1 hq hz hl)
 have HA := Lib.hid hv.arcsIn
 have hn0 := hv.1
 obtain ⟨S, hS⟩ : ∃ S, cloL a.arcs zs = S := ⟨_, rfl⟩
 have HST : Hid (stpL a.arcs zs c = cloL a.arcs (stO S c a.arcs) ∧ Bd a.n (stO S c a.arcs)) := Lib.hid (by
  obtain ⟨h1, h2⟩ := stO_clo hv.arcsIn S c
  exact ⟨by rw [h1, ← hS]; rfl, h2⟩)
 have hSl : S.length ≤ 200 := by
  rw [← hS]
  have := bd_len (cloL_asc a.arcs zs) (cloL_bd hv.arcsIn hz)
  have := hv.1
  omega
 rw [hS] at hcl
 obtain ⟨n, ss, fin, es⟩ := a
 obtain ⟨sa, sl, sc, fa, fl, fc, aa, al, ac⟩ := h
 have hel := hd.3.length
 simp only [vNf] at hn0 hel hz HA hO hW1 hcl HCL HST ⊢
 have HEL := Lib.hid hel
 have HO := Lib.hid hO
 have HS1 := Lib.hid hs1
 have hal : al ≤ 2000 := by have := hv.2.2.1; simp only at this; omega
 obtain ⟨⟨d1, d2, d3, d4⟩, -, -⟩ := hO W1 (Below.refl _ _)
 clear hd hq hO hb1 hs1 hz hv hel hS
 go_enter Tryz.func24, Tryz.ntmps24
 go_wp2_with (go_at_call 23; refine hcl.mono ?_; rintro e w2 ⟨⟨a2, c2, rfl, hi2⟩, hb2⟩; clear hcl)
 have HB2 : Hid (Below (w.heap.size + 1) W1 w2 ∧ w.heap.size + 1 ≤ w2.heap.size) := Lib.hid ⟨hb2.mono (by rw [HS1.out]; exact Nat.le_refl _), by rw [← HS1.out]; exact hb2.size⟩
 have HI2 := Lib.hid (IsInts.of_owns hi2).1
 clear hb2 hi2 hW1 d1 d2 d3 d4
 go_loopw [8, 9] (fun v k W => ∃ (j : Nat) (aT : Option Addr) (cT : Nat), j ≤ al ∧ k = .int .i64 (j : Int) ∧ v = .slice aT (stO S c (es.take j)).length cT ∧ IsInts .i64 W aT (stO S c (es.take j)).length cT (stO S c (es.take j)) ∧ Below w2.heap.size w2 W) (fun _ k _ => al - (intOf k).toNat)
 case atStart => exact ⟨0, none, 0, Nat.zero_le _, rfl, rfl, .inl ⟨rfl, rfl, rfl, rfl⟩, Below.refl _ _⟩
 case round =>
  obtain ⟨j, aT, cT, hj, rfl, rfl, hiT, hbT⟩ := hrel
  obtain ⟨⟨e1, e2, e3, e4⟩, hdr, hbw⟩ := HO.out wr (HB2.out.1.trans (hbT.mono HB2.out.2))
  have hTl := (stO_facts S c es j (by rw [HEL.out]; exact hj)).2.2
  rcases Nat.lt_or_ge j al with hlt | hge
  ·have t2 : decide (j < al) = true := decide_eq_true hlt
   obtain ⟨b, off, rfl, hcell⟩ := hdr.3.fix (by simp only; omega)
   obtain ⟨x1, x2, x3, hx⟩ : ∃ x1 x2 x3, g3 es j = ⟨x1, x2, x3⟩ := ⟨_, _, _, rfl⟩
   obtain ⟨cx1, cx2, cx3⟩ := hcell wr (Below.refl _ _) j hlt
   simp only at cx1 cx2 cx3
   rw [hx] at cx1 cx2 cx3
   simp only at cx1 cx2 cx3
   have HN : Hid (stO S c (es.take (j + 1)) = stO1 S c (stO S c (es.take j)) ⟨x1, x2, x3⟩) := Lib.hid (by rw [stO_take (by rw [HEL.out]; exact hlt), hx])
   obtain ⟨T, hT⟩ : ∃ T, stO S c (es.take j) = T := ⟨_, rfl⟩
   rw [hT] at HN hTl hiT ⊢
   obtain ⟨Wn, hWn⟩ : ∃ Wn, wr.alloc (.cells #[.int .i64 x1, .int .i64 x2, .int .i64 x3] 57) = Wn := ⟨_, rfl⟩
   have hbn : Below wr.heap.size wr Wn := by rw [← hWn]; exact (Below.refl _ _).alloc (Nat.le_refl _) _
   obtain ⟨f5, f6, f7⟩ := (boxRA ⟨x1, x2, x3⟩ wr).2.2 Wn (by simp only; rw [hWn]; exact (Below.refl _ _))
   have hiN := hiT.later hbn
   have HBN : Hid (Below w2.heap.size w2 Wn) := Lib.hid (hbT.trans (hbn.mono hbT.size))
   have hiS := HI2.out.later HBN.out
   have HWN := Lib.hid hWn
   clear hT hx hWn hcell hbn hiT hbT hdr hbw
   go_upto_region 7 with (fail)
   rw [HWN.out]
   clear e1 e2 e3 e4 cx1 cx2 cx3
   simp only at f5 f6 f7
   have keep : (¬ (0 < c ∧ x2 = c ∧ x1 ∈ S)) → stO S c (es.take (j + 1)) = T := fun hn => by rw [HN.out]; unfold stO1; rw [if_neg hn]
   by_cases h0 : 0 < c
   ·have q0 : decide (0 < c) = true := decide_eq_true h0
    by_cases h1 : x2 = c
    ·have q1 : (x2 == c) = true := by simp [h1]
     have hhas := Bt.refHas_any a2 S.length c2 S x1 Wn hiS (by omega)
     by_cases hm : x1 ∈ S
     ·rw [decide_eq_true hm] at hhas
      have HE : Hid (stO S c (es.take (j + 1)) = Bt.withL T x3) := Lib.hid (by rw [HN.out]; unfold stO1; rw [if_pos ⟨h0, h1, hm⟩])
      have hw := with_any x3 hiN (by omega)
      clear h0 hm h1 keep
      go_wp2_with (first
       | (go_at_call 51; refine hhas.mono ?_; rintro e w4 ⟨rfl, rfl⟩)
       | (go_at_call 52; refine hw.mono ?_; rintro e w5 ⟨⟨a5, c5, rfl, hi5⟩, hb5⟩; clear hw))
      go_roundw
      case rel => exact ⟨j + 1, a5, c5, hlt, by go_num, by rw [HE.out], by rw [HE.out]; exact hi5, HBN.out.trans (hb5.mono HBN.out.size)⟩
      case measure => simp [intOf]; omega
     ·rw [decide_eq_false hm] at hhas
      have HE := Lib.hid (keep (fun h => hm h.2.2))
      clear h0 hm h1 keep
      go_wp2_with (go_at_call 51; refine hhas.mono ?_; rintro e w4 ⟨rfl, rfl⟩)
      go_roundw
      case rel => exact ⟨j + 1, aT, cT, hlt, by go_num, by rw [HE.out], by rw [HE.out]; exact hiN, HBN.out⟩
      case measure => simp [intOf]; omega
    ·have q1 : (x2 == c) = false := by simp [h1]
     have HE := Lib.hid (keep (fun h => h1 h.2.1))
     clear h0 h1 keep
     go_wp2_with (fail)
     go_roundw
     case rel => exact ⟨j + 1, aT, cT, hlt, by go_num, by rw [HE.out], by rw [HE.out]; exact hiN, HBN.out⟩
     case measure => simp [intOf]; omega
   ·have q0 : decide (0 < c) = false := decide_eq_false h0
    have HE := Lib.hid (keep (fun h => h0 h.1))
    clear h0 keep
    go_wp2_with (fail)
    go_roundw
    case rel => exact ⟨j + 1, aT, cT, hlt, by go_num, by rw [HE.out], by rw [HE.out]; exact hiN, HBN.out⟩
    case measure => simp [intOf]; omega
  ·have t2 : decide (j < al) = false := decide_eq_false (by omega)
   obtain rfl : j = al := by omega
   have hful : es.take j = es := List.take_of_length_le (by rw [HEL.out]; exact Nat.le_refl _)
   rw [hful] at hiT hTl ⊢
   have hcl2 := HCL.out wr (HB2.out.1.trans (hbT.mono HB2.out.2)) hiT HST.out.2 (by omega)
   obtain ⟨R, hR⟩ : ∃ R, stpL es zs c = R := ⟨_, rfl⟩
   rw [← HST.out.1, hR] at hcl2
   have HRR := Lib.hid hR
   have HBW := Lib.hid hbw
   clear hful hiT hbT hdr hbw hR
   go_wp2_with (go_at_call 23; refine hcl2.mono ?_; rintro e w6 ⟨⟨a6, c6, rfl, hi6⟩, hb6⟩; clear hcl2)
   go_ret
   rw [HRR.out]
   exact ⟨⟨a6, c6, rfl, hi6.from_mono HBW.out.size⟩, HBW.out.trans (hb6.mono HBW.out.size)⟩
end Go.Proofs.YtofaifeadhimjaaGreatDoor

set_option linter.unusedVariables false
namespace Go.Proofs.YtofaifeadhimjaaGreatDoor
open Go.RowKit

theorem pcsIff {W : World} {B : Nat} {ps : List Pc} : Pcs W B ps ↔ (∀ p ∈ ps, p.At W B) ∧ ps.Pairwise (fun p q => ∀ k, p.own = some k → q.own ≠ some k) := by
 constructor
 ·intro h
  refine ⟨fun p hp => ?_, List.pairwise_iff_getElem.2 fun i j hi hj hij => h.apart i j _ _ (by omega) (List.getElem?_eq_getElem hi) (List.getElem?_eq_getElem hj)⟩
  obtain ⟨i, hi, e⟩ := List.getElem_of_mem hp
  exact h.each i p (by rw [List.getElem?_eq_getElem hi, e])
 ·rintro ⟨h1, h2⟩
  refine ⟨fun i p hp => h1 p (List.mem_of_getElem? hp), fun i j p q hne hp hq k hk e => ?_⟩
  obtain ⟨hi, e1⟩ := List.getElem?_eq_some_iff.1 hp
  obtain ⟨hj, e2⟩ := List.getElem?_eq_some_iff.1 hq
  rcases Nat.lt_or_ge i j with hij | hij
  ·exact List.pairwise_iff_getElem.1 h2 i j hi hj hij k (by rw [e1]; exact hk) (by rw [e2]; exact e)
  ·exact List.pairwise_iff_getElem.1 h2 j i hj hi (by omega) k (by rw [e2]; exact e) (by rw [e1]; exact hk)
theorem Pcs.turn {W : World} {B : Nat} {ps qs : List Pc} (h : Pcs W B ps) (hp : ps.Perm qs) : Pcs W B qs := by
 rw [pcsIff] at h ⊢
 exact ⟨fun p hq => h.1 p (hp.symm.subset hq), (hp.pairwise_iff (fun {a b} h k hb ha => h k ha hb)).1 h.2⟩
theorem Pcs.subw {W : World} {B : Nat} {ps qs : List Pc} (h : Pcs W B ps) (hs : qs.Sublist ps) : Pcs W B qs := by
 rw [pcsIff] at h ⊢
 exact ⟨fun q hq => h.1 q (hs.subset hq), h.2.sublist hs⟩
theorem Pc.At.low {W : World} {B B' : Nat} {p : Pc} (h : p.At W B) (hb : B' ≤ B) : p.At W B' := by
 cases p with
 | row E size v n xs => exact World.ownsRow.from_mono h hb
 | blk b cs => exact ⟨Nat.le_trans hb h.1, h.2⟩
 | obj b φ => exact ⟨Nat.le_trans hb h.1, h.2⟩
structure Wd where
 a : Option Addr
 c : Nat
 z : List Int
def Wd.v (x : Wd) : Value := .slice x.a x.z.length x.c
def Wd.pc (x : Wd) : Pc := .row 3 1 x.v x.z.length (ivs .i64 x.z)
def gwd (vs : List Wd) (i : Nat) : Wd := vs.getD i ⟨none, 0, []⟩
theorem gwd_eq (vs : List Wd) (i : Nat) (h : i < vs.length) : gwd vs i = vs[i] := by simp [gwd, List.getD, h]
theorem gwd_mem {vs : List Wd} {i : Nat} (h : i < vs.length) : gwd vs i ∈ vs := by rw [gwd_eq vs i h]; exact List.getElem_mem h
theorem Wd.ints {W : World} {B : Nat} {x : Wd} (h : Pc.At W B x.pc) : IsInts .i64 W x.a x.z.length x.c x.z := (IsInts.of_owns h).1
def gwl (Q : List (List Int)) (i : Nat) : List Int := Q.getD i []
theorem gwl_eq (l : List (List Int)) (i : Nat) (h : i < l.length) : gwl l i = l[i] := by simp [gwl, List.getD, h]
theorem gwl_map {vs : List Wd} {i : Nat} (h : i < vs.length) : gwl (vs.map Wd.z) i = (gwd vs i).z := by
 rw [gwl_eq _ _ (by rw [List.length_map]; exact h), List.getElem_map, gwd_eq vs i h]
def IsWs (w : World) (a : Option Addr) (len cap : Nat) (Q : List (List Int)) : Prop :=
 (len = 0 ∧ cap = 0 ∧ Q = []) ∨ ∃ b off, a = some ⟨b, off, none⟩ ∧ len ≤ cap ∧ cap ≤ maxLen ∧ Q.length = len ∧ ∀ i, i < len → ∃ (x : Option Addr) (c : Nat), w.cell? ⟨b, off + i, none⟩ = some (.slice x (gwl Q i).length c) ∧ IsInts .i64 w x (gwl Q i).length c (gwl Q i)
theorem IsWs.later {w w' : World} {a : Option Addr} {len cap : Nat} {Q : List (List Int)} (h : IsWs w a len cap Q) (hb : Below w.heap.size w w') : IsWs w' a len cap Q := by
 rcases h with h | ⟨b, off, h1, h2, h3, h4, h5⟩
 ·exact .inl h
 ·refine .inr ⟨b, off, h1, h2, h3, h4, fun i hi => ?_⟩
  obtain ⟨x, c, k1, k2⟩ := h5 i hi
  exact ⟨x, c, (hb.cell (p := ⟨b, off + i, none⟩) (lt_of_cell k1)).trans k1, k2.later hb⟩
theorem IsWs.length {w : World} {a : Option Addr} {len cap : Nat} {Q : List (List Int)} (h : IsWs w a len cap Q) : Q.length = len := by
 rcases h with ⟨h1, _, h2⟩ | ⟨b, off, h1, h2, h3, h4, h5⟩
 ·rw [h1, h2]; rfl
 ·exact h4
theorem IsWs.at {w : World} {a : Option Addr} {len cap : Nat} {Q : List (List Int)} (h : IsWs w a len cap Q) {i : Nat} (hi : i < len) : ∃ b off x c, a = some ⟨b, off, none⟩ ∧ w.cell? ⟨b, off + i, none⟩ = some (.slice x (gwl Q i).length c) ∧ IsInts .i64 w x (gwl Q i).length c (gwl Q i) := by
 rcases h with ⟨h1, _, h2⟩ | ⟨b, off, h1, h2, h3, h4, h5⟩
 ·omega
 ·obtain ⟨x, c, k1, k2⟩ := h5 i hi
  exact ⟨b, off, x, c, h1, k1, k2⟩
theorem row_cap {W : World} {B E n c : Nat} {a : Option Addr} {xs : List Value} (hr : W.ownsRow B E 1 (.slice a n c) n xs) : (n = 0 ∧ c = 0) ∨ ∃ g, a = some ⟨g, 0, none⟩ ∧ n ≤ c ∧ c ≤ maxLen ∧ ∀ i, i < n → W.cell? ⟨g, i, none⟩ = xs[i]? := by
 rcases hr.2 with ⟨e, h⟩ | ⟨g, cap, cur, e, _, _, h1, h2, _⟩
 ·injection e with e1 e2 e3
  exact .inl ⟨e2, e3⟩
 ·injection e with e1 e2 e3
  subst e3
  refine .inr ⟨g, e1, h1, h2, fun i hi => ?_⟩
  have hl := hr.1
  have h3 := hr.cells (g := g) (by rw [e1]; rfl) i (xs[i]'(by omega)) (List.getElem?_eq_getElem (by omega))
  rw [addr_add, Nat.zero_add] at h3
  exact h3.trans (List.getElem?_eq_getElem (by omega)).symm
structure Td where
 a : Option Addr
 c : Nat
 z : List Bool
def Td.v (x : Td) : Value := .slice x.a x.z.length x.c
def Td.pc (x : Td) : Pc := .row 4 1 x.v x.z.length (bvs x.z)
def IsTab (w : World) (a : Option Addr) (len : Nat) (T : Nat → List Bool) : Prop :=
 ∀ i, i < len → ∃ b off x c, a = some ⟨b, off, none⟩ ∧ w.cell? ⟨b, off + i, none⟩ = some (.slice x (T i).length c) ∧ IsBools w x (T i).length c (T i)
theorem IsTab.later {w w' : World} {a : Option Addr} {len : Nat} {T : Nat → List Bool} (h : IsTab w a len T) (hb : Below w.heap.size w w') : IsTab w' a len T := fun i hi => by
 obtain ⟨b, off, x, c, h1, k1, k2⟩ := h i hi
 exact ⟨b, off, x, c, h1, (hb.cell (p := ⟨b, off + i, none⟩) (lt_of_cell k1)).trans k1, k2.later hb⟩
end Go.Proofs.YtofaifeadhimjaaGreatDoor
