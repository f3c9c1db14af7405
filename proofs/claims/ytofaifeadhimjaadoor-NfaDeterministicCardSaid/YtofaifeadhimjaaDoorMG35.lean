import Derived.Test.YtofaifeadhimjaaDoorMG17
import Derived.Test.YtofaifeadhimjaaDoorMG20
import Derived.Test.YtofaifeadhimjaaDoorMG34
/-
  NfaRc, NfaRp
-/
set_option linter.unusedSimpArgs false
set_option linter.unusedVariables false
namespace Go.Proofs.YtofaifeadhimjaaDoor
open Go.RowKit
attribute [local go_sem] Oper.semAt_some

theorem with_law : WithLaw Bt.withL where
 asc := fun l n h => by
  rw [Bt.withL_asc n l h]
  refine List.pairwise_append.2 ⟨h.filter _, List.pairwise_cons.2 ⟨fun x hx => ?_, h.filter _⟩, fun x hx y hy => ?_⟩
  ·have := (List.mem_filter.1 hx).2; simpa using this
  ·have h1 : x < n := by have := (List.mem_filter.1 hx).2; simpa using this
   rcases List.mem_cons.1 hy with e | hy
   ·rw [e]; exact h1
   ·have h2 : n < y := by have := (List.mem_filter.1 hy).2; simpa using this
    omega
 mem := fun l n z h => by
  rw [Bt.withL_asc n l h, List.mem_append, List.mem_cons, List.mem_filter, List.mem_filter]
  simp only [decide_eq_true_eq]
  constructor
  ·rintro (h1 | h1 | h1)
   ·exact .inl h1.1
   ·exact .inr h1
   ·exact .inl h1.1
  ·rintro (h1 | h1)
   ·rcases Int.lt_trichotomy z n with h2 | h2 | h2
    ·exact .inl ⟨h1, h2⟩
    ·exact .inr (.inl h2)
    ·exact .inr (.inr ⟨h1, h2⟩)
   ·exact .inr (.inl h1)
def GivesI (l : List Int) (w : World) (e : Ending) (w' : World) : Prop := (∃ a c, e = .returned (.slice a l.length c) ∧ IsInts .i64 w' a l.length c l) ∧ Below w.heap.size w w'
theorem with_any {a : Option Addr} {len cap : Nat} {xs : List Int} (n : Int) {w : World} (hs : IsInts .i64 w a len cap xs) (hl : len ≤ 1000000) : Calls Tryd.prog 49 #[.slice a len cap, .int .i64 n] w (GivesI (Bt.withL xs n) w) := by
 refine (Bt.refWith_any a len cap xs n w hs hl).mono ?_
 rintro e w' ⟨a3, n3, c3, rfl, ho, hb⟩
 have h1 := (IsInts.of_owns ho).1
 have h2 : (Bt.withL xs n).length = n3 := h1.length
 subst h2
 exact ⟨⟨a3, c3, rfl, h1⟩, hb⟩
theorem sortW_take {l : List Int} {k : Nat} (hk : k < l.length) : sortW Bt.withL (l.take (k + 1)) = Bt.withL (sortW Bt.withL (l.take k)) (gi l k) := by
 unfold sortW
 rw [List.take_add_one, List.getElem?_eq_getElem hk, Option.toList_some, List.foldl_append, gi_eq _ _ hk]
 rfl
theorem sortW_len (l : List Int) (k : Nat) (hk : k ≤ l.length) : (sortW Bt.withL (l.take k)).length ≤ k := by
 induction k with
 | zero => simp [sortW]
 | succ k ih =>
  rw [sortW_take (by omega)]
  have h1 := ih (by omega)
  have h2 := Bt.withL_len (sortW Bt.withL (l.take k)) (gi l k)
  omega
set_option maxRecDepth 20000 in
set_option maxHeartbeats 4000000 in
theorem sorted_any {w : World} {aq : Option Addr} {lq cq : Nat} {zs : List Int} (hq : IsInts .i64 w aq lq cq zs) (hl : lq ≤ 100000) :
  Calls Tryd.prog 69 #[.slice aq lq cq] w (GivesI (sortW Bt.withL zs) w) := by
 have HQL := Lib.hid hq.length
 go_enter Tryd.func69, Tryd.ntmps69
 go_wp2_with (fail)
 go_loopw [3, 4] (fun v c W => ∃ (k : Nat) (a : Option Addr) (cp : Nat), k ≤ lq ∧ c = .int .i64 (k : Int) ∧ v = .slice a (sortW Bt.withL (zs.take k)).length cp ∧ IsInts .i64 W a (sortW Bt.withL (zs.take k)).length cp (sortW Bt.withL (zs.take k)) ∧ Below w.heap.size w W) (fun _ c _ => lq - (intOf c).toNat)
 case atStart => exact ⟨0, none, 0, Nat.zero_le _, rfl, rfl, .inl ⟨rfl, rfl, rfl, rfl⟩, Below.refl _ _⟩
 case round =>
  obtain ⟨k, a, cp, hk, rfl, rfl, hi, hb⟩ := hrel
  rcases Nat.lt_or_ge k lq with hlt | hge
  ·have t1 : decide (k < lq) = true := decide_eq_true hlt
   obtain ⟨bs, os, rfl, hbl, hc⟩ := hq.at wr hb k hlt
   have HN : Hid (sortW Bt.withL (zs.take (k + 1)) = Bt.withL (sortW Bt.withL (zs.take k)) (gi zs k)) := Lib.hid (sortW_take (by rw [HQL.out]; exact hlt))
   have hsl := sortW_len zs k (by rw [HQL.out]; exact hk)
   obtain ⟨S, hS⟩ : ∃ S, sortW Bt.withL (zs.take k) = S := ⟨_, rfl⟩
   rw [hS] at HN hi hsl ⊢
   obtain ⟨z, hz⟩ : ∃ z, gi zs k = z := ⟨_, rfl⟩
   rw [hz] at HN hc
   have hw := with_any z hi (by omega)
   have HB := Lib.hid hb
   clear hS hz hi hb hsl
   go_wp2_with (go_at_call 49; refine hw.mono ?_; rintro e w2 ⟨⟨a2, c2, rfl, hi2⟩, hb2⟩; clear hw)
   go_roundw
   case rel => exact ⟨k + 1, a2, c2, hlt, by go_num, by rw [HN.out], by rw [HN.out]; exact hi2, HB.out.trans (hb2.mono HB.out.size)⟩
   case measure => simp [intOf]; omega
  ·have t1 : decide (k < lq) = false := decide_eq_false (by omega)
   obtain rfl : k = lq := by omega
   rw [List.take_of_length_le (by rw [HQL.out]; exact Nat.le_refl _)] at hi ⊢
   have HI := Lib.hid hi
   clear hi
   go_wp2_with (fail)
   go_ret
   exact ⟨⟨a, cp, rfl, HI.out⟩, hb⟩
set_option maxRecDepth 20000 in
set_option maxHeartbeats 8000000 in
theorem closure_any {a : Nfa} {h : NH} {w : World} {aq : Option Addr} {lq cq : Nat} {zs : List Int} (hv : ValidN a) (hd : IsNfa w h a) (hq : IsInts .i64 w aq lq cq zs) (hz : Bd a.n zs) (hl : lq ≤ 100000) :
  Calls Tryd.prog 39 #[vNf a h, .slice aq lq cq] w (GivesI (cloL a.arcs zs) w) := by
 obtain ⟨W1, hW1, hs1, hb1, hO⟩ := boxRN a h w hd
 have hso := sorted_any (hq.later hb1) hl
 have HA := Lib.hid hv.arcsIn
 have hn0 := hv.1
 obtain ⟨n, ss, fin, es⟩ := a
 obtain ⟨sa, sl, sc, fa, fl, fc, aa, al, ac⟩ := h
 have hel := hd.3.length
 simp only at hn0 hel hz HA hO hW1 ⊢
 have HEL := Lib.hid hel
 have HO := Lib.hid hO
 have HS1 := Lib.hid hs1
 have HZ := Lib.hid hz
 have hal : al ≤ 2000 := by have := hv.2.2.1; simp only at this; omega
 unfold vNf
 simp only
 clear hd hq hO hb1 hs1 hz hv hel
 go_enter Tryd.func39, Tryd.ntmps39
 go_wp2_with (go_at_call 69; refine hso.mono ?_; rintro e w2 ⟨⟨a2, c2, rfl, hi2⟩, hb2⟩)
 have HI0 : Hid (CloI es zs (sortW Bt.withL zs) ∧ 0 ≤ (sortW Bt.withL zs).length) := Lib.hid ⟨CloI.start with_law zs es, Nat.zero_le _⟩
 have HB2 : Hid (Below (w.heap.size + 1) W1 w2) := Lib.hid (hb2.mono (by rw [HS1.out]; exact Nat.le_refl _))
 have HI2 := Lib.hid hi2
 clear hb2 hi2 hso hW1
 go_loopw [5, 6] (fun v c W => ∃ (r : Nat) (aS : Option Addr) (cS : Nat) (S : List Int), c = .int .i64 (r : Int) ∧ (r : Int) ≤ n ∧ v = .slice aS S.length cS ∧ IsInts .i64 W aS S.length cS S ∧ Hid (CloI es zs S ∧ r ≤ S.length) ∧ Below (w.heap.size + 1) W1 W) (fun _ c _ => n.toNat - (intOf c).toNat)
 case atStart => exact ⟨0, a2, c2, _, rfl, by omega, rfl, HI2.out, HI0, HB2.out⟩
 case round =>
  clear HI0 HI2 HB2
  obtain ⟨r, aS, cS, S, rfl, hr, rfl, hi, HC, hb⟩ := hrel
  obtain ⟨⟨e1, e2, e3, e4⟩, hdr, hbw⟩ := HO.out wr hb
  by_cases hrn : (r : Int) < n
  ·have t1 : decide ((r : Int) < n) = true := decide_eq_true hrn
   have HI := Lib.hid hi
   have HB := Lib.hid hb
   have hz1 : w.heap.size + 1 ≤ wr.heap.size := by have := hb.size; have := HS1.out; omega
   clear hi hb hdr hbw
   go_wp2_with (fail)
   obtain ⟨wo, hwo⟩ : ∃ wo : World, wo = wr := ⟨_, rfl⟩
   subst hwo
   clear e1 e2 e3 e4
   go_loopw [5, 8] (fun v c W => ∃ (j : Nat) (aT : Option Addr) (cT : Nat), j ≤ al ∧ c = .int .i64 (j : Int) ∧ v = .slice aT (roundE Bt.withL (es.take j) S).length cT ∧ IsInts .i64 W aT (roundE Bt.withL (es.take j) S).length cT (roundE Bt.withL (es.take j) S) ∧ Below wo.heap.size wo W) (fun _ c _ => al - (intOf c).toNat)
   case atStart => exact ⟨0, aS, cS, Nat.zero_le _, rfl, rfl, HI.out, Below.refl _ _⟩
   case round =>
    clear HI
    obtain ⟨j, aT, cT, hj, rfl, rfl, hiT, hbT⟩ := hrel
    obtain ⟨⟨e1, e2, e3, e4⟩, hdr, hbw⟩ := HO.out wr (HB.out.trans (hbT.mono hz1))
    have HCT : Hid (CloI es zs (roundE Bt.withL (es.take j) S)) := Lib.hid (roundE_keep with_law _ (fun x hx => List.mem_of_mem_take hx) HC.out.1)
    have HTL : Hid ((roundE Bt.withL (es.take j) S).length ≤ 4096) := Lib.hid (by
     have h1 := bd_len HCT.out.1 (HCT.out.bd HA.out HZ.out)
     have h2 := HA.out.1
     omega)
    rcases Nat.lt_or_ge j al with hlt | hge
    ·have t2 : decide (j < al) = true := decide_eq_true hlt
     obtain ⟨b, off, rfl, hcell⟩ := hdr.3.fix (by simp only; omega)
     obtain ⟨x1, x2, x3, hx⟩ : ∃ x1 x2 x3, g3 es j = ⟨x1, x2, x3⟩ := ⟨_, _, _, rfl⟩
     obtain ⟨cx1, cx2, cx3⟩ := hcell wr (Below.refl _ _) j hlt
     simp only at cx1 cx2 cx3
     rw [hx] at cx1 cx2 cx3
     simp only at cx1 cx2 cx3
     have HN : Hid (roundE Bt.withL (es.take (j + 1)) S = stepE Bt.withL (roundE Bt.withL (es.take j) S) ⟨x1, x2, x3⟩) := Lib.hid (by rw [roundE_succ _ _ _ (by rw [HEL.out]; exact hlt), hx])
     obtain ⟨T, hT⟩ : ∃ T, roundE Bt.withL (es.take j) S = T := ⟨_, rfl⟩
     rw [hT] at HN HTL hiT HCT ⊢
     obtain ⟨Wn, hWn⟩ : ∃ Wn, wr.alloc (.cells #[.int .i64 x1, .int .i64 x2, .int .i64 x3] 80) = Wn := ⟨_, rfl⟩
     have hbn : Below wr.heap.size wr Wn := by rw [← hWn]; exact (Below.refl _ _).alloc (Nat.le_refl _) _
     have HX : Hid (∀ W, Below Wn.heap.size Wn W → W.cell? ⟨wr.heap.size, 0, none⟩ = some (.int .i64 x1) ∧ W.cell? ⟨wr.heap.size, 1, none⟩ = some (.int .i64 x2) ∧ W.cell? ⟨wr.heap.size, 2, none⟩ = some (.int .i64 x3)) := Lib.hid (fun W h => (boxRA ⟨x1, x2, x3⟩ wr).2.2 W (by simp only; rw [hWn]; exact h.mono (by rw [← hWn]; simp)))
     obtain ⟨f5, f6, f7⟩ := HX.out Wn (Below.refl _ _)
     have hiN := hiT.later hbn
     have HBN : Hid (Below wo.heap.size wo Wn) := Lib.hid (hbT.trans (hbn.mono hbT.size))
     have HWN := Lib.hid hWn
     have htl := HTL.out
     clear hT hx hWn hcell hbn hiT hbT hdr hbw
     go_upto_region 10 with (fail)
     rw [HWN.out]
     clear e1 e2 e3 e4 cx1 cx2 cx3
     by_cases h0 : x2 = 0
     ·have q1 : (x2 == 0) = true := by simp [h0]
      have hhas := Bt.refHas_any aT T.length cT T x1 Wn hiN (by omega)
      by_cases hm : x1 ∈ T
      ·rw [decide_eq_true hm] at hhas
       have HE : Hid (roundE Bt.withL (es.take (j + 1)) S = Bt.withL T x3) := Lib.hid (by rw [HN.out]; unfold stepE; rw [if_pos ⟨h0, hm⟩])
       have hw := with_any x3 hiN (by omega)
       clear h0 hm
       go_wp2_with (first
        | (go_at_call 70; refine hhas.mono ?_; rintro e w4 ⟨rfl, rfl⟩)
        | (go_at_call 49; refine hw.mono ?_; rintro e w5 ⟨⟨a5, c5, rfl, hi5⟩, hb5⟩; clear hw))
       go_roundw
       case rel => exact ⟨j + 1, a5, c5, hlt, by go_num, by rw [HE.out], by rw [HE.out]; exact hi5, HBN.out.trans (hb5.mono HBN.out.size)⟩
       case measure => simp [intOf]; omega
      ·rw [decide_eq_false hm] at hhas
       have HE : Hid (roundE Bt.withL (es.take (j + 1)) S = T) := Lib.hid (by rw [HN.out]; unfold stepE; rw [if_neg (fun h => hm h.2)])
       clear h0 hm
       go_wp2_with (go_at_call 70; refine hhas.mono ?_; rintro e w4 ⟨rfl, rfl⟩)
       go_roundw
       case rel => exact ⟨j + 1, aT, cT, hlt, by go_num, by rw [HE.out], by rw [HE.out]; exact hiN, HBN.out⟩
       case measure => simp [intOf]; omega
     ·have q1 : (x2 == 0) = false := by simp [h0]
      have HE : Hid (roundE Bt.withL (es.take (j + 1)) S = T) := Lib.hid (by rw [HN.out]; unfold stepE; rw [if_neg (fun h => h0 h.1)])
      clear h0
      go_wp2_with (fail)
      go_roundw
      case rel => exact ⟨j + 1, aT, cT, hlt, by go_num, by rw [HE.out], by rw [HE.out]; exact hiN, HBN.out⟩
      case measure => simp [intOf]; omega
    ·have t2 : decide (j < al) = false := decide_eq_false (by omega)
     obtain rfl : j = al := by omega
     have hful : es.take j = es := List.take_of_length_le (by rw [HEL.out]; exact Nat.le_refl _)
     rw [hful] at hiT HCT HTL ⊢
     have hlen := roundE_len with_law es (fun x hx => hx) HC.out.1
     obtain ⟨T, hT⟩ : ∃ T, roundE Bt.withL es S = T := ⟨_, rfl⟩
     rw [hT] at hiT HCT HTL hlen ⊢
     have HIT := Lib.hid hiT
     have HBO : Hid (Below (w.heap.size + 1) W1 wr) := Lib.hid (HB.out.trans (hbT.mono hz1))
     have HBW := Lib.hid hbw
     have HLEN := Lib.hid hlen
     clear hful hT hiT hbT hdr hbw hlen
     by_cases hm : T.length = S.length
     ·have t3 : ((T.length : Int) == (S.length : Int)) = true := by simp [hm]
      have HEE : Hid (S = cloL es zs ∧ T = S) := Lib.hid (by
       obtain ⟨h1, h2⟩ := HLEN.out.2 hm
       exact ⟨HC.out.1.closed HA.out HZ.out h2, h1⟩)
      clear hm
      go_wp2_with (fail)
      go_ret
      rw [← HEE.out.1, ← HEE.out.2]
      exact ⟨⟨aT, cT, rfl, HIT.out⟩, HBW.out⟩
     ·have t3 : ((T.length : Int) == (S.length : Int)) = false := by simp; omega
      have HCR : Hid (CloI es zs T ∧ r + 1 ≤ T.length) := Lib.hid ⟨HCT.out, by have := HLEN.out.1; have := HC.out.2; omega⟩
      have hrb : n ≤ 4096 := HA.out.1
      clear hm
      go_wp2_with (fail)
      go_roundw
      case rel => exact ⟨r + 1, aT, cT, T, by go_num, by omega, rfl, HIT.out, HCR, HBO.out⟩
      case measure => simp [intOf]; omega
  ·have t1 : decide ((r : Int) < n) = false := decide_eq_false hrn
   have HEE : Hid (S = cloL es zs) := Lib.hid (HC.out.1.full HA.out HZ.out (by have := HC.out.2; omega))
   have HI := Lib.hid hi
   have HBW := Lib.hid hbw
   clear hi hdr hbw
   go_wp2_with (fail)
   go_ret
   rw [← HEE.out]
   exact ⟨⟨aS, cS, rfl, HI.out⟩, HBW.out⟩
end Go.Proofs.YtofaifeadhimjaaDoor

set_option linter.unusedSimpArgs false
set_option linter.unusedVariables false
namespace Go.Proofs.YtofaifeadhimjaaDoor
open Go.RowKit
attribute [local go_sem] Oper.semAt_some

def stO1 (S : List Int) (c : Int) (o : List Int) (x : A3) : List Int := if 0 < c ∧ x.l = c ∧ x.f ∈ S then Bt.withL o x.t else o
def stO (S : List Int) (c : Int) (es : List A3) : List Int := es.foldl (stO1 S c) []
theorem stO_take {S : List Int} {c : Int} {es : List A3} {k : Nat} (hk : k < es.length) : stO S c (es.take (k + 1)) = stO1 S c (stO S c (es.take k)) (g3 es k) := by
 unfold stO
 rw [List.take_add_one, List.getElem?_eq_getElem hk, Option.toList_some, List.foldl_append, g3_eq _ _ hk]
 rfl
theorem stO_facts (S : List Int) (c : Int) (es : List A3) : ∀ k, k ≤ es.length → (stO S c (es.take k)).Pairwise (· < ·) ∧ (∀ z, z ∈ stO S c (es.take k) ↔ z ∈ tgtL (es.take k) S c) ∧ (stO S c (es.take k)).length ≤ k
 | 0, _ => ⟨by simp [stO], fun z => by simp [stO, tgtL], by simp [stO]⟩
 | k + 1, hk => by
  obtain ⟨h1, h2, h3⟩ := stO_facts S c es k (by omega)
  have hlt : k < es.length := by omega
  have ht : ∀ z, z ∈ tgtL (es.take (k + 1)) S c ↔ z ∈ tgtL (es.take k) S c ∨ ((0 < c ∧ (g3 es k).l = c ∧ (g3 es k).f ∈ S) ∧ (g3 es k).t = z) := fun z => by
   rw [mem_tgtL, mem_tgtL, List.take_add_one, List.getElem?_eq_getElem hlt, Option.toList_some, ← g3_eq _ _ hlt]
   constructor
   ·rintro ⟨hc, x, hx, e1, e2, e3⟩
    rcases List.mem_append.1 hx with hx | hx
    ·exact .inl ⟨hc, x, hx, e1, e2, e3⟩
    ·rw [List.mem_singleton.1 hx] at e1 e2 e3
     exact .inr ⟨⟨hc, e1, e2⟩, e3⟩
   ·rintro (⟨hc, x, hx, e⟩ | ⟨⟨hc, e1, e2⟩, e3⟩)
    ·exact ⟨hc, x, List.mem_append_left _ hx, e⟩
    ·exact ⟨hc, _, List.mem_append_right _ (List.mem_singleton.2 rfl), e1, e2, e3⟩
  rw [stO_take hlt]
  unfold stO1
  by_cases hc : 0 < c ∧ (g3 es k).l = c ∧ (g3 es k).f ∈ S
  ·rw [if_pos hc]
   refine ⟨with_law.asc _ _ h1, fun z => ?_, ?_⟩
   ·rw [with_law.mem _ _ _ h1, h2, ht]
    constructor
    ·rintro (h | h)
     ·exact .inl h
     ·exact .inr ⟨hc, h.symm⟩
    ·rintro (h | h)
     ·exact .inl h
     ·exact .inr h.2.symm
   ·have := Bt.withL_len (stO S c (es.take k)) (g3 es k).t
    omega
  ·rw [if_neg hc]
   refine ⟨h1, fun z => ?_, by omega⟩
   rw [h2, ht]
   constructor
   ·exact .inl
   ·rintro (h | h)
    ·exact h
    ·exact absurd h.1 hc
theorem stO_clo {n : Int} {es : List A3} (ha : ArcsIn n es) (S : List Int) (c : Int) : cloL es (stO S c es) = movL es S c ∧ Bd n (stO S c es) := by
 have h := stO_facts S c es es.length (Nat.le_refl _)
 rw [List.take_length] at h
 exact ⟨by unfold movL; exact cloL_mems h.2.1, fun z hz => tgtL_bd ha S c z ((h.2.1 z).1 hz)⟩
set_option maxRecDepth 20000 in
set_option maxHeartbeats 8000000 in
theorem refstep_any {a : Nfa} {h : NH} {w : World} {aq : Option Addr} {lq cq : Nat} {zs : List Int} {c : Int} (hv : ValidN a) (hd : IsNfa w h a) (hq : IsInts .i64 w aq lq cq zs) (hz : Bd a.n zs) (hl : lq ≤ 100000) :
  Calls Tryd.prog 41 #[vNf a h, .slice aq lq cq, .int .i64 c] w (GivesI (stpL a.arcs zs c) w) := by
 obtain ⟨W1, hW1, hs1, hb1, hO⟩ := boxRN a h w hd
 have hcl := closure_any hv (hd.later hb1) (hq.later hb1) hz hl
 have HCL := Lib.hid (fun W hW {aq : Option Addr} {lq cq : Nat} {zs : List Int} (hq : IsInts .i64 W aq lq cq zs) (hz : Bd a.n zs) (hl : lq ≤ 100000) => closure_any hv (hO W hW).2.1 hq hz hl)
 have HA := Lib.hid hv.arcsIn
 have hn0 := hv.1
 obtain ⟨S, hS⟩ : ∃ S, cloL a.arcs zs = S := ⟨_, rfl⟩
 have HST : Hid (stpL a.arcs zs c = cloL a.arcs (stO S c a.arcs) ∧ Bd a.n (stO S c a.arcs)) := Lib.hid (by
  obtain ⟨h1, h2⟩ := stO_clo hv.arcsIn S c
  exact ⟨by rw [h1, ← hS]; rfl, h2⟩)
 have hSl : S.length ≤ 200 := by
  rw [← hS]
  have := bd_len (cloL_asc a.arcs zs) (cloL_bd hv.arcsIn hz)
  have := hv.1
  omega
 rw [hS] at hcl
 obtain ⟨n, ss, fin, es⟩ := a
 obtain ⟨sa, sl, sc, fa, fl, fc, aa, al, ac⟩ := h
 have hel := hd.3.length
 simp only [vNf] at hn0 hel hz HA hO hW1 hcl HCL HST ⊢
 have HEL := Lib.hid hel
 have HO := Lib.hid hO
 have HS1 := Lib.hid hs1
 have hal : al ≤ 2000 := by have := hv.2.2.1; simp only at this; omega
 obtain ⟨⟨d1, d2, d3, d4⟩, -, -⟩ := hO W1 (Below.refl _ _)
 clear hd hq hO hb1 hs1 hz hv hel hS
 go_enter Tryd.func41, Tryd.ntmps41
 go_wp2_with (go_at_call 39; refine hcl.mono ?_; rintro e w2 ⟨⟨a2, c2, rfl, hi2⟩, hb2⟩; clear hcl)
 have HB2 : Hid (Below (w.heap.size + 1) W1 w2 ∧ w.heap.size + 1 ≤ w2.heap.size) := Lib.hid ⟨hb2.mono (by rw [HS1.out]; exact Nat.le_refl _), by rw [← HS1.out]; exact hb2.size⟩
 have HI2 := Lib.hid hi2
 clear hb2 hi2 hW1 d1 d2 d3 d4
 go_loopw [8, 9] (fun v k W => ∃ (j : Nat) (aT : Option Addr) (cT : Nat), j ≤ al ∧ k = .int .i64 (j : Int) ∧ v = .slice aT (stO S c (es.take j)).length cT ∧ IsInts .i64 W aT (stO S c (es.take j)).length cT (stO S c (es.take j)) ∧ Below w2.heap.size w2 W) (fun _ k _ => al - (intOf k).toNat)
 case atStart => exact ⟨0, none, 0, Nat.zero_le _, rfl, rfl, .inl ⟨rfl, rfl, rfl, rfl⟩, Below.refl _ _⟩
 case round =>
  obtain ⟨j, aT, cT, hj, rfl, rfl, hiT, hbT⟩ := hrel
  obtain ⟨⟨e1, e2, e3, e4⟩, hdr, hbw⟩ := HO.out wr (HB2.out.1.trans (hbT.mono HB2.out.2))
  have hTl := (stO_facts S c es j (by rw [HEL.out]; exact hj)).2.2
  rcases Nat.lt_or_ge j al with hlt | hge
  ·have t2 : decide (j < al) = true := decide_eq_true hlt
   obtain ⟨b, off, rfl, hcell⟩ := hdr.3.fix (by simp only; omega)
   obtain ⟨x1, x2, x3, hx⟩ : ∃ x1 x2 x3, g3 es j = ⟨x1, x2, x3⟩ := ⟨_, _, _, rfl⟩
   obtain ⟨cx1, cx2, cx3⟩ := hcell wr (Below.refl _ _) j hlt
   simp only at cx1 cx2 cx3
   rw [hx] at cx1 cx2 cx3
   simp only at cx1 cx2 cx3
   have HN : Hid (stO S c (es.take (j + 1)) = stO1 S c (stO S c (es.take j)) ⟨x1, x2, x3⟩) := Lib.hid (by rw [stO_take (by rw [HEL.out]; exact hlt), hx])
   obtain ⟨T, hT⟩ : ∃ T, stO S c (es.take j) = T := ⟨_, rfl⟩
   rw [hT] at HN hTl hiT ⊢
   obtain ⟨Wn, hWn⟩ : ∃ Wn, wr.alloc (.cells #[.int .i64 x1, .int .i64 x2, .int .i64 x3] 80) = Wn := ⟨_, rfl⟩
   have hbn : Below wr.heap.size wr Wn := by rw [← hWn]; exact (Below.refl _ _).alloc (Nat.le_refl _) _
   obtain ⟨f5, f6, f7⟩ := (boxRA ⟨x1, x2, x3⟩ wr).2.2 Wn (by simp only; rw [hWn]; exact (Below.refl _ _))
   have hiN := hiT.later hbn
   have HBN : Hid (Below w2.heap.size w2 Wn) := Lib.hid (hbT.trans (hbn.mono hbT.size))
   have hiS := HI2.out.later HBN.out
   have HWN := Lib.hid hWn
   clear hT hx hWn hcell hbn hiT hbT hdr hbw
   go_upto_region 7 with (fail)
   rw [HWN.out]
   clear e1 e2 e3 e4 cx1 cx2 cx3
   simp only at f5 f6 f7
   have keep : (¬ (0 < c ∧ x2 = c ∧ x1 ∈ S)) → stO S c (es.take (j + 1)) = T := fun hn => by rw [HN.out]; unfold stO1; rw [if_neg hn]
   by_cases h0 : 0 < c
   ·have q0 : decide (0 < c) = true := decide_eq_true h0
    by_cases h1 : x2 = c
    ·have q1 : (x2 == c) = true := by simp [h1]
     have hhas := Bt.refHas_any a2 S.length c2 S x1 Wn hiS (by omega)
     by_cases hm : x1 ∈ S
     ·rw [decide_eq_true hm] at hhas
      have HE : Hid (stO S c (es.take (j + 1)) = Bt.withL T x3) := Lib.hid (by rw [HN.out]; unfold stO1; rw [if_pos ⟨h0, h1, hm⟩])
      have hw := with_any x3 hiN (by omega)
      clear h0 hm h1 keep
      go_wp2_with (first
       | (go_at_call 70; refine hhas.mono ?_; rintro e w4 ⟨rfl, rfl⟩)
       | (go_at_call 49; refine hw.mono ?_; rintro e w5 ⟨⟨a5, c5, rfl, hi5⟩, hb5⟩; clear hw))
      go_roundw
      case rel => exact ⟨j + 1, a5, c5, hlt, by go_num, by rw [HE.out], by rw [HE.out]; exact hi5, HBN.out.trans (hb5.mono HBN.out.size)⟩
      case measure => simp [intOf]; omega
     ·rw [decide_eq_false hm] at hhas
      have HE := Lib.hid (keep (fun h => hm h.2.2))
      clear h0 hm h1 keep
      go_wp2_with (go_at_call 70; refine hhas.mono ?_; rintro e w4 ⟨rfl, rfl⟩)
      go_roundw
      case rel => exact ⟨j + 1, aT, cT, hlt, by go_num, by rw [HE.out], by rw [HE.out]; exact hiN, HBN.out⟩
      case measure => simp [intOf]; omega
    ·have q1 : (x2 == c) = false := by simp [h1]
     have HE := Lib.hid (keep (fun h => h1 h.2.1))
     clear h0 h1 keep
     go_wp2_with (fail)
     go_roundw
     case rel => exact ⟨j + 1, aT, cT, hlt, by go_num, by rw [HE.out], by rw [HE.out]; exact hiN, HBN.out⟩
     case measure => simp [intOf]; omega
   ·have q0 : decide (0 < c) = false := decide_eq_false h0
    have HE := Lib.hid (keep (fun h => h0 h.1))
    clear h0 keep
    go_wp2_with (fail)
    go_roundw
    case rel => exact ⟨j + 1, aT, cT, hlt, by go_num, by rw [HE.out], by rw [HE.out]; exact hiN, HBN.out⟩
    case measure => simp [intOf]; omega
  ·have t2 : decide (j < al) = false := decide_eq_false (by omega)
   obtain rfl : j = al := by omega
   have hful : es.take j = es := List.take_of_length_le (by rw [HEL.out]; exact Nat.le_refl _)
   rw [hful] at hiT hTl ⊢
   have hcl2 := HCL.out wr (HB2.out.1.trans (hbT.mono HB2.out.2)) hiT HST.out.2 (by omega)
   obtain ⟨R, hR⟩ : ∃ R, stpL es zs c = R := ⟨_, rfl⟩
   rw [← HST.out.1, hR] at hcl2
   have HRR := Lib.hid hR
   have HBW := Lib.hid hbw
   clear hful hiT hbT hdr hbw hR
   go_wp2_with (go_at_call 39; refine hcl2.mono ?_; rintro e w6 ⟨⟨a6, c6, rfl, hi6⟩, hb6⟩; clear hcl2)
   go_ret
   rw [HRR.out]
   exact ⟨⟨a6, c6, rfl, hi6⟩, HBW.out.trans (hb6.mono HBW.out.size)⟩
end Go.Proofs.YtofaifeadhimjaaDoor
