import Derived.Test.YtpcbmhfnefhenaaMG20
import Derived.Test.YtpcbmhfnefhenaaMG33
import Derived.Test.YtpcbmhfnefhenaaMG35
import Derived.Test.YtpcbmhfnefhenaaMG36
import Derived.Test.YtpcbmhfnefhenaaMG37
import Derived.Test.YtpcbmhfnefhenaaMG39
/-
  DfaRw, DfaListsW
-/
set_option linter.unusedSimpArgs false
set_option linter.unusedVariables false
namespace Go.Proofs.Ytpcbmhfnefhenaa
open List (foldr_cons foldr_nil setIfInBounds_toArray set_cons_succ set_cons_zero)
open Go.RowKit
attribute [local go_sem] Oper.semAt_some

def tb2 (ca : Option Addr) (n cc : Nat) (all us : List Td) : List Pc := .row 22 1 (.slice ca n cc) n (all.map Td.v) :: us.map Td.pc
section
variable {W : World} {B oc cc n : Nat} {oa ca : Option Addr} {vs : List Wd} {u0 : Td} {all us : List Td}
theorem tab_of' {E c : Nat} {a : Option Addr} {us : List Td} {T : Nat → List Bool} (hr : W.ownsRow B E 1 (.slice a us.length c) us.length (us.map Td.v)) (hx : ∀ x ∈ us, IsBools W x.a x.z.length x.c x.z) (hT : ∀ i, i < us.length → (gtd us i).z = T i) : IsTab W a us.length T := fun i hi => by
 rcases row_cap hr with ⟨h1, h2⟩ | ⟨g, h1, h2, h3, h4⟩
 ·omega
 ·rw [← hT i hi]
  exact ⟨g, 0, (gtd us i).a, (gtd us i).c, h1, by rw [Nat.zero_add, h4 i hi, List.getElem?_map, List.getElem?_eq_getElem hi, gtd_eq us i hi]; rfl, hx _ (gtd_mem hi)⟩
theorem tb2_tab {T : Nat → List Bool} (hX : ∀ p ∈ tb2 ca n cc (u0 :: us) us, p.At W B) (hn : n = us.length + 1) (h0 : IsBools W u0.a u0.z.length u0.c u0.z) (hT : ∀ i, i < us.length + 1 → (gtd (u0 :: us) i).z = T i) : IsTab W ca n T := by
 subst hn
 refine tab_of' (us := u0 :: us) (hX _ List.mem_cons_self) (fun x hx => ?_) hT
 rcases List.mem_cons.1 hx with rfl | hx
 ·exact h0
 ·exact (IsBools.of_owns (hX _ (List.mem_cons_of_mem _ (List.mem_map_of_mem hx)))).1
theorem tb2_at (p : Pc) : (oPs oa oc vs (tb2 ca n cc all us) ++ [p])[vs.length + 1]? = some (.row 22 1 (.slice ca n cc) n (all.map Td.v)) := by
 unfold oPs tb2
 rw [List.cons_append, List.getElem?_cons_succ, List.append_assoc, List.getElem?_append_right (by simp)]
 simp
theorem tb2_push {u : Td} {a : Option Addr} {c : Nat} (hP : Pcs W B ((oPs oa oc vs (tb2 ca n cc (u0 :: us) us) ++ [u.pc]).set (vs.length + 1) (.row 22 1 (.slice a (n + 1) c) (n + 1) ((u0 :: us).map Td.v ++ [u.v])))) : Pcs W B (oPs oa oc vs (tb2 a (n + 1) c (u0 :: (us ++ [u])) (us ++ [u]))) := by
 have e : oPs oa oc vs (tb2 a (n + 1) c (u0 :: (us ++ [u])) (us ++ [u])) = (oPs oa oc vs (tb2 ca n cc (u0 :: us) us) ++ [u.pc]).set (vs.length + 1) (.row 22 1 (.slice a (n + 1) c) (n + 1) ((u0 :: us).map Td.v ++ [u.v])) := by
  unfold oPs tb2
  rw [List.cons_append, set_cons_succ, List.append_assoc, List.set_append_right _ _ (by simp)]
  simp
 rw [e]
 exact hP
theorem tb2_start {W : World} {B : Nat} (hB : B ≤ W.heap.size) (u : Td) : Pcs (W.alloc (.cells #[u.v] 22)) B (oPs none 0 [] (tb2 (some ⟨W.heap.size, 0, none⟩) 1 1 [u] [])) := by
 have h2 := (Pcs.nil W B).add (W' := W.alloc (.cells #[u.v] 22)) (.row 22 1 (.slice (some ⟨W.heap.size, 0, none⟩) 1 1) 1 [u.v]) (below_grows ((Below.refl _ _).alloc (Nat.le_refl _) _) none) (World.ownsRow_lit W #[u.v] 1 hB (by unfold maxLen; omega) rfl) (fun j e => by have e : some W.heap.size = some j := e; injection e with e; omega)
 exact (h2.empty 40 1).turn (.swap _ _ _)
end
theorem wordsD_lang {d t : Dfa} (h : ∀ i, wordsL t i t.s = wordsL d i d.s) (n most : Int) : wordsD t n most = wordsD d n most := by
 unfold wordsD allW
 rw [show (fun i => wordsL t i t.s) = fun i => wordsL d i d.s from funext h]
def anyT (t : Dfa) (k j : Nat) : Bool := (List.range j).any fun i => canB t k i
theorem anyT_succ (t : Dfa) (k j : Nat) : anyT t k (j + 1) = (anyT t k j || canB t k j) := by
 unfold anyT
 rw [List.range_succ, List.any_append]
 simp
theorem anyT_no {t : Dfa} {k N : Nat} (h : anyT t k N = false) {i : Nat} (hi : i < N) : canB t k i = false := by
 unfold anyT at h
 rw [List.any_eq_false] at h
 have := h i (List.mem_range.2 hi)
 simpa using this
variable {d : Dfa} {h : DH} {w : World}
set_option maxRecDepth 20000 in
set_option maxHeartbeats 4000000 in
theorem refWords_na {n most : Int} (hv : ¬ ValidD d) (hd : IsDfa w h d) : Calls Try.prog 33 #[vDf d h, .int .i64 n, .int .i64 most] w (GivesWs [] 1 w) := by
 obtain ⟨W1, hW1, hs1, hb1, hO⟩ := boxRW d h w hd
 obtain ⟨⟨c1, c2, c3, c4⟩, hd1, -⟩ := hO W1 (by rw [← hs1]; exact Below.refl _ _)
 have htr := refTrim_any hd1
 rw [show orZero d (trimD d) = zeroD by unfold orZero; rw [if_neg hv], show orErr d = 1 by unfold orErr; rw [if_neg hv]] at htr
 have HB1 := Lib.hid hb1
 unfold vDf at htr ⊢
 clear hO hd1 hv hb1
 go_enter Try.func33, Try.ntmps33
 go_wp2_with (fail)
 refine htr.mono ?_
 rintro e w3 ⟨⟨h', rfl, hi'⟩, hb⟩
 obtain ⟨W4, hW4, hs4, hb4, hO4⟩ := boxRW zeroD h' w3 hi'
 obtain ⟨⟨e1, e2, e3, e4⟩, -, -⟩ := hO4 W4 (by rw [← hs4]; exact Below.refl _ _)
 have HB4 := Lib.hid (HB1.out.trans ((hb.trans (hb4.mono hb.size)).mono HB1.out.size))
 unfold vDf at *
 clear hb hb4 hO4 hi' hs4
 go_wp2_with (fail)
 go_ret2
 exact ⟨⟨none, 0, rfl, .inl ⟨rfl, rfl, rfl⟩⟩, HB4.out⟩
set_option maxRecDepth 20000 in
set_option maxHeartbeats 4000000 in
theorem refWords_yes {n most : Int} (hv : ValidD d) (hn5 : n ≤ 1000) (hd : IsDfa w h d) : Calls Try.prog 33 #[vDf d h, .int .i64 n, .int .i64 most] w (GivesWs (wordsD d n most) 0 w) := by
 obtain ⟨W1, hW1, hs1, hb1, hO⟩ := boxRW d h w hd
 obtain ⟨⟨c1, c2, c3, c4⟩, hd1, -⟩ := hO W1 (by rw [← hs1]; exact Below.refl _ _)
 have htr := refTrim_any hd1
 rw [show orZero d (trimD d) = trimD d by unfold orZero; rw [if_pos hv], show orErr d = 0 by unfold orErr; rw [if_pos hv]] at htr
 have htv := trimD_valid hv
 have hwl : ∀ i, wordsL (trimD d) i (trimD d).s = wordsL d i d.s := fun i => wordsL_lang hv htv (by rw [trimD_s]; exact trimD_lang hv) i
 have hwd := wordsD_lang hwl n most
 obtain ⟨t, ht⟩ : ∃ t, trimD d = t := ⟨_, rfl⟩
 rw [ht] at htr htv hwd
 rw [← hwd]
 have HB1 := Lib.hid hb1
 have HV := Lib.hid htv
 unfold vDf at htr ⊢
 clear hO hd1 hv hb1 hwl hwd ht htv
 go_enter Try.func33, Try.ntmps33
 go_wp2_with (fail)
 refine htr.mono ?_
 rintro e w3 ⟨⟨h', rfl, hi'⟩, hb⟩
 have hw3 := HB1.out.trans (hb.mono HB1.out.size)
 have hfl := hi'.fin.length
 obtain ⟨W4, hW4, hs4, hb4, hO4⟩ := boxRW t h' w3 hi'
 obtain ⟨⟨e1, e2, e3, e4⟩, -, -⟩ := hO4 W4 (by rw [← hs4]; exact Below.refl _ _)
 obtain ⟨N, hN⟩ := Int.eq_ofNat_of_zero_le (show 0 ≤ t.n by have := HV.out.1; omega)
 have hNN : t.n.toNat = N := by omega
 obtain ⟨S0, hS0⟩ := Int.eq_ofNat_of_zero_le HV.out.2.1.1
 obtain ⟨B, hB⟩ : ∃ B, W4.heap.size = B := ⟨_, rfl⟩
 have HD : Hid (∀ W, Below B W4 W → (W.cell? ⟨w3.heap.size, 0, none⟩ = some (.int .i64 (N : Int)) ∧ W.cell? ⟨w3.heap.size, 1, none⟩ = some (.int .i64 (S0 : Int)) ∧ W.cell? ⟨w3.heap.size, 2, none⟩ = some (.slice h'.fa h'.fl h'.fc) ∧ W.cell? ⟨w3.heap.size, 3, none⟩ = some (.slice h'.aa h'.al h'.ac)) ∧ IsDfa W h' t ∧ Below w.heap.size w W) := Lib.hid (fun W hW => by
  have h1 := hO4 W (by rw [← hs4, hB]; exact hW)
  rw [← hN, ← hS0]
  exact ⟨h1.1, h1.2.1, hw3.trans (h1.2.2.mono hw3.size)⟩)
 have HN := Lib.hid hN
 have HNN := Lib.hid hNN
 have HS0 := Lib.hid hS0
 have HFL := Lib.hid hfl
 have HWW : Hid (Below w.heap.size w W4) := Lib.hid (hw3.trans (hb4.mono hw3.size))
 have HB := Lib.hid hB
 have hN1 : N ≤ 1000 := by have := HV.out.1; omega
 rw [hN] at e1
 rw [hS0] at e2
 unfold vDf at *
 rw [hN, hS0] at hW4 ⊢
 clear hb hb4 hO4 hi' hs4 hw3 hfl hB hN hS0 hNN
 have hbS : Below B W4 (W4.alloc (.cells #[.slice h'.fa h'.fl h'.fc] 22)) := by rw [← HB.out]; exact (Below.refl _ _).alloc (Nat.le_refl _) _
 obtain ⟨u0, hu0⟩ : ∃ u : Td, u = ⟨h'.fa, h'.fc, t.fin⟩ := ⟨_, rfl⟩
 have hP0 := tb2_start (W := W4) (B := B) (by rw [HB.out]; exact Nat.le_refl _) u0
 have hu0v : u0.v = .slice h'.fa h'.fl h'.fc := by rw [hu0, ← HFL.out]; rfl
 rw [hu0v] at hP0
 have HU0 : Hid (u0.z = canT t 0 ∧ ∀ W, Below B W4 W → IsBools W u0.a u0.z.length u0.c u0.z) := Lib.hid ⟨by rw [hu0, canT_zero HV.out], fun W hW => by rw [hu0]; simp only; rw [HFL.out]; exact (HD.out W hW).2.1.fin⟩
 have HP0 := Lib.hid hP0
 have HBS := Lib.hid (And.intro hbS (show B ≤ (W4.alloc (.cells #[.slice h'.fa h'.fl h'.fc] 22)).heap.size by rw [← HB.out]; simp))
 clear hP0 hu0v hu0 hbS
 go_wp2_with (fail)
 obtain ⟨M, hM⟩ : ∃ M, min most 1000 = M := ⟨_, rfl⟩
 rw [hM]
 have HM := Lib.hid hM
 clear hM
 by_cases hM0 : M < 0
 ·have HE : Hid (wordsD t n most = []) := Lib.hid (by unfold wordsD; rw [HM.out, show M.toNat = 0 by omega]; exact tk_full (Nat.zero_le _) _)
  have q2 : decide ((0 : Int) < M) = false := decide_eq_false (by omega)
  clear hM0
  go_loopw [10, 12, 13] (fun c10 c12 c13 W => c10 = .slice none 0 0 ∧ c12 = .int .i64 0 ∧ c13 = .bool true ∧ Below B W4 W) (fun _ _ _ _ => 0)
  case atStart => exact ⟨rfl, rfl, rfl, HBS.out.1⟩
  case round =>
   obtain ⟨rfl, rfl, rfl, hb⟩ := hrel
   have HBW : Hid (Below w.heap.size w wr) := Lib.hid (HD.out wr hb).2.2
   clear hb
   by_cases hn0 : 0 ≤ n
   ·have q1 : decide ((0 : Int) ≤ n) = true := decide_eq_true hn0
    clear hn0
    go_wp2_with (fail)
    go_ret2
    rw [HE.out]
    exact ⟨⟨none, 0, rfl, .inl ⟨rfl, rfl, rfl⟩⟩, HBW.out⟩
   ·have q1 : decide ((0 : Int) ≤ n) = false := decide_eq_false hn0
    clear hn0
    go_wp2_with (fail)
    go_ret2
    rw [HE.out]
    exact ⟨⟨none, 0, rfl, .inl ⟨rfl, rfl, rfl⟩⟩, HBW.out⟩
 obtain ⟨m, rfl⟩ := Int.eq_ofNat_of_zero_le (show 0 ≤ M by omega)
 have HMN : Hid ((min most 1000).toNat = m ∧ min most 1000 = (m : Int) ∧ m ≤ 1000) := Lib.hid ⟨by rw [HM.out]; rfl, HM.out, by have := HM.out; omega⟩
 clear hM0
 go_loopw [10, 11, 12, 13] (fun c10 c11 c12 c13 W => ∃ (k : Nat) (oa : Option Addr) (oc : Nat) (vs : List Wd) (ca : Option Addr) (cc : Nat) (us : List Td) (so : Bool), k ≤ (n + 1).toNat ∧ c10 = .slice oa vs.length oc ∧ c11 = .slice ca (k + 1) cc ∧ c12 = .int .i64 (k : Int) ∧ c13 = .bool so ∧ Hid (us.length = k) ∧ Hid (∀ j, j < k + 1 → (gtd (u0 :: us) j).z = canT t j) ∧ Hid (vs.map Wd.z = tk m [] (allW t k)) ∧ Hid (so = false → ∀ j, k ≤ j → wordsL t j t.s = []) ∧ Pcs W B (oPs oa oc vs (tb2 ca (k + 1) cc (u0 :: us) us)) ∧ Below B W4 W ∧ B ≤ W.heap.size) (fun _ _ c _ _ => (n + 1).toNat - (intOf c).toNat)
 case atStart =>
  refine ⟨0, none, 0, [], _, 1, [], true, Nat.zero_le _, rfl, rfl, rfl, rfl, Lib.hid rfl, Lib.hid (fun j hj => ?_), Lib.hid (by unfold allW; rw [List.range_zero, List.flatMap_nil, tk_nil]; rfl), Lib.hid (fun h => by cases h), HP0.out, HBS.out.1, HBS.out.2⟩
  obtain rfl : j = 0 := by omega
  exact HU0.out.1
 case round =>
  clear HP0 HBS
  obtain ⟨k, oa, oc, vs, ca, cc, us, so, hk, rfl, rfl, rfl, rfl, HUL, HT, HVS, HSO, hP, hb, hs⟩ := hrel
  obtain ⟨⟨k1, k2, k3, k4⟩, -, hbw⟩ := HD.out wr hb
  have hEND : (n < (k : Int) ∨ min most 1000 ≤ ((tk (min most 1000).toNat [] (allW t k)).length : Int) ∨ ∀ j, k ≤ j → wordsL t j t.s = []) → wordsD t n most = vs.map Wd.z := fun h9 => by
   have h8 := words_end (d := t) (n := n) (most := most) hk h9
   rw [HMN.out.1] at h8
   rw [← h8, HVS.out]
  have hvl : vs.length = (tk m [] (allW t k)).length := by rw [← HVS.out, List.length_map]
  have HBW := Lib.hid hbw
  clear hbw
  by_cases h1 : n < (k : Int)
  ·have q1 : decide ((k : Int) ≤ n) = false := decide_eq_false (by omega)
   have HE := Lib.hid (hEND (.inl h1))
   clear hEND hvl h1
   have HPZ := Lib.hid hP
   clear hP hb
   go_wp2_with (fail)
   go_ret2
   have h1 := o_ws HPZ.out
   rw [HE.out]
   refine ⟨⟨oa, oc, by rw [List.length_map]; rfl, ?_⟩, HBW.out⟩
   rw [List.length_map]
   exact h1
  have q1 : decide ((k : Int) ≤ n) = true := decide_eq_true (by omega)
  have HLT : Hid ((k : Int) ≤ n) := Lib.hid (by omega)
  clear h1
  by_cases hso : so = false
  ·subst hso
   have HE := Lib.hid (hEND (.inr (.inr (HSO.out rfl))))
   clear hEND hvl
   have HPZ := Lib.hid hP
   clear hP hb
   go_wp2_with (fail)
   go_ret2
   have h1 := o_ws HPZ.out
   rw [HE.out]
   refine ⟨⟨oa, oc, by rw [List.length_map]; rfl, ?_⟩, HBW.out⟩
   rw [List.length_map]
   exact h1
  obtain rfl : so = true := by
   cases so with
   | false => exact absurd rfl hso
   | true => rfl
  clear hso
  by_cases h2 : m ≤ vs.length
  ·have q2 : decide (vs.length < m) = false := decide_eq_false (by omega)
   have q2z : decide ((vs.length : Int) < (m : Int)) = false := decide_eq_false (by omega)
   have HE := Lib.hid (hEND (.inr (.inl (by rw [HMN.out.1, HMN.out.2.1, ← hvl]; omega))))
   clear hEND hvl h2
   have HPZ := Lib.hid hP
   clear hP hb
   go_wp2_with (fail)
   go_ret2
   have h1 := o_ws HPZ.out
   rw [HE.out]
   refine ⟨⟨oa, oc, by rw [List.length_map]; rfl, ?_⟩, HBW.out⟩
   rw [List.length_map]
   exact h1
  have q2 : decide (vs.length < m) = true := decide_eq_true (by omega)
  have q2z : decide ((vs.length : Int) < (m : Int)) = true := decide_eq_true (by omega)
  clear hEND hvl h2
  obtain ⟨g, rfl, -, -⟩ := owns_at (o_in hP _ List.mem_cons_self) (by omega)
  have hk2 : k ≤ 1002 := by have := HLT.out; omega
  have hsp := spell_any (d := t) (h := h') (W0 := W4) (B := B) (m := m) (cl := k + 1) (cc := cc) (ca := some ⟨g, 0, none⟩) HV.out (fun W hW => (HD.out W hW).2.1) HMN.out.2.2 k (S0 : Int) [] none 0 _ vs oa oc wr (by have := HV.out.2.1; rw [HS0.out] at this; exact this) (Nat.lt_succ_self _) (fun W hW hX => ⟨tb2_tab hX (by rw [HUL.out]) (HU0.out.2 W hW) (fun i hi => HT.out i (by rw [HUL.out] at hi; omega)), .inl ⟨rfl, rfl, rfl, rfl⟩⟩) (by simp; omega) hP hb hs
  unfold vDf at hsp
  rw [HN.out, HS0.out] at hsp
  simp only [List.length_nil, List.nil_append, List.map_id'] at hsp
  clear hP hb hs
  go_wp2_with (go_at_call 61; refine hsp.mono ?_; rintro e w5 ⟨oa5, oc5, vs5, rfl, hz5, hp5, hb5⟩)
  have HZ5 : Hid (vs5.map Wd.z = tk m [] (allW t (k + 1))) := Lib.hid (by rw [hz5, HVS.out, ← HS0.out]; exact tk_step m k)
  clear hsp HVS hz5
  obtain ⟨oa, hoa⟩ : ∃ x, x = oa5 := ⟨_, rfl⟩
  obtain ⟨oc, hoc⟩ : ∃ x, x = oc5 := ⟨_, rfl⟩
  obtain ⟨vs, hvs⟩ : ∃ x, x = vs5 := ⟨_, rfl⟩
  subst hoa hoc hvs
  have hsS : B ≤ w5.heap.size := by
   have h9 := hb5.size
   rw [HB.out] at h9
   exact h9
  have hbS := hb5
  have HPS := Lib.hid hp5
  obtain ⟨UK, hUK⟩ : ∃ U, gtd (u0 :: us) k = U := ⟨_, rfl⟩
  have hUz : UK.z = canT t k := by rw [← hUK]; exact HT.out k (Nat.lt_succ_self _)
  have hUl : UK.z.length = N := by rw [hUz, canT_len, HNN.out]
  have HTB : Hid (∀ W, Below B W4 W → ∀ oa oc vs, Pcs W B (oPs oa oc vs (tb2 (some ⟨g, 0, none⟩) (k + 1) cc (u0 :: us) us)) → W.cell? ⟨g, k, none⟩ = some (.slice UK.a N UK.c) ∧ IsBools W UK.a N UK.c (canT t k)) := Lib.hid (fun W hW oa oc vs hp => by
   have hlen : (u0 :: us).length = k + 1 := by rw [List.length_cons, HUL.out]
   have hmem : UK ∈ u0 :: us := by rw [← hUK]; exact gtd_mem (by omega)
   constructor
   ·rcases row_cap (o_in hp _ List.mem_cons_self) with h9 | ⟨g', e, -, -, hc⟩
    ·omega
    ·injection e with e
     injection e with e
     subst e
     rw [hc k (by omega), List.getElem?_map, List.getElem?_eq_getElem (by omega), ← gtd_eq _ _ (by omega), hUK]
     show some (Value.slice UK.a UK.z.length UK.c) = _
     rw [hUl]
   ·rw [← hUz]
    have hib : IsBools W UK.a UK.z.length UK.c UK.z := by
     rcases List.mem_cons.1 hmem with h9 | h9
     ·rw [h9]; exact HU0.out.2 W hW
     ·exact (IsBools.of_owns (o_in hp _ (List.mem_cons_of_mem _ (List.mem_map_of_mem h9)))).1
    rw [hUl] at hib
    exact hib)
  have HLA : Hid (lonJ t (canT t k) t.arcs.length = canT t (k + 1)) := Lib.hid (lon_all HV.out k)
  have HNL : Hid ((N : Int) = t.n) := Lib.hid HN.out.symm
  clear hp5 hb5 hUK hUz hUl k1 k2 k3 k4 HBW
  obtain ⟨S, hSd⟩ : ∃ S : (Nat → Bool) → (Nat → Value) → World → Prop, S = fun L f W => Below B W4 W ∧ B ≤ W.heap.size ∧ (L 6 = false → Pcs W B (oPs oa oc vs (tb2 (some ⟨g, 0, none⟩) (k + 1) cc (u0 :: us) us))) ∧ (L 6 = true → ∃ u : Td, u.z = canT t (k + 1) ∧ f 6 = u.v ∧ (L 7 = true → L 8 = false → ∃ q, f 7 = .slice (some ⟨q, 0, none⟩) 1 1 ∧ BlkAt W q #[u.v]) ∧ (L 8 = false → Pcs W B (oPs oa oc vs (tb2 (some ⟨g, 0, none⟩) (k + 1) cc (u0 :: us) us) ++ [u.pc])) ∧ (L 8 = true → ∃ a c, f 8 = .slice a (k + 1 + 1) c ∧ (L 9 = true → f 9 = f 8) ∧ Pcs W B (oPs oa oc vs (tb2 a (k + 1 + 1) c (u0 :: (us ++ [u])) (us ++ [u]))))) := ⟨_, rfl⟩
  refine wp_region_st mixed (by kernel_rfl) [[], [], [], [], [(2, 52), (3, 53)], [(4, 54)], [(1, 51), (5, 55)], [(6, 56)], [(0, 50), (7, 57), (6, 56)], [(8, 58), (8, 58), (0, 50), (1, 51), (2, 52), (3, 53), (4, 54), (5, 55), (6, 56), (7, 57), (8, 58)]] [(0, 50), (1, 51), (2, 52), (3, 53), (4, 54), (5, 55), (6, 56), (7, 57), (8, 58), (9, 11)] rfl rfl [EV ?e0, EV ?e1, EV ?e2, EV ?e3, EV ?e4, EV ?e5, fun v => ∃ a c, v = .slice a N c, fun v => ∃ b, v = .slice (some ⟨b, 0, none⟩) 1 1, fun v => ∃ a c, v = .slice a (k + 1 + 1) c, fun v => ∃ a c, v = .slice a (k + 1 + 1) c] S ?start ?steps ?rest
  case start =>
   intro f
   rw [hSd]
   exact ⟨hbS.drew, hsS, fun _ => HPS.out.quiet (below_grows ((Below.refl _ _).drew) none), fun h => (by cases h)⟩
  case steps =>
   refine ⟨fun L f W hi hd hdn hh hS => ?_, fun L f W hi hd hdn hh hS => ?_, fun L f W hi hd hdn hh hS => ?_, fun L f W hi hd hdn hh hS => ?_, fun L f W hi hd hdn hh hS => ?_, fun L f W hi hd hdn hh hS => ?_, fun L f W hi hd hdn hh hS => ?_, fun L f W hi hd hdn hh hS => ?_, fun L f W hi hd hdn hh hS => ?_, fun L f W hi hd hdn hh hS => ?_, trivial⟩
   ·
    unfold stStep
    rw [if_pos (by simp [Region.wanted])]
    intro K Q hK
    simp only [puts, foldr_nil]
    go_step
    refine st_ex hK rfl rfl (by simp only [Act.put, setIfInBounds_toArray, set_cons_succ, set_cons_zero, Array.getD_eq_getD_getElem?, List.getElem?_toArray, List.getElem?_cons_succ, List.getElem?_cons_zero, Option.getD_some] <;> rfl) rfl (by rw [hSd] at hS ⊢; exact hS)
   ·
    unfold stStep
    rw [if_pos (by simp [Region.wanted])]
    intro K Q hK
    simp only [puts, foldr_nil]
    have hS' := hS
    rw [hSd] at hS'
    obtain ⟨⟨m1, m2, m3, m4⟩, -, -⟩ := HD.out W hS'.1
    go_step
    refine st_ex hK rfl rfl (by simp only [Act.put, setIfInBounds_toArray, set_cons_succ, set_cons_zero, Array.getD_eq_getD_getElem?, List.getElem?_toArray, List.getElem?_cons_succ, List.getElem?_cons_zero, Option.getD_some] <;> rfl) rfl (by rw [hSd] at hS ⊢; exact hS)
   ·
    unfold stStep
    rw [if_pos (by simp [Region.wanted])]
    intro K Q hK
    simp only [puts, foldr_nil]
    go_step
    refine st_ex hK rfl rfl (by simp only [Act.put, setIfInBounds_toArray, set_cons_succ, set_cons_zero, Array.getD_eq_getD_getElem?, List.getElem?_toArray, List.getElem?_cons_succ, List.getElem?_cons_zero, Option.getD_some] <;> rfl) rfl (by rw [hSd] at hS ⊢; exact hS)
   ·
    unfold stStep
    rw [if_pos (by simp [Region.wanted])]
    intro K Q hK
    simp only [puts, foldr_nil]
    go_step
    refine st_ex hK rfl rfl (by simp only [Act.put, setIfInBounds_toArray, set_cons_succ, set_cons_zero, Array.getD_eq_getD_getElem?, List.getElem?_toArray, List.getElem?_cons_succ, List.getElem?_cons_zero, Option.getD_some] <;> rfl) rfl (by rw [hSd] at hS ⊢; exact hS)
   ·
    obtain ⟨h2, h3, -⟩ := hh
    have g2 : f 2 = _ := h2
    have g3 : f 3 = _ := h3
    unfold stStep
    rw [if_pos (by simp [Region.wanted])]
    intro K Q hK
    simp only [puts, Za, Zb, Zc, Zd, Ze, g2, g3]
    go_step
    refine st_ex hK rfl rfl (by simp only [Act.put, setIfInBounds_toArray, set_cons_succ, set_cons_zero, Array.getD_eq_getD_getElem?, List.getElem?_toArray, List.getElem?_cons_succ, List.getElem?_cons_zero, Option.getD_some] <;> rfl) rfl (by rw [hSd] at hS ⊢; exact hS)
   ·
    obtain ⟨h4, -⟩ := hh
    have g4 : f 4 = _ := h4
    have l6 : L 6 = false := Bool.eq_false_iff.2 fun h => by have q := hdn 6 _ h rfl 5 (by decide); rw [show L 5 = false from hi] at q; cases q
    have l8 : L 8 = false := Bool.eq_false_iff.2 fun h => by have q := hdn 8 _ h rfl 6 (by decide); rw [show L 6 = false from l6] at q; cases q
    unfold stStep
    rw [if_pos (by simp [Region.wanted])]
    intro K Q hK
    simp only [puts, Za, Zb, Zc, Zd, Ze, g4]
    have hS' := hS
    rw [hSd] at hS'
    have hp5 := hS'.2.2.1 l6
    obtain ⟨x5, -⟩ := HTB.out W hS'.1 _ _ _ hp5
    go_step
    refine st_ex hK rfl rfl (by simp only [Act.put, setIfInBounds_toArray, set_cons_succ, set_cons_zero, Array.getD_eq_getD_getElem?, List.getElem?_toArray, List.getElem?_cons_succ, List.getElem?_cons_zero, Option.getD_some] <;> rfl) rfl (by rw [hSd] at hS ⊢; exact hS)
   ·
    obtain ⟨h1, h5, -⟩ := hh
    have g1 : f 1 = _ := h1
    have g5 : f 5 = _ := h5
    have l7 : L 7 = false := Bool.eq_false_iff.2 fun h => by have q := hdn 7 _ h rfl 6 (by decide); rw [show L 6 = false from hi] at q; cases q
    have l8 : L 8 = false := Bool.eq_false_iff.2 fun h => by have q := hdn 8 _ h rfl 6 (by decide); rw [show L 6 = false from hi] at q; cases q
    have l9 : L 9 = false := Bool.eq_false_iff.2 fun h => by have q := hdn 9 _ h rfl 8 (by decide); rw [show L 8 = false from l8] at q; cases q
    unfold stStep
    rw [if_pos (by simp [Region.wanted])]
    intro K Q hK
    simp only [puts, Za, Zb, Zc, Zd, Ze, g1, g5]
    rw [hSd] at hS hK
    have l6 : L 6 = false := hi
    try simp only [stage, l7, l8, l9, l6, if_true, if_false, Bool.false_eq_true] at hS
    obtain ⟨hbW, hsW, hp, -⟩ := hS
    have hp2 : Pcs W B (oPs oa oc vs (tb2 (some ⟨g, 0, none⟩) (k + 1) cc (u0 :: us) us)) := by first | exact hp | exact hp trivial | exact hp rfl
    obtain ⟨-, x6⟩ := HTB.out W hbW _ _ _ hp2
    obtain ⟨-, hdw, -⟩ := HD.out W hbW
    go_step
    go_at_call 62
    have hlo := refLonger_any HV.out hdw x6 HNL.out
    unfold vDf at hlo
    rw [HLA.out, HN.out, HS0.out] at hlo
    simp only [Int.toNat_natCast] at hlo
    refine hlo.mono ?_
    rintro e w' ⟨⟨a', c', rfl, ho⟩, hb'⟩
    have e9 : (canT t (k + 1)).length = N := by rw [canT_len, HNN.out]
    have hat : Pc.At w' (W.heap.size + 1) (Td.pc ⟨a', c', canT t (k + 1)⟩) := by
     show w'.ownsRow _ _ 1 (.slice a' (canT t (k + 1)).length c') (canT t (k + 1)).length _
     rw [e9]
     exact ho
    refine hK.out _ _ rfl ⟨a', c', rfl⟩ ?_
    try simp only [l7, l8, l9, Bool.false_eq_true, ↓reduceIte, Nat.reduceEqDiff]
    exact ⟨hbW.trans (hb'.mono hsW), Nat.le_trans hsW hb'.size, fun h => (by simp at h), fun _ => ⟨⟨a', c', canT t (k + 1)⟩, rfl, (by show Value.slice a' N c' = Value.slice a' (canT t (k + 1)).length c'; rw [e9]), fun h => (by simp at h), fun _ => hp2.add _ (below_grows hb' none) (hat.low (Nat.le_succ_of_le hsW)) (fun k hk => Nat.le_of_succ_le (hat.lt hk).1), fun h => (by simp at h)⟩⟩
   ·
    obtain ⟨h6, -⟩ := hh
    obtain ⟨a6, c6, (g6 : f 6 = _)⟩ := h6
    have l6 : L 6 = true := hd 6 (by decide)
    have l8 : L 8 = false := Bool.eq_false_iff.2 fun h => by have q := hdn 8 _ h rfl 7 (by decide); rw [show L 7 = false from hi] at q; cases q
    have l9 : L 9 = false := Bool.eq_false_iff.2 fun h => by have q := hdn 9 _ h rfl 8 (by decide); rw [show L 8 = false from l8] at q; cases q
    unfold stStep
    rw [if_pos (by simp [Region.wanted])]
    intro K Q hK
    simp only [puts, Za, Zb, Zc, Zd, Ze, g6]
    rw [hSd] at hS hK
    have l7 : L 7 = false := hi
    try simp only [stage, l8, l9, l7, l6, if_true, if_false, Bool.false_eq_true] at hS
    obtain ⟨hbW, hsW, -, h6⟩ := hS
    obtain ⟨u, huz, hu6, -, hp, -⟩ := h6 trivial
    have hp2 : Pcs W B (oPs oa oc vs (tb2 (some ⟨g, 0, none⟩) (k + 1) cc (u0 :: us) us) ++ [u.pc]) := by first | exact hp | exact hp trivial | exact hp rfl
    rw [g6] at hu6
    have hal : Below W.heap.size W (W.alloc (.cells #[u.v] 22)) := (Below.refl _ _).alloc (Nat.le_refl _) _
    rw [hu6]
    go_step
    refine hK.out _ _ rfl ⟨_, rfl⟩ ?_
    exact ⟨hbW.alloc hsW _, Nat.le_trans hsW hal.size, fun h => (by simp [l6] at h), fun _ => ⟨u, huz, by simp [g6, hu6], fun _ _ => ⟨_, rfl, BlkAt.new W _ _⟩, fun _ => hp2.quiet (below_grows hal none), fun h => (by simp [l8] at h)⟩⟩
   ·
    obtain ⟨h0, h7, h6, -⟩ := hh
    have g0 : f 0 = _ := h0
    obtain ⟨b7, (g7 : f 7 = _)⟩ := h7
    obtain ⟨a6, c6, (g6 : f 6 = _)⟩ := h6
    have l6 : L 6 = true := hd 6 (by decide)
    have l7 : L 7 = true := hd 7 (by decide)
    have l9 : L 9 = false := Bool.eq_false_iff.2 fun h => by have q := hdn 9 _ h rfl 8 (by decide); rw [show L 8 = false from hi] at q; cases q
    unfold stStep
    rw [if_pos (by simp [Region.wanted])]
    intro K Q hK
    simp only [puts, Za, Zb, Zc, Zd, Ze, g0, g7, g6]
    rw [hSd] at hS hK
    have l8 : L 8 = false := hi
    try simp only [stage, l9, l8, l6, l7, if_true, if_false, Bool.false_eq_true] at hS
    obtain ⟨hbW, hsW, -, h6⟩ := hS
    obtain ⟨u, huz, hu6, h7, hp, -⟩ := h6 trivial
    have hp2 : Pcs W B (oPs oa oc vs (tb2 (some ⟨g, 0, none⟩) (k + 1) cc (u0 :: us) us) ++ [u.pc]) := by first | exact hp | exact hp trivial | exact hp rfl
    obtain ⟨q, e7, hq⟩ := (by first | exact h7 trivial trivial | exact h7 trivial | exact h7 : ∃ q, f 7 = .slice (some ⟨q, 0, none⟩) 1 1 ∧ BlkAt W q #[u.v])
    rw [g7] at e7
    obtain rfl : b7 = q := by simpa using e7
    refine wp_app_pcs elBB _ _ rfl (vs.length + 1) (v := .slice (some ⟨g, 0, none⟩) (k + 1) cc) (n := k + 1) rfl hp2 (tb2_at u.pc) rfl (news := [u.v]) ⟨rfl, fun ad e j u hj => by injection e with e; subst e; rw [addr_add, Nat.zero_add, (hq.cell j).1, ← hj]; simp, fun e => by cases e⟩ (by intro u hu; rw [List.mem_singleton.1 hu]; rfl) (by omega) hsW ?_
    intro a' c' w' hp' hbw
    refine hK.out _ _ rfl ⟨a', c', rfl⟩ ?_
    exact ⟨hbW.trans hbw, Nat.le_trans hsW hbw.size, fun h => (by simp [l6] at h), fun _ => ⟨u, huz, by simpa using hu6, fun _ h => (by simp at h), fun h => (by simp at h), fun _ => ⟨a', c', rfl, fun h => (by simp [l9] at h), tb2_push hp'⟩⟩⟩
   ·
    obtain ⟨h8, _, h0, h1, h2, h3, h4, h5, h6, h7, _, -⟩ := hh
    obtain ⟨a8, c8, (g8 : f 8 = _)⟩ := h8
    have g0 : f 0 = _ := h0
    have g1 : f 1 = _ := h1
    have g2 : f 2 = _ := h2
    have g3 : f 3 = _ := h3
    have g4 : f 4 = _ := h4
    have g5 : f 5 = _ := h5
    obtain ⟨a6, c6, (g6 : f 6 = _)⟩ := h6
    obtain ⟨b7, (g7 : f 7 = _)⟩ := h7
    have l6 : L 6 = true := hd 6 (by decide)
    have l8 : L 8 = true := hd 8 (by decide)
    unfold stStep
    rw [if_pos (by simp [Region.wanted])]
    intro K Q hK
    simp only [puts, Za, Zb, Zc, Zd, Ze, g8, g0, g1, g2, g3, g4, g5, g6, g7]
    rw [hSd] at hS hK
    have l9 : L 9 = false := hi
    try simp only [stage, l9, l6, l8, if_true, if_false, Bool.false_eq_true] at hS
    obtain ⟨hbW, hsW, -, h6⟩ := hS
    obtain ⟨u, huz, hu6, -, -, h8⟩ := h6 trivial
    obtain ⟨a, c, e8, -, hp⟩ := h8 trivial
    go_step
    refine hK.out _ _ rfl ⟨_, _, rfl⟩ ?_
    exact ⟨hbW, hsW, fun h => (by simp [l6] at h), fun _ => ⟨u, huz, by simpa using hu6, fun _ h => (by simp [l8] at h), fun h => (by simp [l8] at h), fun _ => ⟨a, c, by simpa using e8, fun _ => g8.symm, hp⟩⟩⟩
  case rest =>
   intro L f WZ hL hh hS
   rw [hSd] at hS
   clear hSd
   have l6 : L 6 = true := hL 6 (by decide)
   have l8 : L 8 = true := hL 8 (by decide)
   have l9 : L 9 = true := hL 9 (by decide)
   simp only [stage, l6, l8, l9, if_true] at hS
   clear hL l6 l8 l9
   obtain ⟨h0, h1, h2, h3, h4, h5, h6, h7, h8, h9, -⟩ := hh
   have g0 : f 0 = _ := h0
   have g1 : f 1 = _ := h1
   have g2 : f 2 = _ := h2
   have g3 : f 3 = _ := h3
   have g4 : f 4 = _ := h4
   have g5 : f 5 = _ := h5
   obtain ⟨a6, c6, (g6 : f 6 = _)⟩ := h6
   obtain ⟨b7, (g7 : f 7 = _)⟩ := h7
   obtain ⟨a8, c8, (g8 : f 8 = _)⟩ := h8
   obtain ⟨a9, c9, (g9 : f 9 = _)⟩ := h9
   simp only [puts, Za, Zb, Zc, Zd, Ze, g0, g1, g2, g3, g4, g5, g6, g7, g8, g9]
   clear h0 h1 h2 h3 h4 h5 g0 g1 g2 g3 g4 g5
   obtain ⟨hbZ, hsZ, -, h6⟩ := hS
   obtain ⟨u, huz, -, -, -, h8⟩ := h6 trivial
   obtain ⟨a, c, e8, e9, hpZ⟩ := h8 trivial
   have e10 := (by first | exact e9 trivial | exact e9 rfl : f 9 = f 8)
   rw [e8, g9] at e10
   obtain ⟨rfl, rfl⟩ : a9 = a ∧ c9 = c := by simpa using e10
   obtain ⟨g9', rfl, -, -⟩ := owns_at (o_in hpZ _ List.mem_cons_self) (by omega)
   have hul : u.z.length = N := by rw [huz, canT_len, HNN.out]
   have hrow := o_in hpZ _ List.mem_cons_self
   have hu9 : WZ.cell? ⟨g9', k + 1, none⟩ = some (.slice u.a N u.c) ∧ IsBools WZ u.a N u.c (canT t (k + 1)) := by
    constructor
    ·rcases row_cap hrow with h9 | ⟨g', e, -, -, hc⟩
     ·omega
     ·injection e with e
      injection e with e
      subst e
      rw [hc (k + 1) (by omega), List.getElem?_map, show u0 :: (us ++ [u]) = (u0 :: us) ++ [u] from rfl, List.getElem?_append_right (by rw [List.length_cons, HUL.out]; omega), List.length_cons, HUL.out, Nat.sub_self]
      show some (Value.slice u.a u.z.length u.c) = _
      rw [hul]
    ·have h9 : Pc.At WZ B u.pc := o_in hpZ _ (List.mem_cons_of_mem _ (List.mem_map_of_mem (List.mem_append_right _ List.mem_cons_self)))
     have h8 := (IsBools.of_owns h9).1
     rw [hul, huz] at h8
     exact h8
   have HPZ := Lib.hid hpZ
   have HUZ := Lib.hid huz
   have HU9 := Lib.hid hu9
   have HBZ := Lib.hid (And.intro hbZ hsZ)
   clear h6 h8 e8 e9 e10 hpZ huz hu9 hbZ hsZ hul hrow
   go_wp2_with (fail)
   go_loopw [13, 14] (fun c13 c14 W => ∃ j : Nat, j ≤ N ∧ c14 = .int .i64 (j : Int) ∧ c13 = .bool (anyT t (k + 1) j) ∧ Below WZ.heap.size WZ W) (fun _ c _ => N - (intOf c).toNat)
   case atStart => exact ⟨0, Nat.zero_le _, rfl, rfl, Below.refl _ _⟩
   case round =>
    obtain ⟨j, hj, rfl, rfl, hb⟩ := hrel
    have hbB : Below B W4 wr := HBZ.out.1.trans (hb.mono HBZ.out.2)
    obtain ⟨⟨k1, k2, k3, k4⟩, -, -⟩ := HD.out wr hbB
    rcases Nat.lt_or_ge j N with hlt | hge
    ·have t4 : decide (j < N) = true := decide_eq_true hlt
     have HJ := Lib.hid (anyT_succ t (k + 1) j)
     have HBJ := Lib.hid hb
     cases hf : anyT t (k + 1) j with
     | true =>
      have HF : Hid (anyT t (k + 1) (j + 1) = true) := Lib.hid (by rw [HJ.out, hf, Bool.true_or])
      clear hf hb hbB
      go_wp2_with (fail)
      go_roundw
      case rel => exact ⟨j + 1, hlt, by go_num, by rw [HF.out], HBJ.out⟩
      case measure => simp [intOf]; omega
     | false =>
      have HF : Hid (anyT t (k + 1) (j + 1) = canB t (k + 1) j) := Lib.hid (by rw [HJ.out, hf, Bool.false_or])
      have x1 := (hb.cell (p := ⟨g9', k + 1, none⟩) (lt_of_cell HU9.out.1)).trans HU9.out.1
      obtain ⟨bx, ox, hxa, hxc⟩ := HU9.out.2.fix (by omega)
      have x2 := hxc wr hb j hlt
      rw [canT_at (by have := HN.out; omega)] at x2
      rw [hxa] at x1
      clear hf hb hbB hxa hxc
      go_wp2_with (fail)
      go_roundw
      case rel => exact ⟨j + 1, hlt, by go_num, by rw [HF.out], HBJ.out⟩
      case measure => simp [intOf]; omega
    ·have t4 : decide (j < N) = false := decide_eq_false (by omega)
     obtain rfl : j = N := by omega
     have HPN := Lib.hid (HPZ.out.quiet (below_grows hb none))
     have HBN := Lib.hid (And.intro hbB (Nat.le_trans HBZ.out.2 hb.size))
     clear hb hbB
     go_wp2_with (fail)
     go_roundw
     case rel =>
      refine ⟨k + 1, oa, oc, vs, some ⟨g9', 0, none⟩, c9, us ++ [u], anyT t (k + 1) j, by have := HLT.out; omega, rfl, rfl, by go_num, rfl, Lib.hid (by rw [List.length_append, HUL.out]; rfl), Lib.hid (fun i hi => ?_), HZ5, Lib.hid (fun hno => none_stop HV.out (fun i hi => anyT_no hno (by have := HN.out; omega))), HPN.out, HBN.out.1, HBN.out.2⟩
      have hlen : (u0 :: us).length = k + 1 := by rw [List.length_cons, HUL.out]
      rcases Nat.lt_or_ge i (k + 1) with h9 | h9
      ·rw [show u0 :: (us ++ [u]) = (u0 :: us) ++ [u] from rfl, gtd_left (by omega)]
       exact HT.out i h9
      ·obtain rfl : i = (u0 :: us).length := by omega
       rw [show u0 :: (us ++ [u]) = (u0 :: us) ++ [u] from rfl, gtd_last, HUZ.out, hlen]
     case measure => have := HLT.out; simp [intOf]; omega
theorem refWords_any {n most : Int} (hn5 : n ≤ 1000) (hd : IsDfa w h d) : Calls Try.prog 33 #[vDf d h, .int .i64 n, .int .i64 most] w (GivesWs (wrdR d n most) (wrdE d) w) := by
 unfold wrdR wrdE
 by_cases hv : ValidD d
 ·rw [vD_yes hv]
  exact refWords_yes hv hn5 hd
 ·rw [vD_no hv]
  exact refWords_na hv hd
end Go.Proofs.Ytpcbmhfnefhenaa

set_option linter.unusedSimpArgs false
set_option linter.unusedVariables false
namespace Go.Proofs.Ytpcbmhfnefhenaa
open List (foldr_cons foldr_nil setIfInBounds_toArray set_cons_succ set_cons_zero)
open Go.RowKit
attribute [local go_sem] Oper.semAt_some

set_option maxRecDepth 20000 in
set_option maxHeartbeats 4000000 in
theorem dfaLists_walk (a : Dfa) (h : DH) (n most : Int) (w : World) (ia : IsDfa w h a) :
  Calls Try.prog 7 #[vDf a h, .int .i64 n, .int .i64 most] w fun e w' => e = .returned (.bool true) ∧ Below w.heap.size w w' := by
 obtain ⟨W0, hW0, hs0, hb0, hO0⟩ := boxRW a h w ia
 replace ia := (hO0 W0 (Below.refl _ _)).2.1
 obtain ⟨c01, c02, c03, c04⟩ := (hO0 W0 (Below.refl _ _)).1
 have HB : Below w.heap.size w W0 := hb0
 clear hO0 hb0
 unfold vDf
 by_cases fa : FewD a
 rotate_left
 ·have hx := fa
  go_enter Try.func7, Try.ntmps7
  go_wp2_with (fail)
  refine (awake_any _).mono ?_
  rintro e w1 ⟨rfl, hb⟩
  replace c01 := cell_later hb c01
  replace c02 := cell_later hb c02
  replace c03 := cell_later hb c03
  replace c04 := cell_later hb c04
  replace ia := ia.later hb
  replace HB := HB.trans (hb.mono HB.size)
  clear hb
  go_wp2_with (fail)
  refine (few_no ia fa).mono ?_
  rintro e w2 ⟨rfl, hb⟩
  replace c01 := cell_later hb c01
  replace c02 := cell_later hb c02
  replace c03 := cell_later hb c03
  replace c04 := cell_later hb c04
  replace ia := ia.later hb
  replace HB := HB.trans (hb.mono HB.size)
  clear hb
  go_wp2_with (fail)
  go_ret
  exact ⟨rfl, HB⟩
 by_cases hn : 5 < n
 ·have d1 : decide ((5 : Int) < n) = true := decide_eq_true hn
  clear hn
  go_enter Try.func7, Try.ntmps7
  go_wp2_with (fail)
  refine (awake_any _).mono ?_
  rintro e w3 ⟨rfl, hb⟩
  replace c01 := cell_later hb c01
  replace c02 := cell_later hb c02
  replace c03 := cell_later hb c03
  replace c04 := cell_later hb c04
  replace ia := ia.later hb
  replace HB := HB.trans (hb.mono HB.size)
  clear hb
  go_wp2_with (fail)
  refine (few_yes ia fa).mono ?_
  rintro e w4 ⟨rfl, hb⟩
  replace c01 := cell_later hb c01
  replace c02 := cell_later hb c02
  replace c03 := cell_later hb c03
  replace c04 := cell_later hb c04
  replace ia := ia.later hb
  replace HB := HB.trans (hb.mono HB.size)
  clear hb
  go_wp2_with (fail)
  go_ret
  exact ⟨rfl, HB⟩
 have d1 : decide ((5 : Int) < n) = false := decide_eq_false hn
 by_cases hm : 60 < most
 ·have d2 : decide ((60 : Int) < most) = true := decide_eq_true hm
  clear hm hn
  go_enter Try.func7, Try.ntmps7
  go_wp2_with (fail)
  refine (awake_any _).mono ?_
  rintro e w5 ⟨rfl, hb⟩
  replace c01 := cell_later hb c01
  replace c02 := cell_later hb c02
  replace c03 := cell_later hb c03
  replace c04 := cell_later hb c04
  replace ia := ia.later hb
  replace HB := HB.trans (hb.mono HB.size)
  clear hb
  go_wp2_with (fail)
  refine (few_yes ia fa).mono ?_
  rintro e w6 ⟨rfl, hb⟩
  replace c01 := cell_later hb c01
  replace c02 := cell_later hb c02
  replace c03 := cell_later hb c03
  replace c04 := cell_later hb c04
  replace ia := ia.later hb
  replace HB := HB.trans (hb.mono HB.size)
  clear hb
  go_wp2_with (fail)
  go_ret
  exact ⟨rfl, HB⟩
 have d2 : decide ((60 : Int) < most) = false := decide_eq_false hm
 have hn5 : n ≤ 1000 := by omega
 have fa3 : a.arcs.length ≤ 1000 := by have := fa.2.2; omega
 have k1 := fun W h' (hd : IsDfa W h' a) => Words_any (w := W) (n := n) (most := most) hn5 hd
 have k2 := fun W h' (hd : IsDfa W h' a) => refWords_any (w := W) (n := n) (most := most) hn5 hd
 have hl0 : ∀ u, u ∈ wrdR a n most → u.length ≤ 5 := fun u h1 => by
  unfold wrdR at h1
  split at h1
  ·rename_i hv
   have hvv : ValidD a := by
    by_cases h9 : ValidD a
    ·exact h9
    ·rw [vD_no h9] at hv; cases hv
   have h2 := (wordsD_mem hvv h1).1
   omega
  ·cases h1
 obtain ⟨Q, hQ⟩ : ∃ Q, wrdR a n most = Q := ⟨_, rfl⟩
 obtain ⟨x, hx⟩ : ∃ x, wrdE a = x := ⟨_, rfl⟩
 have hlen : ∀ i, i < Q.length → (gwl Q i).length ≤ 5 := fun i hi => hl0 _ (by rw [hQ]; exact gwl_mem hi)
 rw [hQ, hx] at k1 k2
 obtain ⟨ql, hql⟩ : ∃ m, Q.length = m := ⟨_, rfl⟩
 rw [hql] at hlen
 have hq2 : ql ≤ 1000 := by
  rw [← hql, ← hQ]
  unfold wrdR
  split
  ·have h1 := wordsD_len (d := a) n most
   omega
  ·exact Nat.zero_le _
 have K1 := Lib.hid k1
 have K2 := Lib.hid k2
 have HLEN := Lib.hid hlen
 have HQL := Lib.hid hql
 clear k1 k2 hQ hx hlen hl0 hn hm
 go_enter Try.func7, Try.ntmps7
 go_wp2_with (fail)
 refine (awake_any _).mono ?_
 rintro e w7 ⟨rfl, hb⟩
 replace c01 := cell_later hb c01
 replace c02 := cell_later hb c02
 replace c03 := cell_later hb c03
 replace c04 := cell_later hb c04
 replace ia := ia.later hb
 replace HB := HB.trans (hb.mono HB.size)
 clear hb
 go_wp2_with (fail)
 refine (few_yes ia fa).mono ?_
 rintro e w8 ⟨rfl, hb⟩
 replace c01 := cell_later hb c01
 replace c02 := cell_later hb c02
 replace c03 := cell_later hb c03
 replace c04 := cell_later hb c04
 replace ia := ia.later hb
 replace HB := HB.trans (hb.mono HB.size)
 clear hb
 go_wp2_with (fail)
 refine (own_any ia fa3).mono ?_
 rintro e w9 ⟨⟨yp, rfl, ip⟩, hb⟩
 unfold vDf
 replace c01 := cell_later hb c01
 replace c02 := cell_later hb c02
 replace c03 := cell_later hb c03
 replace c04 := cell_later hb c04
 replace ia := ia.later hb
 replace HB := HB.trans (hb.mono HB.size)
 clear hb
 go_wp2_with (fail)
 refine (K1.out _ _ ip).mono ?_
 rintro e w10 ⟨⟨a1, c1, rfl, i1⟩, hb⟩
 rw [hql] at i1 ⊢
 replace c01 := cell_later hb c01
 replace c02 := cell_later hb c02
 replace c03 := cell_later hb c03
 replace c04 := cell_later hb c04
 replace ia := ia.later hb
 replace ip := ip.later hb
 replace HB := HB.trans (hb.mono HB.size)
 clear hb
 go_wp2_with (fail)
 refine (K2.out _ _ ia).mono ?_
 rintro e w11 ⟨⟨a2, c2, rfl, i2⟩, hb⟩
 rw [hql] at i2 ⊢
 replace c01 := cell_later hb c01
 replace c02 := cell_later hb c02
 replace c03 := cell_later hb c03
 replace c04 := cell_later hb c04
 replace ia := ia.later hb
 replace ip := ip.later hb
 replace i1 := i1.later hb
 replace HB := HB.trans (hb.mono HB.size)
 clear hb
 clear hql
 go_wp2_with (fail)
 have hb := Below.refl w11.heap.size w11
 go_loopw [52] (fun c W => ∃ i : Nat, i ≤ ql ∧ c = .int .i64 (i : Int) ∧ Below w11.heap.size w11 W) (fun c _ => ql - (intOf c).toNat)
 case atStart => exact ⟨0, Nat.zero_le _, rfl, Below.refl _ _⟩
 case round =>
  clear hb
  obtain ⟨i, hi, rfl, hb⟩ := hrel
  have HL := Lib.hid hb
  replace c01 := cell_later hb c01
  replace c02 := cell_later hb c02
  replace c03 := cell_later hb c03
  replace c04 := cell_later hb c04
  replace ia := ia.later hb
  replace ip := ip.later hb
  replace i1 := i1.later hb
  replace i2 := i2.later hb
  replace HB := HB.trans (hb.mono HB.size)
  clear hb
  rcases Nat.lt_or_ge i ql with hlt | hge
  ·have t1 : decide (i < ql) = true := decide_eq_true hlt
   obtain ⟨b1, o1, x1, cc1, ha1, kc1, ic1⟩ := i1.at hlt
   obtain ⟨b2, o2, x2, cc2, ha2, kc2, ic2⟩ := i2.at hlt
   have hul := HLEN.out i hlt
   obtain ⟨u, hu⟩ : ∃ u, gwl Q i = u := ⟨_, rfl⟩
   rw [hu] at kc1 ic1 kc2 ic2 hul
   subst ha1 ha2
   clear hu
   go_upto_region 12 with (fail)
   refine wp_region_grow mixed (by kernel_rfl) [[], [], [(0, 55), (1, 56)], [(2, 57)], [], [], [(4, 59), (5, 60)], [(6, 61)], [(3, 58), (7, 62)], [(8, 63)]] [(0, 55), (1, 56), (2, 57), (3, 58), (4, 59), (5, 60), (6, 61), (7, 62), (8, 63), (9, 64)] rfl rfl [Ex ?ea0, Ex ?ea1, Ex ?ea2, Ex ?ea3, Ex ?ea4, Ex ?ea5, Ex ?ea6, Ex ?ea7, Ex (.bool true), Ex ?ea9] ⟨stays_ex _, stays_ex _, stays_ex _, stays_ex _, stays_ex _, stays_ex _, stays_ex _, stays_ex _, stays_ex _, stays_ex _, trivial⟩ ?asteps ?arest
   case asteps =>
    refine ⟨fun f W hC hh => ?_, fun f W hC hh => ?_, fun f W hC hh => ?_, fun f W hC hh => ?_, fun f W hC hh => ?_, fun f W hC hh => ?_, fun f W hC hh => ?_, fun f W hC hh => ?_, fun f W hC hh => ?_, fun f W hC hh => ?_, trivial⟩
    ·
     refine tab_plain fun K Q hK => ?_
     simp only [puts, foldr_nil]
     go_step
     exact fam_e hK rfl rfl (Below.refl _ _) hC
    ·
     refine tab_plain fun K Q hK => ?_
     simp only [puts, foldr_nil]
     go_step
     exact fam_e hK rfl rfl (Below.refl _ _) hC
    ·
     obtain ⟨h0, h1, -⟩ := hh
     have g0 : f 0 = _ := h0
     have g1 : f 1 = _ := h1
     refine tab_plain fun K Q hK => ?_
     simp only [puts, Za, Zb, Zc, Zd, Ze, g0, g1]
     go_step
     exact fam_e hK rfl rfl (Below.refl _ _) hC
    ·
     obtain ⟨h2, -⟩ := hh
     have g2 : f 2 = _ := h2
     refine tab_plain fun K Q hK => ?_
     simp only [puts, Za, Zb, Zc, Zd, Ze, g2]
     have mk := cell_later hC kc1
     go_step
     exact fam_e hK rfl rfl (Below.refl _ _) hC
    ·
     refine tab_plain fun K Q hK => ?_
     simp only [puts, foldr_nil]
     go_step
     exact fam_e hK rfl rfl (Below.refl _ _) hC
    ·
     refine tab_plain fun K Q hK => ?_
     simp only [puts, foldr_nil]
     go_step
     exact fam_e hK rfl rfl (Below.refl _ _) hC
    ·
     obtain ⟨h4, h5, -⟩ := hh
     have g4 : f 4 = _ := h4
     have g5 : f 5 = _ := h5
     refine tab_plain fun K Q hK => ?_
     simp only [puts, Za, Zb, Zc, Zd, Ze, g4, g5]
     go_step
     exact fam_e hK rfl rfl (Below.refl _ _) hC
    ·
     obtain ⟨h6, -⟩ := hh
     have g6 : f 6 = _ := h6
     refine tab_plain fun K Q hK => ?_
     simp only [puts, Za, Zb, Zc, Zd, Ze, g6]
     have mk := cell_later hC kc2
     go_step
     exact fam_e hK rfl rfl (Below.refl _ _) hC
    ·
     obtain ⟨h3, h7, -⟩ := hh
     have g3 : f 3 = _ := h3
     have g7 : f 7 = _ := h7
     refine tab_plain fun K Q hK => ?_
     simp only [puts, Za, Zb, Zc, Zd, Ze, g3, g7]
     go_step
     go_at_call 34
     have hsm := same_any _ _ _ _ _ _ _ _ W (ic1.later hC) (ic2.later hC) (by omega)
     rw [decide_eq_true (rfl : u = u)] at hsm
     refine hsm.mono ?_
     rintro e w' ⟨rfl, hb⟩
     exact fam_fin hK rfl rfl hb (hC.trans (hb.mono hC.size))
    ·
     obtain ⟨h8, -⟩ := hh
     have g8 : f 8 = _ := h8
     refine tab_plain fun K Q hK => ?_
     simp only [puts, Za, Zb, Zc, Zd, Ze, g8]
     go_step
     exact fam_e hK rfl rfl (Below.refl _ _) hC
   case arest =>
    intro f WA hC hh
    obtain ⟨h0, h1, h2, h3, h4, h5, h6, h7, h8, h9, -⟩ := hh
    have g0 : f 0 = _ := h0
    have g1 : f 1 = _ := h1
    have g2 : f 2 = _ := h2
    have g3 : f 3 = _ := h3
    have g4 : f 4 = _ := h4
    have g5 : f 5 = _ := h5
    have g6 : f 6 = _ := h6
    have g7 : f 7 = _ := h7
    have g8 : f 8 = _ := h8
    have g9 : f 9 = _ := h9
    simp only [puts, Za, Zb, Zc, Zd, Ze, g0, g1, g2, g3, g4, g5, g6, g7, g8, g9]
    clear h0 h1 h2 h3 h4 h5 h6 h7 h8 h9 g0 g1 g2 g3 g4 g5 g6 g7 g8 g9
    have HLN := Lib.hid (HL.out.trans (hC.mono HL.out.size))
    clear hC
    go_wp2_with (fail)
    go_roundw
    case rel => exact ⟨i + 1, hlt, by go_num, HLN.out⟩
    case measure => simp [intOf]; omega
  ·have t1 : decide (i < ql) = false := decide_eq_false (by omega)
   go_wp2_with (fail)
   go_ret
   exact ⟨rfl, HB⟩
theorem dfaLists_top (a : Dfa) (h : DH) (n most : Int) (w : World) (ia : IsDfa w h a) {P Q : Prop} (_ : P) (_ : Q) :
  Calls Try.prog 7 #[vDf a h, .int .i64 n, .int .i64 most] w fun e w' => e = .returned (.bool true) ∧ Below w.heap.size w w' := dfaLists_walk a h n most w ia
end Go.Proofs.Ytpcbmhfnefhenaa
