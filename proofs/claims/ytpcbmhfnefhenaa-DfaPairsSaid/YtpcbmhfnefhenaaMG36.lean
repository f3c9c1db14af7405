import Derived.Test.YtpcbmhfnefhenaaMG1
import Derived.Test.YtpcbmhfnefhenaaMG27
import Derived.Test.YtpcbmhfnefhenaaMG29
import Derived.Test.YtpcbmhfnefhenaaMG32
import Derived.Test.YtpcbmhfnefhenaaMG33
import Derived.Test.YtpcbmhfnefhenaaMG35
/-
  DfaIr, DfaPairsW
-/
set_option linter.unusedSimpArgs false
set_option linter.unusedVariables false
namespace Go.Proofs.Ytpcbmhfnefhenaa
open List (foldr_cons foldr_nil setIfInBounds_toArray set_cons_succ set_cons_zero)
open Go.RowKit
attribute [local go_sem] Oper.semAt_some

set_option maxRecDepth 20000 in
set_option maxHeartbeats 4000000 in
theorem refIncluded_na {a b : Dfa} {h k : DH} {w : World} (hv : ¬ ValidD a) (hd : IsDfa w h a) (he : IsDfa w k b) : Calls Try.prog 35 #[vDf a h, vDf b k] w (GivesW [] false 1 w) := by
 obtain ⟨W1, W2, hW1, hW2, hs1, hs2, hO⟩ := box2R hd he
 obtain ⟨⟨c1, c2, c3, c4⟩, ⟨g1, g2, g3, g4⟩, hd2, he2, hb2⟩ := hO W2 (Below.refl _ _)
 have hva := refValid_no hv hd2
 have HB2 := Lib.hid hb2
 unfold vDf at hva ⊢
 clear hO hd2 he2 hs2 hv hb2
 go_enter Try.func35, Try.ntmps35
 go_wp2_with (fail)
 refine hva.mono ?_
 rintro e w3 ⟨rfl, hb⟩
 have hB := HB2.out.trans (hb.mono HB2.out.size)
 go_wp2_with (fail)
 go_ret3
 exact ⟨⟨none, 0, rfl, .inl ⟨rfl, rfl, rfl, rfl⟩⟩, hB⟩
set_option maxRecDepth 20000 in
set_option maxHeartbeats 4000000 in
theorem refIncluded_nb {a b : Dfa} {h k : DH} {w : World} (hva : ValidD a) (hv : ¬ ValidD b) (hd : IsDfa w h a) (he : IsDfa w k b) : Calls Try.prog 35 #[vDf a h, vDf b k] w (GivesW [] false 1 w) := by
 obtain ⟨W1, W2, hW1, hW2, hs1, hs2, hO⟩ := box2R hd he
 obtain ⟨⟨c1, c2, c3, c4⟩, ⟨g1, g2, g3, g4⟩, hd2, he2, hb2⟩ := hO W2 (Below.refl _ _)
 have hya := refValid_yes hva hd2
 have HB2 := Lib.hid hb2
 have HO := Lib.hid hO
 have HS := Lib.hid hs2
 have HVB := Lib.hid hv
 unfold vDf at hya ⊢
 clear hO hd2 he2 hs2 hv hb2 hva
 go_enter Try.func35, Try.ntmps35
 go_wp2_with (fail)
 refine hya.mono ?_
 rintro e w3 ⟨rfl, hb⟩
 obtain ⟨⟨k1, k2, k3, k4⟩, ⟨j1, j2, j3, j4⟩, hd3, he3, hb3⟩ := HO.out w3 (hb.mono (by rw [HS.out]; omega))
 have hnb := refValid_no HVB.out he3
 unfold vDf at hnb
 have HB3 := Lib.hid hb3
 clear hb hd3 he3 hb3 c1 c2 c3 c4 g1 g2 g3 g4 hya
 go_wp2_with (fail)
 refine hnb.mono ?_
 rintro e w4 ⟨rfl, hb⟩
 have hB := HB3.out.trans (hb.mono HB3.out.size)
 go_wp2_with (fail)
 go_ret3
 exact ⟨⟨none, 0, rfl, .inl ⟨rfl, rfl, rfl, rfl⟩⟩, hB⟩
structure WP where
 p : P2
 a : Option Addr
 c : Nat
 w : List Int
def WP.v (x : WP) : Value := .slice x.a x.w.length x.c
def gwp (vs : List WP) (i : Nat) : WP := vs.getD i ⟨⟨0, 0⟩, none, 0, []⟩
theorem gwp_eq (vs : List WP) (i : Nat) (h : i < vs.length) : gwp vs i = vs[i] := by simp [gwp, List.getD, h]
def wvs (vs : List WP) : List Value := vs.flatMap fun x => [.int .i64 x.p.a, .int .i64 x.p.b, x.v]
theorem wvs_cons (e : WP) (vs : List WP) : wvs (e :: vs) = .int .i64 e.p.a :: .int .i64 e.p.b :: e.v :: wvs vs := rfl
theorem wvs_append (xs ys : List WP) : wvs (xs ++ ys) = wvs xs ++ wvs ys := by simp [wvs]
theorem wvs_length : ∀ vs : List WP, (wvs vs).length = vs.length * 3
 | [] => rfl
 | e :: vs => by
  have := wvs_length vs
  rw [wvs_cons, List.length_cons, List.length_cons, List.length_cons, List.length_cons]
  omega
theorem wvs_get : ∀ (vs : List WP) (i : Nat), i < vs.length → (wvs vs)[i * 3]? = some (.int .i64 (gwp vs i).p.a) ∧ (wvs vs)[i * 3 + 1]? = some (.int .i64 (gwp vs i).p.b) ∧ (wvs vs)[i * 3 + 2]? = some (gwp vs i).v
 | [], i, h => absurd h (Nat.not_lt_zero _)
 | e :: vs, 0, _ => ⟨rfl, rfl, rfl⟩
 | e :: vs, i + 1, h => by
  have ih := wvs_get vs i (by simpa using h)
  rw [show (i + 1) * 3 = i * 3 + 1 + 1 + 1 by omega, wvs_cons]
  exact ih
theorem own_wp {w : World} {B e n cap g : Nat} {vs : List WP} (h : w.ownsRow B e 3 (.slice (some ⟨g, 0, none⟩) n cap) n (wvs vs)) (i : Nat) (hi : i < n) : w.cell? ⟨g, i * 3, none⟩ = some (.int .i64 (gwp vs i).p.a) ∧ w.cell? ⟨g, i * 3 + 1, none⟩ = some (.int .i64 (gwp vs i).p.b) ∧ w.cell? ⟨g, i * 3 + 2, none⟩ = some (gwp vs i).v := by
 have hl : vs.length = n := by
  have := h.1
  rw [wvs_length] at this
  omega
 obtain ⟨p0, p1, p2⟩ := wvs_get vs i (by omega)
 exact ⟨(owns_cells h _ (by omega)).trans p0, (owns_cells h _ (by omega)).trans p1, (owns_cells h _ (by omega)).trans p2⟩
def wpR (vs : List WP) : List Pc := vs.map fun x => .row 3 1 x.v x.w.length (ivs .i64 x.w)
def riPs (vs : List WP) (vq : Value) (qs : List Pc) : List Pc := .row 101 3 vq vs.length (wvs vs) :: (qs ++ wpR vs)
theorem riPs_word {W : World} {B : Nat} {vs : List WP} {vq : Value} {qs : List Pc} (h : Pcs W B (riPs vs vq qs)) {i : Nat} (hi : i < vs.length) : W.ownsRow B 3 1 (gwp vs i).v (gwp vs i).w.length (ivs .i64 (gwp vs i).w) :=
 (pcs_iff.1 h).1 (.row 3 1 (gwp vs i).v (gwp vs i).w.length (ivs .i64 (gwp vs i).w)) (List.mem_cons_of_mem _ (List.mem_append_right _ (List.mem_map.2 ⟨gwp vs i, by rw [gwp_eq _ _ hi]; exact List.getElem_mem hi, rfl⟩)))
theorem riPs_in {W : World} {B : Nat} {vs : List WP} {vq : Value} {qs : List Pc} {p : Pc} (h : Pcs W B (riPs vs vq qs ++ [p])) : Pcs W B (riPs vs vq (qs ++ [p])) := by
 refine h.perm ?_
 unfold riPs
 rw [List.cons_append]
 refine .cons _ ?_
 rw [List.append_assoc, List.append_assoc]
 exact List.Perm.append_left qs List.perm_append_comm
theorem riPs_out {W : World} {B : Nat} {vs : List WP} {vq : Value} {qs : List Pc} (h : Pcs W B (riPs vs vq qs)) : Pcs W B (riPs vs vq []) :=
 Pcs.left (qs := qs) (h.perm (.cons _ List.perm_append_comm))
theorem riPs_push {W : World} {B : Nat} {vs : List WP} {vq : Value} {qs : List Pc} {x : WP} (h : Pcs W B (.row 101 3 vq (vs.length + 1) (wvs vs ++ [.int .i64 x.p.a, .int .i64 x.p.b, x.v]) :: (qs ++ (wpR vs ++ [.row 3 1 x.v x.w.length (ivs .i64 x.w)])))) : Pcs W B (riPs (vs ++ [x]) vq qs) := by
 unfold riPs
 rw [wvs_append, List.length_append, show wpR (vs ++ [x]) = wpR vs ++ [.row 3 1 x.v x.w.length (ivs .i64 x.w)] by unfold wpR; rw [List.map_append]; rfl]
 exact h
theorem slice_one {a b : Int} {x : Option Addr} {n c : Nat} : ∀ u ∈ (#[Value.int .i64 a, .int .i64 b, .slice x n c] : Array Value).toList, u.oneCell' = true := by
 intro u hu
 simp only [List.mem_cons, List.not_mem_nil, or_false] at hu
 rcases hu with rfl | rfl | rfl <;> rfl
def WaysR (vs : List WP) (st : Bq P2) : Prop := vs.map WP.p = st.q ∧ vs.map WP.w = st.w
theorem WaysR.len {vs : List WP} {st : Bq P2} (h : WaysR vs st) : vs.length = st.q.length := by rw [← h.1, List.length_map]
theorem WaysR.start (s : P2) : WaysR [⟨s, none, 0, []⟩] ⟨[s], [[]], []⟩ := ⟨rfl, rfl⟩
theorem WaysR.old {vs : List WP} {st : Bq P2} (hw : WaysR vs st) {h : Nat} {x : Int × P2} (hm : x.2 ∈ st.q) : WaysR vs (bq1 h st x) := by
 have e := bq1_yes (h := h) hm
 unfold WaysR at hw ⊢
 rw [e.1, e.2]
 exact hw
theorem WaysR.new {vs : List WP} {st : Bq P2} (hw : WaysR vs st) {h : Nat} {x : Int × P2} (hm : x.2 ∉ st.q) {a : Option Addr} {c : Nat} : WaysR (vs ++ [⟨x.2, a, c, st.w.getD h [] ++ [x.1]⟩]) (bq1 h st x) := by
 have e := bq1_no (h := h) hm
 refine ⟨by rw [e.1, List.map_append, hw.1]; rfl, by rw [e.2, List.map_append, hw.2]; rfl⟩
theorem WaysR.word {vs : List WP} {st : Bq P2} (hw : WaysR vs st) {i : Nat} (hi : i < vs.length) : (gwp vs i).w = st.w.getD i [] := by
 rw [← hw.2, gwp_eq _ _ hi, List.getD_eq_getElem?_getD, List.getElem?_map, List.getElem?_eq_getElem hi]
 rfl
theorem WaysR.pair {vs : List WP} {st : Bq P2} (hw : WaysR vs st) {i : Nat} (hi : i < vs.length) : (gwp vs i).p = gp2 st.q i := by
 rw [← hw.1, gp2_eq _ _ (by rw [List.length_map]; exact hi), gwp_eq _ _ hi, List.getElem_map]
set_option maxRecDepth 20000 in
set_option maxHeartbeats 1600000 in
theorem refIncluded_yes {a b : Dfa} {h kh : DH} {w : World} (hva : ValidD a) (hvb : ValidD b) (hd : IsDfa w h a) (he : IsDfa w kh b) : Calls Try.prog 35 #[vDf a h, vDf b kh] w (GivesW ((incW a b).getD []) (incW a b).isNone 0 w) := by
 obtain ⟨RW, hRW⟩ : ∃ R, (incW a b).getD [] = R := ⟨_, rfl⟩
 obtain ⟨RN, hRN⟩ : ∃ R, (incW a b).isNone = R := ⟨_, rfl⟩
 rw [hRW, hRN]
 have HRW := Lib.hid hRW
 have HRN := Lib.hid hRN
 clear hRW hRN
 obtain ⟨W1, W2, hW1, hW2, hs1, hs2, hO⟩ := box2R hd he
 obtain ⟨⟨c1, c2, c3, c4⟩, ⟨e1, e2, e3, e4⟩, hd2, he2, hb2⟩ := hO W2 (Below.refl _ _)
 have hya := refValid_yes hva hd2
 have HO := Lib.hid hO
 have HS := Lib.hid hs2
 have HVA := Lib.hid hva
 have HVB := Lib.hid hvb
 have hmm := @run_makeMap Try.prog
 unfold vDf at hya ⊢
 clear hO hd2 he2 hs2 hb2 hva hvb hd he
 go_enter Try.func35, Try.ntmps35
 go_wp2_with (fail)
 refine hya.mono ?_
 rintro e w3 ⟨rfl, hb⟩
 replace hb := hb.mono (show w.heap.size + 2 ≤ W2.heap.size by rw [HS.out]; omega)
 obtain ⟨⟨k1, k2, k3, k4⟩, ⟨j1, j2, j3, j4⟩, hd3, he3, -⟩ := HO.out w3 hb
 have hyb := refValid_yes HVB.out he3
 unfold vDf at hyb
 have HB3 := Lib.hid hb
 clear hb hd3 he3 c1 c2 c3 c4 e1 e2 e3 e4 hya hW1 hW2
 go_wp2_with (fail)
 refine hyb.mono ?_
 rintro e w4 ⟨rfl, hb⟩
 have hs3 := HB3.out.size
 have hb4 : Below (w.heap.size + 2) W2 w4 := HB3.out.trans (hb.mono (by rw [HS.out] at hs3; omega))
 obtain ⟨⟨c1, c2, c3, c4⟩, ⟨e1, e2, e3, e4⟩, hd4, he4, -⟩ := HO.out w4 hb4
 have hs4 := hb4.size
 rw [HS.out] at hs4
 have HB4 := Lib.hid hb4
 have HS4 := Lib.hid hs4
 clear hb hb4 hs3 hs4 hd4 he4 k1 k2 k3 k4 j1 j2 j3 j4 hyb
 have hs4 := HS4.out
 go_wp2_with (fail)
 have hP7 : Pcs (w4.alloc (.cells #[.int .i64 a.s, .int .i64 b.s, .slice none 0 0] 101)) (w.heap.size + 2) (riPs [⟨⟨a.s, b.s⟩, none, 0, []⟩] (.slice (some ⟨w4.heap.size, 0, none⟩) 1 1) []) := by
  have h1 : Pcs (w4.alloc (.cells #[.int .i64 a.s, .int .i64 b.s, .slice none 0 0] 101)) (w.heap.size + 2) [.row 101 3 (.slice (some ⟨w4.heap.size, 0, none⟩) 1 1) 1 (wvs [⟨⟨a.s, b.s⟩, none, 0, []⟩])] := Pcs.one (World.ownsRow_lit w4 _ 1 hs4 (by unfold maxLen; omega) rfl)
  exact h1.empty 3 1
 have hB7 : Below (w.heap.size + 2) W2 (w4.alloc (.cells #[.int .i64 a.s, .int .i64 b.s, .slice none 0 0] 101)) := HB4.out.alloc hs4 _
 have hz7 : w.heap.size + 2 ≤ (w4.alloc (.cells #[.int .i64 a.s, .int .i64 b.s, .slice none 0 0] 101)).heap.size := by simp; omega
 obtain ⟨BQ, hBQ⟩ : ∃ BQ, BQ = bq (oI a b) ⟨a.s, b.s⟩ := ⟨_, rfl⟩
 have HB0 : Hid (BQ 0 = ⟨[⟨a.s, b.s⟩], [[]], []⟩) := Lib.hid (by rw [hBQ]; rfl)
 obtain ⟨M, hM⟩ : ∃ M, nI a b = M := ⟨_, rfl⟩
 have HMM : Hid (M ≤ 1001000) := Lib.hid (by
  rw [← hM]
  unfold nI
  have h1 := HVA.out.1
  have h2 := HVB.out.1
  exact Nat.le_trans (Nat.mul_le_mul (show a.n.toNat ≤ 1000 by omega) (show b.n.toNat + 1 ≤ 1001 by omega)) (by decide))
 have HLEN : Hid (∀ k, (BQ k).q.length ≤ M) := Lib.hid (fun k => by rw [← hM, hBQ]; exact bqI_len HVA.out HVB.out k)
 have HIN : Hid (∀ k y, y ∈ (BQ k).q → InI a b y) := Lib.hid (fun k y hy => by rw [hBQ] at hy; exact bqI_in HVA.out HVB.out k y hy)
 have HST : Hid (∀ k, k < (BQ k).q.length → BQ (k + 1) = bqs k (BQ k) (ki b (gp2 (BQ k).q k).b (outsD a.arcs (gp2 (BQ k).q k).a))) := Lib.hid (fun k hk => by
  rw [hBQ] at hk ⊢
  rw [gp2_eq _ _ hk]
  exact bqh_at hk)
 have HSO : Hid (∀ k, k < (BQ k).q.length → (∀ i, i < k → badI a b (gp2 (BQ k).q i) = false) → badI a b (gp2 (BQ k).q k) = true → incW a b = some ((BQ k).w.getD k [])) := Lib.hid (fun k hk h1 h2 => by
  rw [hBQ] at hk h1 h2 ⊢
  refine incW_some HVA.out HVB.out (gp2_some hk) (fun i p hi hp => ?_) h2
  have := h1 i hi
  rw [gp2_some (show i < _ by omega)] at hp
  injection hp with hp
  rw [← hp]; exact this)
 have HNO : Hid (∀ k, (BQ k).q.length ≤ k → (∀ i, i < k → badI a b (gp2 (BQ k).q i) = false) → incW a b = none) := Lib.hid (fun k hk h1 => by
  rw [hBQ] at hk h1
  refine incW_none HVA.out HVB.out hk (fun i p hi hp => ?_)
  have := h1 i hi
  have hl := (List.getElem?_eq_some_iff.1 hp).1
  rw [gp2_some hl] at hp
  injection hp with hp
  rw [← hp]; exact this)
 have HWL : Hid (∀ k, (BQ k).w.length = (BQ k).q.length) := Lib.hid (fun k => by rw [hBQ]; exact bq_wlen _ _ k)
 have HSW : Hid (∀ k, ShortW (BQ k)) := Lib.hid (fun k => by rw [hBQ]; exact shortW_bq _ _ k)
 have HWY : Hid (WaysR [⟨⟨a.s, b.s⟩, none, 0, []⟩] (BQ 0)) := Lib.hid (by rw [HB0.out]; exact WaysR.start _)
 have HP7 := Lib.hid hP7
 have HB7 := Lib.hid hB7
 have HZ7 := Lib.hid hz7
 clear hBQ hM hP7 hB7 hz7 hs4 hmm c1 c2 c3 c4 e1 e2 e3 e4 hs1
 go_loopw [7, 8] (fun vq c W => ∃ (k : Nat) (vs : List WP) (aq : Option Addr) (cq : Nat), k ≤ vs.length ∧ c = .int .i64 (k : Int) ∧ vq = .slice aq vs.length cq ∧ Pcs W (w.heap.size + 2) (riPs vs (.slice aq vs.length cq) []) ∧ Hid (WaysR vs (BQ k)) ∧ Hid (∀ i, i < k → badI a b (gp2 (BQ k).q i) = false) ∧ Below (w.heap.size + 2) W2 W ∧ w.heap.size + 2 ≤ W.heap.size) (fun _ c _ => M - (intOf c).toNat)
 case atStart => exact ⟨0, [⟨⟨a.s, b.s⟩, none, 0, []⟩], some ⟨w4.heap.size, 0, none⟩, 1, Nat.zero_le _, rfl, rfl, HP7.out, HWY, Lib.hid (fun i hi => absurd hi (Nat.not_lt_zero _)), HB7.out, HZ7.out⟩
 case round =>
  clear HP7 HB7 HZ7 HWY
  obtain ⟨k, vs, aq, cq, hk, rfl, rfl, hP, HW, HG, hb, hz⟩ := hrel
  have hvl := HW.out.len
  have hvM : vs.length ≤ M := by rw [hvl]; exact HLEN.out k
  rcases Nat.lt_or_ge k vs.length with hlt | hge
  ·have t1 : decide (k < vs.length) = true := decide_eq_true hlt
   obtain ⟨gq, rfl, hgq, -⟩ := owns_addr (hP.row 0 rfl) (by omega)
   obtain ⟨q0, q1, q2⟩ := own_wp (hP.row 0 rfl) k hlt
   obtain ⟨X, hX⟩ : ∃ X, gwp vs k = X := ⟨_, rfl⟩
   have hpq : gp2 (BQ k).q k = X.p := by rw [← HW.out.pair hlt, hX]
   have hwq : (BQ k).w.getD k [] = X.w := by rw [← HW.out.word hlt, hX]
   have hin : InI a b X.p := HIN.out k X.p (by rw [← hpq]; exact gp2_mem _ _ (by omega))
   rw [hX] at q0 q1 q2
   obtain ⟨⟨A, Y⟩, xa, xc, xw⟩ := X
   obtain ⟨⟨hA0, hA⟩, hY0, hY⟩ := hin
   obtain ⟨A, rfl⟩ := Int.eq_ofNat_of_zero_le hA0
   simp only [WP.v] at hA hY0 hY q0 q1 q2 hpq hwq
   have HX := Lib.hid hX
   have HPQ := Lib.hid hpq
   have HWQ := Lib.hid hwq
   have HP := Lib.hid hP
   have HB := Lib.hid hb
   have HVL := Lib.hid hvl
   have HLT := Lib.hid hlt
   have HXL : Hid (xw.length ≤ 1001000) := Lib.hid (by
    have h1 := HSW.out k
    have h2 : k < (BQ k).w.length := by rw [h1.1, ← hvl]; exact hlt
    have h3 := h1.2 _ (List.getElem_mem h2)
    have h4 : (BQ k).w[k] = xw := by rw [← hwq, List.getD_eq_getElem?_getD, List.getElem?_eq_getElem h2]; rfl
    rw [h4] at h3
    have h5 := HLEN.out k
    have h6 := HMM.out
    omega)
   clear hpq hwq hX hP hb hvl hk hA0 hlt
   go_upto_region 8 with (fail)
   obtain ⟨W8, hW8⟩ : ∃ W8, wr.alloc (.cells #[.int .i64 (A : Int), .int .i64 Y, .slice xa xw.length xc] 101) = W8 := ⟨_, rfl⟩
   have HS8 : Hid (W8.heap.size = wr.heap.size + 1) := Lib.hid (by rw [← hW8]; simp)
   have HP8 : Hid (Pcs W8 (w.heap.size + 2) (riPs vs (.slice (some ⟨gq, 0, none⟩) vs.length cq) [.blk wr.heap.size #[.int .i64 (A : Int), .int .i64 Y, .slice xa xw.length xc]])) := Lib.hid (by rw [← hW8]; exact riPs_in (HP.out.new (by omega) _ _))
   have hB8 : Below (w.heap.size + 2) W2 W8 := by rw [← hW8]; exact HB.out.alloc (by omega) _
   have z0 : W8.cell? ⟨wr.heap.size, 0, none⟩ = some (.int .i64 (A : Int)) := by rw [← hW8]; exact cell_of_row _ _ 0 _ _ _ (heap_alloc_new wr _)
   have z1 : W8.cell? ⟨wr.heap.size, 1, none⟩ = some (.int .i64 Y) := by rw [← hW8]; exact cell_of_row _ _ 1 _ _ _ (heap_alloc_new wr _)
   have z2 : W8.cell? ⟨wr.heap.size, 2, none⟩ = some (.slice xa xw.length xc) := by rw [← hW8]; exact cell_of_row _ _ 2 _ _ _ (heap_alloc_new wr _)
   rw [hW8]
   clear hW8 HP HB q0 q1 q2
   obtain ⟨⟨c1, c2, c3, c4⟩, ⟨e1, e2, e3, e4⟩, hd8, he8, -⟩ := HO.out W8 hB8
   have HB8 := Lib.hid hB8
   obtain ⟨bf, of, hfa, hfc⟩ := hd8.1.fix (by have := hd8.1.length; have := HVA.out.2.2.1; omega)
   have ca := hfc W8 (Below.refl _ _) A (by have := hd8.1.length; have := HVA.out.2.2.1; omega)
   have da : A < h.fl := by have := hd8.1.length; have := HVA.out.2.2.1; omega
   rw [hfa] at c3
   have HE8 := Lib.hid he8
   clear hfc hB8 hd8 he8
   obtain ⟨BD, hBD⟩ : ∃ BD, badI a b ⟨(A : Int), Y⟩ = BD := ⟨_, rfl⟩
   have HBD := Lib.hid hBD
   clear hBD
   obtain ⟨pb, hpb⟩ : ∃ pb, wr.heap.size = pb := ⟨_, rfl⟩
   have HPB : Hid (w.heap.size + 2 ≤ pb) := Lib.hid (by omega)
   rw [hpb] at HP8 HS8 z0 z1 z2 ⊢
   clear hpb hz
   go_cut [56] (fun v wc => v = .bool BD ∧ wc = W8)
   case first =>
    by_cases xa : gb a.fin A = true
    ·rw [xa] at ca
     by_cases hy : Y < 0
     ·have d1 : decide (Y < 0) = true := decide_eq_true hy
      have HR : Hid (BD = true) := Lib.hid (by rw [← HBD.out]; unfold badI; simp [xa, hy])
      clear hy
      go_wp2_with (fail)
      go_meet
      case rel => exact ⟨by rw [HR.out], rfl⟩
     ·have d1 : decide (Y < 0) = false := decide_eq_false hy
      obtain ⟨Z, rfl⟩ := Int.eq_ofNat_of_zero_le (show 0 ≤ Y by omega)
      obtain ⟨bg, og, hga, hgc⟩ := HE8.out.1.fix (by have := HE8.out.1.length; have := HVB.out.2.2.1; omega)
      have cb := hgc W8 (Below.refl _ _) Z (by have := HE8.out.1.length; have := HVB.out.2.2.1; omega)
      have db : Z < kh.fl := by have := HE8.out.1.length; have := HVB.out.2.2.1; omega
      rw [hga] at e3
      obtain ⟨xb, hxb⟩ : ∃ xb, gb b.fin Z = xb := ⟨_, rfl⟩
      have HR : Hid (BD = !xb) := Lib.hid (by rw [← HBD.out]; unfold badI; simp [xa, ← hxb]; intro hh; omega)
      rw [hxb] at cb
      clear hgc hxb hy
      cases xb
      ·go_wp2_with (fail)
       go_meet
       case rel => exact ⟨by rw [HR.out]; rfl, rfl⟩
      ·go_wp2_with (fail)
       go_meet
       case rel => exact ⟨by rw [HR.out]; rfl, rfl⟩
    ·have xa : gb a.fin A = false := by simpa using xa
     rw [xa] at ca
     have HR : Hid (BD = false) := Lib.hid (by rw [← HBD.out]; unfold badI; simp [xa])
     go_wp2_with (fail)
     go_meet
     case rel => exact ⟨by rw [HR.out], rfl⟩
   case rest =>
    obtain ⟨rfl, rfl⟩ := hcut
    rw [← hfa] at c3
    clear ca hfa bf of
    cases BD
    ·have HGk : Hid (∀ i, i < k + 1 → badI a b (gp2 (BQ k).q i) = false) := Lib.hid (fun i hi => by
      rcases Nat.lt_or_ge i k with h1 | h1
      ·exact HG.out i h1
      ·rw [show i = k by omega, HPQ.out]; exact HBD.out)
     obtain ⟨-, -, hd8, -, -⟩ := HO.out wc HB8.out
     have hb8 := HB8.out
     go_wp2_with (fail)
     refine (refOuts_own (w := wc) (A : Int) hd8 HVA.out.2.2.2.1).mono ?_
     rintro e w9 ⟨⟨ao, co, rfl, hO9⟩, hb9⟩
     have HP9 := Lib.hid (riPs_in (HP8.out.add (.row 66 3 (.slice ao (outsD a.arcs (A : Int)).length co) (outsD a.arcs (A : Int)).length (tvs (outsD a.arcs (A : Int)))) (below_grows hb9 none) (hO9.from_mono (by have := HPB.out; have := HS8.out; omega)) (fun q e => by have := (hO9.lt q e).1; omega)))
     have HB9 : Hid (Below (w.heap.size + 2) W2 w9) := Lib.hid (HB8.out.trans (hb9.mono (by have := HPB.out; have := HS8.out; omega)))
     have HZ9 : Hid (pb + 1 ≤ w9.heap.size) := Lib.hid (by have := hb9.size; have := HS8.out; omega)
     have HOA : Hid (∀ j, j < (outsD a.arcs (A : Int)).length → ∃ l T : Nat, g3 (outsD a.arcs (A : Int)) j = ⟨A, l, T⟩ ∧ (T : Int) < a.n ∧ l ≤ 10000) := Lib.hid (fun j hj => by
      obtain ⟨l, T, h1, h2⟩ := outs_arc HVA.out hj
      refine ⟨l, T, h1, h2, ?_⟩
      have := (HVA.out.arc (outsD_mem.1 (g3_mem _ j hj)).1).2.2
      rw [h1] at this
      simp only at this
      omega)
     have hol : (outsD a.arcs (A : Int)).length ≤ 20000 := Nat.le_trans (List.length_filter_le _ _) HVA.out.2.2.2.1
     have HST1 : Hid (BQ (k + 1) = bqs k (BQ k) (ki b Y (outsD a.arcs (A : Int)))) := Lib.hid (by rw [HST.out k (by rw [← HVL.out]; exact HLT.out), HPQ.out])
     obtain ⟨OE, hOE⟩ : ∃ OE, outsD a.arcs (A : Int) = OE := ⟨_, rfl⟩
     rw [hOE] at HP9 HOA HST1 hol ⊢
     obtain ⟨IN, hIN⟩ : ∃ IN : Nat → Bq P2, IN = fun j => bqs k (BQ k) (ki b Y (OE.take j)) := ⟨_, rfl⟩
     have HI0 : Hid (IN 0 = BQ k) := Lib.hid (by rw [hIN]; rfl)
     have HIE : Hid (IN OE.length = BQ (k + 1)) := Lib.hid (by rw [hIN, HST1.out]; show bqs k (BQ k) (ki b Y (OE.take OE.length)) = _; rw [List.take_length])
     have HIS : Hid (∀ j l T : Nat, j < OE.length → g3 OE j = ⟨A, l, T⟩ → IN (j + 1) = bq1 k (IN j) ((l : Int), ⟨(T : Int), tgI b Y l⟩)) := Lib.hid (fun j l T hj hg => by
      rw [hIN]
      show bqs k (BQ k) (ki b Y (OE.take (j + 1))) = _
      rw [ki_take _ _ _ hj, bqs_snoc, hg])
     have HIP : Hid (∀ j, (BQ k).q <+: (IN j).q) := Lib.hid (fun j => by rw [hIN]; exact bqs_pre _ _ _)
     have HILE : Hid (∀ j, j ≤ OE.length → (IN j).q.length ≤ M) := Lib.hid (fun j hj => by
      refine Nat.le_trans ?_ (HLEN.out (k + 1))
      rw [HST1.out, hIN, ki_split b Y OE j]
      exact bqs_sub _ _ _ _)
     obtain ⟨OL, hOL⟩ : ∃ OL, OE.length = OL := ⟨_, rfl⟩
     have HOL := Lib.hid hOL
     rw [hOL] at HP9 HOA HIE HIS HILE hol ⊢
     have HW9 : Hid (WaysR vs (IN 0)) := Lib.hid (by rw [HI0.out]; exact HW.out)
     clear hIN hOL hOE hO9 hb9 hd8 hb8 HB8 HP8 HS8 z0 z1 z2 c1 c2 c3 c4 e1 e2 e3 e4
     go_wp2_with (fail)
     go_loopw [7, 11] (fun vq c W => ∃ (j : Nat) (vs' : List WP) (aq : Option Addr) (cq : Nat), j ≤ OL ∧ c = .int .i64 (j : Int) ∧ vq = .slice aq vs'.length cq ∧ Pcs W (w.heap.size + 2) (riPs vs' (.slice aq vs'.length cq) [.blk pb #[.int .i64 (A : Int), .int .i64 Y, .slice xa xw.length xc], .row 66 3 (.slice ao OL co) OL (tvs OE)]) ∧ Hid (WaysR vs' (IN j)) ∧ Hid (k < vs'.length ∧ gwp vs' k = ⟨⟨(A : Int), Y⟩, xa, xc, xw⟩) ∧ Below (w.heap.size + 2) W2 W ∧ pb + 1 ≤ W.heap.size) (fun _ c _ => OL - (intOf c).toNat)
     case atStart => exact ⟨0, vs, some ⟨gq, 0, none⟩, cq, Nat.zero_le _, rfl, rfl, HP9.out, HW9, Lib.hid ⟨HLT.out, HX.out⟩, HB9.out, HZ9.out⟩
     case round =>
      clear HP9 HB9 HW9 HZ9 hvM HW HG
      obtain ⟨j, vs', aq, cq, hj, rfl, rfl, hP, HW, HK, hb, hz⟩ := hrel
      have hvl := HW.out.len
      have hvM : vs'.length ≤ M := by rw [hvl]; exact HILE.out j hj
      obtain ⟨⟨c1, c2, c3, c4⟩, ⟨e1, e2, e3, e4⟩, hdr, her, hbw⟩ := HO.out wr hb
      rcases Nat.lt_or_ge j OL with hjl | hjge
      ·have t2 : decide (j < OL) = true := decide_eq_true hjl
       obtain ⟨xb, rfl, hxb, -⟩ := owns_addr (hP.row 2 rfl) (by omega)
       obtain ⟨l, T, hx, hT, hl⟩ := HOA.out j hjl
       obtain ⟨y1, y2, y3⟩ := (IsArcs.of_owns (hP.row 2 rfl)).1.get j hjl
       rw [hx] at y1 y2 y3
       simp only [Nat.zero_add] at y1 y2 y3
       have z1 : wr.cell? ⟨pb, 1, none⟩ = some (.int .i64 Y) := ((hP.blk 1 rfl).2.cell 1).1
       have HJ := Lib.hid (HIS.out j l T hjl hx)
       have HP := Lib.hid hP
       have HB := Lib.hid hb
       have HVJ := Lib.hid hvl
       have HJL := Lib.hid hjl
       have HER := Lib.hid her
       obtain ⟨G, hG⟩ : ∃ G, tgI b Y l = G := ⟨_, rfl⟩
       have HTG := Lib.hid hG
       have hgr := tgI_in HVB.out Y (l : Int)
       rw [hG] at hgr HJ
       clear hP hb hx hvl hdr her hbw hG y1 c1 c2 c3 c4
       go_upto_if 71 with fail
       go_cut [12] (fun v12 wc => v12 = .int .i64 G ∧ Pcs wc (w.heap.size + 2) (riPs vs' (.slice aq vs'.length cq) [.blk pb #[.int .i64 (A : Int), .int .i64 Y, .slice xa xw.length xc], .row 66 3 (.slice (some ⟨xb, 0, none⟩) OL co) OL (tvs OE)]) ∧ Below (w.heap.size + 2) W2 wc ∧ pb + 1 ≤ wc.heap.size ∧ wc.cell? ⟨xb, j * 3 + 1, none⟩ = some (.int .i64 (l : Int)) ∧ wc.cell? ⟨xb, j * 3 + 2, none⟩ = some (.int .i64 (T : Int)))
       case first =>
        by_cases hy : 0 ≤ Y
        ·have HNG : Hid (nxI b.arcs Y (l : Int) = G) := Lib.hid (by rw [← HTG.out]; unfold tgI nxI; rw [if_pos hy]; cases nxtD b.arcs Y (l : Int) <;> rfl)
         go_upto_region 16 with (fail)
         refine wp_region_grow mixed (by kernel_rfl) [[], [], [(1, 73)], [], [], [(3, 75), (4, 76)], [(5, 77)], [(6, 78)], [(0, 72), (2, 74), (7, 79)], [(8, 80), (8, 80), (0, 72), (1, 73), (2, 74), (3, 75), (4, 76), (5, 77), (6, 78), (7, 79), (8, 80)]] [(0, 72), (1, 73), (2, 74), (3, 75), (4, 76), (5, 77), (6, 78), (7, 79), (8, 80), (9, 12)] rfl rfl [Ex ?en0, Ex ?en1, Ex ?en2, Ex ?en3, Ex ?en4, Ex ?en5, Ex ?en6, Ex ?en7, Ex (.int .i64 G), Ex ?en9] ⟨stays_ex _, stays_ex _, stays_ex _, stays_ex _, stays_ex _, stays_ex _, stays_ex _, stays_ex _, stays_ex _, stays_ex _, trivial⟩ ?nsteps ?nrest
         case nsteps =>
          refine ⟨fun f W hC hh => ?_, fun f W hC hh => ?_, fun f W hC hh => ?_, fun f W hC hh => ?_, fun f W hC hh => ?_, fun f W hC hh => ?_, fun f W hC hh => ?_, fun f W hC hh => ?_, fun f W hC hh => ?_, fun f W hC hh => ?_, trivial⟩
          ·
           refine tab_plain fun K Q hK => ?_
           simp only [puts, foldr_nil]
           have m1 := (hC.cell (p := ⟨w.heap.size + 1, 0, none⟩) (lt_of_cell e1)).trans e1
           have m2 := (hC.cell (p := ⟨w.heap.size + 1, 1, none⟩) (lt_of_cell e2)).trans e2
           have m3 := (hC.cell (p := ⟨w.heap.size + 1, 2, none⟩) (lt_of_cell e3)).trans e3
           have m4 := (hC.cell (p := ⟨w.heap.size + 1, 3, none⟩) (lt_of_cell e4)).trans e4
           go_step
           exact fam_e hK rfl rfl (Below.refl _ _) hC
          ·
           refine tab_plain fun K Q hK => ?_
           simp only [puts, foldr_nil]
           go_step
           exact fam_e hK rfl rfl (Below.refl _ _) hC
          ·
           obtain ⟨h1, -⟩ := hh
           have g1 : f 1 = _ := h1
           refine tab_plain fun K Q hK => ?_
           simp only [puts, Za, Zb, Zc, Zd, Ze, g1]
           have mz := (hC.cell (p := ⟨pb, 1, none⟩) (lt_of_cell z1)).trans z1
           go_step
           exact fam_e hK rfl rfl (Below.refl _ _) hC
          ·
           refine tab_plain fun K Q hK => ?_
           simp only [puts, foldr_nil]
           go_step
           exact fam_e hK rfl rfl (Below.refl _ _) hC
          ·
           refine tab_plain fun K Q hK => ?_
           simp only [puts, foldr_nil]
           go_step
           exact fam_e hK rfl rfl (Below.refl _ _) hC
          ·
           obtain ⟨h3, h4, -⟩ := hh
           have g3 : f 3 = _ := h3
           have g4 : f 4 = _ := h4
           refine tab_plain fun K Q hK => ?_
           simp only [puts, Za, Zb, Zc, Zd, Ze, g3, g4]
           go_step
           exact fam_e hK rfl rfl (Below.refl _ _) hC
          ·
           obtain ⟨h5, -⟩ := hh
           have g5 : f 5 = _ := h5
           refine tab_plain fun K Q hK => ?_
           simp only [puts, Za, Zb, Zc, Zd, Ze, g5]
           go_step
           exact fam_e hK rfl rfl (Below.refl _ _) hC
          ·
           obtain ⟨h6, -⟩ := hh
           have g6 : f 6 = _ := h6
           refine tab_plain fun K Q hK => ?_
           simp only [puts, Za, Zb, Zc, Zd, Ze, g6]
           have mx := (hC.cell (p := ⟨xb, j * 3 + 1, none⟩) (lt_of_cell y2)).trans y2
           go_step
           exact fam_e hK rfl rfl (Below.refl _ _) hC
          ·
           obtain ⟨h0, h2, h7, -⟩ := hh
           have g0 : f 0 = _ := h0
           have g2 : f 2 = _ := h2
           have g7 : f 7 = _ := h7
           refine tab_plain fun K Q hK => ?_
           simp only [puts, Za, Zb, Zc, Zd, Ze, g0, g2, g7]
           go_step
           go_at_call 54
           have hnx := refNext_any Y (l : Int) (HER.out.later hC) HVB.out.2.2.2.1
           rw [HNG.out] at hnx
           refine hnx.mono ?_
           rintro e w' ⟨rfl, hb⟩
           exact fam_fin hK rfl rfl hb (hC.trans (hb.mono hC.size))
          ·
           obtain ⟨h8, _, h0, h1, h2, h3, h4, h5, h6, h7, _, -⟩ := hh
           have g8 : f 8 = _ := h8
           have g0 : f 0 = _ := h0
           have g1 : f 1 = _ := h1
           have g2 : f 2 = _ := h2
           have g3 : f 3 = _ := h3
           have g4 : f 4 = _ := h4
           have g5 : f 5 = _ := h5
           have g6 : f 6 = _ := h6
           have g7 : f 7 = _ := h7
           refine tab_plain fun K Q hK => ?_
           simp only [puts, Za, Zb, Zc, Zd, Ze, g8, g0, g1, g2, g3, g4, g5, g6, g7]
           go_step
           exact fam_e hK rfl rfl (Below.refl _ _) hC
         case nrest =>
          intro f WN hC hh
          obtain ⟨h0, h1, h2, h3, h4, h5, h6, h7, h8, h9, -⟩ := hh
          have g0 : f 0 = _ := h0
          have g1 : f 1 = _ := h1
          have g2 : f 2 = _ := h2
          have g3 : f 3 = _ := h3
          have g4 : f 4 = _ := h4
          have g5 : f 5 = _ := h5
          have g6 : f 6 = _ := h6
          have g7 : f 7 = _ := h7
          have g8 : f 8 = _ := h8
          have g9 : f 9 = _ := h9
          simp only [puts, Za, Zb, Zc, Zd, Ze, g0, g1, g2, g3, g4, g5, g6, g7, g8, g9]
          clear h0 h1 h2 h3 h4 h5 h6 h7 h8 h9 g0 g1 g2 g3 g4 g5 g6 g7 g8 g9
          have hPN := HP.out.quiet (below_grows hC none)
          have hBN : Below (w.heap.size + 2) W2 WN := HB.out.trans (hC.mono (by have := HPB.out; omega))
          have hZN : pb + 1 ≤ WN.heap.size := Nat.le_trans hz hC.size
          have y3n := (hC.cell (p := ⟨xb, j * 3 + 2, none⟩) (lt_of_cell y3)).trans y3
          have y2n := (hC.cell (p := ⟨xb, j * 3 + 1, none⟩) (lt_of_cell y2)).trans y2
          have HX := Lib.hid (And.intro hPN (And.intro hBN (And.intro hZN (And.intro y2n y3n))))
          clear hPN hBN hZN y3n y2n hC
          go_wp2_with (fail)
          go_meet
          case rel => exact ⟨rfl, HX.out⟩
        ·have HGG : Hid (G = -1) := Lib.hid (by rw [← HTG.out]; unfold tgI; rw [if_neg hy])
         go_wp2_with (fail)
         go_meet
         case rel => exact ⟨by rw [HGG.out], HP.out, HB.out, hz, y2, y3⟩
       case rest =>
        clear HP HB HER e1 e2 e3 e4 z1 y2 y3 hz
        obtain ⟨rfl, hPc, hBc, hzc, y2, y3⟩ := hcut
        have hql : 0 < vs'.length := Nat.lt_of_le_of_lt (Nat.zero_le k) HK.out.1
        obtain ⟨gj, rfl, hgj, -⟩ := owns_addr (hPc.row 0 rfl) hql
        have hfi := refFind_any (cap := cq) (w := wc) (g := gj) (q := (IN j).q) HVJ.out.symm (fun i hi => by have h := own_wp (hPc.row 0 rfl) i hi; rw [HW.out.pair hi] at h; exact ⟨h.1, h.2.1⟩) ⟨(T : Int), G⟩ (by have := HMM.out; omega)
        simp only at hfi
        obtain ⟨FN, hFN⟩ : ∃ x, fndP (IN j).q ⟨(T : Int), G⟩ = x := ⟨_, rfl⟩
        rw [hFN] at hfi
        have HFN2 := Lib.hid hFN
        have HPc := Lib.hid hPc
        have HBc := Lib.hid hBc
        clear hFN hql hPc hBc
        go_wp2_with (fail)
        refine hfi.mono ?_
        rintro e w11 ⟨rfl, hb11⟩
        have HP11 := Lib.hid (HPc.out.quiet (below_grows hb11 none))
        have HB11 : Hid (Below (w.heap.size + 2) W2 w11) := Lib.hid (HBc.out.trans (hb11.mono (by have := HPB.out; omega)))
        have HZ11 : Hid (pb + 1 ≤ w11.heap.size) := Lib.hid (Nat.le_trans hzc hb11.size)
        have y3n := (hb11.cell (p := ⟨xb, j * 3 + 2, none⟩) (lt_of_cell y3)).trans y3
        have y2n := (hb11.cell (p := ⟨xb, j * 3 + 1, none⟩) (lt_of_cell y2)).trans y2
        clear hb11 hfi y2 y3 HPc HBc hzc
        by_cases hm : (⟨(T : Int), G⟩ : P2) ∈ (IN j).q
        ·have HFF : Hid (FN = (((IN j).q.idxOf (⟨(T : Int), G⟩ : P2) : Nat) : Int)) := Lib.hid (by rw [← HFN2.out]; unfold fndP; rw [if_pos hm])
         have hge0 : ¬ FN < 0 := by rw [HFF.out]; omega
         have HW2 : Hid (WaysR vs' (IN (j + 1))) := Lib.hid (by rw [HJ.out]; exact HW.out.old hm)
         clear hm
         go_wp2_with (fail)
         go_roundw
         case rel => exact ⟨j + 1, vs', some ⟨gj, 0, none⟩, cq, HJL.out, by go_num, rfl, HP11.out, HW2, HK, HB11.out, HZ11.out⟩
         case measure => simp [intOf]; omega
        ·have HFF : Hid (FN = -1) := Lib.hid (by rw [← HFN2.out]; unfold fndP; rw [if_neg hm])
         have hlt0 : FN < 0 := by rw [HFF.out]; decide
         have HMI := Lib.hid hm
         clear hm
         have z2 : w11.cell? ⟨pb, 2, none⟩ = some (.slice xa xw.length xc) := ((HP11.out.blk 1 rfl).2.cell 2).1
         have hxl : xw.length ≤ 1001000 := HXL.out
         go_upto_region 18 with (fail)
         obtain ⟨S, hSd⟩ : ∃ S : (Nat → Bool) → (Nat → Value) → World → Prop, S = fun L f W => Below (w.heap.size + 2) W2 W ∧ pb + 1 ≤ W.heap.size ∧ (L 20 = false → Bld w11 3 1 W (if L 17 = true then f 17 else if L 10 = true then f 10 else if L 7 = true then f 7 else undef) (if L 17 = true then xw.length + 1 else if L 10 = true then xw.length else 0) (if L 17 = true then ivs .i64 (xw ++ [(l : Int)]) else if L 10 = true then ivs .i64 xw else []) (if L 17 = true then undef else if L 16 = true then f 16 else undef) #[.int .i64 (l : Int)] undef #[]) ∧ (L 18 = true → f 18 = .agg #[.int .i64 (T : Int), .int .i64 G, f 17]) ∧ (L 19 = true → L 20 = false → ∃ q, f 19 = .slice (some ⟨q, 0, none⟩) 1 1 ∧ BlkAt W q #[.int .i64 (T : Int), .int .i64 G, f 17]) ∧ (L 20 = true → (L 21 = true → f 21 = f 20) ∧ ∃ a c, f 17 = .slice a (xw.length + 1) c ∧ Pcs W (w.heap.size + 2) (riPs (vs' ++ [⟨⟨(T : Int), G⟩, a, c, xw ++ [(l : Int)]⟩]) (f 20) [.blk pb #[.int .i64 (A : Int), .int .i64 Y, .slice xa xw.length xc], .row 66 3 (.slice (some ⟨xb, 0, none⟩) OL co) OL (tvs OE)])) := ⟨_, rfl⟩
         refine wp_region_st mixed (by kernel_rfl) [[], [], [], [(1, 91), (2, 92)], [(3, 93)], [(4, 94)], [], [], [], [(8, 98)], [(7, 97), (9, 99)], [], [], [(11, 101), (12, 102)], [(13, 103)], [(14, 104)], [(15, 105)], [(10, 100), (16, 106), (10, 100)], [(5, 95), (6, 96), (17, 107)], [(18, 108)], [(0, 90), (19, 109), (17, 107)], [(20, 110), (20, 110), (0, 90), (1, 91), (2, 92), (3, 93), (4, 94), (5, 95), (6, 96), (7, 97), (8, 98), (9, 99), (10, 100), (11, 101), (12, 102), (13, 103), (14, 104), (15, 105), (16, 106), (17, 107), (18, 108), (19, 109), (20, 110)]] [(0, 90), (1, 91), (2, 92), (3, 93), (4, 94), (5, 95), (6, 96), (7, 97), (8, 98), (9, 99), (10, 100), (11, 101), (12, 102), (13, 103), (14, 104), (15, 105), (16, 106), (17, 107), (18, 108), (19, 109), (20, 110), (21, 7)] rfl rfl [EV ?ez0, EV ?ez1, EV ?ez2, EV ?ez3, EV ?ez4, EV ?ez5, EV ?ez6, fun v => ∃ b, v = .slice (some ⟨b, 0, none⟩) 0 0, EV ?ez8, EV ?ez9, fun v => ∃ a c, v = .slice a xw.length c, EV ?ez11, EV ?ez12, EV ?ez13, EV ?ez14, EV ?ez15, fun v => ∃ b, v = .slice (some ⟨b, 0, none⟩) 1 1, fun v => ∃ a c, v = .slice a (xw.length + 1) c, fun v => ∃ a c, v = .agg #[.int .i64 (T : Int), .int .i64 G, .slice a (xw.length + 1) c], fun v => ∃ b, v = .slice (some ⟨b, 0, none⟩) 1 1, fun v => ∃ a c, v = .slice a (vs'.length + 1) c, fun v => ∃ a c, v = .slice a (vs'.length + 1) c] S ?zstart ?zsteps ?zrest
         case zstart =>
          intro f
          rw [hSd]
          exact ⟨HB11.out.drew, HZ11.out, fun _ => Bld.start w11 _ _ _ _, fun h => (by cases h), fun h => (by cases h), fun h => (by cases h)⟩
         case zsteps =>
          refine ⟨fun L f W hi hd hdn hh hS => ?_, fun L f W hi hd hdn hh hS => ?_, fun L f W hi hd hdn hh hS => ?_, fun L f W hi hd hdn hh hS => ?_, fun L f W hi hd hdn hh hS => ?_, fun L f W hi hd hdn hh hS => ?_, fun L f W hi hd hdn hh hS => ?_, fun L f W hi hd hdn hh hS => ?_, fun L f W hi hd hdn hh hS => ?_, fun L f W hi hd hdn hh hS => ?_, fun L f W hi hd hdn hh hS => ?_, fun L f W hi hd hdn hh hS => ?_, fun L f W hi hd hdn hh hS => ?_, fun L f W hi hd hdn hh hS => ?_, fun L f W hi hd hdn hh hS => ?_, fun L f W hi hd hdn hh hS => ?_, fun L f W hi hd hdn hh hS => ?_, fun L f W hi hd hdn hh hS => ?_, fun L f W hi hd hdn hh hS => ?_, fun L f W hi hd hdn hh hS => ?_, fun L f W hi hd hdn hh hS => ?_, fun L f W hi hd hdn hh hS => ?_, trivial⟩
          ·
           unfold stStep
           rw [if_pos (by simp [Region.wanted])]
           intro K Q hK
           simp only [puts, foldr_nil]
           go_step
           refine st_ex hK rfl rfl (by simp only [Act.put, setIfInBounds_toArray, set_cons_succ, set_cons_zero, Array.getD_eq_getD_getElem?, List.getElem?_toArray, List.getElem?_cons_succ, List.getElem?_cons_zero, Option.getD_some] <;> rfl) rfl (by rw [hSd] at hS ⊢; exact hS)
          ·
           unfold stStep
           rw [if_pos (by simp [Region.wanted])]
           intro K Q hK
           simp only [puts, foldr_nil]
           go_step
           refine st_ex hK rfl rfl (by simp only [Act.put, setIfInBounds_toArray, set_cons_succ, set_cons_zero, Array.getD_eq_getD_getElem?, List.getElem?_toArray, List.getElem?_cons_succ, List.getElem?_cons_zero, Option.getD_some] <;> rfl) rfl (by rw [hSd] at hS ⊢; exact hS)
          ·
           unfold stStep
           rw [if_pos (by simp [Region.wanted])]
           intro K Q hK
           simp only [puts, foldr_nil]
           go_step
           refine st_ex hK rfl rfl (by simp only [Act.put, setIfInBounds_toArray, set_cons_succ, set_cons_zero, Array.getD_eq_getD_getElem?, List.getElem?_toArray, List.getElem?_cons_succ, List.getElem?_cons_zero, Option.getD_some] <;> rfl) rfl (by rw [hSd] at hS ⊢; exact hS)
          ·
           obtain ⟨h1, h2, -⟩ := hh
           have g1 : f 1 = _ := h1
           have g2 : f 2 = _ := h2
           unfold stStep
           rw [if_pos (by simp [Region.wanted])]
           intro K Q hK
           simp only [puts, Za, Zb, Zc, Zd, Ze, g1, g2]
           go_step
           refine st_ex hK rfl rfl (by simp only [Act.put, setIfInBounds_toArray, set_cons_succ, set_cons_zero, Array.getD_eq_getD_getElem?, List.getElem?_toArray, List.getElem?_cons_succ, List.getElem?_cons_zero, Option.getD_some] <;> rfl) rfl (by rw [hSd] at hS ⊢; exact hS)
          ·
           obtain ⟨h3, -⟩ := hh
           have g3 : f 3 = _ := h3
           unfold stStep
           rw [if_pos (by simp [Region.wanted])]
           intro K Q hK
           simp only [puts, Za, Zb, Zc, Zd, Ze, g3]
           go_step
           refine st_ex hK rfl rfl (by simp only [Act.put, setIfInBounds_toArray, set_cons_succ, set_cons_zero, Array.getD_eq_getD_getElem?, List.getElem?_toArray, List.getElem?_cons_succ, List.getElem?_cons_zero, Option.getD_some] <;> rfl) rfl (by rw [hSd] at hS ⊢; exact hS)
          ·
           obtain ⟨h4, -⟩ := hh
           have g4 : f 4 = _ := h4
           have l18 : L 18 = false := Bool.eq_false_iff.2 fun h => by have q := hdn 18 _ h rfl 5 (by decide); rw [show L 5 = false from hi] at q; cases q
           have l19 : L 19 = false := Bool.eq_false_iff.2 fun h => by have q := hdn 19 _ h rfl 18 (by decide); rw [show L 18 = false from l18] at q; cases q
           have l20 : L 20 = false := Bool.eq_false_iff.2 fun h => by have q := hdn 20 _ h rfl 19 (by decide); rw [show L 19 = false from l19] at q; cases q
           unfold stStep
           rw [if_pos (by simp [Region.wanted])]
           intro K Q hK
           simp only [puts, Za, Zb, Zc, Zd, Ze, g4]
           have hS' := hS
           rw [hSd] at hS'
           have hB' := (hS'.2.2.1 l20).bel
           have mx := (hB'.cell (p := ⟨xb, j * 3 + 2, none⟩) (lt_of_cell y3n)).trans y3n
           go_step
           refine st_ex hK rfl rfl (by simp only [Act.put, setIfInBounds_toArray, set_cons_succ, set_cons_zero, Array.getD_eq_getD_getElem?, List.getElem?_toArray, List.getElem?_cons_succ, List.getElem?_cons_zero, Option.getD_some] <;> rfl) rfl (by rw [hSd] at hS ⊢; exact hS)
          ·
           unfold stStep
           rw [if_pos (by simp [Region.wanted])]
           intro K Q hK
           simp only [puts, foldr_nil]
           go_step
           refine st_ex hK rfl rfl (by simp only [Act.put, setIfInBounds_toArray, set_cons_succ, set_cons_zero, Array.getD_eq_getD_getElem?, List.getElem?_toArray, List.getElem?_cons_succ, List.getElem?_cons_zero, Option.getD_some] <;> rfl) rfl (by rw [hSd] at hS ⊢; exact hS)
          ·
           have l10 : L 10 = false := Bool.eq_false_iff.2 fun h => by have q := hdn 10 _ h rfl 7 (by decide); rw [show L 7 = false from hi] at q; cases q
           have l17 : L 17 = false := Bool.eq_false_iff.2 fun h => by have q := hdn 17 _ h rfl 10 (by decide); rw [show L 10 = false from l10] at q; cases q
           have l18 : L 18 = false := Bool.eq_false_iff.2 fun h => by have q := hdn 18 _ h rfl 17 (by decide); rw [show L 17 = false from l17] at q; cases q
           have l19 : L 19 = false := Bool.eq_false_iff.2 fun h => by have q := hdn 19 _ h rfl 18 (by decide); rw [show L 18 = false from l18] at q; cases q
           have l20 : L 20 = false := Bool.eq_false_iff.2 fun h => by have q := hdn 20 _ h rfl 19 (by decide); rw [show L 19 = false from l19] at q; cases q
           unfold stStep
           rw [if_pos (by simp [Region.wanted])]
           intro K Q hK
           simp only [puts, foldr_nil]
           rw [hSd] at hS hK
           have l7 : L 7 = false := hi
           try simp only [stage, l10, l17, l18, l19, l20, l7, if_true, if_false, Bool.false_eq_true] at hS
           obtain ⟨hbW, hzW, hBl, h18, h19, h20⟩ := hS
           have hBl := hBl trivial
           try simp only [l7, l10, l17, if_false, Bool.false_eq_true] at hBl
           go_step
           refine hK.out _ _ rfl ⟨_, rfl⟩ ?_
           have q := hBl.lit
           try simp only [l10, l17, l18, l19, l20, Bool.false_eq_true, ↓reduceIte, Nat.reduceEqDiff]
           exact ⟨hbW.alloc (by have := HPB.out; omega) _, by simp; omega, fun _ => q, fun h => (by cases h), fun h => (by cases h), fun h => (by cases h)⟩
          ·
           unfold stStep
           rw [if_pos (by simp [Region.wanted])]
           intro K Q hK
           simp only [puts, foldr_nil]
           go_step
           refine st_ex hK rfl rfl (by simp only [Act.put, setIfInBounds_toArray, set_cons_succ, set_cons_zero, Array.getD_eq_getD_getElem?, List.getElem?_toArray, List.getElem?_cons_succ, List.getElem?_cons_zero, Option.getD_some] <;> rfl) rfl (by rw [hSd] at hS ⊢; exact hS)
          ·
           obtain ⟨h8, -⟩ := hh
           have g8 : f 8 = _ := h8
           have l10 : L 10 = false := Bool.eq_false_iff.2 fun h => by have q := hdn 10 _ h rfl 9 (by decide); rw [show L 9 = false from hi] at q; cases q
           have l17 : L 17 = false := Bool.eq_false_iff.2 fun h => by have q := hdn 17 _ h rfl 10 (by decide); rw [show L 10 = false from l10] at q; cases q
           have l18 : L 18 = false := Bool.eq_false_iff.2 fun h => by have q := hdn 18 _ h rfl 17 (by decide); rw [show L 17 = false from l17] at q; cases q
           have l19 : L 19 = false := Bool.eq_false_iff.2 fun h => by have q := hdn 19 _ h rfl 18 (by decide); rw [show L 18 = false from l18] at q; cases q
           have l20 : L 20 = false := Bool.eq_false_iff.2 fun h => by have q := hdn 20 _ h rfl 19 (by decide); rw [show L 19 = false from l19] at q; cases q
           unfold stStep
           rw [if_pos (by simp [Region.wanted])]
           intro K Q hK
           simp only [puts, Za, Zb, Zc, Zd, Ze, g8]
           have hS' := hS
           rw [hSd] at hS'
           have hB' := (hS'.2.2.1 l20).bel
           have mz := (hB'.cell (p := ⟨pb, 2, none⟩) (lt_of_cell z2)).trans z2
           go_step
           refine st_ex hK rfl rfl (by simp only [Act.put, setIfInBounds_toArray, set_cons_succ, set_cons_zero, Array.getD_eq_getD_getElem?, List.getElem?_toArray, List.getElem?_cons_succ, List.getElem?_cons_zero, Option.getD_some] <;> rfl) rfl (by rw [hSd] at hS ⊢; exact hS)
          ·
           obtain ⟨h7, h9, -⟩ := hh
           obtain ⟨b7, (g7 : f 7 = _)⟩ := h7
           have g9 : f 9 = _ := h9
           have l7 : L 7 = true := hd 7 (by decide)
           have l17 : L 17 = false := Bool.eq_false_iff.2 fun h => by have q := hdn 17 _ h rfl 10 (by decide); rw [show L 10 = false from hi] at q; cases q
           have l18 : L 18 = false := Bool.eq_false_iff.2 fun h => by have q := hdn 18 _ h rfl 17 (by decide); rw [show L 17 = false from l17] at q; cases q
           have l19 : L 19 = false := Bool.eq_false_iff.2 fun h => by have q := hdn 19 _ h rfl 18 (by decide); rw [show L 18 = false from l18] at q; cases q
           have l20 : L 20 = false := Bool.eq_false_iff.2 fun h => by have q := hdn 20 _ h rfl 19 (by decide); rw [show L 19 = false from l19] at q; cases q
           unfold stStep
           rw [if_pos (by simp [Region.wanted])]
           intro K Q hK
           simp only [puts, Za, Zb, Zc, Zd, Ze, g7, g9]
           rw [hSd] at hS hK
           have l10 : L 10 = false := hi
           try simp only [stage, l17, l18, l19, l20, l10, l7, if_true, if_false, Bool.false_eq_true] at hS
           obtain ⟨hbW, hzW, hBl, h18, h19, h20⟩ := hS
           have hBl := hBl trivial
           have l7' : L 7 = true := hd 7 (by decide)
           try simp only [l7', l10, l17, if_false, if_true, Bool.false_eq_true, g7] at hBl
           have hown := hBl.own.resolve_left (by intro h; cases h)
           have hrow := (riPs_word HP11.out HK.out.1).kept_below (hBl.bel)
           rw [HK.out.2] at hrow
           have hin := (IsInts.of_owns hrow).1
           refine wp_app_blk elI64 _ _ rfl rfl hown rfl (ints_src hin) (ivs_one _ _) (by omega) hBl.bel.size ?_
           intro a' c' w' ho hg hbw hblk
           try simp only [Nat.zero_add, List.nil_append] at ho hblk ⊢
           refine hK.out _ _ rfl ⟨a', c', rfl⟩ ?_
           have q := hBl.app ho hg hbw hblk
           try simp only [l17, l18, l19, l20, Bool.false_eq_true, ↓reduceIte, Nat.reduceEqDiff]
           exact ⟨hbW.trans (hbw.mono (by have := HPB.out; have := HZ11.out; omega)), Nat.le_trans hzW hbw.size, fun _ => q, fun h => (by cases h), fun h => (by cases h), fun h => (by cases h)⟩
          ·
           unfold stStep
           rw [if_pos (by simp [Region.wanted])]
           intro K Q hK
           simp only [puts, foldr_nil]
           go_step
           refine st_ex hK rfl rfl (by simp only [Act.put, setIfInBounds_toArray, set_cons_succ, set_cons_zero, Array.getD_eq_getD_getElem?, List.getElem?_toArray, List.getElem?_cons_succ, List.getElem?_cons_zero, Option.getD_some] <;> rfl) rfl (by rw [hSd] at hS ⊢; exact hS)
          ·
           unfold stStep
           rw [if_pos (by simp [Region.wanted])]
           intro K Q hK
           simp only [puts, foldr_nil]
           go_step
           refine st_ex hK rfl rfl (by simp only [Act.put, setIfInBounds_toArray, set_cons_succ, set_cons_zero, Array.getD_eq_getD_getElem?, List.getElem?_toArray, List.getElem?_cons_succ, List.getElem?_cons_zero, Option.getD_some] <;> rfl) rfl (by rw [hSd] at hS ⊢; exact hS)
          ·
           obtain ⟨h11, h12, -⟩ := hh
           have g11 : f 11 = _ := h11
           have g12 : f 12 = _ := h12
           unfold stStep
           rw [if_pos (by simp [Region.wanted])]
           intro K Q hK
           simp only [puts, Za, Zb, Zc, Zd, Ze, g11, g12]
           go_step
           refine st_ex hK rfl rfl (by simp only [Act.put, setIfInBounds_toArray, set_cons_succ, set_cons_zero, Array.getD_eq_getD_getElem?, List.getElem?_toArray, List.getElem?_cons_succ, List.getElem?_cons_zero, Option.getD_some] <;> rfl) rfl (by rw [hSd] at hS ⊢; exact hS)
          ·
           obtain ⟨h13, -⟩ := hh
           have g13 : f 13 = _ := h13
           unfold stStep
           rw [if_pos (by simp [Region.wanted])]
           intro K Q hK
           simp only [puts, Za, Zb, Zc, Zd, Ze, g13]
           go_step
           refine st_ex hK rfl rfl (by simp only [Act.put, setIfInBounds_toArray, set_cons_succ, set_cons_zero, Array.getD_eq_getD_getElem?, List.getElem?_toArray, List.getElem?_cons_succ, List.getElem?_cons_zero, Option.getD_some] <;> rfl) rfl (by rw [hSd] at hS ⊢; exact hS)
          ·
           obtain ⟨h14, -⟩ := hh
           have g14 : f 14 = _ := h14
           have l16 : L 16 = false := Bool.eq_false_iff.2 fun h => by have q := hdn 16 _ h rfl 15 (by decide); rw [show L 15 = false from hi] at q; cases q
           have l17 : L 17 = false := Bool.eq_false_iff.2 fun h => by have q := hdn 17 _ h rfl 16 (by decide); rw [show L 16 = false from l16] at q; cases q
           have l18 : L 18 = false := Bool.eq_false_iff.2 fun h => by have q := hdn 18 _ h rfl 17 (by decide); rw [show L 17 = false from l17] at q; cases q
           have l19 : L 19 = false := Bool.eq_false_iff.2 fun h => by have q := hdn 19 _ h rfl 18 (by decide); rw [show L 18 = false from l18] at q; cases q
           have l20 : L 20 = false := Bool.eq_false_iff.2 fun h => by have q := hdn 20 _ h rfl 19 (by decide); rw [show L 19 = false from l19] at q; cases q
           unfold stStep
           rw [if_pos (by simp [Region.wanted])]
           intro K Q hK
           simp only [puts, Za, Zb, Zc, Zd, Ze, g14]
           have hS' := hS
           rw [hSd] at hS'
           have hB' := (hS'.2.2.1 l20).bel
           have mx := (hB'.cell (p := ⟨xb, j * 3 + 1, none⟩) (lt_of_cell y2n)).trans y2n
           go_step
           refine st_ex hK rfl rfl (by simp only [Act.put, setIfInBounds_toArray, set_cons_succ, set_cons_zero, Array.getD_eq_getD_getElem?, List.getElem?_toArray, List.getElem?_cons_succ, List.getElem?_cons_zero, Option.getD_some] <;> rfl) rfl (by rw [hSd] at hS ⊢; exact hS)
          ·
           obtain ⟨h15, -⟩ := hh
           have g15 : f 15 = _ := h15
           have l17 : L 17 = false := Bool.eq_false_iff.2 fun h => by have q := hdn 17 _ h rfl 16 (by decide); rw [show L 16 = false from hi] at q; cases q
           have l18 : L 18 = false := Bool.eq_false_iff.2 fun h => by have q := hdn 18 _ h rfl 17 (by decide); rw [show L 17 = false from l17] at q; cases q
           have l19 : L 19 = false := Bool.eq_false_iff.2 fun h => by have q := hdn 19 _ h rfl 18 (by decide); rw [show L 18 = false from l18] at q; cases q
           have l20 : L 20 = false := Bool.eq_false_iff.2 fun h => by have q := hdn 20 _ h rfl 19 (by decide); rw [show L 19 = false from l19] at q; cases q
           unfold stStep
           rw [if_pos (by simp [Region.wanted])]
           intro K Q hK
           simp only [puts, Za, Zb, Zc, Zd, Ze, g15]
           rw [hSd] at hS hK
           have l16 : L 16 = false := hi
           try simp only [stage, l17, l18, l19, l20, l16, if_true, if_false, Bool.false_eq_true] at hS
           obtain ⟨hbW, hzW, hBl, h18, h19, h20⟩ := hS
           have hBl := hBl trivial
           try simp only [l16, l17, if_false, Bool.false_eq_true] at hBl
           go_step
           refine hK.out _ _ rfl ⟨_, rfl⟩ ?_
           have q := hBl.elem 3
           try simp only [l17, l18, l19, l20, Bool.false_eq_true, ↓reduceIte, Nat.reduceEqDiff]
           exact ⟨hbW.alloc (by have := HPB.out; omega) _, by simp; omega, fun _ => q, fun h => (by cases h), fun h => (by cases h), fun h => (by cases h)⟩
          ·
           obtain ⟨h10, h16, _, -⟩ := hh
           obtain ⟨a10, c10, (g10 : f 10 = _)⟩ := h10
           obtain ⟨b16, (g16 : f 16 = _)⟩ := h16
           have l10 : L 10 = true := hd 10 (by decide)
           have l16 : L 16 = true := hd 16 (by decide)
           have l18 : L 18 = false := Bool.eq_false_iff.2 fun h => by have q := hdn 18 _ h rfl 17 (by decide); rw [show L 17 = false from hi] at q; cases q
           have l19 : L 19 = false := Bool.eq_false_iff.2 fun h => by have q := hdn 19 _ h rfl 18 (by decide); rw [show L 18 = false from l18] at q; cases q
           have l20 : L 20 = false := Bool.eq_false_iff.2 fun h => by have q := hdn 20 _ h rfl 19 (by decide); rw [show L 19 = false from l19] at q; cases q
           unfold stStep
           rw [if_pos (by simp [Region.wanted])]
           intro K Q hK
           simp only [puts, Za, Zb, Zc, Zd, Ze, g10, g16]
           rw [hSd] at hS hK
           have l17 : L 17 = false := hi
           try simp only [stage, l18, l19, l20, l17, l10, l16, if_true, if_false, Bool.false_eq_true] at hS
           obtain ⟨hbW, hzW, hBl, h18, h19, h20⟩ := hS
           have hBl := hBl trivial
           have l10' : L 10 = true := hd 10 (by decide)
           have l16' : L 16 = true := hd 16 (by decide)
           try simp only [l10', l16', l17, if_false, if_true, Bool.false_eq_true, g10, g16] at hBl
           have hown := hBl.own.resolve_left (by intro h; cases h)
           have hpr := (hBl.pair _ rfl).1
           refine wp_app_blk elI64 _ _ rfl rfl hown rfl (m := 1) (news := [.int .i64 (l : Int)]) ⟨rfl, fun ad e i u hi => by injection e with e; subst e; rw [addr_add, Nat.zero_add, (hpr.cell i).1, ← hi]; simp, fun e => by cases e⟩ (by intro u hu; rw [List.mem_singleton.1 hu]; rfl) (by omega) hBl.bel.size ?_
           intro a' c' w' ho hg hbw hblk
           refine hK.out _ _ rfl ⟨a', c', rfl⟩ ?_
           have q := hBl.app ho hg hbw hblk
           have e9 : ivs .i64 xw ++ [.int .i64 (l : Int)] = ivs .i64 (xw ++ [(l : Int)]) := by simp [ivs]
           rw [e9] at q
           try simp only [l18, l19, l20, Bool.false_eq_true, ↓reduceIte, Nat.reduceEqDiff]
           exact ⟨hbW.trans (hbw.mono (by have := HPB.out; have := HZ11.out; omega)), Nat.le_trans hzW hbw.size, fun _ => ⟨q.bel, q.own, fun b h => (by cases h), fun d h => (by cases h)⟩, fun h => (by cases h), fun h => (by cases h), fun h => (by cases h)⟩
          ·
           obtain ⟨h5, h6, h17, -⟩ := hh
           have g5 : f 5 = _ := h5
           have g6 : f 6 = _ := h6
           obtain ⟨a17, c17, (g17 : f 17 = _)⟩ := h17
           have l17 : L 17 = true := hd 17 (by decide)
           have l19 : L 19 = false := Bool.eq_false_iff.2 fun h => by have q := hdn 19 _ h rfl 18 (by decide); rw [show L 18 = false from hi] at q; cases q
           have l20 : L 20 = false := Bool.eq_false_iff.2 fun h => by have q := hdn 20 _ h rfl 19 (by decide); rw [show L 19 = false from l19] at q; cases q
           unfold stStep
           rw [if_pos (by simp [Region.wanted])]
           intro K Q hK
           simp only [puts, Za, Zb, Zc, Zd, Ze, g5, g6, g17]
           rw [hSd] at hS hK
           have l18 : L 18 = false := hi
           try simp only [stage, l19, l20, l18, l17, if_true, if_false, Bool.false_eq_true] at hS
           obtain ⟨hbW, hzW, hBl, h18, h19, h20⟩ := hS
           have hBl := hBl trivial
           have l17' : L 17 = true := hd 17 (by decide)
           try simp only [l17', if_true] at hBl
           go_step
           refine hK.out _ _ rfl ⟨_, _, rfl⟩ ?_
           try simp only [l17', l19, l20, Bool.false_eq_true, ↓reduceIte, Nat.reduceEqDiff]
           exact ⟨hbW, hzW, fun _ => hBl, fun _ => (by rw [g17]; rfl), fun h => (by cases h), fun h => (by cases h)⟩
          ·
           obtain ⟨h18, -⟩ := hh
           obtain ⟨a18, c18, (g18 : f 18 = _)⟩ := h18
           have l18 : L 18 = true := hd 18 (by decide)
           have l20 : L 20 = false := Bool.eq_false_iff.2 fun h => by have q := hdn 20 _ h rfl 19 (by decide); rw [show L 19 = false from hi] at q; cases q
           unfold stStep
           rw [if_pos (by simp [Region.wanted])]
           intro K Q hK
           simp only [puts, Za, Zb, Zc, Zd, Ze, g18]
           rw [hSd] at hS hK
           have l19 : L 19 = false := hi
           try simp only [stage, l20, l19, l18, if_true, if_false, Bool.false_eq_true] at hS
           obtain ⟨hbW, hzW, hBl, h18, h19, h20⟩ := hS
           have hBl := hBl trivial
           have l17' : L 17 = true := hdn 18 _ (hd 18 (by decide)) rfl 17 (by decide)
           have l18' : L 18 = true := hd 18 (by decide)
           try simp only [l17', if_true] at hBl
           have e18 := h18 (by first | exact l18' | trivial)
           rw [g18] at e18
           have hal : ∀ cs T, Below W.heap.size W (W.alloc (.cells cs T)) := fun cs T => (Below.refl _ _).alloc (Nat.le_refl _) _
           go_step
           refine hK.out _ _ rfl ⟨_, rfl⟩ ?_
           try simp only [l17', l18', l20, Bool.false_eq_true, ↓reduceIte, Nat.reduceEqDiff]
           have f17 : f 17 = .slice a18 (xw.length + 1) c18 := by simpa using e18.symm
           rw [f17] at hBl ⊢
           exact ⟨hbW.alloc (by have := HPB.out; omega) _, by simp; omega, fun _ => ⟨hBl.bel.alloc hBl.bel.size _, hBl.own.imp id (fun e => e.kept_below (hal _ _)), fun b h => (by cases h), fun d h => (by cases h)⟩, fun _ => g18, fun _ _ => ⟨_, rfl, BlkAt.new W _ _⟩, fun h => (by cases h)⟩
          ·
           obtain ⟨h0, h19, h17, -⟩ := hh
           have g0 : f 0 = _ := h0
           obtain ⟨b19, (g19 : f 19 = _)⟩ := h19
           obtain ⟨a17, c17, (g17 : f 17 = _)⟩ := h17
           have l19 : L 19 = true := hd 19 (by decide)
           have l21 : L 21 = false := Bool.eq_false_iff.2 fun h => by have q := hdn 21 _ h rfl 20 (by decide); rw [show L 20 = false from hi] at q; cases q
           unfold stStep
           rw [if_pos (by simp [Region.wanted])]
           intro K Q hK
           simp only [puts, Za, Zb, Zc, Zd, Ze, g0, g19, g17]
           rw [hSd] at hS hK
           have l20 : L 20 = false := hi
           try simp only [stage, l21, l20, l19, if_true, if_false, Bool.false_eq_true] at hS
           obtain ⟨hbW, hzW, hBl, h18, h19, h20⟩ := hS
           have l17' : L 17 = true := hdn 18 _ (hdn 19 _ (hd 19 (by decide)) rfl 18 (by decide)) rfl 17 (by decide)
           have l18' : L 18 = true := hdn 19 _ (hd 19 (by decide)) rfl 18 (by decide)
           have l19' : L 19 = true := hd 19 (by decide)
           have hBl := hBl (by first | exact l20 | trivial)
           try simp only [l17', if_true] at hBl
           obtain ⟨q, e19, hq⟩ := h19 (by first | exact l19' | trivial) (by first | exact l20 | trivial)
           rw [g19] at e19
           obtain rfl : b19 = q := by simpa using e19
           rw [g17] at hq hBl
           have hown := hBl.own.resolve_left (by intro h; cases h)
           have hPW := HP11.out.add (.row 3 1 (.slice a17 (xw.length + 1) c17) (xw.length + 1) (ivs .i64 (xw ++ [(l : Int)]))) (below_grows hBl.bel none) (hown.from_mono (by have := HPB.out; have := HZ11.out; omega)) (fun q e => (hown.lt q e).1)
           refine wp_app_pcs elRP _ _ rfl 0 rfl hPW rfl (news := [.int .i64 (T : Int), .int .i64 G, .slice a17 (xw.length + 1) c17]) rfl ⟨rfl, fun ad e i u hi => by injection e with e; subst e; rw [addr_add, Nat.zero_add, (hq.cell i).1, ← hi]; simp, fun e => by cases e⟩ (by intro u hu; simp only [List.mem_cons, List.not_mem_nil, or_false] at hu; rcases hu with rfl | rfl | rfl <;> rfl) (by have := HMM.out; omega) (by have := HPB.out; omega) ?_
           intro a' c' w' hp' hbw
           refine hK.out _ _ rfl ⟨a', c', rfl⟩ ?_
           try simp only [l17', l18', l19', Bool.false_eq_true, ↓reduceIte, Nat.reduceEqDiff]
           refine ⟨hbW.trans (hbw.mono (by have := HPB.out; have := HZ11.out; omega)), Nat.le_trans hzW hbw.size, fun h => (by cases h), fun _ => ?_, fun _ h => (by cases h), fun _ => ⟨fun h => (by simp [l21] at h), a17, c17, g17, ?_⟩⟩
           ·exact h18 (by first | exact l18' | trivial)
           ·refine riPs_push (x := ⟨⟨(T : Int), G⟩, a17, c17, xw ++ [(l : Int)]⟩) ?_
            have e8 : (xw ++ [(l : Int)]).length = xw.length + 1 := by rw [List.length_append]; rfl
            simp only [WP.v, e8]
            exact hp'
          ·
           obtain ⟨h20, _, h0, h1, h2, h3, h4, h5, h6, h7, h8, h9, h10, h11, h12, h13, h14, h15, h16, h17, h18, h19, _, -⟩ := hh
           obtain ⟨a20, c20, (g20 : f 20 = _)⟩ := h20
           have g0 : f 0 = _ := h0
           have g1 : f 1 = _ := h1
           have g2 : f 2 = _ := h2
           have g3 : f 3 = _ := h3
           have g4 : f 4 = _ := h4
           have g5 : f 5 = _ := h5
           have g6 : f 6 = _ := h6
           obtain ⟨b7, (g7 : f 7 = _)⟩ := h7
           have g8 : f 8 = _ := h8
           have g9 : f 9 = _ := h9
           obtain ⟨a10, c10, (g10 : f 10 = _)⟩ := h10
           have g11 : f 11 = _ := h11
           have g12 : f 12 = _ := h12
           have g13 : f 13 = _ := h13
           have g14 : f 14 = _ := h14
           have g15 : f 15 = _ := h15
           obtain ⟨b16, (g16 : f 16 = _)⟩ := h16
           obtain ⟨a17, c17, (g17 : f 17 = _)⟩ := h17
           obtain ⟨a18, c18, (g18 : f 18 = _)⟩ := h18
           obtain ⟨b19, (g19 : f 19 = _)⟩ := h19
           have l20 : L 20 = true := hd 20 (by decide)
           unfold stStep
           rw [if_pos (by simp [Region.wanted])]
           intro K Q hK
           simp only [puts, Za, Zb, Zc, Zd, Ze, g20, g0, g1, g2, g3, g4, g5, g6, g7, g8, g9, g10, g11, g12, g13, g14, g15, g16, g17, g18, g19]
           rw [hSd] at hS hK
           have l21 : L 21 = false := hi
           try simp only [stage, l21, l20, if_true, if_false, Bool.false_eq_true] at hS
           obtain ⟨hbW, hzW, -, h18, -, h20⟩ := hS
           have l20' : L 20 = true := hd 20 (by decide)
           have h20' := h20 (by first | exact l20' | trivial)
           obtain ⟨-, h20'⟩ := h20'
           go_step
           refine hK.out _ _ rfl ⟨_, _, rfl⟩ ?_
           try simp only [l20', Bool.false_eq_true, ↓reduceIte, Nat.reduceEqDiff]
           exact ⟨hbW, hzW, fun h => (by simp at h), h18, fun _ h => (by simp at h), fun _ => ⟨fun _ => (by rw [g20]; rfl), h20'⟩⟩
         case zrest =>
          intro L f WZ hL hh hS
          rw [hSd] at hS
          clear hSd
          have l7 : L 7 = true := hL 7 (by decide)
          have l10 : L 10 = true := hL 10 (by decide)
          have l16 : L 16 = true := hL 16 (by decide)
          have l17 : L 17 = true := hL 17 (by decide)
          have l18 : L 18 = true := hL 18 (by decide)
          have l19 : L 19 = true := hL 19 (by decide)
          have l20 : L 20 = true := hL 20 (by decide)
          have l21 : L 21 = true := hL 21 (by decide)
          simp only [stage, l7, l10, l16, l17, l18, l19, l20, l21, if_true] at hS
          clear hL l7 l10 l16 l17 l18 l19 l20 l21
          obtain ⟨h0, h1, h2, h3, h4, h5, h6, h7, h8, h9, h10, h11, h12, h13, h14, h15, h16, h17, h18, h19, h20, h21, -⟩ := hh
          have g0 : f 0 = _ := h0
          have g1 : f 1 = _ := h1
          have g2 : f 2 = _ := h2
          have g3 : f 3 = _ := h3
          have g4 : f 4 = _ := h4
          have g5 : f 5 = _ := h5
          have g6 : f 6 = _ := h6
          obtain ⟨b7, (g7 : f 7 = _)⟩ := h7
          have g8 : f 8 = _ := h8
          have g9 : f 9 = _ := h9
          obtain ⟨a10, c10, (g10 : f 10 = _)⟩ := h10
          have g11 : f 11 = _ := h11
          have g12 : f 12 = _ := h12
          have g13 : f 13 = _ := h13
          have g14 : f 14 = _ := h14
          have g15 : f 15 = _ := h15
          obtain ⟨b16, (g16 : f 16 = _)⟩ := h16
          obtain ⟨a17, c17, (g17 : f 17 = _)⟩ := h17
          obtain ⟨a18, c18, (g18 : f 18 = _)⟩ := h18
          obtain ⟨b19, (g19 : f 19 = _)⟩ := h19
          obtain ⟨a20, c20, (g20 : f 20 = _)⟩ := h20
          obtain ⟨a21, c21, (g21 : f 21 = _)⟩ := h21
          simp only [puts, Za, Zb, Zc, Zd, Ze, g0, g1, g2, g3, g4, g5, g6, g7, g8, g9, g10, g11, g12, g13, g14, g15, g16, g17, g18, g19, g20, g21]
          clear h0 h1 h2 h3 h4 h5 h6 h8 h9 h11 h12 h13 h14 h15 g0 g1 g2 g3 g4 g5 g6 g8 g9 g11 g12 g13 g14 g15
          obtain ⟨hbZ, hzZ, -, -, -, h20⟩ := hS
          have h20' := h20 (by trivial)
          obtain ⟨h21, aa, cc, g17', hPn⟩ := h20'
          have e21 := h21 (by trivial)
          rw [← e21, g21] at hPn
          have hnl : (vs' ++ [(⟨⟨(T : Int), G⟩, aa, cc, xw ++ [(l : Int)]⟩ : WP)]).length = vs'.length + 1 := by rw [List.length_append]; rfl
          have HW2 : Hid (WaysR (vs' ++ [⟨⟨(T : Int), G⟩, aa, cc, xw ++ [(l : Int)]⟩]) (IN (j + 1))) := Lib.hid (by
           rw [HJ.out]
           have h1 := HW.out.new (h := k) (x := ((l : Int), ⟨(T : Int), G⟩)) HMI.out (a := aa) (c := cc)
           have h2 := HW.out.word HK.out.1
           rw [HK.out.2] at h2
           simp only at h2
           rw [← h2] at h1
           exact h1)
          have HK2 : Hid (k < (vs' ++ [(⟨⟨(T : Int), G⟩, aa, cc, xw ++ [(l : Int)]⟩ : WP)]).length ∧ gwp (vs' ++ [⟨⟨(T : Int), G⟩, aa, cc, xw ++ [(l : Int)]⟩]) k = ⟨⟨(A : Int), Y⟩, xa, xc, xw⟩) := Lib.hid (by
           have h1 := HK.out.1
           have h2 : k < (vs' ++ [(⟨⟨(T : Int), G⟩, aa, cc, xw ++ [(l : Int)]⟩ : WP)]).length := by rw [hnl]; omega
           refine ⟨h2, ?_⟩
           rw [gwp_eq _ _ h2, List.getElem_append_left h1, ← gwp_eq _ _ h1, HK.out.2])
          have HPN := Lib.hid hPn
          have HNL := Lib.hid hnl
          clear hPn h20 h21 e21 hnl g17' HP11 HB11 HZ11 y3n y2n z2 HMI
          go_wp2_with (fail)
          go_roundw
          case rel => exact ⟨j + 1, vs' ++ [⟨⟨(T : Int), G⟩, aa, cc, xw ++ [(l : Int)]⟩], a21, c21, HJL.out, by go_num, by rw [HNL.out], by rw [HNL.out]; exact HPN.out, HW2, HK2, hbZ, hzZ⟩
          case measure => simp [intOf]; omega
      ·obtain rfl : j = OL := by omega
       have t2 : decide (j < j) = false := decide_eq_false (by omega)
       have HWE : Hid (WaysR vs' (BQ (k + 1))) := Lib.hid (by rw [← HIE.out]; exact HW.out)
       have HGN1 : Hid (∀ i, i < k + 1 → badI a b (gp2 (BQ (k + 1)).q i) = false) := Lib.hid (fun i hi => by
        have h1 := HGk.out i hi
        obtain ⟨t, ht⟩ := HIP.out j
        rw [HIE.out] at ht
        rw [← ht, show gp2 ((BQ k).q ++ t) i = gp2 (BQ k).q i by
         have h2 := HVL.out
         have h3 := HLT.out
         unfold gp2
         rw [List.getD_eq_getElem?_getD, List.getD_eq_getElem?_getD, List.getElem?_append_left (by omega)]]
        exact h1)
       have hkv : k + 1 ≤ vs'.length := HK.out.1
       have HKV := Lib.hid hkv
       have HP := Lib.hid (riPs_out hP)
       have HB := Lib.hid hb
       have hk1 : k < M := by omega
       have hk2 : k < 1001000 := by have := HMM.out; omega
       clear hkv hP hb hdr her hbw hvl hjge hj
       go_wp2_with (fail)
       go_roundw
       case rel => exact ⟨k + 1, vs', aq, cq, HKV.out, by go_num, rfl, HP.out, HWE, HGN1, HB.out, by have := HPB.out; omega⟩
       case measure => simp [intOf]; omega
    ·have HIW : Hid (incW a b = some xw) := Lib.hid (by rw [← HWQ.out]; exact HSO.out k (by rw [← HVL.out]; exact HLT.out) HG.out (by rw [HPQ.out]; exact HBD.out))
     have HGK : Hid (RW = xw) := Lib.hid (by rw [← HRW.out, HIW.out]; rfl)
     have HGN : Hid (RN = false) := Lib.hid (by rw [← HRN.out, HIW.out]; rfl)
     have hrw := riPs_word HP8.out HLT.out
     rw [HX.out] at hrw
     have hii := (IsInts.of_owns hrw).1
     have hbw := (HO.out wc HB8.out).2.2.2.2
     have HII := Lib.hid (And.intro hii hbw)
     clear hrw hii hbw
     go_wp2_with (fail)
     go_ret3
     rw [HGK.out, HGN.out]
     exact ⟨⟨xa, xc, rfl, HII.out.1⟩, HII.out.2⟩
  ·have HR1 : Hid (RW = [] ∧ RN = true) := Lib.hid (by
    have := HNO.out k (by omega) HG.out
    exact ⟨by rw [← HRW.out, this]; rfl, by rw [← HRN.out, this]; rfl⟩)
   have t1 : decide (k < vs.length) = false := decide_eq_false (by omega)
   obtain ⟨-, -, -, -, hbw⟩ := HO.out wr hb
   clear hge hk hvl
   go_wp2_with (fail)
   go_ret3
   rw [HR1.out.1, HR1.out.2]
   exact ⟨⟨none, 0, rfl, .inl ⟨rfl, rfl, rfl, rfl⟩⟩, hbw⟩
theorem refIncluded_any {a b : Dfa} {h k : DH} {w : World} (hd : IsDfa w h a) (he : IsDfa w k b) : Calls Try.prog 35 #[vDf a h, vDf b k] w (GivesW (incR a b) (incOk a b) (incE a b) w) := by
 unfold incR incOk incE
 by_cases ha : ValidD a
 ·by_cases hb : ValidD b
  ·rw [vD_yes ha, vD_yes hb]
   exact refIncluded_yes ha hb hd he
  ·rw [vD_yes ha, vD_no hb]
   exact refIncluded_nb ha hb hd he
 ·rw [vD_no ha]
  exact refIncluded_na ha hd he
end Go.Proofs.Ytpcbmhfnefhenaa

set_option linter.unusedSimpArgs false
set_option linter.unusedVariables false
namespace Go.Proofs.Ytpcbmhfnefhenaa
open List (foldr_cons foldr_nil setIfInBounds_toArray set_cons_succ set_cons_zero)
open Go.RowKit
attribute [local go_sem] Oper.semAt_some

def IncPe (r : List Int) (ok : Bool) (x : Int) : Value → World → Prop := fun v W => ∃ aw cw, v = .tuple #[.slice aw r.length cw, .bool ok, .int .i64 x] ∧ IsInts .i64 W aw r.length cw r
theorem stays_incpe (r : List Int) (ok : Bool) (x : Int) : Stays (IncPe r ok x) := fun _ _ _ hb ⟨a, c, e, hd⟩ => ⟨a, c, e, hd.later hb⟩
def LsPe (r : List Int) : Value → World → Prop := fun v W => ∃ aw cw, v = .slice aw r.length cw ∧ IsInts .i64 W aw r.length cw r
theorem stays_lspe (r : List Int) : Stays (LsPe r) := fun _ _ _ hb ⟨a, c, e, hd⟩ => ⟨a, c, e, hd.later hb⟩
theorem vD_and {a b : Dfa} (h : (vD a && vD b) = true) : ValidD a ∧ ValidD b := by
 rw [Bool.and_eq_true] at h
 refine ⟨?_, ?_⟩
 ·by_cases hv : ValidD a
  ·exact hv
  ·rw [vD_no hv] at h; exact absurd h.1 (by decide)
 ·by_cases hv : ValidD b
  ·exact hv
  ·rw [vD_no hv] at h; exact absurd h.2 (by decide)
theorem inc_few {a b : Dfa} (fa : FewD a) (fb : FewD b) : (incR a b).length ≤ 156 := by
 unfold incR
 by_cases hv : (vD a && vD b) = true
 ·rw [if_pos hv]
  obtain ⟨va, vb⟩ := vD_and hv
  cases hin : incW a b with
  | none => exact Nat.zero_le _
  | some R => exact Nat.le_trans (incW_len va vb hin) (nI_few fa.1 fb.1)
 ·rw [if_neg hv]; exact Nat.zero_le _
theorem prod_few {a b : Dfa} (fa : FewD a) (fb : FewD b) : (prodR a b).arcs.length ≤ 1000000 := by
 unfold prodR
 by_cases hv : (vD a && vD b) = true
 ·rw [if_pos hv]
  obtain ⟨va, vb⟩ := vD_and hv
  have := (prodD_valid va vb (few_prod fa fb).1 (few_prod fa fb).2).2.2.2.1
  omega
 ·rw [if_neg hv]; exact Nat.zero_le _
theorem prod_ok {a b : Dfa} (fa : FewD a) (fb : FewD b) (h : prodE a b = 0) : ValidD (prodR a b) := by
 unfold prodE at h
 unfold prodR
 by_cases hv : (vD a && vD b) = true
 ·rw [if_pos hv]
  obtain ⟨va, vb⟩ := vD_and hv
  exact prodD_valid va vb (few_prod fa fb).1 (few_prod fa fb).2
 ·rw [if_neg hv] at h; exact absurd h (by decide)
set_option maxRecDepth 20000 in
set_option maxHeartbeats 4000000 in
theorem dfaPairs_walk (a : Dfa) (h : DH) (b : Dfa) (k : DH) (w : World) (ia : IsDfa w h a) (ib : IsDfa w k b) :
  Calls Try.prog 10 #[vDf a h, vDf b k] w fun e w' => e = .returned (.bool true) ∧ Below w.heap.size w w' := by
 obtain ⟨W0, hW0, hs0, hb0, hO0⟩ := boxRW a h w ia
 replace ib := ib.later hb0
 replace ia := (hO0 W0 (Below.refl _ _)).2.1
 obtain ⟨c01, c02, c03, c04⟩ := (hO0 W0 (Below.refl _ _)).1
 obtain ⟨W1, hW1, hs1, hb1, hO1⟩ := boxRW b k W0 ib
 replace ia := ia.later hb1
 replace ib := (hO1 W1 (Below.refl _ _)).2.1
 replace c01 := cell_later hb1 c01
 replace c02 := cell_later hb1 c02
 replace c03 := cell_later hb1 c03
 replace c04 := cell_later hb1 c04
 obtain ⟨c11, c12, c13, c14⟩ := (hO1 W1 (Below.refl _ _)).1
 have HB : Below w.heap.size w W1 := (hb0.trans (hb1.mono (hb0).size))
 rw [hs0] at c11 c12 c13 c14
 clear hO0 hb0 hO1 hb1
 unfold vDf
 by_cases fa : FewD a
 rotate_left
 ·have hx := fa
  go_enter Try.func10, Try.ntmps10
  go_wp2_with (fail)
  refine (awake_any _).mono ?_
  rintro e w1 ⟨rfl, hb⟩
  replace c01 := cell_later hb c01
  replace c02 := cell_later hb c02
  replace c03 := cell_later hb c03
  replace c04 := cell_later hb c04
  replace c11 := cell_later hb c11
  replace c12 := cell_later hb c12
  replace c13 := cell_later hb c13
  replace c14 := cell_later hb c14
  replace ia := ia.later hb
  replace ib := ib.later hb
  replace HB := HB.trans (hb.mono HB.size)
  clear hb
  go_wp2_with (fail)
  refine (few_no ia fa).mono ?_
  rintro e w2 ⟨rfl, hb⟩
  replace c01 := cell_later hb c01
  replace c02 := cell_later hb c02
  replace c03 := cell_later hb c03
  replace c04 := cell_later hb c04
  replace c11 := cell_later hb c11
  replace c12 := cell_later hb c12
  replace c13 := cell_later hb c13
  replace c14 := cell_later hb c14
  replace ia := ia.later hb
  replace ib := ib.later hb
  replace HB := HB.trans (hb.mono HB.size)
  clear hb
  go_wp2_with (fail)
  go_ret
  exact ⟨rfl, HB⟩
 by_cases fb : FewD b
 rotate_left
 ·have hx := fb
  go_enter Try.func10, Try.ntmps10
  go_wp2_with (fail)
  refine (awake_any _).mono ?_
  rintro e w3 ⟨rfl, hb⟩
  replace c01 := cell_later hb c01
  replace c02 := cell_later hb c02
  replace c03 := cell_later hb c03
  replace c04 := cell_later hb c04
  replace c11 := cell_later hb c11
  replace c12 := cell_later hb c12
  replace c13 := cell_later hb c13
  replace c14 := cell_later hb c14
  replace ia := ia.later hb
  replace ib := ib.later hb
  replace HB := HB.trans (hb.mono HB.size)
  clear hb
  go_wp2_with (fail)
  refine (few_yes ia fa).mono ?_
  rintro e w4 ⟨rfl, hb⟩
  replace c01 := cell_later hb c01
  replace c02 := cell_later hb c02
  replace c03 := cell_later hb c03
  replace c04 := cell_later hb c04
  replace c11 := cell_later hb c11
  replace c12 := cell_later hb c12
  replace c13 := cell_later hb c13
  replace c14 := cell_later hb c14
  replace ia := ia.later hb
  replace ib := ib.later hb
  replace HB := HB.trans (hb.mono HB.size)
  clear hb
  go_wp2_with (fail)
  refine (few_no ib fb).mono ?_
  rintro e w5 ⟨rfl, hb⟩
  replace c01 := cell_later hb c01
  replace c02 := cell_later hb c02
  replace c03 := cell_later hb c03
  replace c04 := cell_later hb c04
  replace c11 := cell_later hb c11
  replace c12 := cell_later hb c12
  replace c13 := cell_later hb c13
  replace c14 := cell_later hb c14
  replace ia := ia.later hb
  replace ib := ib.later hb
  replace HB := HB.trans (hb.mono HB.size)
  clear hb
  go_wp2_with (fail)
  go_ret
  exact ⟨rfl, HB⟩
 have fa3 : a.arcs.length ≤ 1000 := by have := fa.2.2; omega
 have fb3 : b.arcs.length ≤ 1000 := by have := fb.2.2; omega
 have hI := fun W h' k' (hd : IsDfa W h' a) (he : IsDfa W k' b) => included_any (w := W) (h := h') (k := k') hd he
 have hJ := fun W h' k' (hd : IsDfa W h' a) (he : IsDfa W k' b) => refIncluded_any (w := W) (h := h') (k := k') hd he
 have hP := fun W h' k' (hd : IsDfa W h' a) (he : IsDfa W k' b) => product_any (w := W) (h := h') (k := k') (fun _ _ => few_prod fa fb) hd he
 have hQ := fun W h' k' (hd : IsDfa W h' a) (he : IsDfa W k' b) => refProduct_any (w := W) (h := h') (k := k') (fun _ _ => few_prod fa fb) hd he
 have hrl := inc_few fa fb
 have hpl := prod_few fa fb
 have hvp := prod_ok fa fb
 obtain ⟨r, hr⟩ : ∃ r, incR a b = r := ⟨_, rfl⟩
 obtain ⟨ok, hok⟩ : ∃ ok, incOk a b = ok := ⟨_, rfl⟩
 obtain ⟨P, hPP⟩ : ∃ P, prodR a b = P := ⟨_, rfl⟩
 rw [hr, hok] at hI hJ
 rw [hPP] at hP hQ hpl hvp
 rw [hr] at hrl
 clear hr hPP
 have E1 : Hid (eqD P P = true) := Lib.hid (eqD_iff.2 rfl)
 have HRL := Lib.hid hrl
 clear hrl
 unfold incE at hI hJ
 unfold prodE at hP hQ hvp
 obtain ⟨x, hx⟩ : ∃ x : Int, (if (vD a && vD b) = true then (0 : Int) else 1) = x := ⟨_, rfl⟩
 rw [hx] at hI hJ hP hQ hvp
 have HX : Hid (x = 0 ∨ x = 1) := Lib.hid (by rw [← hx]; split; exact .inl rfl; exact .inr rfl)
 have HVP := Lib.hid hvp
 have HI := Lib.hid hI
 have HJ := Lib.hid hJ
 have HP := Lib.hid hP
 have HQ := Lib.hid hQ
 clear hI hJ hP hQ hvp hx hok
 go_enter Try.func10, Try.ntmps10
 go_wp2_with (fail)
 refine (awake_any _).mono ?_
 rintro e w6 ⟨rfl, hb⟩
 replace c01 := cell_later hb c01
 replace c02 := cell_later hb c02
 replace c03 := cell_later hb c03
 replace c04 := cell_later hb c04
 replace c11 := cell_later hb c11
 replace c12 := cell_later hb c12
 replace c13 := cell_later hb c13
 replace c14 := cell_later hb c14
 replace ia := ia.later hb
 replace ib := ib.later hb
 replace HB := HB.trans (hb.mono HB.size)
 clear hb
 go_wp2_with (fail)
 refine (few_yes ia fa).mono ?_
 rintro e w7 ⟨rfl, hb⟩
 replace c01 := cell_later hb c01
 replace c02 := cell_later hb c02
 replace c03 := cell_later hb c03
 replace c04 := cell_later hb c04
 replace c11 := cell_later hb c11
 replace c12 := cell_later hb c12
 replace c13 := cell_later hb c13
 replace c14 := cell_later hb c14
 replace ia := ia.later hb
 replace ib := ib.later hb
 replace HB := HB.trans (hb.mono HB.size)
 clear hb
 go_wp2_with (fail)
 refine (few_yes ib fb).mono ?_
 rintro e w8 ⟨rfl, hb⟩
 replace c01 := cell_later hb c01
 replace c02 := cell_later hb c02
 replace c03 := cell_later hb c03
 replace c04 := cell_later hb c04
 replace c11 := cell_later hb c11
 replace c12 := cell_later hb c12
 replace c13 := cell_later hb c13
 replace c14 := cell_later hb c14
 replace ia := ia.later hb
 replace ib := ib.later hb
 replace HB := HB.trans (hb.mono HB.size)
 clear hb
 go_upto_region 5 with (fail)
 refine wp_region_grow mixed (by kernel_rfl) [[], [(0, 26)], [], [(2, 28), (1, 27)], [(1, 27), (3, 29), (3, 29)], [(4, 30)], [(5, 25)], [(5, 25)], [(5, 25)], [(6, 31), (4, 30), (0, 26), (1, 27), (2, 28), (3, 29), (4, 30), (5, 25), (6, 31)], [(7, 32), (9, 5), (0, 26), (1, 27), (2, 28), (3, 29), (4, 30), (5, 25), (6, 31), (7, 32), (9, 5)], [(8, 33), (10, 6), (0, 26), (1, 27), (2, 28), (3, 29), (4, 30), (5, 25), (6, 31), (7, 32), (8, 33), (9, 5), (10, 6)]] [(0, 26), (1, 27), (2, 28), (3, 29), (4, 30), (5, 25), (6, 31), (7, 32), (8, 33), (9, 5), (10, 6), (11, 7)] rfl rfl [Ex ?ei0, DfP a, Ex ?ei2, DfP b, IncPe r ok x, IncPe r ok x, LsPe r, Ex ?ei7, Ex ?ei8, LsPe r, Ex ?ei10, Ex ?ei11] ⟨stays_ex _, stays_df _, stays_ex _, stays_df _, stays_incpe _ _ _, stays_incpe _ _ _, stays_lspe _, stays_ex _, stays_ex _, stays_lspe _, stays_ex _, stays_ex _, trivial⟩ ?isteps ?irest
 case isteps =>
  refine ⟨fun f W hC hh => ?_, fun f W hC hh => ?_, fun f W hC hh => ?_, fun f W hC hh => ?_, fun f W hC hh => ?_, fun f W hC hh => ?_, fun f W hC hh => ?_, fun f W hC hh => ?_, fun f W hC hh => ?_, fun f W hC hh => ?_, fun f W hC hh => ?_, fun f W hC hh => ?_, trivial⟩
  ·
   refine tab_plain fun K Q hK => ?_
   simp only [puts, foldr_nil]
   have mc01 := cell_later hC c01
   have mc02 := cell_later hC c02
   have mc03 := cell_later hC c03
   have mc04 := cell_later hC c04
   have mc11 := cell_later hC c11
   have mc12 := cell_later hC c12
   have mc13 := cell_later hC c13
   have mc14 := cell_later hC c14
   go_step
   exact fam_e hK rfl rfl (Below.refl _ _) hC
  ·
   obtain ⟨h0, -⟩ := hh
   have g0 : f 0 = _ := h0
   refine tab_plain fun K Q hK => ?_
   simp only [puts, Za, Zb, Zc, Zd, Ze, g0]
   go_step
   go_at_call 14
   refine (own_any (ia.later hC) fa3).mono ?_
   rintro e w' ⟨⟨hy, rfl, iy⟩, hb⟩
   exact fam_fin hK rfl ⟨hy, rfl, iy⟩ hb (hC.trans (hb.mono hC.size))
  ·
   refine tab_plain fun K Q hK => ?_
   simp only [puts, foldr_nil]
   have mc01 := cell_later hC c01
   have mc02 := cell_later hC c02
   have mc03 := cell_later hC c03
   have mc04 := cell_later hC c04
   have mc11 := cell_later hC c11
   have mc12 := cell_later hC c12
   have mc13 := cell_later hC c13
   have mc14 := cell_later hC c14
   go_step
   exact fam_e hK rfl rfl (Below.refl _ _) hC
  ·
   obtain ⟨h2, h1, -⟩ := hh
   have g2 : f 2 = _ := h2
   obtain ⟨y1, g1, s1⟩ := h1
   refine tab_plain fun K Q hK => ?_
   simp only [puts, Za, Zb, Zc, Zd, Ze, g2, g1]
   go_step
   go_at_call 14
   refine (own_any (ib.later hC) fb3).mono ?_
   rintro e w' ⟨⟨hy, rfl, iy⟩, hb⟩
   exact fam_fin hK rfl ⟨hy, rfl, iy⟩ hb (hC.trans (hb.mono hC.size))
  ·
   obtain ⟨h1, h3, _, -⟩ := hh
   obtain ⟨y1, g1, s1⟩ := h1
   obtain ⟨y3, g3, s3⟩ := h3
   refine tab_plain fun K Q hK => ?_
   simp only [puts, Za, Zb, Zc, Zd, Ze, g1, g3]
   go_step
   go_at_call 30
   refine (HI.out _ _ _ s1 s3).mono ?_
   rintro e w' ⟨⟨aw', cw', rfl, iw'⟩, hb⟩
   exact fam_fin hK rfl ⟨aw', cw', rfl, iw'⟩ hb (hC.trans (hb.mono hC.size))
  ·
   obtain ⟨h4, -⟩ := hh
   obtain ⟨a4, c4, g4, s4⟩ := h4
   refine tab_plain fun K Q hK => ?_
   simp only [puts, Za, Zb, Zc, Zd, Ze, g4]
   go_step
   exact fam_fin hK rfl ⟨a4, c4, rfl, s4⟩ (Below.refl _ _) hC
  ·
   obtain ⟨h5, -⟩ := hh
   obtain ⟨a5, c5, g5, s5⟩ := h5
   refine tab_plain fun K Q hK => ?_
   simp only [puts, Za, Zb, Zc, Zd, Ze, g5]
   go_step
   exact fam_fin hK rfl ⟨a5, c5, rfl, s5⟩ (Below.refl _ _) hC
  ·
   obtain ⟨h5, -⟩ := hh
   obtain ⟨a5, c5, g5, s5⟩ := h5
   refine tab_plain fun K Q hK => ?_
   simp only [puts, Za, Zb, Zc, Zd, Ze, g5]
   go_step
   exact fam_e hK rfl rfl (Below.refl _ _) hC
  ·
   obtain ⟨h5, -⟩ := hh
   obtain ⟨a5, c5, g5, s5⟩ := h5
   refine tab_plain fun K Q hK => ?_
   simp only [puts, Za, Zb, Zc, Zd, Ze, g5]
   go_step
   exact fam_e hK rfl rfl (Below.refl _ _) hC
  ·
   obtain ⟨h6, h4, h0, h1, h2, h3, _, h5, _, -⟩ := hh
   obtain ⟨a6, c6, g6, s6⟩ := h6
   obtain ⟨a4, c4, g4, s4⟩ := h4
   have g0 : f 0 = _ := h0
   obtain ⟨y1, g1, s1⟩ := h1
   have g2 : f 2 = _ := h2
   obtain ⟨y3, g3, s3⟩ := h3
   obtain ⟨a5, c5, g5, s5⟩ := h5
   refine tab_plain fun K Q hK => ?_
   simp only [puts, Za, Zb, Zc, Zd, Ze, g6, g4, g0, g1, g2, g3, g5]
   go_step
   exact fam_fin hK rfl ⟨a6, c6, rfl, s6⟩ (Below.refl _ _) hC
  ·
   obtain ⟨h7, h9, h0, h1, h2, h3, h4, h5, h6, _, _, -⟩ := hh
   have g7 : f 7 = _ := h7
   obtain ⟨a9, c9, g9, s9⟩ := h9
   have g0 : f 0 = _ := h0
   obtain ⟨y1, g1, s1⟩ := h1
   have g2 : f 2 = _ := h2
   obtain ⟨y3, g3, s3⟩ := h3
   obtain ⟨a4, c4, g4, s4⟩ := h4
   obtain ⟨a5, c5, g5, s5⟩ := h5
   obtain ⟨a6, c6, g6, s6⟩ := h6
   refine tab_plain fun K Q hK => ?_
   simp only [puts, Za, Zb, Zc, Zd, Ze, g7, g9, g0, g1, g2, g3, g4, g5, g6]
   go_step
   exact fam_e hK rfl rfl (Below.refl _ _) hC
  ·
   obtain ⟨h8, h10, h0, h1, h2, h3, h4, h5, h6, h7, _, h9, _, -⟩ := hh
   have g8 : f 8 = _ := h8
   have g10 : f 10 = _ := h10
   have g0 : f 0 = _ := h0
   obtain ⟨y1, g1, s1⟩ := h1
   have g2 : f 2 = _ := h2
   obtain ⟨y3, g3, s3⟩ := h3
   obtain ⟨a4, c4, g4, s4⟩ := h4
   obtain ⟨a5, c5, g5, s5⟩ := h5
   obtain ⟨a6, c6, g6, s6⟩ := h6
   have g7 : f 7 = _ := h7
   obtain ⟨a9, c9, g9, s9⟩ := h9
   refine tab_plain fun K Q hK => ?_
   simp only [puts, Za, Zb, Zc, Zd, Ze, g8, g10, g0, g1, g2, g3, g4, g5, g6, g7, g9]
   go_step
   exact fam_e hK rfl rfl (Below.refl _ _) hC
 case irest =>
  intro f WI hC hh
  obtain ⟨h0, h1, h2, h3, h4, h5, h6, h7, h8, h9, h10, h11, -⟩ := hh
  have g0 : f 0 = _ := h0
  obtain ⟨y1, g1, s1⟩ := h1
  have g2 : f 2 = _ := h2
  obtain ⟨y3, g3, s3⟩ := h3
  obtain ⟨a4, c4, g4, s4⟩ := h4
  obtain ⟨a5, c5, g5, s5⟩ := h5
  obtain ⟨a6, c6, g6, s6⟩ := h6
  have g7 : f 7 = _ := h7
  have g8 : f 8 = _ := h8
  obtain ⟨a9, c9, g9, s9⟩ := h9
  have g10 : f 10 = _ := h10
  have g11 : f 11 = _ := h11
  simp only [puts, Za, Zb, Zc, Zd, Ze, g0, g1, g2, g3, g4, g5, g6, g7, g8, g9, g10, g11]
  clear h0 h2 h7 h8 h10 h11 g0 g2 g7 g8 g10 g11
  have hb := hC
  clear hC
  replace c01 := cell_later hb c01
  replace c02 := cell_later hb c02
  replace c03 := cell_later hb c03
  replace c04 := cell_later hb c04
  replace c11 := cell_later hb c11
  replace c12 := cell_later hb c12
  replace c13 := cell_later hb c13
  replace c14 := cell_later hb c14
  replace ia := ia.later hb
  replace ib := ib.later hb
  replace HB := HB.trans (hb.mono HB.size)
  clear hb
  clear g1 s1 g3 s3 g4 s4 g5 s5 g6 s6
  go_wp2_with (fail)
  refine (HJ.out _ _ _ ia ib).mono ?_
  rintro e w9 ⟨⟨aJ, cJ, rfl, iJ⟩, hb⟩
  replace c01 := cell_later hb c01
  replace c02 := cell_later hb c02
  replace c03 := cell_later hb c03
  replace c04 := cell_later hb c04
  replace c11 := cell_later hb c11
  replace c12 := cell_later hb c12
  replace c13 := cell_later hb c13
  replace c14 := cell_later hb c14
  replace ia := ia.later hb
  replace ib := ib.later hb
  replace s9 := s9.later hb
  replace HB := HB.trans (hb.mono HB.size)
  clear hb
  go_upto_region 7 with (fail)
  obtain ⟨S, hSd⟩ : ∃ S : (Nat → Bool) → (Nat → Value) → World → Prop, S = SBox w9 a b P x := ⟨_, rfl⟩
  refine wp_region_st mixed (by kernel_rfl) [[], [(0, 42)], [], [(2, 44), (1, 43)], [(1, 43), (3, 45), (3, 45)], [(4, 46)], [(5, 41)], [(5, 41)], [], [(8, 11), (6, 47), (4, 46), (0, 42), (1, 43), (2, 44), (3, 45), (4, 46), (5, 41), (6, 47), (8, 11)], [(7, 48), (0, 42), (1, 43), (2, 44), (3, 45), (4, 46), (5, 41), (6, 47), (7, 48), (8, 11)]] [(0, 42), (1, 43), (2, 44), (3, 45), (4, 46), (5, 41), (6, 47), (7, 48), (8, 11), (10, 12)] rfl rfl [EV ?ep0, fun _ => True, EV ?ep2, fun _ => True, fun _ => True, fun _ => True, fun _ => True, EV ?ep7, fun _ => True, fun _ => True, EV ?ep10] S ?pstart ?psteps ?prest
  case pstart =>
   intro f
   rw [hSd]
   exact SBox.start f
  case psteps =>
   refine ⟨fun L f W hi hd hdn hh hS => ?_, fun L f W hi hd hdn hh hS => ?_, fun L f W hi hd hdn hh hS => ?_, fun L f W hi hd hdn hh hS => ?_, fun L f W hi hd hdn hh hS => ?_, fun L f W hi hd hdn hh hS => ?_, fun L f W hi hd hdn hh hS => ?_, fun L f W hi hd hdn hh hS => ?_, fun L f W hi hd hdn hh hS => ?_, fun L f W hi hd hdn hh hS => ?_, fun L f W hi hd hdn hh hS => ?_, trivial⟩
   ·
    unfold stStep
    rw [if_pos (by simp [Region.wanted])]
    intro K Q hK
    simp only [puts, foldr_nil]
    have m0 := hS
    rw [hSd] at m0
    have mc01 := cell_later m0.1 c01
    have mc02 := cell_later m0.1 c02
    have mc03 := cell_later m0.1 c03
    have mc04 := cell_later m0.1 c04
    have mc11 := cell_later m0.1 c11
    have mc12 := cell_later m0.1 c12
    have mc13 := cell_later m0.1 c13
    have mc14 := cell_later m0.1 c14
    go_step
    refine st_ex hK rfl rfl (by simp only [Act.put, setIfInBounds_toArray, set_cons_succ, set_cons_zero, Array.getD_eq_getD_getElem?, List.getElem?_toArray, List.getElem?_cons_succ, List.getElem?_cons_zero, Option.getD_some] <;> rfl) rfl (by rw [hSd] at hS ⊢; exact hS)
   ·
    obtain ⟨h0, -⟩ := hh
    have g0 : f 0 = _ := h0
    unfold stStep
    rw [if_pos (by simp [Region.wanted])]
    intro K Q hK
    simp only [puts, Za, Zb, Zc, Zd, Ze, g0]
    rw [hSd] at hS hK
    have l1 : L 1 = false := hi
    try simp only [stage, l1, if_true, if_false, Bool.false_eq_true] at hS
    go_step
    go_at_call 14
    refine (own_any (ia.later hS.1) fa3).mono ?_
    rintro e w' ⟨⟨hy, rfl, iy⟩, hb⟩
    exact hK.out _ _ rfl trivial ((hS.later hb).put1 ⟨hy, rfl, iy⟩)
   ·
    unfold stStep
    rw [if_pos (by simp [Region.wanted])]
    intro K Q hK
    simp only [puts, foldr_nil]
    have m0 := hS
    rw [hSd] at m0
    have mc01 := cell_later m0.1 c01
    have mc02 := cell_later m0.1 c02
    have mc03 := cell_later m0.1 c03
    have mc04 := cell_later m0.1 c04
    have mc11 := cell_later m0.1 c11
    have mc12 := cell_later m0.1 c12
    have mc13 := cell_later m0.1 c13
    have mc14 := cell_later m0.1 c14
    go_step
    refine st_ex hK rfl rfl (by simp only [Act.put, setIfInBounds_toArray, set_cons_succ, set_cons_zero, Array.getD_eq_getD_getElem?, List.getElem?_toArray, List.getElem?_cons_succ, List.getElem?_cons_zero, Option.getD_some] <;> rfl) rfl (by rw [hSd] at hS ⊢; exact hS)
   ·
    obtain ⟨h2, h1, -⟩ := hh
    have g2 : f 2 = _ := h2
    (first | (have q1 := hd 1 (by decide); have p1 := hS; rw [hSd] at p1; replace p1 := p1.2.1 q1) | (have p1 := hS.2.1 (hL 1 (by decide)))); obtain ⟨y1, g1, s1⟩ := p1
    unfold stStep
    rw [if_pos (by simp [Region.wanted])]
    intro K Q hK
    simp only [puts, Za, Zb, Zc, Zd, Ze, g2, g1]
    rw [hSd] at hS hK
    have l3 : L 3 = false := hi
    try simp only [stage, l3, if_true, if_false, Bool.false_eq_true] at hS
    go_step
    go_at_call 14
    refine (own_any (ib.later hS.1) fb3).mono ?_
    rintro e w' ⟨⟨hy, rfl, iy⟩, hb⟩
    exact hK.out _ _ rfl trivial ((hS.later hb).put3 ⟨hy, rfl, iy⟩)
   ·
    obtain ⟨h1, h3, _, -⟩ := hh
    (first | (have q1 := hd 1 (by decide); have p1 := hS; rw [hSd] at p1; replace p1 := p1.2.1 q1) | (have p1 := hS.2.1 (hL 1 (by decide)))); obtain ⟨y1, g1, s1⟩ := p1
    (first | (have q3 := hd 3 (by decide); have p3 := hS; rw [hSd] at p3; replace p3 := p3.2.2.1 q3) | (have p3 := hS.2.2.1 (hL 3 (by decide)))); obtain ⟨y3, g3, s3⟩ := p3
    unfold stStep
    rw [if_pos (by simp [Region.wanted])]
    intro K Q hK
    simp only [puts, Za, Zb, Zc, Zd, Ze, g1, g3]
    rw [hSd] at hS hK
    have l4 : L 4 = false := hi
    try simp only [stage, l4, if_true, if_false, Bool.false_eq_true] at hS
    go_step
    go_at_call 29
    refine (HP.out _ _ _ s1 s3).mono ?_
    rintro e w' ⟨⟨hy, rfl, iy⟩, hb⟩
    exact hK.out _ _ rfl trivial ((hS.later hb).put4 ⟨hy, rfl, iy⟩)
   ·
    obtain ⟨h4, -⟩ := hh
    (first | (have q4 := hd 4 (by decide); have p4 := hS; rw [hSd] at p4; replace p4 := p4.2.2.2.1 q4) | (have p4 := hS.2.2.2.1 (hL 4 (by decide)))); obtain ⟨y4, g4, s4⟩ := p4
    unfold stStep
    rw [if_pos (by simp [Region.wanted])]
    intro K Q hK
    simp only [puts, Za, Zb, Zc, Zd, Ze, g4]
    rw [hSd] at hS hK
    have l5 : L 5 = false := hi
    try simp only [stage, l5, if_true, if_false, Bool.false_eq_true] at hS
    go_step
    exact hK.out _ _ rfl trivial (hS.put5 ⟨y4, rfl, s4⟩)
   ·
    obtain ⟨h5, -⟩ := hh
    (first | (have q5 := hd 5 (by decide); have p5 := hS; rw [hSd] at p5; replace p5 := p5.2.2.2.2.1 q5) | (have p5 := hS.2.2.2.2.1 (hL 5 (by decide)))); obtain ⟨y5, g5, s5⟩ := p5
    unfold stStep
    rw [if_pos (by simp [Region.wanted])]
    intro K Q hK
    simp only [puts, Za, Zb, Zc, Zd, Ze, g5]
    rw [hSd] at hS hK
    have l6 : L 6 = false := hi
    try simp only [stage, l6, if_true, if_false, Bool.false_eq_true] at hS
    go_step
    exact hK.out _ _ rfl trivial (hS.put6 ⟨y5, rfl, s5⟩)
   ·
    obtain ⟨h5, -⟩ := hh
    (first | (have q5 := hd 5 (by decide); have p5 := hS; rw [hSd] at p5; replace p5 := p5.2.2.2.2.1 q5) | (have p5 := hS.2.2.2.2.1 (hL 5 (by decide)))); obtain ⟨y5, g5, s5⟩ := p5
    unfold stStep
    rw [if_pos (by simp [Region.wanted])]
    intro K Q hK
    simp only [puts, Za, Zb, Zc, Zd, Ze, g5]
    go_step
    refine st_ex hK rfl rfl (by simp only [Act.put, setIfInBounds_toArray, set_cons_succ, set_cons_zero, Array.getD_eq_getD_getElem?, List.getElem?_toArray, List.getElem?_cons_succ, List.getElem?_cons_zero, Option.getD_some] <;> rfl) rfl (by rw [hSd] at hS ⊢; exact hS)
   ·
    have l9 : L 9 = false := Bool.eq_false_iff.2 fun h => by have q := hdn 9 _ h rfl 8 (by decide); rw [show L 8 = false from hi] at q; cases q
    unfold stStep
    rw [if_pos (by simp [Region.wanted])]
    intro K Q hK
    simp only [puts, foldr_nil]
    rw [hSd] at hS hK
    have l8 : L 8 = false := hi
    try simp only [stage, l9, l8, if_true, if_false, Bool.false_eq_true] at hS
    have hal : Below W.heap.size W (W.alloc (.cells #[.int .i64 0, .int .i64 0, .slice none 0 0, .slice none 0 0] 30)) := (Below.refl _ _).alloc (Nat.le_refl _) _
    have hz := heap_alloc_new W (.cells #[.int .i64 0, .int .i64 0, .slice none 0 0, .slice none 0 0] 30)
    go_step
    exact hK.out _ _ rfl trivial ((hS.later hal).put8 hS.1.size l9 hz)
   ·
    obtain ⟨h8, h6, h4, h0, h1, h2, h3, _, h5, _, _, -⟩ := hh
    (first | (have q8 := hd 8 (by decide); have p8 := hS; rw [hSd] at p8; replace p8 := p8.2.2.2.2.2.2 q8) | (have p8 := hS.2.2.2.2.2.2 (hL 8 (by decide)))); obtain ⟨y8, g8, s8⟩ := p8
    (first | (have q6 := hd 6 (by decide); have p6 := hS; rw [hSd] at p6; replace p6 := p6.2.2.2.2.2.1 q6) | (have p6 := hS.2.2.2.2.2.1 (hL 6 (by decide)))); obtain ⟨y6, g6, s6⟩ := p6
    (first | (have q4 := hd 4 (by decide); have p4 := hS; rw [hSd] at p4; replace p4 := p4.2.2.2.1 q4) | (have p4 := hS.2.2.2.1 (hL 4 (by decide)))); obtain ⟨y4, g4, s4⟩ := p4
    have g0 : f 0 = _ := h0
    (first | (have q1 := hd 1 (by decide); have p1 := hS; rw [hSd] at p1; replace p1 := p1.2.1 q1) | (have p1 := hS.2.1 (hL 1 (by decide)))); obtain ⟨y1, g1, s1⟩ := p1
    have g2 : f 2 = _ := h2
    (first | (have q3 := hd 3 (by decide); have p3 := hS; rw [hSd] at p3; replace p3 := p3.2.2.1 q3) | (have p3 := hS.2.2.1 (hL 3 (by decide)))); obtain ⟨y3, g3, s3⟩ := p3
    (first | (have q5 := hd 5 (by decide); have p5 := hS; rw [hSd] at p5; replace p5 := p5.2.2.2.2.1 q5) | (have p5 := hS.2.2.2.2.1 (hL 5 (by decide)))); obtain ⟨y5, g5, s5⟩ := p5
    have l6 : L 6 = true := hd 6 (by decide)
    have l8 : L 8 = true := hd 8 (by decide)
    unfold stStep
    rw [if_pos (by simp [Region.wanted])]
    intro K Q hK
    simp only [puts, Za, Zb, Zc, Zd, Ze, g8, g6, g4, g0, g1, g2, g3, g5]
    rw [hSd] at hS hK
    have l9 : L 9 = false := hi
    try simp only [stage, l9, l6, l8, if_true, if_false, Bool.false_eq_true] at hS
    have hzz : ZBox W y8 := s8.2.1 l9
    refine wp_store_row 30 _ _ rfl y8 #[.int .i64 (P).n, .int .i64 (P).s, .slice y6.fa y6.fl y6.fc, .slice y6.aa y6.al y6.ac] rfl rfl _ _ hzz dfa_i rfl (dfa_one _ _ _ _ _ _ _ _) ?_
    exact hK.out _ _ rfl trivial (hS.put9 l8 g8 hzz s8.1 s6 _)
   ·
    obtain ⟨h7, h0, h1, h2, h3, h4, h5, h6, _, h8, -⟩ := hh
    have g7 : f 7 = _ := h7
    have g0 : f 0 = _ := h0
    (first | (have q1 := hd 1 (by decide); have p1 := hS; rw [hSd] at p1; replace p1 := p1.2.1 q1) | (have p1 := hS.2.1 (hL 1 (by decide)))); obtain ⟨y1, g1, s1⟩ := p1
    have g2 : f 2 = _ := h2
    (first | (have q3 := hd 3 (by decide); have p3 := hS; rw [hSd] at p3; replace p3 := p3.2.2.1 q3) | (have p3 := hS.2.2.1 (hL 3 (by decide)))); obtain ⟨y3, g3, s3⟩ := p3
    (first | (have q4 := hd 4 (by decide); have p4 := hS; rw [hSd] at p4; replace p4 := p4.2.2.2.1 q4) | (have p4 := hS.2.2.2.1 (hL 4 (by decide)))); obtain ⟨y4, g4, s4⟩ := p4
    (first | (have q5 := hd 5 (by decide); have p5 := hS; rw [hSd] at p5; replace p5 := p5.2.2.2.2.1 q5) | (have p5 := hS.2.2.2.2.1 (hL 5 (by decide)))); obtain ⟨y5, g5, s5⟩ := p5
    (first | (have q6 := hd 6 (by decide); have p6 := hS; rw [hSd] at p6; replace p6 := p6.2.2.2.2.2.1 q6) | (have p6 := hS.2.2.2.2.2.1 (hL 6 (by decide)))); obtain ⟨y6, g6, s6⟩ := p6
    (first | (have q8 := hd 8 (by decide); have p8 := hS; rw [hSd] at p8; replace p8 := p8.2.2.2.2.2.2 q8) | (have p8 := hS.2.2.2.2.2.2 (hL 8 (by decide)))); obtain ⟨y8, g8, s8⟩ := p8
    unfold stStep
    rw [if_pos (by simp [Region.wanted])]
    intro K Q hK
    simp only [puts, Za, Zb, Zc, Zd, Ze, g7, g0, g1, g2, g3, g4, g5, g6, g8]
    go_step
    refine st_ex hK rfl rfl (by simp only [Act.put, setIfInBounds_toArray, set_cons_succ, set_cons_zero, Array.getD_eq_getD_getElem?, List.getElem?_toArray, List.getElem?_cons_succ, List.getElem?_cons_zero, Option.getD_some] <;> rfl) rfl (by rw [hSd] at hS ⊢; exact hS)
  case prest =>
   intro L f WR hL hh hS
   rw [hSd] at hS
   clear hSd
   obtain ⟨h0, h1, h2, h3, h4, h5, h6, h7, h8, h10, -⟩ := hh
   have g0 : f 0 = _ := h0
   (first | (have q1 := hd 1 (by decide); have p1 := hS; rw [hSd] at p1; replace p1 := p1.2.1 q1) | (have p1 := hS.2.1 (hL 1 (by decide)))); obtain ⟨y1, g1, s1⟩ := p1
   have g2 : f 2 = _ := h2
   (first | (have q3 := hd 3 (by decide); have p3 := hS; rw [hSd] at p3; replace p3 := p3.2.2.1 q3) | (have p3 := hS.2.2.1 (hL 3 (by decide)))); obtain ⟨y3, g3, s3⟩ := p3
   (first | (have q4 := hd 4 (by decide); have p4 := hS; rw [hSd] at p4; replace p4 := p4.2.2.2.1 q4) | (have p4 := hS.2.2.2.1 (hL 4 (by decide)))); obtain ⟨y4, g4, s4⟩ := p4
   (first | (have q5 := hd 5 (by decide); have p5 := hS; rw [hSd] at p5; replace p5 := p5.2.2.2.2.1 q5) | (have p5 := hS.2.2.2.2.1 (hL 5 (by decide)))); obtain ⟨y5, g5, s5⟩ := p5
   (first | (have q6 := hd 6 (by decide); have p6 := hS; rw [hSd] at p6; replace p6 := p6.2.2.2.2.2.1 q6) | (have p6 := hS.2.2.2.2.2.1 (hL 6 (by decide)))); obtain ⟨y6, g6, s6⟩ := p6
   have g7 : f 7 = _ := h7
   (first | (have q8 := hd 8 (by decide); have p8 := hS; rw [hSd] at p8; replace p8 := p8.2.2.2.2.2.2 q8) | (have p8 := hS.2.2.2.2.2.2 (hL 8 (by decide)))); obtain ⟨y8, g8, s8⟩ := p8
   have g10 : f 10 = _ := h10
   simp only [puts, Za, Zb, Zc, Zd, Ze, g0, g1, g2, g3, g4, g5, g6, g7, g8, g10]
   clear h0 h2 h7 h10 g0 g2 g7 g10
   obtain ⟨yr, hhr, ir⟩ := s8.2.2 (hL 9 (by decide))
   obtain ⟨hb, -⟩ := hS
   have cr1 := cell_of_row _ _ 0 _ _ _ hhr
   have cr2 := cell_of_row _ _ 1 _ _ _ hhr
   have cr3 := cell_of_row _ _ 2 _ _ _ hhr
   have cr4 := cell_of_row _ _ 3 _ _ _ hhr
   clear hhr hL g1 s1 g3 s3 g4 s4 g5 s5 g6 s6 g8 s8
   replace c01 := cell_later hb c01
   replace c02 := cell_later hb c02
   replace c03 := cell_later hb c03
   replace c04 := cell_later hb c04
   replace c11 := cell_later hb c11
   replace c12 := cell_later hb c12
   replace c13 := cell_later hb c13
   replace c14 := cell_later hb c14
   replace ia := ia.later hb
   replace ib := ib.later hb
   replace s9 := s9.later hb
   replace iJ := iJ.later hb
   replace HB := HB.trans (hb.mono HB.size)
   clear hb
   go_wp2_with (fail)
   refine (HQ.out _ _ _ ia ib).mono ?_
   rintro e w10 ⟨⟨yq, rfl, iq⟩, hb⟩
   unfold vDf
   replace c01 := cell_later hb c01
   replace c02 := cell_later hb c02
   replace c03 := cell_later hb c03
   replace c04 := cell_later hb c04
   replace c11 := cell_later hb c11
   replace c12 := cell_later hb c12
   replace c13 := cell_later hb c13
   replace c14 := cell_later hb c14
   replace cr1 := cell_later hb cr1
   replace cr2 := cell_later hb cr2
   replace cr3 := cell_later hb cr3
   replace cr4 := cell_later hb cr4
   replace ia := ia.later hb
   replace ib := ib.later hb
   replace s9 := s9.later hb
   replace iJ := iJ.later hb
   replace ir := ir.later hb
   replace HB := HB.trans (hb.mono HB.size)
   clear hb
   go_upto_region 9 with (fail)
   obtain ⟨Vq, hVq, -, hb, hOq⟩ := boxRW P yq _ iq
   rw [hVq]
   obtain ⟨⟨cq1, cq2, cq3, cq4⟩, -, -⟩ := hOq Vq (Below.refl _ _)
   clear hOq hVq
   replace c01 := cell_later hb c01
   replace c02 := cell_later hb c02
   replace c03 := cell_later hb c03
   replace c04 := cell_later hb c04
   replace c11 := cell_later hb c11
   replace c12 := cell_later hb c12
   replace c13 := cell_later hb c13
   replace c14 := cell_later hb c14
   replace cr1 := cell_later hb cr1
   replace cr2 := cell_later hb cr2
   replace cr3 := cell_later hb cr3
   replace cr4 := cell_later hb cr4
   replace ia := ia.later hb
   replace ib := ib.later hb
   replace s9 := s9.later hb
   replace iJ := iJ.later hb
   replace ir := ir.later hb
   replace iq := iq.later hb
   replace HB := HB.trans (hb.mono HB.size)
   clear hb
   rcases HX.out with rfl | rfl
   ·skip
    refine wp_region_grow mixed (by kernel_rfl) [[], [], [(0, 55), (1, 56)], [(2, 57)], [(3, 58)], [(3, 58)], [(4, 59), (5, 60), (3, 58)], [(3, 58), (6, 61)], [(7, 62), (3, 58)], [(8, 63)], [(8, 63)], [(9, 64), (10, 65), (8, 63)], [(8, 63), (11, 66)], [(12, 67), (8, 63)], [(13, 68)], [(13, 68)], [(14, 69), (15, 70), (13, 68), (13, 68)], [(13, 68), (16, 71)], [(17, 72), (16, 71)], [(18, 73)], [(19, 74), (18, 73), (18, 73)], [(18, 73)], [(20, 75), (21, 76), (20, 75), (18, 73)], [(18, 73), (22, 77)], [(23, 78), (22, 77)], [(24, 79)], [(25, 80), (24, 79)], [(26, 81), (24, 79), (24, 79)], [(27, 82)], [(28, 83), (27, 82), (27, 82)], [(27, 82), (29, 84), (24, 79)], [(24, 79), (30, 85)], [(31, 86), (29, 84), (0, 55), (1, 56), (2, 57), (3, 58), (4, 59), (5, 60), (6, 61), (7, 62), (8, 63), (9, 64), (10, 65), (11, 66), (12, 67), (13, 68), (14, 69), (15, 70), (16, 71), (17, 72), (18, 73), (19, 74), (20, 75), (21, 76), (22, 77), (23, 78), (24, 79), (25, 80), (26, 81), (27, 82), (28, 83), (29, 84), (30, 85), (31, 86)]] [(0, 55), (1, 56), (2, 57), (3, 58), (4, 59), (5, 60), (6, 61), (7, 62), (8, 63), (9, 64), (10, 65), (11, 66), (12, 67), (13, 68), (14, 69), (15, 70), (16, 71), (17, 72), (18, 73), (19, 74), (20, 75), (21, 76), (22, 77), (23, 78), (24, 79), (25, 80), (26, 81), (27, 82), (28, 83), (29, 84), (30, 85), (31, 86), (32, 4)] rfl rfl [Ex ?ee10, Ex ?ee11, Ex ?ee12, Ex ?ee13, Ex ?ee14, Ex ?ee15, Ex ?ee16, Ex ?ee17, Ex ?ee18, Ex ?ee19, Ex ?ee110, Ex ?ee111, Ex ?ee112, Ex ?ee113, Ex ?ee114, Ex ?ee115, Ex (.bool true), Ex ?ee117, Ex ?ee118, Ex ?ee119, DfP P, Ex ?ee121, Ex (.bool true), Ex ?ee123, Ex ?ee124, Ex ?ee125, Ex ?ee126, Ex ?ee127, Ex ?ee128, Ex (.bool true), Ex ?ee130, Ex ?ee131, Ex ?ee132] ⟨stays_ex _, stays_ex _, stays_ex _, stays_ex _, stays_ex _, stays_ex _, stays_ex _, stays_ex _, stays_ex _, stays_ex _, stays_ex _, stays_ex _, stays_ex _, stays_ex _, stays_ex _, stays_ex _, stays_ex _, stays_ex _, stays_ex _, stays_ex _, stays_df _, stays_ex _, stays_ex _, stays_ex _, stays_ex _, stays_ex _, stays_ex _, stays_ex _, stays_ex _, stays_ex _, stays_ex _, stays_ex _, stays_ex _, trivial⟩ ?e1steps ?e1rest
    case e1steps =>
     refine ⟨fun f W hC hh => ?_, fun f W hC hh => ?_, fun f W hC hh => ?_, fun f W hC hh => ?_, fun f W hC hh => ?_, fun f W hC hh => ?_, fun f W hC hh => ?_, fun f W hC hh => ?_, fun f W hC hh => ?_, fun f W hC hh => ?_, fun f W hC hh => ?_, fun f W hC hh => ?_, fun f W hC hh => ?_, fun f W hC hh => ?_, fun f W hC hh => ?_, fun f W hC hh => ?_, fun f W hC hh => ?_, fun f W hC hh => ?_, fun f W hC hh => ?_, fun f W hC hh => ?_, fun f W hC hh => ?_, fun f W hC hh => ?_, fun f W hC hh => ?_, fun f W hC hh => ?_, fun f W hC hh => ?_, fun f W hC hh => ?_, fun f W hC hh => ?_, fun f W hC hh => ?_, fun f W hC hh => ?_, fun f W hC hh => ?_, fun f W hC hh => ?_, fun f W hC hh => ?_, fun f W hC hh => ?_, trivial⟩
     ·
      refine tab_plain fun K Q hK => ?_
      simp only [puts, foldr_nil]
      go_step
      exact fam_e hK rfl rfl (Below.refl _ _) hC
     ·
      refine tab_plain fun K Q hK => ?_
      simp only [puts, foldr_nil]
      go_step
      exact fam_e hK rfl rfl (Below.refl _ _) hC
     ·
      obtain ⟨h0, h1, -⟩ := hh
      have g0 : f 0 = _ := h0
      have g1 : f 1 = _ := h1
      refine tab_plain fun K Q hK => ?_
      simp only [puts, Za, Zb, Zc, Zd, Ze, g0, g1]
      go_step
      exact fam_e hK rfl rfl (Below.refl _ _) hC
     ·
      obtain ⟨h2, -⟩ := hh
      have g2 : f 2 = _ := h2
      refine tab_plain fun K Q hK => ?_
      simp only [puts, Za, Zb, Zc, Zd, Ze, g2]
      go_step
      exact fam_e hK rfl rfl (Below.refl _ _) hC
     ·
      obtain ⟨h3, -⟩ := hh
      have g3 : f 3 = _ := h3
      refine tab_yes g3 fun K Q hK => ?_
      simp only [puts, Za, Zb, Zc, Zd, Ze, g3]
      go_step
      exact fam_e hK rfl rfl (Below.refl _ _) hC
     ·
      obtain ⟨h3, -⟩ := hh
      have g3 : f 3 = _ := h3
      refine tab_yes g3 fun K Q hK => ?_
      simp only [puts, Za, Zb, Zc, Zd, Ze, g3]
      go_step
      exact fam_e hK rfl rfl (Below.refl _ _) hC
     ·
      obtain ⟨h4, h5, h3, -⟩ := hh
      have g4 : f 4 = _ := h4
      have g5 : f 5 = _ := h5
      have g3 : f 3 = _ := h3
      refine tab_yes g3 fun K Q hK => ?_
      simp only [puts, Za, Zb, Zc, Zd, Ze, g4, g5, g3]
      go_step
      exact fam_e hK rfl rfl (Below.refl _ _) hC
     ·
      obtain ⟨h3, h6, -⟩ := hh
      have g3 : f 3 = _ := h3
      have g6 : f 6 = _ := h6
      refine tab_plain fun K Q hK => ?_
      simp only [puts, Za, Zb, Zc, Zd, Ze, g3, g6]
      go_step
      exact fam_e hK rfl rfl (Below.refl _ _) hC
     ·
      obtain ⟨h7, h3, -⟩ := hh
      have g7 : f 7 = _ := h7
      have g3 : f 3 = _ := h3
      refine tab_plain fun K Q hK => ?_
      simp only [puts, Za, Zb, Zc, Zd, Ze, g7, g3]
      go_step
      exact fam_e hK rfl rfl (Below.refl _ _) hC
     ·
      obtain ⟨h8, -⟩ := hh
      have g8 : f 8 = _ := h8
      refine tab_yes g8 fun K Q hK => ?_
      simp only [puts, Za, Zb, Zc, Zd, Ze, g8]
      go_step
      exact fam_e hK rfl rfl (Below.refl _ _) hC
     ·
      obtain ⟨h8, -⟩ := hh
      have g8 : f 8 = _ := h8
      refine tab_yes g8 fun K Q hK => ?_
      simp only [puts, Za, Zb, Zc, Zd, Ze, g8]
      go_step
      exact fam_e hK rfl rfl (Below.refl _ _) hC
     ·
      obtain ⟨h9, h10, h8, -⟩ := hh
      have g9 : f 9 = _ := h9
      have g10 : f 10 = _ := h10
      have g8 : f 8 = _ := h8
      refine tab_yes g8 fun K Q hK => ?_
      simp only [puts, Za, Zb, Zc, Zd, Ze, g9, g10, g8]
      go_step
      exact fam_e hK rfl rfl (Below.refl _ _) hC
     ·
      obtain ⟨h8, h11, -⟩ := hh
      have g8 : f 8 = _ := h8
      have g11 : f 11 = _ := h11
      refine tab_plain fun K Q hK => ?_
      simp only [puts, Za, Zb, Zc, Zd, Ze, g8, g11]
      go_step
      exact fam_e hK rfl rfl (Below.refl _ _) hC
     ·
      obtain ⟨h12, h8, -⟩ := hh
      have g12 : f 12 = _ := h12
      have g8 : f 8 = _ := h8
      refine tab_plain fun K Q hK => ?_
      simp only [puts, Za, Zb, Zc, Zd, Ze, g12, g8]
      go_step
      exact fam_e hK rfl rfl (Below.refl _ _) hC
     ·
      obtain ⟨h13, -⟩ := hh
      have g13 : f 13 = _ := h13
      refine tab_yes g13 fun K Q hK => ?_
      simp only [puts, Za, Zb, Zc, Zd, Ze, g13]
      go_step
      exact fam_e hK rfl rfl (Below.refl _ _) hC
     ·
      obtain ⟨h13, -⟩ := hh
      have g13 : f 13 = _ := h13
      refine tab_yes g13 fun K Q hK => ?_
      simp only [puts, Za, Zb, Zc, Zd, Ze, g13]
      go_step
      exact fam_e hK rfl rfl (Below.refl _ _) hC
     ·
      obtain ⟨h14, h15, h13, _, -⟩ := hh
      have g14 : f 14 = _ := h14
      have g15 : f 15 = _ := h15
      have g13 : f 13 = _ := h13
      refine tab_yes g13 fun K Q hK => ?_
      simp only [puts, Za, Zb, Zc, Zd, Ze, g14, g15, g13]
      go_step
      go_at_call 34
      have hs := same_any _ _ _ _ _ _ _ _ W (s9.later hC) (iJ.later hC) (by have := HRL.out; omega)
      rw [decide_eq_true (rfl : r = r)] at hs
      refine hs.mono ?_
      rintro e w' ⟨rfl, hb⟩
      exact fam_fin hK rfl rfl hb (hC.trans (hb.mono hC.size))
     ·
      obtain ⟨h13, h16, -⟩ := hh
      have g13 : f 13 = _ := h13
      have g16 : f 16 = _ := h16
      refine tab_plain fun K Q hK => ?_
      simp only [puts, Za, Zb, Zc, Zd, Ze, g13, g16]
      go_step
      exact fam_e hK rfl rfl (Below.refl _ _) hC
     ·
      obtain ⟨h17, h16, -⟩ := hh
      have g17 : f 17 = _ := h17
      have g16 : f 16 = _ := h16
      refine tab_plain fun K Q hK => ?_
      simp only [puts, Za, Zb, Zc, Zd, Ze, g17, g16]
      go_step
      exact fam_e hK rfl rfl (Below.refl _ _) hC
     ·
      obtain ⟨h18, -⟩ := hh
      have g18 : f 18 = _ := h18
      refine tab_yes g18 fun K Q hK => ?_
      simp only [puts, Za, Zb, Zc, Zd, Ze, g18]
      have mr1 := cell_later hC cr1
      have mr2 := cell_later hC cr2
      have mr3 := cell_later hC cr3
      have mr4 := cell_later hC cr4
      go_step
      exact fam_e hK rfl rfl (Below.refl _ _) hC
     ·
      obtain ⟨h19, h18, _, -⟩ := hh
      have g19 : f 19 = _ := h19
      have g18 : f 18 = _ := h18
      refine tab_yes g18 fun K Q hK => ?_
      simp only [puts, Za, Zb, Zc, Zd, Ze, g19, g18]
      go_step
      go_at_call 21
      refine (theirs_any (ir.later hC) hpl).mono ?_
      rintro e w' ⟨⟨hy, rfl, iy⟩, hb⟩
      exact fam_fin hK rfl ⟨hy, rfl, iy⟩ hb (hC.trans (hb.mono hC.size))
     ·
      obtain ⟨h18, -⟩ := hh
      have g18 : f 18 = _ := h18
      refine tab_yes g18 fun K Q hK => ?_
      simp only [puts, Za, Zb, Zc, Zd, Ze, g18]
      have mq1 := cell_later hC cq1
      have mq2 := cell_later hC cq2
      have mq3 := cell_later hC cq3
      have mq4 := cell_later hC cq4
      go_step
      exact fam_e hK rfl rfl (Below.refl _ _) hC
     ·
      obtain ⟨h20, h21, _, h18, -⟩ := hh
      obtain ⟨y20, g20, s20⟩ := h20
      have g21 : f 21 = _ := h21
      have g18 : f 18 = _ := h18
      refine tab_yes g18 fun K Q hK => ?_
      simp only [puts, Za, Zb, Zc, Zd, Ze, g20, g21, g18]
      go_step
      go_at_call 20
      have hs := refSame_any s20 (iq.later hC)
      rw [E1.out] at hs
      refine hs.mono ?_
      rintro e w' ⟨rfl, hb⟩
      exact fam_fin hK rfl rfl hb (hC.trans (hb.mono hC.size))
     ·
      obtain ⟨h18, h22, -⟩ := hh
      have g18 : f 18 = _ := h18
      have g22 : f 22 = _ := h22
      refine tab_plain fun K Q hK => ?_
      simp only [puts, Za, Zb, Zc, Zd, Ze, g18, g22]
      go_step
      exact fam_e hK rfl rfl (Below.refl _ _) hC
     ·
      obtain ⟨h23, h22, -⟩ := hh
      have g23 : f 23 = _ := h23
      have g22 : f 22 = _ := h22
      refine tab_plain fun K Q hK => ?_
      simp only [puts, Za, Zb, Zc, Zd, Ze, g23, g22]
      go_step
      exact fam_e hK rfl rfl (Below.refl _ _) hC
     ·
      obtain ⟨h24, -⟩ := hh
      have g24 : f 24 = _ := h24
      refine tab_yes g24 fun K Q hK => ?_
      simp only [puts, Za, Zb, Zc, Zd, Ze, g24]
      go_step
      exact fam_e hK rfl rfl (Below.refl _ _) hC
     ·
      obtain ⟨h25, h24, -⟩ := hh
      have g25 : f 25 = _ := h25
      have g24 : f 24 = _ := h24
      refine tab_yes g24 fun K Q hK => ?_
      simp only [puts, Za, Zb, Zc, Zd, Ze, g25, g24]
      go_step
      exact fam_e hK rfl rfl (Below.refl _ _) hC
     ·
      obtain ⟨h26, h24, _, -⟩ := hh
      have g26 : f 26 = _ := h26
      have g24 : f 24 = _ := h24
      refine tab_yes g24 fun K Q hK => ?_
      simp only [puts, Za, Zb, Zc, Zd, Ze, g26, g24]
      go_step
      exact fam_e hK rfl rfl (Below.refl _ _) hC
     ·
      obtain ⟨h27, -⟩ := hh
      have g27 : f 27 = _ := h27
      refine tab_yes g27 fun K Q hK => ?_
      simp only [puts, Za, Zb, Zc, Zd, Ze, g27]
      have mr1 := cell_later hC cr1
      have mr2 := cell_later hC cr2
      have mr3 := cell_later hC cr3
      have mr4 := cell_later hC cr4
      go_step
      exact fam_e hK rfl rfl (Below.refl _ _) hC
     ·
      obtain ⟨h28, h27, _, -⟩ := hh
      have g28 : f 28 = _ := h28
      have g27 : f 27 = _ := h27
      refine tab_yes g27 fun K Q hK => ?_
      simp only [puts, Za, Zb, Zc, Zd, Ze, g28, g27]
      go_step
      go_at_call 22
      refine (valid_yes (HVP.out rfl) (ir.later hC)).mono ?_
      rintro e w' ⟨rfl, hb⟩
      exact fam_fin hK rfl rfl hb (hC.trans (hb.mono hC.size))
     ·
      obtain ⟨h27, h29, h24, -⟩ := hh
      have g27 : f 27 = _ := h27
      have g29 : f 29 = _ := h29
      have g24 : f 24 = _ := h24
      refine tab_yes g24 fun K Q hK => ?_
      simp only [puts, Za, Zb, Zc, Zd, Ze, g27, g29, g24]
      go_step
      exact fam_e hK rfl rfl (Below.refl _ _) hC
     ·
      obtain ⟨h24, h30, -⟩ := hh
      have g24 : f 24 = _ := h24
      have g30 : f 30 = _ := h30
      refine tab_plain fun K Q hK => ?_
      simp only [puts, Za, Zb, Zc, Zd, Ze, g24, g30]
      go_step
      exact fam_e hK rfl rfl (Below.refl _ _) hC
     ·
      obtain ⟨h31, h29, h0, h1, h2, h3, h4, h5, h6, h7, h8, h9, h10, h11, h12, h13, h14, h15, h16, h17, h18, h19, h20, h21, h22, h23, h24, h25, h26, h27, h28, _, h30, _, -⟩ := hh
      have g31 : f 31 = _ := h31
      have g29 : f 29 = _ := h29
      have g0 : f 0 = _ := h0
      have g1 : f 1 = _ := h1
      have g2 : f 2 = _ := h2
      have g3 : f 3 = _ := h3
      have g4 : f 4 = _ := h4
      have g5 : f 5 = _ := h5
      have g6 : f 6 = _ := h6
      have g7 : f 7 = _ := h7
      have g8 : f 8 = _ := h8
      have g9 : f 9 = _ := h9
      have g10 : f 10 = _ := h10
      have g11 : f 11 = _ := h11
      have g12 : f 12 = _ := h12
      have g13 : f 13 = _ := h13
      have g14 : f 14 = _ := h14
      have g15 : f 15 = _ := h15
      have g16 : f 16 = _ := h16
      have g17 : f 17 = _ := h17
      have g18 : f 18 = _ := h18
      have g19 : f 19 = _ := h19
      obtain ⟨y20, g20, s20⟩ := h20
      have g21 : f 21 = _ := h21
      have g22 : f 22 = _ := h22
      have g23 : f 23 = _ := h23
      have g24 : f 24 = _ := h24
      have g25 : f 25 = _ := h25
      have g26 : f 26 = _ := h26
      have g27 : f 27 = _ := h27
      have g28 : f 28 = _ := h28
      have g30 : f 30 = _ := h30
      refine tab_plain fun K Q hK => ?_
      simp only [puts, Za, Zb, Zc, Zd, Ze, g31, g29, g0, g1, g2, g3, g4, g5, g6, g7, g8, g9, g10, g11, g12, g13, g14, g15, g16, g17, g18, g19, g20, g21, g22, g23, g24, g25, g26, g27, g28, g30]
      go_step
      exact fam_e hK rfl rfl (Below.refl _ _) hC
    case e1rest =>
     intro f WE hC hh
     obtain ⟨h0, h1, h2, h3, h4, h5, h6, h7, h8, h9, h10, h11, h12, h13, h14, h15, h16, h17, h18, h19, h20, h21, h22, h23, h24, h25, h26, h27, h28, h29, h30, h31, h32, -⟩ := hh
     have g0 : f 0 = _ := h0
     have g1 : f 1 = _ := h1
     have g2 : f 2 = _ := h2
     have g3 : f 3 = _ := h3
     have g4 : f 4 = _ := h4
     have g5 : f 5 = _ := h5
     have g6 : f 6 = _ := h6
     have g7 : f 7 = _ := h7
     have g8 : f 8 = _ := h8
     have g9 : f 9 = _ := h9
     have g10 : f 10 = _ := h10
     have g11 : f 11 = _ := h11
     have g12 : f 12 = _ := h12
     have g13 : f 13 = _ := h13
     have g14 : f 14 = _ := h14
     have g15 : f 15 = _ := h15
     have g16 : f 16 = _ := h16
     have g17 : f 17 = _ := h17
     have g18 : f 18 = _ := h18
     have g19 : f 19 = _ := h19
     obtain ⟨y20, g20, s20⟩ := h20
     have g21 : f 21 = _ := h21
     have g22 : f 22 = _ := h22
     have g23 : f 23 = _ := h23
     have g24 : f 24 = _ := h24
     have g25 : f 25 = _ := h25
     have g26 : f 26 = _ := h26
     have g27 : f 27 = _ := h27
     have g28 : f 28 = _ := h28
     have g29 : f 29 = _ := h29
     have g30 : f 30 = _ := h30
     have g31 : f 31 = _ := h31
     have g32 : f 32 = _ := h32
     simp only [puts, Za, Zb, Zc, Zd, Ze, g0, g1, g2, g3, g4, g5, g6, g7, g8, g9, g10, g11, g12, g13, g14, g15, g16, g17, g18, g19, g20, g21, g22, g23, g24, g25, g26, g27, g28, g29, g30, g31, g32]
     clear h0 h1 h2 h3 h4 h5 h6 h7 h8 h9 h10 h11 h12 h13 h14 h15 h16 h17 h18 h19 h21 h22 h23 h24 h25 h26 h27 h28 h29 h30 h31 h32 g0 g1 g2 g3 g4 g5 g6 g7 g8 g9 g10 g11 g12 g13 g14 g15 g16 g17 g18 g19 g21 g22 g23 g24 g25 g26 g27 g28 g29 g30 g31 g32
     have hb := hC
     clear hC
     replace c01 := cell_later hb c01
     replace c02 := cell_later hb c02
     replace c03 := cell_later hb c03
     replace c04 := cell_later hb c04
     replace c11 := cell_later hb c11
     replace c12 := cell_later hb c12
     replace c13 := cell_later hb c13
     replace c14 := cell_later hb c14
     replace cr1 := cell_later hb cr1
     replace cr2 := cell_later hb cr2
     replace cr3 := cell_later hb cr3
     replace cr4 := cell_later hb cr4
     replace cq1 := cell_later hb cq1
     replace cq2 := cell_later hb cq2
     replace cq3 := cell_later hb cq3
     replace cq4 := cell_later hb cq4
     replace ia := ia.later hb
     replace ib := ib.later hb
     replace s9 := s9.later hb
     replace iJ := iJ.later hb
     replace ir := ir.later hb
     replace iq := iq.later hb
     replace HB := HB.trans (hb.mono HB.size)
     clear hb
     go_wp2_with (fail)
     go_ret
     exact ⟨rfl, HB⟩
   ·skip
    refine wp_region_grow mixed (by kernel_rfl) [[], [], [(0, 55), (1, 56)], [(2, 57)], [(3, 58)], [(3, 58)], [(4, 59), (5, 60), (3, 58)], [(3, 58), (6, 61)], [(7, 62), (3, 58)], [(8, 63)], [(8, 63)], [(9, 64), (10, 65), (8, 63)], [(8, 63), (11, 66)], [(12, 67), (8, 63)], [(13, 68)], [(13, 68)], [(14, 69), (15, 70), (13, 68), (13, 68)], [(13, 68), (16, 71)], [(17, 72), (16, 71)], [(18, 73)], [(19, 74), (18, 73), (18, 73)], [(18, 73)], [(20, 75), (21, 76), (20, 75), (18, 73)], [(18, 73), (22, 77)], [(23, 78), (22, 77)], [(24, 79)], [(25, 80), (24, 79)], [(26, 81), (24, 79), (24, 79)], [(27, 82)], [(28, 83), (27, 82), (27, 82)], [(27, 82), (29, 84), (24, 79)], [(24, 79), (30, 85)], [(31, 86), (29, 84), (0, 55), (1, 56), (2, 57), (3, 58), (4, 59), (5, 60), (6, 61), (7, 62), (8, 63), (9, 64), (10, 65), (11, 66), (12, 67), (13, 68), (14, 69), (15, 70), (16, 71), (17, 72), (18, 73), (19, 74), (20, 75), (21, 76), (22, 77), (23, 78), (24, 79), (25, 80), (26, 81), (27, 82), (28, 83), (29, 84), (30, 85), (31, 86)]] [(0, 55), (1, 56), (2, 57), (3, 58), (4, 59), (5, 60), (6, 61), (7, 62), (8, 63), (9, 64), (10, 65), (11, 66), (12, 67), (13, 68), (14, 69), (15, 70), (16, 71), (17, 72), (18, 73), (19, 74), (20, 75), (21, 76), (22, 77), (23, 78), (24, 79), (25, 80), (26, 81), (27, 82), (28, 83), (29, 84), (30, 85), (31, 86), (32, 4)] rfl rfl [Ex ?ee20, Ex ?ee21, Ex ?ee22, Ex ?ee23, Ex ?ee24, Ex ?ee25, Ex ?ee26, Ex ?ee27, Ex ?ee28, Ex ?ee29, Ex ?ee210, Ex ?ee211, Ex ?ee212, Ex ?ee213, Ex ?ee214, Ex ?ee215, Ex (.bool true), Ex ?ee217, Ex ?ee218, Ex ?ee219, DfP P, Ex ?ee221, Ex (.bool true), Ex ?ee223, Ex ?ee224, Ex ?ee225, Ex ?ee226, Ex ?ee227, Ex undef, Ex undef, Ex ?ee230, Ex ?ee231, Ex ?ee232] ⟨stays_ex _, stays_ex _, stays_ex _, stays_ex _, stays_ex _, stays_ex _, stays_ex _, stays_ex _, stays_ex _, stays_ex _, stays_ex _, stays_ex _, stays_ex _, stays_ex _, stays_ex _, stays_ex _, stays_ex _, stays_ex _, stays_ex _, stays_ex _, stays_df _, stays_ex _, stays_ex _, stays_ex _, stays_ex _, stays_ex _, stays_ex _, stays_ex _, stays_ex _, stays_ex _, stays_ex _, stays_ex _, stays_ex _, trivial⟩ ?e2steps ?e2rest
    case e2steps =>
     refine ⟨fun f W hC hh => ?_, fun f W hC hh => ?_, fun f W hC hh => ?_, fun f W hC hh => ?_, fun f W hC hh => ?_, fun f W hC hh => ?_, fun f W hC hh => ?_, fun f W hC hh => ?_, fun f W hC hh => ?_, fun f W hC hh => ?_, fun f W hC hh => ?_, fun f W hC hh => ?_, fun f W hC hh => ?_, fun f W hC hh => ?_, fun f W hC hh => ?_, fun f W hC hh => ?_, fun f W hC hh => ?_, fun f W hC hh => ?_, fun f W hC hh => ?_, fun f W hC hh => ?_, fun f W hC hh => ?_, fun f W hC hh => ?_, fun f W hC hh => ?_, fun f W hC hh => ?_, fun f W hC hh => ?_, fun f W hC hh => ?_, fun f W hC hh => ?_, fun f W hC hh => ?_, fun f W hC hh => ?_, fun f W hC hh => ?_, fun f W hC hh => ?_, fun f W hC hh => ?_, fun f W hC hh => ?_, trivial⟩
     ·
      refine tab_plain fun K Q hK => ?_
      simp only [puts, foldr_nil]
      go_step
      exact fam_e hK rfl rfl (Below.refl _ _) hC
     ·
      refine tab_plain fun K Q hK => ?_
      simp only [puts, foldr_nil]
      go_step
      exact fam_e hK rfl rfl (Below.refl _ _) hC
     ·
      obtain ⟨h0, h1, -⟩ := hh
      have g0 : f 0 = _ := h0
      have g1 : f 1 = _ := h1
      refine tab_plain fun K Q hK => ?_
      simp only [puts, Za, Zb, Zc, Zd, Ze, g0, g1]
      go_step
      exact fam_e hK rfl rfl (Below.refl _ _) hC
     ·
      obtain ⟨h2, -⟩ := hh
      have g2 : f 2 = _ := h2
      refine tab_plain fun K Q hK => ?_
      simp only [puts, Za, Zb, Zc, Zd, Ze, g2]
      go_step
      exact fam_e hK rfl rfl (Below.refl _ _) hC
     ·
      obtain ⟨h3, -⟩ := hh
      have g3 : f 3 = _ := h3
      refine tab_yes g3 fun K Q hK => ?_
      simp only [puts, Za, Zb, Zc, Zd, Ze, g3]
      go_step
      exact fam_e hK rfl rfl (Below.refl _ _) hC
     ·
      obtain ⟨h3, -⟩ := hh
      have g3 : f 3 = _ := h3
      refine tab_yes g3 fun K Q hK => ?_
      simp only [puts, Za, Zb, Zc, Zd, Ze, g3]
      go_step
      exact fam_e hK rfl rfl (Below.refl _ _) hC
     ·
      obtain ⟨h4, h5, h3, -⟩ := hh
      have g4 : f 4 = _ := h4
      have g5 : f 5 = _ := h5
      have g3 : f 3 = _ := h3
      refine tab_yes g3 fun K Q hK => ?_
      simp only [puts, Za, Zb, Zc, Zd, Ze, g4, g5, g3]
      go_step
      exact fam_e hK rfl rfl (Below.refl _ _) hC
     ·
      obtain ⟨h3, h6, -⟩ := hh
      have g3 : f 3 = _ := h3
      have g6 : f 6 = _ := h6
      refine tab_plain fun K Q hK => ?_
      simp only [puts, Za, Zb, Zc, Zd, Ze, g3, g6]
      go_step
      exact fam_e hK rfl rfl (Below.refl _ _) hC
     ·
      obtain ⟨h7, h3, -⟩ := hh
      have g7 : f 7 = _ := h7
      have g3 : f 3 = _ := h3
      refine tab_plain fun K Q hK => ?_
      simp only [puts, Za, Zb, Zc, Zd, Ze, g7, g3]
      go_step
      exact fam_e hK rfl rfl (Below.refl _ _) hC
     ·
      obtain ⟨h8, -⟩ := hh
      have g8 : f 8 = _ := h8
      refine tab_yes g8 fun K Q hK => ?_
      simp only [puts, Za, Zb, Zc, Zd, Ze, g8]
      go_step
      exact fam_e hK rfl rfl (Below.refl _ _) hC
     ·
      obtain ⟨h8, -⟩ := hh
      have g8 : f 8 = _ := h8
      refine tab_yes g8 fun K Q hK => ?_
      simp only [puts, Za, Zb, Zc, Zd, Ze, g8]
      go_step
      exact fam_e hK rfl rfl (Below.refl _ _) hC
     ·
      obtain ⟨h9, h10, h8, -⟩ := hh
      have g9 : f 9 = _ := h9
      have g10 : f 10 = _ := h10
      have g8 : f 8 = _ := h8
      refine tab_yes g8 fun K Q hK => ?_
      simp only [puts, Za, Zb, Zc, Zd, Ze, g9, g10, g8]
      go_step
      exact fam_e hK rfl rfl (Below.refl _ _) hC
     ·
      obtain ⟨h8, h11, -⟩ := hh
      have g8 : f 8 = _ := h8
      have g11 : f 11 = _ := h11
      refine tab_plain fun K Q hK => ?_
      simp only [puts, Za, Zb, Zc, Zd, Ze, g8, g11]
      go_step
      exact fam_e hK rfl rfl (Below.refl _ _) hC
     ·
      obtain ⟨h12, h8, -⟩ := hh
      have g12 : f 12 = _ := h12
      have g8 : f 8 = _ := h8
      refine tab_plain fun K Q hK => ?_
      simp only [puts, Za, Zb, Zc, Zd, Ze, g12, g8]
      go_step
      exact fam_e hK rfl rfl (Below.refl _ _) hC
     ·
      obtain ⟨h13, -⟩ := hh
      have g13 : f 13 = _ := h13
      refine tab_yes g13 fun K Q hK => ?_
      simp only [puts, Za, Zb, Zc, Zd, Ze, g13]
      go_step
      exact fam_e hK rfl rfl (Below.refl _ _) hC
     ·
      obtain ⟨h13, -⟩ := hh
      have g13 : f 13 = _ := h13
      refine tab_yes g13 fun K Q hK => ?_
      simp only [puts, Za, Zb, Zc, Zd, Ze, g13]
      go_step
      exact fam_e hK rfl rfl (Below.refl _ _) hC
     ·
      obtain ⟨h14, h15, h13, _, -⟩ := hh
      have g14 : f 14 = _ := h14
      have g15 : f 15 = _ := h15
      have g13 : f 13 = _ := h13
      refine tab_yes g13 fun K Q hK => ?_
      simp only [puts, Za, Zb, Zc, Zd, Ze, g14, g15, g13]
      go_step
      go_at_call 34
      have hs := same_any _ _ _ _ _ _ _ _ W (s9.later hC) (iJ.later hC) (by have := HRL.out; omega)
      rw [decide_eq_true (rfl : r = r)] at hs
      refine hs.mono ?_
      rintro e w' ⟨rfl, hb⟩
      exact fam_fin hK rfl rfl hb (hC.trans (hb.mono hC.size))
     ·
      obtain ⟨h13, h16, -⟩ := hh
      have g13 : f 13 = _ := h13
      have g16 : f 16 = _ := h16
      refine tab_plain fun K Q hK => ?_
      simp only [puts, Za, Zb, Zc, Zd, Ze, g13, g16]
      go_step
      exact fam_e hK rfl rfl (Below.refl _ _) hC
     ·
      obtain ⟨h17, h16, -⟩ := hh
      have g17 : f 17 = _ := h17
      have g16 : f 16 = _ := h16
      refine tab_plain fun K Q hK => ?_
      simp only [puts, Za, Zb, Zc, Zd, Ze, g17, g16]
      go_step
      exact fam_e hK rfl rfl (Below.refl _ _) hC
     ·
      obtain ⟨h18, -⟩ := hh
      have g18 : f 18 = _ := h18
      refine tab_yes g18 fun K Q hK => ?_
      simp only [puts, Za, Zb, Zc, Zd, Ze, g18]
      have mr1 := cell_later hC cr1
      have mr2 := cell_later hC cr2
      have mr3 := cell_later hC cr3
      have mr4 := cell_later hC cr4
      go_step
      exact fam_e hK rfl rfl (Below.refl _ _) hC
     ·
      obtain ⟨h19, h18, _, -⟩ := hh
      have g19 : f 19 = _ := h19
      have g18 : f 18 = _ := h18
      refine tab_yes g18 fun K Q hK => ?_
      simp only [puts, Za, Zb, Zc, Zd, Ze, g19, g18]
      go_step
      go_at_call 21
      refine (theirs_any (ir.later hC) hpl).mono ?_
      rintro e w' ⟨⟨hy, rfl, iy⟩, hb⟩
      exact fam_fin hK rfl ⟨hy, rfl, iy⟩ hb (hC.trans (hb.mono hC.size))
     ·
      obtain ⟨h18, -⟩ := hh
      have g18 : f 18 = _ := h18
      refine tab_yes g18 fun K Q hK => ?_
      simp only [puts, Za, Zb, Zc, Zd, Ze, g18]
      have mq1 := cell_later hC cq1
      have mq2 := cell_later hC cq2
      have mq3 := cell_later hC cq3
      have mq4 := cell_later hC cq4
      go_step
      exact fam_e hK rfl rfl (Below.refl _ _) hC
     ·
      obtain ⟨h20, h21, _, h18, -⟩ := hh
      obtain ⟨y20, g20, s20⟩ := h20
      have g21 : f 21 = _ := h21
      have g18 : f 18 = _ := h18
      refine tab_yes g18 fun K Q hK => ?_
      simp only [puts, Za, Zb, Zc, Zd, Ze, g20, g21, g18]
      go_step
      go_at_call 20
      have hs := refSame_any s20 (iq.later hC)
      rw [E1.out] at hs
      refine hs.mono ?_
      rintro e w' ⟨rfl, hb⟩
      exact fam_fin hK rfl rfl hb (hC.trans (hb.mono hC.size))
     ·
      obtain ⟨h18, h22, -⟩ := hh
      have g18 : f 18 = _ := h18
      have g22 : f 22 = _ := h22
      refine tab_plain fun K Q hK => ?_
      simp only [puts, Za, Zb, Zc, Zd, Ze, g18, g22]
      go_step
      exact fam_e hK rfl rfl (Below.refl _ _) hC
     ·
      obtain ⟨h23, h22, -⟩ := hh
      have g23 : f 23 = _ := h23
      have g22 : f 22 = _ := h22
      refine tab_plain fun K Q hK => ?_
      simp only [puts, Za, Zb, Zc, Zd, Ze, g23, g22]
      go_step
      exact fam_e hK rfl rfl (Below.refl _ _) hC
     ·
      obtain ⟨h24, -⟩ := hh
      have g24 : f 24 = _ := h24
      refine tab_yes g24 fun K Q hK => ?_
      simp only [puts, Za, Zb, Zc, Zd, Ze, g24]
      go_step
      exact fam_e hK rfl rfl (Below.refl _ _) hC
     ·
      obtain ⟨h25, h24, -⟩ := hh
      have g25 : f 25 = _ := h25
      have g24 : f 24 = _ := h24
      refine tab_yes g24 fun K Q hK => ?_
      simp only [puts, Za, Zb, Zc, Zd, Ze, g25, g24]
      go_step
      exact fam_e hK rfl rfl (Below.refl _ _) hC
     ·
      obtain ⟨h26, h24, _, -⟩ := hh
      have g26 : f 26 = _ := h26
      have g24 : f 24 = _ := h24
      refine tab_yes g24 fun K Q hK => ?_
      simp only [puts, Za, Zb, Zc, Zd, Ze, g26, g24]
      go_step
      exact fam_e hK rfl rfl (Below.refl _ _) hC
     ·
      obtain ⟨h27, -⟩ := hh
      have g27 : f 27 = _ := h27
      exact tab_no rfl g27 (by decide) rfl
     ·
      obtain ⟨h28, h27, _, -⟩ := hh
      have g28 : f 28 = _ := h28
      have g27 : f 27 = _ := h27
      exact tab_no rfl g27 (by decide) rfl
     ·
      obtain ⟨h27, h29, h24, -⟩ := hh
      have g27 : f 27 = _ := h27
      have g29 : f 29 = _ := h29
      have g24 : f 24 = _ := h24
      refine tab_yes g24 fun K Q hK => ?_
      simp only [puts, Za, Zb, Zc, Zd, Ze, g27, g29, g24]
      go_step
      exact fam_e hK rfl rfl (Below.refl _ _) hC
     ·
      obtain ⟨h24, h30, -⟩ := hh
      have g24 : f 24 = _ := h24
      have g30 : f 30 = _ := h30
      refine tab_plain fun K Q hK => ?_
      simp only [puts, Za, Zb, Zc, Zd, Ze, g24, g30]
      go_step
      exact fam_e hK rfl rfl (Below.refl _ _) hC
     ·
      obtain ⟨h31, h29, h0, h1, h2, h3, h4, h5, h6, h7, h8, h9, h10, h11, h12, h13, h14, h15, h16, h17, h18, h19, h20, h21, h22, h23, h24, h25, h26, h27, h28, _, h30, _, -⟩ := hh
      have g31 : f 31 = _ := h31
      have g29 : f 29 = _ := h29
      have g0 : f 0 = _ := h0
      have g1 : f 1 = _ := h1
      have g2 : f 2 = _ := h2
      have g3 : f 3 = _ := h3
      have g4 : f 4 = _ := h4
      have g5 : f 5 = _ := h5
      have g6 : f 6 = _ := h6
      have g7 : f 7 = _ := h7
      have g8 : f 8 = _ := h8
      have g9 : f 9 = _ := h9
      have g10 : f 10 = _ := h10
      have g11 : f 11 = _ := h11
      have g12 : f 12 = _ := h12
      have g13 : f 13 = _ := h13
      have g14 : f 14 = _ := h14
      have g15 : f 15 = _ := h15
      have g16 : f 16 = _ := h16
      have g17 : f 17 = _ := h17
      have g18 : f 18 = _ := h18
      have g19 : f 19 = _ := h19
      obtain ⟨y20, g20, s20⟩ := h20
      have g21 : f 21 = _ := h21
      have g22 : f 22 = _ := h22
      have g23 : f 23 = _ := h23
      have g24 : f 24 = _ := h24
      have g25 : f 25 = _ := h25
      have g26 : f 26 = _ := h26
      have g27 : f 27 = _ := h27
      have g28 : f 28 = _ := h28
      have g30 : f 30 = _ := h30
      refine tab_plain fun K Q hK => ?_
      simp only [puts, Za, Zb, Zc, Zd, Ze, g31, g29, g0, g1, g2, g3, g4, g5, g6, g7, g8, g9, g10, g11, g12, g13, g14, g15, g16, g17, g18, g19, g20, g21, g22, g23, g24, g25, g26, g27, g28, g30]
      go_step
      exact fam_e hK rfl rfl (Below.refl _ _) hC
    case e2rest =>
     intro f WE hC hh
     obtain ⟨h0, h1, h2, h3, h4, h5, h6, h7, h8, h9, h10, h11, h12, h13, h14, h15, h16, h17, h18, h19, h20, h21, h22, h23, h24, h25, h26, h27, h28, h29, h30, h31, h32, -⟩ := hh
     have g0 : f 0 = _ := h0
     have g1 : f 1 = _ := h1
     have g2 : f 2 = _ := h2
     have g3 : f 3 = _ := h3
     have g4 : f 4 = _ := h4
     have g5 : f 5 = _ := h5
     have g6 : f 6 = _ := h6
     have g7 : f 7 = _ := h7
     have g8 : f 8 = _ := h8
     have g9 : f 9 = _ := h9
     have g10 : f 10 = _ := h10
     have g11 : f 11 = _ := h11
     have g12 : f 12 = _ := h12
     have g13 : f 13 = _ := h13
     have g14 : f 14 = _ := h14
     have g15 : f 15 = _ := h15
     have g16 : f 16 = _ := h16
     have g17 : f 17 = _ := h17
     have g18 : f 18 = _ := h18
     have g19 : f 19 = _ := h19
     obtain ⟨y20, g20, s20⟩ := h20
     have g21 : f 21 = _ := h21
     have g22 : f 22 = _ := h22
     have g23 : f 23 = _ := h23
     have g24 : f 24 = _ := h24
     have g25 : f 25 = _ := h25
     have g26 : f 26 = _ := h26
     have g27 : f 27 = _ := h27
     have g28 : f 28 = _ := h28
     have g29 : f 29 = _ := h29
     have g30 : f 30 = _ := h30
     have g31 : f 31 = _ := h31
     have g32 : f 32 = _ := h32
     simp only [puts, Za, Zb, Zc, Zd, Ze, g0, g1, g2, g3, g4, g5, g6, g7, g8, g9, g10, g11, g12, g13, g14, g15, g16, g17, g18, g19, g20, g21, g22, g23, g24, g25, g26, g27, g28, g29, g30, g31, g32]
     clear h0 h1 h2 h3 h4 h5 h6 h7 h8 h9 h10 h11 h12 h13 h14 h15 h16 h17 h18 h19 h21 h22 h23 h24 h25 h26 h27 h28 h29 h30 h31 h32 g0 g1 g2 g3 g4 g5 g6 g7 g8 g9 g10 g11 g12 g13 g14 g15 g16 g17 g18 g19 g21 g22 g23 g24 g25 g26 g27 g28 g29 g30 g31 g32
     have hb := hC
     clear hC
     replace c01 := cell_later hb c01
     replace c02 := cell_later hb c02
     replace c03 := cell_later hb c03
     replace c04 := cell_later hb c04
     replace c11 := cell_later hb c11
     replace c12 := cell_later hb c12
     replace c13 := cell_later hb c13
     replace c14 := cell_later hb c14
     replace cr1 := cell_later hb cr1
     replace cr2 := cell_later hb cr2
     replace cr3 := cell_later hb cr3
     replace cr4 := cell_later hb cr4
     replace cq1 := cell_later hb cq1
     replace cq2 := cell_later hb cq2
     replace cq3 := cell_later hb cq3
     replace cq4 := cell_later hb cq4
     replace ia := ia.later hb
     replace ib := ib.later hb
     replace s9 := s9.later hb
     replace iJ := iJ.later hb
     replace ir := ir.later hb
     replace iq := iq.later hb
     replace HB := HB.trans (hb.mono HB.size)
     clear hb
     go_wp2_with (fail)
     go_ret
     exact ⟨rfl, HB⟩
theorem dfaPairs_top (a : Dfa) (h : DH) (b : Dfa) (k : DH) (w : World) (ia : IsDfa w h a) (ib : IsDfa w k b) :
  Calls Try.prog 10 #[vDf a h, vDf b k] w fun e w' => e = .returned (.bool true) ∧ Below w.heap.size w w' := dfaPairs_walk a h b k w ia ib
end Go.Proofs.Ytpcbmhfnefhenaa
