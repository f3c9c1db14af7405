import Derived.Test.YtimboglagjbdjaaDoorMG29
import Derived.Test.YtimboglagjbdjaaDoorMG41
/-
  NfaRe, NfaRdp
-/
set_option linter.unusedSimpArgs false
set_option linter.unusedVariables false
namespace Go.Proofs.YtimboglagjbdjaaDoor
open Go.RowKit
attribute [local go_sem] Oper.semAt_some

theorem finL_at {fin : List Bool} {S : List Int} {k : Nat} (hk : k < S.length) (h : gb fin (gi S k).toNat = true) : finL fin S = true := finL_iff.2 ⟨gi S k, gi_mem _ _ hk, h⟩
theorem finL_none {fin : List Bool} {S : List Int} (h : ∀ k, k < S.length → gb fin (gi S k).toNat = false) : finL fin S = false := by
 cases e : finL fin S with
 | false => rfl
 | true =>
  obtain ⟨z, hz, hg⟩ := finL_iff.1 e
  obtain ⟨i, hi, rfl⟩ := List.getElem_of_mem hz
  have := h i hi
  rw [gi_eq _ _ hi, hg] at this
  cases this
set_option maxRecDepth 20000 in
set_option maxHeartbeats 4000000 in
theorem refFinal_any {a : Nfa} {h : NH} {w : World} {aq : Option Addr} {lq cq : Nat} {S : List Int} (hv : ValidN a) (hd : IsNfa w h a) (hq : IsInts .i64 w aq lq cq S) (hz : Bd a.n S) :
  Calls Tryd.prog 25 #[vNf a h, .slice aq lq cq] w fun e w' => e = .returned (.bool (finL a.fin S)) ∧ Below w.heap.size w w' := by
 obtain ⟨V, hV⟩ : ∃ V, finL a.fin S = V := ⟨_, rfl⟩
 rw [hV]
 have HYES : Hid (∀ k, k < S.length → gb a.fin (gi S k).toNat = true → true = V) := Lib.hid fun k hk hn => by rw [← hV, finL_at hk hn]
 have HNO : Hid ((∀ k, k < S.length → gb a.fin (gi S k).toNat = false) → false = V) := Lib.hid fun hy => by rw [← hV, finL_none hy]
 obtain ⟨W1, hW1, hs1, hb1, hO⟩ := boxRN a h w hd
 have HQL := Lib.hid hq.length
 have hqc := hq.cap
 unfold maxLen at hqc
 have hfl : (h.fl : Int) = a.n := by
  have h1 := hd.2.length
  have h2 := hv.2.1
  omega
 have HFL := Lib.hid hfl
 have HZ := Lib.hid hz
 have HO := Lib.hid hO
 have HB1 := Lib.hid hb1
 have HS1 := Lib.hid hs1
 unfold vNf
 clear hO hd hV hb1 hz hfl hv
 go_enter Tryd.func25, Tryd.ntmps25
 go_wp2_with (fail)
 clear hW1
 go_loopw [5] (fun c W => ∃ k : Nat, k ≤ lq ∧ c = .int .i64 (k : Int) ∧ Hid (∀ i, i < k → gb a.fin (gi S i).toNat = false) ∧ Below (w.heap.size + 1) W1 W) (fun c _ => lq - (intOf c).toNat)
 case atStart => exact ⟨0, Nat.zero_le _, rfl, Lib.hid (fun i hi => by omega), Below.refl _ _⟩
 case round =>
  obtain ⟨k, hk, rfl, HA, hb⟩ := hrel
  have hbW : Below w.heap.size w wr := HB1.out.trans (hb.mono (by omega))
  obtain ⟨⟨e1, e2, e3, e4⟩, hdr, -⟩ := HO.out wr hb
  have hsz : w.heap.size + 1 ≤ wr.heap.size := by have := hb.size; have := HS1.out; omega
  rcases Nat.lt_or_ge k lq with hlt | hge
  ·have t1 : decide (k < lq) = true := decide_eq_true hlt
   obtain ⟨bs, os, rfl, hbl, hc⟩ := hq.at wr hbW k hlt
   have hzb := HZ.out (gi S k) (gi_mem _ _ (by rw [HQL.out]; exact hlt))
   obtain ⟨z, hz⟩ : ∃ z, gi S k = z := ⟨_, rfl⟩
   rw [hz] at hc hzb
   obtain ⟨z, rfl⟩ := Int.eq_ofNat_of_zero_le hzb.1
   have hzl : z < h.fl := by have := HFL.out; have := hzb.2; omega
   obtain ⟨bf, of, hfa, hfc⟩ := hdr.2.fix (by omega)
   have x1 := hfc wr (Below.refl _ _) z hzl
   rw [hfa] at e3
   have HZZ := Lib.hid hz
   have HBW := Lib.hid hbW
   have HB := Lib.hid hb
   clear hz hb hbW hdr hfc hfa hzb
   go_upto_region 4 with (fail)
   cases hg : gb a.fin z with
   | true =>
    rw [hg] at x1
    have HN : Hid (true = V) := Lib.hid (HYES.out k (by rw [HQL.out]; exact hlt) (by rw [HZZ.out]; exact hg))
    clear hg
    go_quiet (fail)
    go_wp2_with (fail)
    go_ret
    exact ⟨by rw [← HN.out]; rfl, HBW.out.trans ((below_drew_n wr nq).mono HBW.out.size)⟩
   | false =>
    rw [hg] at x1
    have HS : Hid (∀ i, i < k + 1 → gb a.fin (gi S i).toNat = false) := Lib.hid fun i hi => by
     rcases Nat.lt_or_ge i k with h1 | h1
     ·exact HA.out i h1
     ·rw [show i = k by omega, HZZ.out]; exact hg
    clear hg
    go_quiet (fail)
    go_wp2_with (fail)
    go_roundw
    case rel => exact ⟨k + 1, hlt, by go_num, HS, HB.out.trans ((below_drew_n wr nq).mono hsz)⟩
    case measure => simp [intOf]; omega
  ·have t1 : decide (k < lq) = false := decide_eq_false (by omega)
   have HY : Hid (false = V) := Lib.hid (HNO.out fun i hi => HA.out i (by rw [HQL.out] at hi; omega))
   go_wp2_with (fail)
   go_ret
   exact ⟨by rw [← HY.out]; rfl, hbW⟩
def fndL (Q : List (List Int)) (S : List Int) : Int := if S ∈ Q then ((Q.idxOf S : Nat) : Int) else -1
theorem fndL_at {Q : List (List Int)} {S : List Int} {k : Nat} (hk : k < Q.length) (h : gwl Q k = S) (hno : ∀ i, i < k → gwl Q i ≠ S) : fndL Q S = k := by
 have hm : S ∈ Q := by rw [← h]; exact gwl_mem hk
 unfold fndL
 rw [if_pos hm]
 have h1 := List.idxOf_lt_length_of_mem hm
 have h2 : gwl Q (Q.idxOf S) = S := by rw [gwl_eq _ _ h1]; exact List.getElem_idxOf h1
 have h3 : Q.idxOf S ≤ k := by
  rcases Nat.lt_or_ge k (Q.idxOf S) with h4 | h4
  ·exact absurd (List.not_of_lt_findIdx (xs := Q) (p := fun y => y == S) (by exact h4)) (by rw [← gwl_eq _ _ hk, h]; simp)
  ·exact h4
 rcases Nat.lt_or_ge (Q.idxOf S) k with h4 | h4
 ·exact absurd h2 (hno _ h4)
 ·have : Q.idxOf S = k := by omega
  rw [this]
theorem fndL_no {Q : List (List Int)} {S : List Int} (hno : ∀ i, i < Q.length → gwl Q i ≠ S) : fndL Q S = -1 := by
 unfold fndL
 rw [if_neg]
 intro hm
 obtain ⟨i, hi, e⟩ := List.getElem_of_mem hm
 exact hno i hi (by rw [gwl_eq _ _ hi, e])
set_option maxRecDepth 20000 in
set_option maxHeartbeats 4000000 in
theorem refFindS_any {w : World} {a aq : Option Addr} {n cap lq cq : Nat} {Q : List (List Int)} {S : List Int} (hQ : IsWs w a n cap Q) (hs : IsInts .i64 w aq lq cq S) (hn : n ≤ 2000) (hl : ∀ i, i < n → (gwl Q i).length ≤ 5000) :
  Calls Tryd.prog 27 #[.slice a n cap, .slice aq lq cq] w fun e w' => e = .returned (.int .i64 (fndL Q S)) ∧ Below w.heap.size w w' := by
 obtain ⟨V, hV⟩ : ∃ V, fndL Q S = V := ⟨_, rfl⟩
 rw [hV]
 have HYES : Hid (∀ k, k < n → gwl Q k = S → (∀ i, i < k → gwl Q i ≠ S) → (k : Int) = V) := Lib.hid fun k hk h1 h2 => by rw [← hV, fndL_at (by rw [hQ.length]; exact hk) h1 h2]
 have HNO : Hid ((∀ k, k < n → gwl Q k ≠ S) → -1 = V) := Lib.hid fun hy => by rw [← hV, fndL_no (by rw [hQ.length]; exact hy)]
 have HQ := Lib.hid hQ
 have HSS := Lib.hid hs
 have HL := Lib.hid hl
 clear hV hQ hs hl
 go_enter Tryd.func27, Tryd.ntmps27
 go_wp2_with (fail)
 go_loopw [5] (fun c W => ∃ k : Nat, k ≤ n ∧ c = .int .i64 (k : Int) ∧ Hid (∀ i, i < k → gwl Q i ≠ S) ∧ Below w.heap.size w W) (fun c _ => n - (intOf c).toNat)
 case atStart => exact ⟨0, Nat.zero_le _, rfl, Lib.hid (fun i hi => by omega), Below.refl _ _⟩
 case round =>
  obtain ⟨k, hk, rfl, HA, hb⟩ := hrel
  rcases Nat.lt_or_ge k n with hlt | hge
  ·have t1 : decide (k < n) = true := decide_eq_true hlt
   obtain ⟨b, off, x, c, rfl, x1, x2⟩ := (HQ.out.later hb).at hlt
   have hsm := Bt.same_any _ _ _ _ _ _ _ _ wr x2 (HSS.out.later hb) (by have := HL.out k hlt; omega)
   have HB := Lib.hid hb
   clear hb x2
   by_cases he : gwl Q k = S
   ·rw [decide_eq_true he] at hsm
    have HN := Lib.hid (HYES.out k hlt he HA.out)
    clear he
    go_wp2_with (go_at_call 28; refine hsm.mono ?_; rintro e w2 ⟨rfl, hb2⟩)
    go_ret
    exact ⟨by rw [← HN.out]; rfl, HB.out.trans (hb2.mono HB.out.size)⟩
   ·rw [decide_eq_false he] at hsm
    have HS : Hid (∀ i, i < k + 1 → gwl Q i ≠ S) := Lib.hid fun i hi => by
     rcases Nat.lt_or_ge i k with h1 | h1
     ·exact HA.out i h1
     ·rw [show i = k by omega]; exact he
    clear he
    go_wp2_with (go_at_call 28; refine hsm.mono ?_; rintro e w2 ⟨rfl, hb2⟩)
    go_roundw
    case rel => exact ⟨k + 1, hlt, by go_num, HS, HB.out.trans (hb2.mono HB.out.size)⟩
    case measure => simp [intOf]; omega
  ·have t1 : decide (k < n) = false := decide_eq_false (by omega)
   have HY : Hid (-1 = V) := Lib.hid (HNO.out fun i hi => HA.out i (by omega))
   go_wp2_with (fail)
   go_ret
   exact ⟨by rw [← HY.out]; rfl, hb⟩
end Go.Proofs.YtimboglagjbdjaaDoor

set_option linter.unusedVariables false
namespace Go.Proofs.YtimboglagjbdjaaDoor

theorem gwl_gw (l : List (List Int)) (i : Nat) : gwl l i = gw l i := rfl
theorem rq1_nil {ar : List A3} {S : List Int} {k : Nat} {st : Bq (List Int)} {c : Int} (h : movL ar S c = []) : rq1 ar S k st c = st := by unfold rq1; rw [if_pos h]
theorem beq_one {α : Type} (i1 i2 : BEq α) (h1 : @LawfulBEq α i1) (h2 : @LawfulBEq α i2) : i1 = i2 := by
 obtain ⟨b1⟩ := i1
 obtain ⟨b2⟩ := i2
 congr 1
 funext x y
 have e1 : b1 x y = true ↔ x = y := @beq_iff_eq α ⟨b1⟩ h1 x y
 have e2 : b2 x y = true ↔ x = y := @beq_iff_eq α ⟨b2⟩ h2 x y
 rw [Bool.eq_iff_iff, e1, e2]
theorem bq1_old' {h : Nat} {st : Bq (List Int)} {c : Int} {S : List Int} (hm : S ∈ st.q) : (bq1 h st (c, S)).q = st.q ∧ (bq1 h st (c, S)).a = st.a ++ [⟨h, c, fndL st.q S⟩] := by
 unfold bq1 fndL
 simp only
 rw [if_pos hm, if_pos hm]
 refine ⟨rfl, ?_⟩
 congr
 exact beq_one _ _ inferInstance inferInstance
theorem bq1_new_g {α : Type} [DecidableEq α] {h : Nat} {st : Bq α} {c : Int} {S : α} (hm : S ∉ st.q) : (bq1 h st (c, S)).q = st.q ++ [S] ∧ (bq1 h st (c, S)).a = st.a ++ [⟨h, c, ((st.q.length : Nat) : Int)⟩] := by
 unfold bq1
 simp only
 rw [if_neg hm, List.idxOf_eq_length hm]
 exact ⟨rfl, rfl⟩
theorem bq1_new' {h : Nat} {st : Bq (List Int)} {c : Int} {S : List Int} (hm : S ∉ st.q) : (bq1 h st (c, S)).q = st.q ++ [S] ∧ (bq1 h st (c, S)).a = st.a ++ [⟨h, c, ((st.q.length : Nat) : Int)⟩] := bq1_new_g hm
theorem rq1_old {ar : List A3} {S : List Int} {k : Nat} {st : Bq (List Int)} {c : Int} (h : movL ar S c ≠ []) (hm : movL ar S c ∈ st.q) : (rq1 ar S k st c).q = st.q ∧ (rq1 ar S k st c).a = st.a ++ [⟨k, c, fndL st.q (movL ar S c)⟩] := by
 unfold rq1
 rw [if_neg h]
 exact bq1_old' hm
theorem rq1_new {ar : List A3} {S : List Int} {k : Nat} {st : Bq (List Int)} {c : Int} (h : movL ar S c ≠ []) (hm : movL ar S c ∉ st.q) : (rq1 ar S k st c).q = st.q ++ [movL ar S c] ∧ (rq1 ar S k st c).a = st.a ++ [⟨k, c, ((st.q.length : Nat) : Int)⟩] := by
 unfold rq1
 rw [if_neg h]
 exact bq1_new' hm
theorem rq1_len {ar : List A3} {S : List Int} {k : Nat} (st : Bq (List Int)) (c : Int) : st.q.length ≤ (rq1 ar S k st c).q.length ∧ (rq1 ar S k st c).a.length ≤ st.a.length + 1 := by
 by_cases h : movL ar S c = []
 ·rw [rq1_nil h]; omega
 ·by_cases hm : movL ar S c ∈ st.q
  ·rw [(rq1_old h hm).1, (rq1_old h hm).2, List.length_append]; simp
  ·rw [(rq1_new h hm).1, (rq1_new h hm).2, List.length_append, List.length_append]; simp
noncomputable def inK (a : Nfa) (k : Nat) (j : Nat) : Bq (List Int) := ((letL a.arcs).take j).foldl (rq1 a.arcs (gwl (detB a k).q k) k) (detB a k)
theorem inK_zero (a : Nfa) (k : Nat) : inK a k 0 = detB a k := by
 unfold inK
 rw [List.take_zero]
 rfl
theorem inK_succ {a : Nfa} {k j : Nat} (hj : j < (letL a.arcs).length) : inK a k (j + 1) = rq1 a.arcs (gwl (detB a k).q k) k (inK a k j) (gi (letL a.arcs) j) := by
 unfold inK
 rw [take_succ_gi _ _ hj, List.foldl_append, List.foldl_cons, List.foldl_nil]
theorem foldl_len (ar : List A3) (S : List Int) (k : Nat) : ∀ (l : List Int) (st : Bq (List Int)), st.q.length ≤ (l.foldl (rq1 ar S k) st).q.length
 | [], _ => Nat.le_refl _
 | c :: l, st => by
  rw [List.foldl_cons]
  exact Nat.le_trans (rq1_len (ar := ar) (S := S) (k := k) st c).1 (foldl_len ar S k l _)
theorem inK_full {a : Nfa} (hv : ValidN a) {k : Nat} (hk : k < (detB a k).q.length) : inK a k (letL a.arcs).length = detB a (k + 1) := by
 unfold inK
 rw [List.take_length, rqs_eq hv.arcsIn, detB_succ hk, gwl_eq _ _ hk]
theorem inK_le {a : Nfa} (hv : ValidN a) {k j : Nat} (hk : k < (detB a k).q.length) : (inK a k j).q.length ≤ (detB a (k + 1)).q.length := by
 rw [← inK_full hv hk]
 unfold inK
 rw [List.take_length]
 have h : (letL a.arcs).foldl (rq1 a.arcs (gwl (detB a k).q k) k) (detB a k) = ((letL a.arcs).drop j).foldl (rq1 a.arcs (gwl (detB a k).q k) k) (((letL a.arcs).take j).foldl (rq1 a.arcs (gwl (detB a k).q k) k) (detB a k)) := by
  rw [← List.foldl_append, List.take_append_drop]
 rw [h]
 exact foldl_len _ _ _ _ _
theorem inK_alen (a : Nfa) (k : Nat) : ∀ j, j ≤ (letL a.arcs).length → (inK a k j).a.length ≤ (detB a k).a.length + j
 | 0, _ => by rw [inK_zero]; exact Nat.le_refl _
 | j + 1, h => by
  have ih := inK_alen a k j (by omega)
  rw [inK_succ (by omega)]
  have := (rq1_len (ar := a.arcs) (S := gwl (detB a k).q k) (k := k) (inK a k j) (gi (letL a.arcs) j)).2
  omega
theorem letL_len' (ar : List A3) : (letL ar).length ≤ 10001 := by
 unfold letL
 rw [List.length_map]
 exact Nat.le_trans (List.length_filter_le _ _) (by rw [List.length_range]; exact Nat.le_refl _)
theorem inK_in {a : Nfa} (hv : ValidN a) (k j : Nat) : ∀ S ∈ (inK a k j).q, CS a S := by
 have key : ∀ (l : List Int) (st : Bq (List Int)) (S : List Int), (∀ x ∈ st.q, CS a x) → ∀ x ∈ (l.foldl (rq1 a.arcs S k) st).q, CS a x := by
  intro l
  induction l with
  | nil => intro st S h; exact h
  | cons c l ih =>
   intro st S h
   rw [List.foldl_cons]
   refine ih _ S ?_
   by_cases h0 : movL a.arcs S c = []
   ·rw [rq1_nil h0]; exact h
   ·by_cases hm : movL a.arcs S c ∈ st.q
    ·rw [(rq1_old h0 hm).1]; exact h
    ·rw [(rq1_new h0 hm).1]
     intro x hx
     rcases List.mem_append.1 hx with hx | hx
     ·exact h x hx
     ·rw [List.mem_singleton.1 hx]; exact cs_mov hv S c
 exact key _ _ _ (detB_in hv k)
theorem rq1_pre {ar : List A3} {S : List Int} {k : Nat} (st : Bq (List Int)) (c : Int) : st.q <+: (rq1 ar S k st c).q := by
 unfold rq1
 split
 ·exact List.prefix_refl _
 ·exact bq1_pre k st _
theorem inK_pre (a : Nfa) (k j : Nat) : (detB a k).q <+: (inK a k j).q := by
 have key : ∀ (l : List Int) (st : Bq (List Int)) (S : List Int), st.q <+: (l.foldl (rq1 a.arcs S k) st).q := by
  intro l
  induction l with
  | nil => intro st S; exact List.prefix_refl _
  | cons c l ih =>
   intro st S
   rw [List.foldl_cons]
   exact (rq1_pre st c).trans (ih _ S)
 exact key _ _ _
theorem gwl_pre {xs ys : List (List Int)} (h : xs <+: ys) {i : Nat} (hi : i < xs.length) : gwl ys i = gwl xs i := by
 obtain ⟨t, rfl⟩ := h
 exact gw_left hi
theorem rq1_step {ar : List A3} {S : List Int} {k : Nat} {st : Bq (List Int)} {c : Int} (h : movL ar S c ≠ []) : ∃ P : Nat, (rq1 ar S k st c).a = st.a ++ [⟨k, c, (P : Int)⟩] ∧ P < (rq1 ar S k st c).q.length ∧ ((fndL st.q (movL ar S c) = (P : Int) ∧ P < st.q.length ∧ (rq1 ar S k st c).q = st.q) ∨ (fndL st.q (movL ar S c) = -1 ∧ P = st.q.length ∧ (rq1 ar S k st c).q = st.q ++ [movL ar S c])) := by
 by_cases hm : movL ar S c ∈ st.q
 ·obtain ⟨h1, h2⟩ := rq1_old (k := k) h hm
  have h3 : fndL st.q (movL ar S c) = ((st.q.idxOf (movL ar S c) : Nat) : Int) := by unfold fndL; rw [if_pos hm]
  have h4 := List.idxOf_lt_length_of_mem hm
  refine ⟨st.q.idxOf (movL ar S c), by rw [h2, h3], by rw [h1]; exact h4, .inl ⟨h3, h4, h1⟩⟩
 ·obtain ⟨h1, h2⟩ := rq1_new (k := k) h hm
  have h3 : fndL st.q (movL ar S c) = -1 := by unfold fndL; rw [if_neg hm]
  exact ⟨st.q.length, h2, by rw [h1, List.length_append]; simp, .inr ⟨h3, rfl, h1⟩⟩
end Go.Proofs.YtimboglagjbdjaaDoor
