import Derived.Deep.DeepCutAuto
import Derived.Test.YtbjdglopkpigbaaGreatDoorMG29
/-
  DfaS
-/
set_option linter.unusedSimpArgs false
set_option linter.unusedVariables false
namespace Go.Proofs.YtbjdglopkpigbaaGreatDoor
open List (foldr_cons foldr_nil setIfInBounds_toArray set_cons_succ set_cons_zero)
open Go.RowKit
attribute [local go_sem] Oper.semAt_some
variable {d : Dfa} {h : DH} {w : World}
def canPs (gn N bo : Nat) (st : Bq Int) (fs : List Bool) (vq vf va : Value) : List Pc :=
 [.row 3 1 (.slice (some ⟨gn, 0, none⟩) N N) N (ivs .i64 (numL st.q N)), .blk bo #[.int .i64 0, .int .i64 0, vf, va], .row 3 1 vq st.q.length (ivs .i64 st.q), .row 4 1 vf fs.length (bvs fs), .row 49 3 va st.a.length (tvs st.a)]
def canPsX (gn N bo : Nat) (st : Bq Int) (fs : List Bool) (vq vfb vf vab va : Value) : List Pc :=
 [.row 3 1 (.slice (some ⟨gn, 0, none⟩) N N) N (ivs .i64 (numL st.q N)), .blk bo #[.int .i64 0, .int .i64 0, vfb, vab], .row 3 1 vq st.q.length (ivs .i64 st.q), .row 4 1 vf fs.length (bvs fs), .row 49 3 va st.a.length (tvs st.a)]
def canPsY (gn N bo : Nat) (Q : List Int) (A : List A3) (fs : List Bool) (vq vf vab va : Value) (xb : Nat) (cs : Array Value) : List Pc :=
 [.row 3 1 (.slice (some ⟨gn, 0, none⟩) N N) N (ivs .i64 (numL Q N)), .blk bo #[.int .i64 0, .int .i64 0, vf, vab], .row 3 1 vq Q.length (ivs .i64 Q), .row 4 1 vf fs.length (bvs fs), .row 49 3 va A.length (tvs A), .blk xb cs]
theorem Pcs.one {W : World} {B : Nat} {p : Pc} (h : p.At W B) : Pcs W B [p] := by
 refine ⟨fun i q hq => ?_, fun i j q r hne hq hr => ?_⟩
 ·cases i with
  | zero => simp at hq; subst hq; exact h
  | succ i => simp at hq
 ·cases i with
  | zero =>
   cases j with
   | zero => omega
   | succ j => simp at hr
  | succ i => simp at hq
theorem canPs_start {W : World} {B gn N S : Nat} (ho : W.ownsRow B 3 1 (.slice (some ⟨gn, 0, none⟩) N N) N (ivs .i64 (numL [(S : Int)] N))) (hB : B ≤ W.heap.size) :
  Pcs ((W.alloc (.cells #[.int .i64 0, .int .i64 0, .slice none 0 0, .slice none 0 0] 37)).alloc (.cells #[.int .i64 (S : Int)] 3)) B (canPs gn N W.heap.size ⟨[(S : Int)], [[]], []⟩ [] (.slice (some ⟨W.heap.size + 1, 0, none⟩) 1 1) (.slice none 0 0) (.slice none 0 0)) := by
 have h1 := (Pcs.one (p := .row 3 1 (.slice (some ⟨gn, 0, none⟩) N N) N (ivs .i64 (numL [(S : Int)] N))) ho).new hB #[.int .i64 0, .int .i64 0, .slice none 0 0, .slice none 0 0] 37
 obtain ⟨W2, hW2⟩ : ∃ W2, W.alloc (.cells #[.int .i64 0, .int .i64 0, .slice none 0 0, .slice none 0 0] 37) = W2 := ⟨_, rfl⟩
 have hs : W2.heap.size = W.heap.size + 1 := by rw [← hW2]; simp
 rw [hW2] at h1 ⊢
 have hl := World.ownsRow_lit (base := B) (e := 3) (size := 1) W2 #[.int .i64 (S : Int)] 1 (by omega) (by unfold maxLen; omega) rfl
 have h2 := h1.add (.row 3 1 (.slice (some ⟨W2.heap.size, 0, none⟩) 1 1) 1 (ivs .i64 [(S : Int)])) (below_grows ((Below.refl _ _).alloc (Nat.le_refl _) (.cells #[.int .i64 (S : Int)] 3)) none) hl fun k e => by have e : some W2.heap.size = some k := e; injection e with e; omega
 rw [hs] at h2
 exact (h2.empty 4 1).empty 49 3
def ArcsP (h : DH) (d : Dfa) (es : List A3) : Value → World → Prop := fun v _ => ∃ a c, v = .slice a es.length c ∧ ∀ W0, IsDfa W0 h d → IsArcs W0 a es.length c es
theorem stays_arcs (h : DH) (d : Dfa) (es : List A3) : Stays (ArcsP h d es) := fun v W W' hb ⟨a, c, e, h⟩ => ⟨a, c, e, h⟩
def fillK (N k : Nat) : List Int := List.replicate k (-1) ++ List.replicate (N - k) 0
theorem fillK_len (N k : Nat) (h : k ≤ N) : (fillK N k).length = N := by simp [fillK]; omega
theorem fillK_set {N k : Nat} (h : k < N) : (fillK N k).set k (-1) = fillK N (k + 1) := by
 unfold fillK
 rw [List.set_append_right _ _ (by simp), List.length_replicate, Nat.sub_self]
 obtain ⟨m, hm⟩ : ∃ m, N - k = m + 1 := ⟨N - k - 1, by omega⟩
 rw [hm, show N - (k + 1) = m by omega, List.replicate_succ, set_cons_zero, List.replicate_succ', List.append_assoc]
 rfl
theorem fin_next {st st' : Bq Int} {f : Int → Bool} {k : Nat} (hp : st.q <+: st'.q) (hk : k < st.q.length) : (st'.q.take (k + 1)).map f = (st.q.take k).map f ++ [f (gi st.q k)] := by
 obtain ⟨t, ht⟩ := hp
 rw [← ht, List.take_append_of_le_length (by omega), List.take_succ_eq_append_getElem hk, gi_eq _ _ hk, List.map_append]
 rfl
theorem Pcs.init {W : World} {B : Nat} {ps : List Pc} {p : Pc} (h : Pcs W B (ps ++ [p])) : Pcs W B ps := by
 have key : ∀ (i : Nat) (q : Pc), ps[i]? = some q → (ps ++ [p])[i]? = some q := fun i q hq => by
  rw [List.getElem?_append_left (List.getElem?_eq_some_iff.1 hq).1]; exact hq
 exact ⟨fun i q hq => h.each i q (key i q hq), fun i j q r hne hq hr => h.apart i j q r hne (key i q hq) (key j r hr)⟩
theorem outsD_mem' {ar : List A3} {q : Int} {x : A3} : x ∈ outsD ar q ↔ x ∈ ar ∧ x.f = q := by
 unfold outsD
 rw [List.mem_filter]
 simp
theorem outs_arc {d : Dfa} (hv : ValidD d) {q j : Nat} (hj : j < (outsD d.arcs q).length) : ∃ l T : Nat, g3 (outsD d.arcs q) j = ⟨q, l, T⟩ ∧ (T : Int) < d.n := by
 have h1 := g3_mem _ j hj
 have h2 := outsD_mem'.1 h1
 have h3 := hv.arc h2.1
 obtain ⟨⟨xf, xl, xt⟩, h⟩ : ∃ x, g3 (outsD d.arcs q) j = x := ⟨_, rfl⟩
 rw [h] at h2 h3
 simp only at h2 h3
 exact ⟨xl.toNat, xt.toNat, by rw [h, h2.2, Int.toNat_of_nonneg (by omega), Int.toNat_of_nonneg (by omega)], by omega⟩
set_option maxRecDepth 20000 in
set_option maxHeartbeats 8000000 in
theorem canonical_yes (hv : ValidD d) (hd : IsDfa w h d) {ak : Option Addr} {lk ck : Nat} {keep : List Bool} (hk : IsBools w ak lk ck keep) (hkl : (lk : Int) = d.n) (h0 : gb keep d.s.toNat = true) :
  Calls Tryz.prog 19 #[vDf d h, .slice ak lk ck] w (GivesD (canD d keep) w) := by
 have HC : Hid (canD d keep = numD d keep) := Lib.hid (by unfold canD; rw [if_pos h0])
 obtain ⟨hs0, hsn⟩ := hv.2.1
 have hn := hv.1
 have hkc := hk.capLe
 unfold maxLen at hkc
 have HV := Lib.hid hv
 have HD := Lib.hid hd
 obtain ⟨W1, hW1, hs1, hb1, hO⟩ := boxDW d h w hd
 obtain ⟨n, s, fin, es⟩ := d
 obtain ⟨fa, fl, fc, aa, al, ac⟩ := h
 simp only [vDf] at hW1 hs1 hb1 hO HC hs0 hsn hn hkl h0 HV HD ⊢
 obtain ⟨s0, rfl⟩ := Int.eq_ofNat_of_zero_le hs0
 obtain ⟨N, rfl⟩ := Int.eq_ofNat_of_zero_le (show 0 ≤ n by omega)
 obtain ⟨bk, ok, rfl, hkc'⟩ := hk.fix (by omega)
 obtain ⟨W2, hW2⟩ : ∃ W2, W1.alloc (.cells #[.int .i64 0, .int .i64 0, .slice none 0 0, .slice none 0 0] 37) = W2 := ⟨_, rfl⟩
 have hb2 : Below W1.heap.size W1 W2 := by rw [← hW2]; exact (Below.refl _ _).alloc (Nat.le_refl _) _
 have hs2 : W2.heap.size = w.heap.size + 2 := by rw [← hW2]; simp; omega
 have hZ2 : W2.heap[w.heap.size + 1]? = some (.cells #[.int .i64 0, .int .i64 0, .slice none 0 0, .slice none 0 0] 37 (0, 0)) := by rw [← hW2, ← hs1]; exact heap_alloc_new W1 _
 obtain ⟨⟨c1, c2, c3, c4⟩, -, hbW⟩ := hO W2 (hb2.mono (by omega))
 have ckS := hkc' W2 hbW s0 (by omega)
 simp only [Int.toNat_natCast] at h0
 rw [h0] at ckS
 have hO2 : ∀ W, Below (w.heap.size + 2) W2 W → (W.cell? ⟨w.heap.size, 0, none⟩ = some (.int .i64 (N : Int)) ∧ W.cell? ⟨w.heap.size, 1, none⟩ = some (.int .i64 (s0 : Int)) ∧ W.cell? ⟨w.heap.size, 2, none⟩ = some (.slice fa fl fc) ∧ W.cell? ⟨w.heap.size, 3, none⟩ = some (.slice aa al ac)) ∧ IsDfa W ⟨fa, fl, fc, aa, al, ac⟩ ⟨N, s0, fin, es⟩ ∧ Below w.heap.size w W ∧ W.heap[w.heap.size + 1]? = some (.cells #[.int .i64 0, .int .i64 0, .slice none 0 0, .slice none 0 0] 37 (0, 0)) := fun W hb => by
  have h1 := hO W ((hb2.mono (by omega)).trans (hb.mono (by omega)))
  exact ⟨h1.1, h1.2.1, h1.2.2, by rw [hb.block _ (by omega)]; exact hZ2⟩
 have HO2 := Lib.hid hO2
 have HK := Lib.hid hkc'
 go_enter Tryz.func19, Tryz.ntmps19
 go_wp2_with (refine make_ints (k := .i64) (B := w.heap.size + 2) elI64 rfl _ _ rfl rfl rfl rfl rfl (by omega) (by omega) ?_; intro w3 ho3 hb3 hs3)
 clear hO hO2 hkc' hW1 hW2 c1 c2 c3 c4 ckS hZ2 hb1 hb2 hbW hs1 hd hk
 rw [hs2] at ho3 hs3
 have hNN : Hid (N ≤ 1000) := Lib.hid (by omega)
 go_loopw [25] (fun c W => ∃ k : Nat, k ≤ N ∧ c = .int .i64 (k : Int) ∧ W.ownsRow (w.heap.size + 2) 3 1 (.slice (some ⟨w.heap.size + 2, 0, none⟩) N N) N (ivs .i64 (fillK N k)) ∧ Below (w.heap.size + 2) W2 W ∧ W.heap.size = w.heap.size + 2 + 1) (fun c _ => N - (intOf c).toNat)
 case atStart => exact ⟨0, Nat.zero_le _, rfl, by simpa [fillK] using ho3, hb3, hs3⟩
 case round =>
  clear ho3 hb3 hs3
  obtain ⟨k, hkN, rfl, ho, hb, hsz⟩ := hrel
  rcases Nat.lt_or_ge k N with hlt | hge
  ·obtain ⟨ck1, ck2⟩ := own_cell ho k hlt (fillK_len N k hkN)
   have ho2 := own_store ho k (-1)
   rw [fillK_set hlt] at ho2
   go_wp2
   go_roundw
   case rel => exact ⟨k + 1, hlt, by go_num, ho2, hb.setCell (by show _ ≤ w.heap.size + 2; omega) _, by rw [World.size_setCell]; exact hsz⟩
   case measure => simp [intOf]; omega
  ·have hkN2 : N = k := by omega
   subst hkN2
   replace ho : wr.ownsRow (w.heap.size + 2) 3 1 (.slice (some ⟨w.heap.size + 2, 0, none⟩) N N) N (ivs .i64 (List.replicate N (-1))) := by simpa [fillK] using ho
   obtain ⟨⟨c1, c2, c3, c4⟩, -, hbW, -⟩ := HO2.out wr hb
   obtain ⟨cS1, cS2⟩ := own_cell ho s0 (by omega) (by simp)
   have ho2 := own_store ho s0 0
   rw [← numL_one (show s0 < N by omega)] at ho2
   go_wp2_with (fail)
   have hX := canPs_start ho2 (by rw [World.size_setCell]; omega)
   rw [World.size_setCell, hsz] at hX
   obtain ⟨X, hXe⟩ : ∃ X, ((wr.setCell ⟨w.heap.size + 2, s0, none⟩ (.int .i64 0)).alloc (.cells #[.int .i64 0, .int .i64 0, .slice none 0 0, .slice none 0 0] 37)).alloc (.cells #[.int .i64 (s0 : Int)] 3) = X := ⟨_, rfl⟩
   have hbX : Below (w.heap.size + 2) W2 X := by
    rw [← hXe]
    exact ((hb.setCell (by show _ ≤ w.heap.size + 2; omega) _).alloc (by rw [World.size_setCell]; omega) _).alloc (by simp; omega) _
   have hsX : w.heap.size + 3 ≤ X.heap.size := by rw [← hXe]; simp; omega
   rw [hXe] at hX ⊢
   clear hXe ho2 cS1 cS2 c1 c2 c3 c4 hbW ho hb hsz hge hv hkc hkN
   obtain ⟨BQ, hBQ⟩ : ∃ BQ, BQ = bq (oD ⟨N, s0, fin, es⟩ keep) (s0 : Int) := ⟨_, rfl⟩
   have HB0 : Hid (BQ 0 = ⟨[(s0 : Int)], [[]], []⟩) := Lib.hid (by rw [hBQ]; rfl)
   have HLEN : Hid (∀ k, (BQ k).q.length ≤ N) := Lib.hid (fun k => by have := bqD_len HV.out keep k; rw [← hBQ] at this; simpa using this)
   have HIN : Hid (∀ k y, y ∈ (BQ k).q → 0 ≤ y ∧ y < (N : Int)) := Lib.hid (fun k y hy => by rw [hBQ] at hy; exact bqD_in HV.out keep k y hy)
   have HAL : Hid (∀ k, (BQ k).a.length ≤ k * 20000) := Lib.hid (fun k => by rw [hBQ]; exact bqD_alen (d := ⟨N, s0, fin, es⟩) HV.out.2.2.2.1 keep k)
   have HST : Hid (∀ k, k < (BQ k).q.length → BQ (k + 1) = bqs k (BQ k) (kd keep (outsD es (gi (BQ k).q k)))) := Lib.hid (fun k hk => by
    rw [hBQ] at hk ⊢
    rw [gi_eq _ _ hk]
    exact bqh_at hk)
   have HFI : Hid (∀ k, (BQ k).q.length ≤ k → numD ⟨N, s0, fin, es⟩ keep = resB (BQ k) fin) := Lib.hid (fun k hk => by
    rw [hBQ] at hk ⊢
    unfold numD
    rw [bqD_fin HV.out keep hk])
   have HND : Hid (∀ k, (BQ k).q.Nodup) := Lib.hid (fun k => by rw [hBQ]; exact bq_nodup _ _ k)
   rw [← HB0.out] at hX
   clear hBQ
   go_loopw [8, 9] (fun vq c W => ∃ (k : Nat) (aq : Option Addr) (cq : Nat) (af : Option Addr) (cf : Nat) (va : Option Addr) (ca : Nat), k ≤ (BQ k).q.length ∧ c = .int .i64 (k : Int) ∧ vq = .slice aq (BQ k).q.length cq ∧ Pcs W (w.heap.size + 2) (canPs (w.heap.size + 2) N (w.heap.size + 2 + 1) (BQ k) (((BQ k).q.take k).map fun q => gb fin q.toNat) (.slice aq (BQ k).q.length cq) (.slice af k cf) (.slice va (BQ k).a.length ca)) ∧ Below (w.heap.size + 2) W2 W ∧ w.heap.size + 3 ≤ W.heap.size) (fun _ c _ => N - (intOf c).toNat)
   case atStart =>
    refine ⟨0, some ⟨w.heap.size + 2 + 1 + 1, 0, none⟩, 1, none, 0, none, 0, Nat.zero_le _, rfl, by rw [HB0.out]; rfl, ?_, hbX, hsX⟩
    rw [HB0.out] at hX ⊢
    exact hX
   case round =>
    clear hX hbX hsX
    obtain ⟨k, aq, cq, af, cf, va, ca, hk, rfl, rfl, hP, hb, hsz⟩ := hrel
    have hkN := HLEN.out k
    obtain ⟨⟨c1, c2, c3, c4⟩, hdw, hbW, hZ⟩ := HO2.out wr hb
    rcases Nat.lt_or_ge k (BQ k).q.length with hlt | hge
    ·have t1 : decide (k < (BQ k).q.length) = true := decide_eq_true hlt
     obtain ⟨Y, hY⟩ : ∃ Y, gi (BQ k).q k = Y := ⟨_, rfl⟩
     have hYin := HIN.out k Y (by rw [← hY]; exact gi_mem _ _ hlt)
     obtain ⟨Y, rfl⟩ := Int.eq_ofNat_of_zero_le hYin.1
     obtain ⟨gq, rfl, -, -⟩ := owns_at (hP.row 2 rfl) (by omega)
     have hffl := HD.out.fin.length
     have hvf := HV.out.2.2.1
     simp only at hffl hvf
     obtain ⟨bf, of, rfl, hfc⟩ := HD.out.fin.fix (by simp only; omega)
     have HFC := Lib.hid hfc
     have hYl : Y < fl := by omega
     obtain ⟨fs, hfs⟩ : ∃ fs, ((BQ k).q.take k).map (fun q => gb fin q.toNat) = fs := ⟨_, rfl⟩
     have hfl : fs.length = k := by rw [← hfs, List.length_map, List.length_take]; omega
     rw [hfs] at hP
     have HFS := Lib.hid hfs
     have HFL := Lib.hid hfl
     have HYY := Lib.hid hY
     have HLT := Lib.hid hlt
     have HP0 := Lib.hid hP
     have HBB := Lib.hid hb
     have hYn : Y < N := by omega
     clear hfs hfl hY hfc hP hb hvf hffl hYin hdw hbW hZ c1 c2 c3 c4 hk
     go_wp2_with (fail)
     obtain ⟨S, hSd⟩ : ∃ S : (Nat → Bool) → (Nat → Value) → World → Prop, S = fun L f W => Below (w.heap.size + 2) W2 W ∧ w.heap.size + 3 ≤ W.heap.size ∧ (L 10 = true → L 11 = false → ∃ q, f 10 = .slice (some ⟨q, 0, none⟩) 1 1 ∧ BlkAt W q #[.bool (gb fin Y)]) ∧ Pcs W (w.heap.size + 2) (canPsX (w.heap.size + 2) N (w.heap.size + 2 + 1) (BQ k) (if L 11 = true then fs ++ [gb fin Y] else fs) (.slice (some ⟨gq, 0, none⟩) (BQ k).q.length cq) (if L 13 = true then f 11 else .slice af k cf) (if L 11 = true then f 11 else .slice af k cf) (.slice va (BQ k).a.length ca) (.slice va (BQ k).a.length ca)) := ⟨_, rfl⟩
     refine wp_region_st mixed (by kernel_rfl) [[], [(0, 45)], [], [(2, 47)], [], [], [(4, 49), (5, 50)], [(6, 51)], [(3, 48), (7, 52)], [(8, 53)], [(9, 54)], [(1, 46), (10, 55)], [(0, 45), (1, 46), (2, 47), (3, 48), (4, 49), (5, 50), (6, 51), (7, 52), (8, 53), (9, 54), (10, 55), (11, 56)], [(12, 57), (11, 56), (11, 56), (0, 45), (1, 46), (2, 47), (3, 48), (4, 49), (5, 50), (6, 51), (7, 52), (8, 53), (9, 54), (10, 55), (11, 56)]] [(0, 45), (1, 46), (2, 47), (3, 48), (4, 49), (5, 50), (6, 51), (7, 52), (8, 53), (9, 54), (10, 55), (11, 56), (12, 57)] rfl rfl [EV ?e0, EV ?e1, EV ?e2, EV ?e3, EV ?e4, EV ?e5, EV ?e6, EV ?e7, EV ?e8, EV ?e9, fun v => ∃ b, v = .slice (some ⟨b, 0, none⟩) 1 1, fun v => ∃ a c, v = .slice a (k + 1) c, EV ?e12, fun _ => True] S ?start ?steps ?rest
     case start =>
      intro f
      rw [hSd]
      exact ⟨HBB.out.drew, hsz, fun h => (by cases h), HP0.out.quiet (below_grows ((Below.refl _ _).drew) none)⟩
     case steps =>
      refine ⟨fun L f W hi hd hdn hh hS => ?_, fun L f W hi hd hdn hh hS => ?_, fun L f W hi hd hdn hh hS => ?_, fun L f W hi hd hdn hh hS => ?_, fun L f W hi hd hdn hh hS => ?_, fun L f W hi hd hdn hh hS => ?_, fun L f W hi hd hdn hh hS => ?_, fun L f W hi hd hdn hh hS => ?_, fun L f W hi hd hdn hh hS => ?_, fun L f W hi hd hdn hh hS => ?_, fun L f W hi hd hdn hh hS => ?_, fun L f W hi hd hdn hh hS => ?_, fun L f W hi hd hdn hh hS => ?_, fun L f W hi hd hdn hh hS => ?_, trivial⟩
      ·
       unfold stStep
       rw [if_pos (by simp [Region.wanted])]
       intro K Q hK
       simp only [puts, foldr_nil];go_step
       refine st_ex hK rfl rfl (by simp only [go_sem] <;> rfl) rfl (by rw [hSd] at hS ⊢; exact hS)
      ·
       obtain ⟨h0, -⟩ := hh;have g0 : f 0=_:=h0
       have l11 : L 11 = false := Bool.eq_false_iff.2 fun h => by have q := hdn 11 _ h rfl 1 (by decide); rw [show L 1 = false from hi] at q; cases q
       have l13 : L 13 = false := Bool.eq_false_iff.2 fun h => by have q := hdn 13 _ h rfl 11 (by decide); rw [show L 11 = false from l11] at q; cases q
       unfold stStep
       rw [if_pos (by simp [Region.wanted])]
       intro K Q hK
       simp only [puts, Za, Zb, Zc, Zd, Ze, g0]
       have hS' := hS
       rw [hSd] at hS'
       simp only [l11, l13, if_false, Bool.false_eq_true] at hS'
       have x1 : W.cell? ⟨w.heap.size + 2 + 1, 2, none⟩ = some (.slice af k cf) := ((hS'.2.2.2.blk 1 rfl).2.cell 2).1
       go_step
       refine st_ex hK rfl rfl (by simp only [go_sem] <;> rfl) rfl (by rw [hSd] at hS ⊢; exact hS)
      ·
       unfold stStep
       rw [if_pos (by simp [Region.wanted])]
       intro K Q hK
       simp only [puts, foldr_nil];go_step
       refine st_ex hK rfl rfl (by simp only [go_sem] <;> rfl) rfl (by rw [hSd] at hS ⊢; exact hS)
      ·
       obtain ⟨h2, -⟩ := hh;have g2 : f 2=_:=h2
       unfold stStep
       rw [if_pos (by simp [Region.wanted])]
       intro K Q hK
       simp only [puts, Za, Zb, Zc, Zd, Ze, g2]
       have hS' := hS
       rw [hSd] at hS'
       have x3 := (HO2.out W hS'.1).1.2.2.1
       go_step
       refine st_ex hK rfl rfl (by simp only [go_sem] <;> rfl) rfl (by rw [hSd] at hS ⊢; exact hS)
      ·
       unfold stStep
       rw [if_pos (by simp [Region.wanted])]
       intro K Q hK
       simp only [puts, foldr_nil];go_step
       refine st_ex hK rfl rfl (by simp only [go_sem] <;> rfl) rfl (by rw [hSd] at hS ⊢; exact hS)
      ·
       unfold stStep
       rw [if_pos (by simp [Region.wanted])]
       intro K Q hK
       simp only [puts, foldr_nil];go_step
       refine st_ex hK rfl rfl (by simp only [go_sem] <;> rfl) rfl (by rw [hSd] at hS ⊢; exact hS)
      ·
       obtain ⟨h4, h5, -⟩ := hh;have g4 : f 4=_:=h4;have g5 : f 5=_:=h5
       unfold stStep
       rw [if_pos (by simp [Region.wanted])]
       intro K Q hK
       simp only [puts, Za, Zb, Zc, Zd, Ze, g4, g5];go_step
       refine st_ex hK rfl rfl (by simp only [go_sem] <;> rfl) rfl (by rw [hSd] at hS ⊢; exact hS)
      ·
       obtain ⟨h6, -⟩ := hh;have g6 : f 6=_:=h6
       unfold stStep
       rw [if_pos (by simp [Region.wanted])]
       intro K Q hK
       simp only [puts, Za, Zb, Zc, Zd, Ze, g6]
       have hS' := hS
       rw [hSd] at hS'
       have x7 := (own_cell (hS'.2.2.2.row 2 rfl) k HLT.out rfl).1
       rw [HYY.out] at x7
       go_step
       refine st_ex hK rfl rfl (by simp only [go_sem] <;> rfl) rfl (by rw [hSd] at hS ⊢; exact hS)
      ·
       obtain ⟨h3, h7, -⟩ := hh;have g3 : f 3=_:=h3;have g7 : f 7=_:=h7
       unfold stStep
       rw [if_pos (by simp [Region.wanted])]
       intro K Q hK
       simp only [puts, Za, Zb, Zc, Zd, Ze, g3, g7];go_step
       refine st_ex hK rfl rfl (by simp only [go_sem] <;> rfl) rfl (by rw [hSd] at hS ⊢; exact hS)
      ·
       obtain ⟨h8, -⟩ := hh;have g8 : f 8=_:=h8
       unfold stStep
       rw [if_pos (by simp [Region.wanted])]
       intro K Q hK
       simp only [puts, Za, Zb, Zc, Zd, Ze, g8]
       have hS' := hS
       rw [hSd] at hS'
       have x9 := HFC.out W (HO2.out W hS'.1).2.2.1 Y hYl
       go_step
       refine st_ex hK rfl rfl (by simp only [go_sem] <;> rfl) rfl (by rw [hSd] at hS ⊢; exact hS)
      ·
       obtain ⟨h9, -⟩ := hh;have g9 : f 9=_:=h9
       have l11 : L 11 = false := Bool.eq_false_iff.2 fun h => by have q := hdn 11 _ h rfl 10 (by decide); rw [show L 10 = false from hi] at q; cases q
       have l13 : L 13 = false := Bool.eq_false_iff.2 fun h => by have q := hdn 13 _ h rfl 11 (by decide); rw [show L 11 = false from l11] at q; cases q
       unfold stStep
       rw [if_pos (by simp [Region.wanted])]
       intro K Q hK
       simp only [puts, Za, Zb, Zc, Zd, Ze, g9]
       rw [hSd] at hS hK
       have l10 : L 10 = false := hi
       try simp only [stage, l11, l13, l10, if_true, if_false, Bool.false_eq_true] at hS
       obtain ⟨hbW, hzW, -, hPW⟩ := hS
       have hal : Below W.heap.size W (W.alloc (.cells #[.bool (gb fin Y)] 4)) := (Below.refl _ _).alloc (Nat.le_refl _) _
       go_step
       refine hK.out _ _ rfl ⟨_, rfl⟩ ?_
       refine ⟨hbW.alloc (by omega) _, by simp; omega, fun _ _ => ⟨_, rfl, BlkAt.new W _ _⟩, ?_⟩
       simp only [l11, l13, Bool.false_eq_true, ↓reduceIte, Nat.reduceEqDiff] at hPW ⊢
       exact hPW.quiet (below_grows hal none)
      ·
       obtain ⟨h1, h10, -⟩ := hh;have g1 : f 1=_:=h1
       obtain ⟨b10, (g10 : f 10 = _)⟩ := h10
       have l10 : L 10 = true := hd 10 (by decide)
       have l13 : L 13 = false := Bool.eq_false_iff.2 fun h => by have q := hdn 13 _ h rfl 11 (by decide); rw [show L 11 = false from hi] at q; cases q
       unfold stStep
       rw [if_pos (by simp [Region.wanted])]
       intro K Q hK
       simp only [puts, Za, Zb, Zc, Zd, Ze, g1, g10]
       rw [hSd] at hS hK
       have l11 : L 11 = false := hi
       try simp only [stage, l13, l11, l10, if_true, if_false, Bool.false_eq_true] at hS
       obtain ⟨hbW, hzW, h10, hPW⟩ := hS
       obtain ⟨q, e10, hq⟩ := h10 trivial trivial
       rw [g10] at e10
       obtain rfl : b10 = q := by simpa using e10
       try simp only [l11, l13, if_false, Bool.false_eq_true] at hPW
       refine wp_app_pcs elB _ _ rfl 3 (v := .slice af k cf) (n := fs.length) rfl hPW rfl (news := [.bool (gb fin Y)]) rfl ⟨rfl, fun ad e j u hj => by injection e with e; subst e; rw [addr_add, Nat.zero_add, (hq.cell j).1, ← hj]; simp, fun e => by cases e⟩ (by intro u hu; rw [List.mem_singleton.1 hu]; rfl) (by have := HFL.out; have := hNN.out; omega) (by omega) ?_
       intro a' c' w' hp' hbw
       rw [HFL.out] at hp' ⊢
       refine hK.out _ _ rfl ⟨a', c', rfl⟩ ?_
       refine ⟨hbW.trans hbw, Nat.le_trans hzW hbw.size, fun _ h => (by simp at h), ?_⟩
       simp only [l13, Bool.false_eq_true, ↓reduceIte, Nat.reduceEqDiff]
       have e1 : (fs ++ [gb fin Y]).length = k + 1 := by rw [List.length_append, HFL.out]; rfl
       have e2 : bvs (fs ++ [gb fin Y]) = bvs fs ++ [.bool (gb fin Y)] := by simp [bvs]
       unfold canPsX
       rw [e1, e2]
       exact hp'
      ·
       obtain ⟨h0, h1, h2, h3, h4, h5, h6, h7, h8, h9, h10, h11, -⟩ := hh;have g0 : f 0=_:=h0;have g1 : f 1=_:=h1;have g2 : f 2=_:=h2;have g3 : f 3=_:=h3;have g4 : f 4=_:=h4;have g5 : f 5=_:=h5;have g6 : f 6=_:=h6;have g7 : f 7=_:=h7;have g8 : f 8=_:=h8;have g9 : f 9=_:=h9
       obtain ⟨b10, (g10 : f 10 = _)⟩ := h10
       obtain ⟨a11, c11, (g11 : f 11 = _)⟩ := h11
       unfold stStep
       rw [if_pos (by simp [Region.wanted])]
       intro K Q hK
       simp only [puts, Za, Zb, Zc, Zd, Ze, g0, g1, g2, g3, g4, g5, g6, g7, g8, g9, g10, g11];go_step
       refine st_ex hK rfl rfl (by simp only [go_sem] <;> rfl) rfl (by rw [hSd] at hS ⊢; exact hS)
      ·
       obtain ⟨h12, h11, _, h0, h1, h2, h3, h4, h5, h6, h7, h8, h9, h10, _, -⟩ := hh;have g12 : f 12=_:=h12
       obtain ⟨a11, c11, (g11 : f 11 = _)⟩ := h11
       have g0 : f 0=_:=h0;have g1 : f 1=_:=h1;have g2 : f 2=_:=h2;have g3 : f 3=_:=h3;have g4 : f 4=_:=h4;have g5 : f 5=_:=h5;have g6 : f 6=_:=h6;have g7 : f 7=_:=h7;have g8 : f 8=_:=h8;have g9 : f 9=_:=h9
       obtain ⟨b10, (g10 : f 10 = _)⟩ := h10
       have l11 : L 11 = true := hd 11 (by decide)
       unfold stStep
       rw [if_pos (by simp [Region.wanted])]
       intro K Q hK
       simp only [puts, Za, Zb, Zc, Zd, Ze, g12, g11, g0, g1, g2, g3, g4, g5, g6, g7, g8, g9, g10]
       rw [hSd] at hS hK
       have l13 : L 13 = false := hi
       try simp only [stage, l13, l11, if_true, if_false, Bool.false_eq_true] at hS
       obtain ⟨hbW, hzW, -, hPW⟩ := hS
       have l11' : L 11 = true := hd 11 (by decide)
       simp only [l11', l13, if_false, if_true, Bool.false_eq_true, g11] at hPW
       have y1 := ((hPW.blk 1 rfl).2.cell 2)
       have y2 : W.cell? ⟨w.heap.size + 2 + 1, 2, none⟩ = some (.slice af k cf) := y1.1
       have y3 := y1.2
       go_step
       refine hK.out _ _ rfl trivial ?_
       refine ⟨hbW.setCell (by show _ ≤ w.heap.size + 2 + 1; omega) _, by rw [World.size_setCell]; exact hzW, fun _ h => (by simp [l11'] at h), ?_⟩
       simp only [l11', ↓reduceIte, Nat.reduceEqDiff, g11]
       exact hPW.blkStore 1 rfl 2 _
     case rest =>
      intro L f WA hL hh hS
      rw [hSd] at hS
      clear hSd
      have l10 : L 10 = true := hL 10 (by decide)
      have l11 : L 11 = true := hL 11 (by decide)
      have l13 : L 13 = true := hL 13 (by decide)
      simp only [stage, l10, l11, l13, if_true] at hS
      clear hL l10 l11 l13
      obtain ⟨h0, h1, h2, h3, h4, h5, h6, h7, h8, h9, h10, h11, h12, -⟩ := hh;have g0 : f 0=_:=h0;have g1 : f 1=_:=h1;have g2 : f 2=_:=h2;have g3 : f 3=_:=h3;have g4 : f 4=_:=h4;have g5 : f 5=_:=h5;have g6 : f 6=_:=h6;have g7 : f 7=_:=h7;have g8 : f 8=_:=h8;have g9 : f 9=_:=h9
      obtain ⟨b10, (g10 : f 10 = _)⟩ := h10
      obtain ⟨a11, c11, (g11 : f 11 = _)⟩ := h11
      have g12 : f 12=_:=h12;simp only [puts, Za, Zb, Zc, Zd, Ze, g0, g1, g2, g3, g4, g5, g6, g7, g8, g9, g10, g11, g12]
      clear h0 h1 h2 h3 h4 h5 h6 h7 h8 h9 h12 g0 g1 g2 g3 g4 g5 g6 g7 g8 g9 g12
      simp only [g11] at hS
      obtain ⟨hbA, hzA, -, hPA⟩ := hS
      have hcm : ∀ W, Below WA.heap.size WA W → (W.cell? ⟨w.heap.size, 0, none⟩ = some (.int .i64 (N : Int)) ∧ W.cell? ⟨w.heap.size, 1, none⟩ = some (.int .i64 (s0 : Int)) ∧ W.cell? ⟨w.heap.size, 2, none⟩ = some (.slice (some ⟨bf, of, none⟩) fl fc) ∧ W.cell? ⟨w.heap.size, 3, none⟩ = some (.slice aa al ac)) ∧ IsDfa W ⟨some ⟨bf, of, none⟩, fl, fc, aa, al, ac⟩ ⟨N, s0, fin, es⟩ ∧ W.cell? ⟨gq, k, none⟩ = some (.int .i64 (Y : Int)) := fun W h => by
       have h1 := HO2.out W (hbA.trans (h.mono (by omega)))
       have h2 := (own_cell ((hPA.quiet (below_grows h none)).row 2 rfl) k HLT.out rfl).1
       rw [HYY.out] at h2
       exact ⟨h1.1, h1.2.1, h2⟩
      have HPA := Lib.hid hPA
      have HBA := Lib.hid hbA
      clear hPA hbA
      go_wp2_with (fail)
      refine wp_region_grow mixed (by kernel_rfl) [[], [], [], [(1, 59), (2, 60)], [(3, 61)], [(0, 58), (4, 62)], [(5, 63)], []] [(0, 58), (1, 59), (2, 60), (3, 61), (4, 62), (5, 63), (6, 64), (7, 65)] rfl rfl [Ex ?eb0, Ex ?eb1, Ex ?eb2, Ex ?eb3, Ex ?eb4, ArcsP ⟨some ⟨bf, of, none⟩, fl, fc, aa, al, ac⟩ ⟨N, s0, fin, es⟩ (outsD es Y), Ex ?eb6, Ex ?eb7] ⟨stays_ex _, stays_ex _, stays_ex _, stays_ex _, stays_ex _, stays_arcs _ _ _, stays_ex _, stays_ex _, trivial⟩ ?bsteps ?brest
      case bsteps =>
       refine ⟨fun f W hC hh => ?_, fun f W hC hh => ?_, fun f W hC hh => ?_, fun f W hC hh => ?_, fun f W hC hh => ?_, fun f W hC hh => ?_, fun f W hC hh => ?_, fun f W hC hh => ?_, trivial⟩
       ·
        refine tab_plain fun K Q hK => ?_;simp only [puts, foldr_nil]
        obtain ⟨⟨f1, f2, f3, f4⟩, f5, f6⟩ := hcm W hC
        go_step;exact fam_e hK rfl rfl (Below.refl _ _) hC
       ·
        refine tab_plain fun K Q hK => ?_;simp only [puts, foldr_nil];go_step;exact fam_e hK rfl rfl (Below.refl _ _) hC
       ·
        refine tab_plain fun K Q hK => ?_;simp only [puts, foldr_nil];go_step;exact fam_e hK rfl rfl (Below.refl _ _) hC
       ·
        obtain ⟨h1, h2, -⟩ := hh;have g1 : f 1=_:=h1;have g2 : f 2=_:=h2;refine tab_plain fun K Q hK => ?_;simp only [puts, Za, Zb, Zc, Zd, Ze, g1, g2];go_step;exact fam_e hK rfl rfl (Below.refl _ _) hC
       ·
        obtain ⟨h3, -⟩ := hh;have g3 : f 3=_:=h3;refine tab_plain fun K Q hK => ?_;simp only [puts, Za, Zb, Zc, Zd, Ze, g3]
        obtain ⟨⟨f1, f2, f3, f4⟩, f5, f6⟩ := hcm W hC
        go_step;exact fam_e hK rfl rfl (Below.refl _ _) hC
       ·
        obtain ⟨h0, h4, -⟩ := hh;have g0 : f 0=_:=h0;have g4 : f 4=_:=h4;refine tab_plain fun K Q hK => ?_;simp only [puts, Za, Zb, Zc, Zd, Ze, g0, g4]
        obtain ⟨⟨f1, f2, f3, f4⟩, f5, f6⟩ := hcm W hC
        go_step
        go_at_call 23
        refine (out_in _ _ (Y : Int) W f5 HV.out.sorted (fun x hx => (HV.out.arc hx).2.1) HV.out.2.2.2.1 (by omega)).mono ?_
        rintro e w' ⟨⟨a', c', rfl, hI⟩, hb⟩
        exact fam_fin hK rfl ⟨a', c', rfl, hI⟩ hb (hC.trans (hb.mono hC.size))
       ·
        obtain ⟨h5, -⟩ := hh
        obtain ⟨a5, c5, g5, s5⟩ := h5
        refine tab_plain fun K Q hK => ?_;simp only [puts, Za, Zb, Zc, Zd, Ze, g5];go_step;exact fam_e hK rfl rfl (Below.refl _ _) hC
       ·
        refine tab_plain fun K Q hK => ?_;simp only [puts, foldr_nil];go_step;exact fam_e hK rfl rfl (Below.refl _ _) hC
      case brest =>
       intro f WC hC hh
       obtain ⟨h0, h1, h2, h3, h4, h5, h6, h7, -⟩ := hh;have g0 : f 0=_:=h0;have g1 : f 1=_:=h1;have g2 : f 2=_:=h2;have g3 : f 3=_:=h3;have g4 : f 4=_:=h4
       obtain ⟨a5, c5, g5, s5⟩ := h5
       have g6 : f 6=_:=h6;have g7 : f 7=_:=h7;simp only [puts, Za, Zb, Zc, Zd, Ze, g0, g1, g2, g3, g4, g5, g6, g7]
       clear h0 h1 h2 h3 h4 h6 h7 g0 g1 g2 g3 g4 g6 g7
       obtain ⟨IN, hIN⟩ : ∃ IN : Nat → Bq Int, IN = fun j => bqs k (BQ k) (kd keep ((outsD es Y).take j)) := ⟨_, rfl⟩
       have HFN : Hid (((BQ (k + 1)).q.take (k + 1)).map (fun q => gb fin q.toNat) = fs ++ [gb fin Y]) := Lib.hid (by
        rw [fin_next (f := fun q => gb fin q.toNat) (st := BQ k) (by rw [HST.out k HLT.out]; exact bqs_pre k _ _) HLT.out, HFS.out, HYY.out]
        rfl)
       have HKN : Hid (k + 1 ≤ (BQ (k + 1)).q.length) := Lib.hid (by
        have h1 := (bqs_pre k (kd keep (outsD es (gi (BQ k).q k))) (BQ k)).length_le
        rw [← HST.out k HLT.out] at h1
        have := HLT.out
        omega)
       have HI0 : Hid (IN 0 = BQ k) := Lib.hid (by rw [hIN]; rfl)
       have HIE : Hid (IN (outsD es Y).length = BQ (k + 1)) := Lib.hid (by rw [hIN, HST.out k HLT.out, HYY.out]; simp only [List.take_length])
       have HI1 : Hid (∀ j, j < (outsD es Y).length → IN (j + 1) = if gb keep (g3 (outsD es Y) j).t.toNat = true then bq1 k (IN j) ((g3 (outsD es Y) j).l, (g3 (outsD es Y) j).t) else IN j) := Lib.hid (fun j hj => by
        rw [hIN]
        simp only [kd_take keep _ hj]
        split
        ·rw [bqs_snoc]
        ·rw [List.append_nil])
       have HIA : Hid (∀ j, j ≤ (outsD es Y).length → (IN j).a.length ≤ k * 20000 + j) := Lib.hid (fun j hj => by
        rw [hIN]
        simp only [bqs_alen]
        have h1 := HAL.out k
        have h2 := kd_len keep ((outsD es Y).take j)
        rw [List.length_take] at h2
        omega)
       have HIR : Hid (∀ j y, y ∈ (IN j).q → 0 ≤ y ∧ y < (N : Int)) := Lib.hid (fun j => by
        rw [hIN]
        refine bqs_all k _ _ (HIN.out k) fun x hx => ?_
        unfold kd at hx
        obtain ⟨y, hy, rfl⟩ := List.mem_map.1 hx
        have h1 := List.mem_of_mem_take (List.mem_filter.1 hy).1
        unfold outsD at h1
        exact (HV.out.arc (List.mem_filter.1 h1).1).1.2)
       have HIN2 : Hid (∀ j, (IN j).q.length ≤ N) := Lib.hid (fun j => by
        have h1 := ints_le (q := (IN j).q) (n := (N : Int)) (by rw [hIN]; exact bqs_nodup k _ _ (HND.out k)) (HIR.out j)
        simpa using h1)
       have HIM : Hid (∀ j, j < (outsD es Y).length → ∃ l T : Nat, g3 (outsD es Y) j = ⟨Y, l, T⟩ ∧ T < N) := Lib.hid (fun j hj => by
        obtain ⟨l, T, h1, h2⟩ := outs_arc HV.out hj
        exact ⟨l, T, h1, Int.ofNat_lt.1 h2⟩)
       have HO5 : Hid (∀ W0, IsDfa W0 ⟨some ⟨bf, of, none⟩, fl, fc, aa, al, ac⟩ ⟨N, s0, fin, es⟩ → IsArcs W0 a5 (outsD es Y).length c5 (outsD es Y)) := Lib.hid s5
       have HOL : Hid ((outsD es Y).length ≤ 20000) := Lib.hid (by have := List.length_filter_le (fun x : A3 => decide (x.f = (Y : Int))) es; have := HV.out.2.2.2.1; unfold outsD; simp only at this; omega)
       have HPC : Hid (Pcs WC (w.heap.size + 2) (canPs (w.heap.size + 2) N (w.heap.size + 2 + 1) (BQ k) (fs ++ [gb fin Y]) (.slice (some ⟨gq, 0, none⟩) (BQ k).q.length cq) (.slice a11 (k + 1) c11) (.slice va (BQ k).a.length ca))) := Lib.hid (HPA.out.quiet (below_grows hC none))
       have HBC : Hid (Below (w.heap.size + 2) W2 WC ∧ w.heap.size + 3 ≤ WC.heap.size) := Lib.hid ⟨HBA.out.trans (hC.mono (by omega)), Nat.le_trans hzA hC.size⟩
       obtain ⟨OL, hOL⟩ : ∃ OL, (outsD es (Y : Int)).length = OL := ⟨_, rfl⟩
       obtain ⟨OE, hOE⟩ : ∃ OE, outsD es (Y : Int) = OE := ⟨_, rfl⟩
       rw [hOL] at HI1 HIA HIE HIM HO5 HOL ⊢
       rw [hOE] at HI1 HIM HO5
       clear hIN s5 hC hzA hcm hOE hOL
       go_wp2_with (fail)
       go_loopw [8, 65] (fun vq c W => ∃ (j : Nat) (aq : Option Addr) (cq : Nat) (va : Option Addr) (ca : Nat), j ≤ OL ∧ c = .int .i64 (j : Int) ∧ vq = .slice aq (IN j).q.length cq ∧ Pcs W (w.heap.size + 2) (canPs (w.heap.size + 2) N (w.heap.size + 2 + 1) (IN j) (fs ++ [gb fin Y]) (.slice aq (IN j).q.length cq) (.slice a11 (k + 1) c11) (.slice va (IN j).a.length ca)) ∧ Below (w.heap.size + 2) W2 W ∧ w.heap.size + 3 ≤ W.heap.size) (fun _ c _ => OL - (intOf c).toNat)
       case atStart =>
        refine ⟨0, some ⟨gq, 0, none⟩, cq, va, ca, Nat.zero_le _, rfl, by rw [HI0.out], ?_, HBC.out.1, HBC.out.2⟩
        rw [HI0.out]
        exact HPC.out
       case round =>
        clear HPC HBC HPA HBA
        obtain ⟨j, aq, cq, va, ca, hj, rfl, rfl, hP, hb, hsz⟩ := hrel
        obtain ⟨-, hdw, -, -⟩ := HO2.out wr hb
        have hI := HO5.out wr hdw
        rcases Nat.lt_or_ge j OL with hlt | hge
        ·obtain ⟨b5, o5, rfl, hc5⟩ := hI.fix (by omega)
         have t2 : decide (j < OL) = true := decide_eq_true hlt
         obtain ⟨l, T, hx, hT⟩ := HIM.out j hlt
         obtain ⟨x1, x2, x3⟩ := hc5 wr (Below.refl _ _) j hlt
         rw [hx] at x1 x2 x3
         simp only at x1 x2 x3
         have HJ := HI1.out j hlt
         rw [hx] at HJ
         simp only [Int.toNat_natCast] at HJ
         have HJ := Lib.hid HJ
         clear hx hI hc5
         have hTl : T < lk := by omega
         have hol := HOL.out
         obtain ⟨W6, hW6⟩ : ∃ W6, wr.alloc (.cells #[.int .i64 (Y : Int), .int .i64 (l : Int), .int .i64 (T : Int)] 49) = W6 := ⟨_, rfl⟩
         have hb6 : Below wr.heap.size wr W6 := by rw [← hW6]; exact (Below.refl _ _).alloc (Nat.le_refl _) _
         have hs6 : W6.heap.size = wr.heap.size + 1 := by rw [← hW6]; simp
         have hB6 : Below (w.heap.size + 2) W2 W6 := hb.trans (hb6.mono (by omega))
         have hP6 := hP.new (by omega) #[.int .i64 (Y : Int), .int .i64 (l : Int), .int .i64 (T : Int)] 49
         rw [hW6] at hP6
         have ckT := HK.out W6 (HO2.out W6 hB6).2.2.1 T hTl
         cases hkp : gb keep T with
         | false =>
          rw [hkp] at ckT
          have HJ2 : Hid (IN (j + 1) = IN j) := Lib.hid (by rw [HJ.out, hkp]; rfl)
          have HP6 := Lib.hid hP6
          have HB6 := Lib.hid hB6
          clear hP hb hP6 hB6 hdw HJ
          subst hW6
          go_wp2_with (fail)
          go_roundw
          case rel =>
           refine ⟨j + 1, aq, cq, va, ca, hlt, by go_num, by rw [HJ2.out], ?_, HB6.out, by omega⟩
           rw [HJ2.out]
           exact HP6.out.init
          case measure => simp [intOf]; omega
         | true =>
          rw [hkp] at ckT
          have HJ2 : Hid (IN (j + 1) = bq1 k (IN j) ((l : Int), (T : Int))) := Lib.hid (by rw [HJ.out, hkp]; rfl)
          have num := (own_cell (hP6.row 0 rfl) T hT (numL_len _ _)).1
          rw [gi_numL _ hT] at num
          obtain ⟨y, hy⟩ : ∃ y, idxI (IN j).q (T : Int) = y := ⟨_, rfl⟩
          rw [hy] at num
          have hX6 := hP6.blk 5 rfl
          have z0 : W6.cell? ⟨wr.heap.size, 0, none⟩ = some (.int .i64 (Y : Int)) := (hX6.2.cell 0).1
          have z1 : W6.cell? ⟨wr.heap.size, 1, none⟩ = some (.int .i64 (l : Int)) := (hX6.2.cell 1).1
          have z2 : W6.cell? ⟨wr.heap.size, 2, none⟩ = some (.int .i64 (T : Int)) := (hX6.2.cell 2).1
          obtain ⟨QJ, hQJ⟩ : ∃ QJ, (IN (j + 1)).q = QJ := ⟨_, rfl⟩
          have hql := HIN2.out j
          have HY := Lib.hid hy
          have HQ := Lib.hid hQJ
          have HP6 := Lib.hid hP6
          have HB6 := Lib.hid hB6
          clear hP hb hP6 hB6 hdw HJ hX6 hy hQJ
          subst hW6
          go_upto_if 80 with fail
          go_cut [8] (fun vq wc => ∃ (aq : Option Addr) (cq : Nat), vq = .slice aq QJ.length cq ∧ Pcs wc (w.heap.size + 2) (canPs (w.heap.size + 2) N (w.heap.size + 2 + 1) ⟨QJ, [], (IN j).a⟩ (fs ++ [gb fin Y]) (.slice aq QJ.length cq) (.slice a11 (k + 1) c11) (.slice va (IN j).a.length ca) ++ [.blk wr.heap.size #[.int .i64 (Y : Int), .int .i64 (l : Int), .int .i64 (T : Int)]]) ∧ Below (w.heap.size + 2) W2 wc ∧ w.heap.size + 3 ≤ wc.heap.size)
          case first =>
           by_cases h0 : y < 0
           ·have d5 : decide (y < 0) = true := decide_eq_true h0
            have hnm : (T : Int) ∉ (IN j).q := idxI_neg.1 (by rw [HY.out]; exact h0)
            obtain ⟨h1, -⟩ := bq1_new (h := k) (l := (l : Int)) hnm
            have HQ2 : Hid (QJ = (IN j).q ++ [(T : Int)]) := Lib.hid (by rw [← HQ.out, HJ2.out]; exact h1)
            have hP7 := HP6.out.rowStore 0 rfl T (.int .i64 ((IN j).q.length : Int))
            obtain ⟨W6, hW6⟩ : ∃ W6, wr.alloc (.cells #[.int .i64 (Y : Int), .int .i64 (l : Int), .int .i64 (T : Int)] 49) = W6 := ⟨_, rfl⟩
            have hB6' := HB6.out
            rw [hW6] at hP7 hB6' hs6 z0 z1 z2 num ⊢
            have hfr := (own_cell (HP6.out.row 0 rfl) T hT (numL_len _ _)).2
            rw [hW6] at hfr
            obtain ⟨W7, hW7⟩ : ∃ W7, W6.setCell ⟨w.heap.size + 2, T, none⟩ (.int .i64 ((IN j).q.length : Int)) = W7 := ⟨_, rfl⟩
            rw [hW7] at hP7
            have hs7 : Hid (W7.heap.size = wr.heap.size + 1) := Lib.hid (by rw [← hW7, World.size_setCell]; exact hs6)
            have hB7 : Below (w.heap.size + 2) W2 W7 := by rw [← hW7]; exact hB6'.setCell (Nat.le_refl _) _
            have z7 : W7.cell? ⟨wr.heap.size, 2, none⟩ = some (.int .i64 (T : Int)) := ((hP7.blk 5 rfl).2.cell 2).1
            have hP8 := hP7.quiet (below_grows ((Below.refl _ _).alloc (Nat.le_refl _) (.cells #[.int .i64 (T : Int)] 3)) none)
            have hB8 : Below (w.heap.size + 2) W2 (W7.alloc (.cells #[.int .i64 (T : Int)] 3)) := hB7.alloc (by have := hs7.out; omega) _
            have hs8 : Hid ((W7.alloc (.cells #[.int .i64 (T : Int)] 3)).heap.size = wr.heap.size + 2) := Lib.hid (by simp; exact hs7.out)
            have HP8 := Lib.hid hP8
            have HB8 := Lib.hid hB8
            have HW7 := Lib.hid hW7
            have HE : Hid (ivs .i64 (numL QJ N) = (ivs .i64 (numL (IN j).q N)).set T (.int .i64 ((IN j).q.length : Int)) ∧ ivs .i64 QJ = ivs .i64 (IN j).q ++ [.int .i64 (T : Int)] ∧ QJ.length = (IN j).q.length + 1) := Lib.hid ⟨by rw [HQ2.out, numL_push hnm hT, ivs_set], by rw [HQ2.out]; simp [ivs], by rw [HQ2.out]; simp⟩
            have hs67 : Hid (W6.heap.size = W7.heap.size) := Lib.hid (by rw [hs7.out]; exact hs6)
            clear hP7 hP8 hB8 hB7 hB6' hs6 hnm h1 hW6 hW7
            go_wp2_with (at_builtin; rw [HW7.out]; refine app_pcs elI64 rfl _ _ rfl 2 rfl HP8.out rfl rfl (by rw [hs67.out]; exact new_src W7 #[.int .i64 (T : Int)] _ rfl) (by intro u hu; rw [List.mem_singleton.1 hu]; rfl) (by omega) (by have := hs8.out; omega) ?_; intro a9 c9 w9 hp9 hb9)
            go_meet
            case rel =>
             obtain ⟨e1, e2, e3⟩ := HE.out
             refine ⟨a9, c9, by rw [e3], ?_, HB8.out.trans hb9, Nat.le_trans (by have := hs8.out; omega) hb9.size⟩
             unfold canPs
             simp only
             rw [e1, e2, e3]
             exact hp9
           ·have d5 : decide (y < 0) = false := decide_eq_false h0
            have hm : (T : Int) ∈ (IN j).q := by
             refine Classical.byContradiction fun hn => h0 ?_
             rw [← HY.out]
             exact idxI_neg.2 hn
            have HQ2 : Hid (QJ = (IN j).q) := Lib.hid (by rw [← HQ.out, HJ2.out, bq1_old hm])
            clear hm
            go_wp2_with (fail)
            go_meet
            case rel => exact ⟨aq, cq, by rw [HQ2.out], by rw [HQ2.out]; exact HP6.out, HB6.out, by omega⟩
          case rest =>
           clear z0 z1 z2 num hs6
           obtain ⟨aq, cq, rfl, hPc, hBc, hzc⟩ := hcut
           have HPc := Lib.hid hPc
           have hTm : (T : Int) ∈ QJ := by rw [← HQ.out, HJ2.out]; exact bq1_mem k (IN j) (_, _)
           obtain ⟨p, hp⟩ : ∃ p : Nat, idxI QJ (T : Int) = (p : Int) := ⟨_, idxI_yes hTm⟩
           have HPP := Lib.hid hp
           have hal : (IN j).a.length ≤ k * 20000 + j := HIA.out j (by omega)
           have hkk : k * 20000 ≤ 20000000 := by have := hNN.out; omega
           clear hPc hTm hp
           go_wp2_with (fail)
           obtain ⟨S, hSd⟩ : ∃ S : (Nat → Bool) → (Nat → Value) → World → Prop, S = fun L f W => Below (w.heap.size + 2) W2 W ∧ w.heap.size + 3 ≤ W.heap.size ∧ (L 11 = true → L 12 = false → ∃ q, f 11 = .slice (some ⟨q, 0, none⟩) 1 1 ∧ BlkAt W q #[.int .i64 (k : Int), .int .i64 (l : Int), .int .i64 (p : Int)]) ∧ Pcs W (w.heap.size + 2) (canPsY (w.heap.size + 2) N (w.heap.size + 2 + 1) QJ (if L 12 = true then (IN j).a ++ [⟨k, l, p⟩] else (IN j).a) (fs ++ [gb fin Y]) (.slice aq QJ.length cq) (.slice a11 (k + 1) c11) (if L 14 = true then f 12 else .slice va (IN j).a.length ca) (if L 12 = true then f 12 else .slice va (IN j).a.length ca) wr.heap.size #[.int .i64 (Y : Int), .int .i64 (l : Int), .int .i64 (T : Int)]) := ⟨_, rfl⟩
           refine wp_region_st mixed (by kernel_rfl) [[], [(0, 92)], [], [], [(3, 95)], [], [], [(6, 98)], [(5, 97), (7, 99)], [(8, 100)], [(2, 94), (4, 96), (9, 101)], [(10, 102)], [(1, 93), (11, 103)], [(0, 92), (1, 93), (2, 94), (3, 95), (4, 96), (5, 97), (6, 98), (7, 99), (8, 100), (9, 101), (10, 102), (11, 103), (12, 104)], [(13, 105), (12, 104), (12, 104), (0, 92), (1, 93), (2, 94), (3, 95), (4, 96), (5, 97), (6, 98), (7, 99), (8, 100), (9, 101), (10, 102), (11, 103), (12, 104)]] [(0, 92), (1, 93), (2, 94), (3, 95), (4, 96), (5, 97), (6, 98), (7, 99), (8, 100), (9, 101), (10, 102), (11, 103), (12, 104), (13, 105)] rfl rfl [EV ?ec0, EV ?ec1, EV ?ec2, EV ?ec3, EV ?ec4, EV ?ec5, EV ?ec6, EV ?ec7, EV ?ec8, EV ?ec9, EV ?ec10, fun v => ∃ b, v = .slice (some ⟨b, 0, none⟩) 1 1, fun v => ∃ a c, v = .slice a ((IN j).a.length + 1) c, EV ?ec13, fun _ => True] S ?cstart ?csteps ?crest
           case cstart =>
            intro f
            rw [hSd]
            exact ⟨hBc.drew, hzc, fun h => (by cases h), HPc.out.quiet (below_grows ((Below.refl _ _).drew) none)⟩
           case csteps =>
            refine ⟨fun L f W hi hd hdn hh hS => ?_, fun L f W hi hd hdn hh hS => ?_, fun L f W hi hd hdn hh hS => ?_, fun L f W hi hd hdn hh hS => ?_, fun L f W hi hd hdn hh hS => ?_, fun L f W hi hd hdn hh hS => ?_, fun L f W hi hd hdn hh hS => ?_, fun L f W hi hd hdn hh hS => ?_, fun L f W hi hd hdn hh hS => ?_, fun L f W hi hd hdn hh hS => ?_, fun L f W hi hd hdn hh hS => ?_, fun L f W hi hd hdn hh hS => ?_, fun L f W hi hd hdn hh hS => ?_, fun L f W hi hd hdn hh hS => ?_, fun L f W hi hd hdn hh hS => ?_, trivial⟩
            ·
             unfold stStep
             rw [if_pos (by simp [Region.wanted])]
             intro K Q hK
             simp only [puts, foldr_nil];go_step
             refine st_ex hK rfl rfl (by simp only [go_sem] <;> rfl) rfl (by rw [hSd] at hS ⊢; exact hS)
            ·
             obtain ⟨h0, -⟩ := hh;have g0 : f 0=_:=h0
             have l12 : L 12 = false := Bool.eq_false_iff.2 fun h => by have q := hdn 12 _ h rfl 1 (by decide); rw [show L 1 = false from hi] at q; cases q
             have l14 : L 14 = false := Bool.eq_false_iff.2 fun h => by have q := hdn 14 _ h rfl 12 (by decide); rw [show L 12 = false from l12] at q; cases q
             unfold stStep
             rw [if_pos (by simp [Region.wanted])]
             intro K Q hK
             simp only [puts, Za, Zb, Zc, Zd, Ze, g0]
             have hS' := hS
             rw [hSd] at hS'
             simp only [l12, l14, if_false, Bool.false_eq_true] at hS'
             have x1 : W.cell? ⟨w.heap.size + 2 + 1, 3, none⟩ = some (.slice va (IN j).a.length ca) := ((hS'.2.2.2.blk 1 rfl).2.cell 3).1
             go_step
             refine st_ex hK rfl rfl (by simp only [go_sem] <;> rfl) rfl (by rw [hSd] at hS ⊢; exact hS)
            ·
             unfold stStep
             rw [if_pos (by simp [Region.wanted])]
             intro K Q hK
             simp only [puts, foldr_nil];go_step
             refine st_ex hK rfl rfl (by simp only [go_sem] <;> rfl) rfl (by rw [hSd] at hS ⊢; exact hS)
            ·
             unfold stStep
             rw [if_pos (by simp [Region.wanted])]
             intro K Q hK
             simp only [puts, foldr_nil];go_step
             refine st_ex hK rfl rfl (by simp only [go_sem] <;> rfl) rfl (by rw [hSd] at hS ⊢; exact hS)
            ·
             obtain ⟨h3, -⟩ := hh;have g3 : f 3=_:=h3
             unfold stStep
             rw [if_pos (by simp [Region.wanted])]
             intro K Q hK
             simp only [puts, Za, Zb, Zc, Zd, Ze, g3]
             have hS' := hS
             rw [hSd] at hS'
             have x4 : W.cell? ⟨wr.heap.size, 1, none⟩ = some (.int .i64 (l : Int)) := ((hS'.2.2.2.blk 5 rfl).2.cell 1).1
             go_step
             refine st_ex hK rfl rfl (by simp only [go_sem] <;> rfl) rfl (by rw [hSd] at hS ⊢; exact hS)
            ·
             unfold stStep
             rw [if_pos (by simp [Region.wanted])]
             intro K Q hK
             simp only [puts, foldr_nil];go_step
             refine st_ex hK rfl rfl (by simp only [go_sem] <;> rfl) rfl (by rw [hSd] at hS ⊢; exact hS)
            ·
             unfold stStep
             rw [if_pos (by simp [Region.wanted])]
             intro K Q hK
             simp only [puts, foldr_nil];go_step
             refine st_ex hK rfl rfl (by simp only [go_sem] <;> rfl) rfl (by rw [hSd] at hS ⊢; exact hS)
            ·
             obtain ⟨h6, -⟩ := hh;have g6 : f 6=_:=h6
             unfold stStep
             rw [if_pos (by simp [Region.wanted])]
             intro K Q hK
             simp only [puts, Za, Zb, Zc, Zd, Ze, g6]
             have hS' := hS
             rw [hSd] at hS'
             have x7 : W.cell? ⟨wr.heap.size, 2, none⟩ = some (.int .i64 (T : Int)) := ((hS'.2.2.2.blk 5 rfl).2.cell 2).1
             go_step
             refine st_ex hK rfl rfl (by simp only [go_sem] <;> rfl) rfl (by rw [hSd] at hS ⊢; exact hS)
            ·
             obtain ⟨h5, h7, -⟩ := hh;have g5 : f 5=_:=h5;have g7 : f 7=_:=h7
             unfold stStep
             rw [if_pos (by simp [Region.wanted])]
             intro K Q hK
             simp only [puts, Za, Zb, Zc, Zd, Ze, g5, g7];go_step
             refine st_ex hK rfl rfl (by simp only [go_sem] <;> rfl) rfl (by rw [hSd] at hS ⊢; exact hS)
            ·
             obtain ⟨h8, -⟩ := hh;have g8 : f 8=_:=h8
             unfold stStep
             rw [if_pos (by simp [Region.wanted])]
             intro K Q hK
             simp only [puts, Za, Zb, Zc, Zd, Ze, g8]
             have hS' := hS
             rw [hSd] at hS'
             have x9 := (own_cell (hS'.2.2.2.row 0 rfl) T hT (numL_len _ _)).1
             rw [gi_numL _ hT, HPP.out] at x9
             go_step
             refine st_ex hK rfl rfl (by simp only [go_sem] <;> rfl) rfl (by rw [hSd] at hS ⊢; exact hS)
            ·
             obtain ⟨h2, h4, h9, -⟩ := hh;have g2 : f 2=_:=h2;have g4 : f 4=_:=h4;have g9 : f 9=_:=h9
             unfold stStep
             rw [if_pos (by simp [Region.wanted])]
             intro K Q hK
             simp only [puts, Za, Zb, Zc, Zd, Ze, g2, g4, g9];go_step
             refine st_ex hK rfl rfl (by simp only [go_sem] <;> rfl) rfl (by rw [hSd] at hS ⊢; exact hS)
            ·
             obtain ⟨h10, -⟩ := hh;have g10 : f 10=_:=h10
             have l12 : L 12 = false := Bool.eq_false_iff.2 fun h => by have q := hdn 12 _ h rfl 11 (by decide); rw [show L 11 = false from hi] at q; cases q
             have l14 : L 14 = false := Bool.eq_false_iff.2 fun h => by have q := hdn 14 _ h rfl 12 (by decide); rw [show L 12 = false from l12] at q; cases q
             unfold stStep
             rw [if_pos (by simp [Region.wanted])]
             intro K Q hK
             simp only [puts, Za, Zb, Zc, Zd, Ze, g10]
             rw [hSd] at hS hK
             have l11 : L 11 = false := hi
             try simp only [stage, l12, l14, l11, if_true, if_false, Bool.false_eq_true] at hS
             obtain ⟨hbW, hzW, -, hPW⟩ := hS
             have hal : Below W.heap.size W (W.alloc (.cells #[.int .i64 (k : Int), .int .i64 (l : Int), .int .i64 (p : Int)] 49)) := (Below.refl _ _).alloc (Nat.le_refl _) _
             go_step
             refine hK.out _ _ rfl ⟨_, rfl⟩ ?_
             refine ⟨hbW.alloc (by omega) _, by simp; omega, fun _ _ => ⟨_, rfl, BlkAt.new W _ _⟩, ?_⟩
             simp only [l12, l14, Bool.false_eq_true, ↓reduceIte, Nat.reduceEqDiff] at hPW ⊢
             exact hPW.quiet (below_grows hal none)
            ·
             obtain ⟨h1, h11, -⟩ := hh;have g1 : f 1=_:=h1
             obtain ⟨b11, (g11 : f 11 = _)⟩ := h11
             have l11 : L 11 = true := hd 11 (by decide)
             have l14 : L 14 = false := Bool.eq_false_iff.2 fun h => by have q := hdn 14 _ h rfl 12 (by decide); rw [show L 12 = false from hi] at q; cases q
             unfold stStep
             rw [if_pos (by simp [Region.wanted])]
             intro K Q hK
             simp only [puts, Za, Zb, Zc, Zd, Ze, g1, g11]
             rw [hSd] at hS hK
             have l12 : L 12 = false := hi
             try simp only [stage, l14, l12, l11, if_true, if_false, Bool.false_eq_true] at hS
             obtain ⟨hbW, hzW, h11, hPW⟩ := hS
             obtain ⟨q, e11, hq⟩ := h11 trivial trivial
             rw [g11] at e11
             obtain rfl : b11 = q := by simpa using e11
             try simp only [l12, l14, if_false, Bool.false_eq_true] at hPW
             refine wp_app_pcs elA _ _ rfl 4 (v := .slice va (IN j).a.length ca) (n := (IN j).a.length) rfl hPW rfl (news := [.int .i64 (k : Int), .int .i64 (l : Int), .int .i64 (p : Int)]) rfl ⟨rfl, fun ad e i u hi => by injection e with e; subst e; rw [addr_add, Nat.zero_add, (hq.cell i).1, ← hi]; simp, fun e => by cases e⟩ (by intro u hu; simp only [List.mem_cons, List.not_mem_nil, or_false] at hu; rcases hu with rfl | rfl | rfl <;> rfl) (by omega) (by omega) ?_
             intro a' c' w' hp' hbw
             refine hK.out _ _ rfl ⟨a', c', rfl⟩ ?_
             refine ⟨hbW.trans hbw, Nat.le_trans hzW hbw.size, fun _ h => (by simp at h), ?_⟩
             simp only [l14, Bool.false_eq_true, ↓reduceIte, Nat.reduceEqDiff]
             have e1 : ((IN j).a ++ [(⟨(k : Int), (l : Int), (p : Int)⟩ : A3)]).length = (IN j).a.length + 1 := by rw [List.length_append]; rfl
             unfold canPsY
             rw [e1, tvs_append]
             exact hp'
            ·
             obtain ⟨h0, h1, h2, h3, h4, h5, h6, h7, h8, h9, h10, h11, h12, -⟩ := hh;have g0 : f 0=_:=h0;have g1 : f 1=_:=h1;have g2 : f 2=_:=h2;have g3 : f 3=_:=h3;have g4 : f 4=_:=h4;have g5 : f 5=_:=h5;have g6 : f 6=_:=h6;have g7 : f 7=_:=h7;have g8 : f 8=_:=h8;have g9 : f 9=_:=h9;have g10 : f 10=_:=h10
             obtain ⟨b11, (g11 : f 11 = _)⟩ := h11
             obtain ⟨a12, c12, (g12 : f 12 = _)⟩ := h12
             unfold stStep
             rw [if_pos (by simp [Region.wanted])]
             intro K Q hK
             simp only [puts, Za, Zb, Zc, Zd, Ze, g0, g1, g2, g3, g4, g5, g6, g7, g8, g9, g10, g11, g12];go_step
             refine st_ex hK rfl rfl (by simp only [go_sem] <;> rfl) rfl (by rw [hSd] at hS ⊢; exact hS)
            ·
             obtain ⟨h13, h12, _, h0, h1, h2, h3, h4, h5, h6, h7, h8, h9, h10, h11, _, -⟩ := hh;have g13 : f 13=_:=h13
             obtain ⟨a12, c12, (g12 : f 12 = _)⟩ := h12
             have g0 : f 0=_:=h0;have g1 : f 1=_:=h1;have g2 : f 2=_:=h2;have g3 : f 3=_:=h3;have g4 : f 4=_:=h4;have g5 : f 5=_:=h5;have g6 : f 6=_:=h6;have g7 : f 7=_:=h7;have g8 : f 8=_:=h8;have g9 : f 9=_:=h9;have g10 : f 10=_:=h10
             obtain ⟨b11, (g11 : f 11 = _)⟩ := h11
             have l12 : L 12 = true := hd 12 (by decide)
             unfold stStep
             rw [if_pos (by simp [Region.wanted])]
             intro K Q hK
             simp only [puts, Za, Zb, Zc, Zd, Ze, g13, g12, g0, g1, g2, g3, g4, g5, g6, g7, g8, g9, g10, g11]
             rw [hSd] at hS hK
             have l14 : L 14 = false := hi
             try simp only [stage, l14, l12, if_true, if_false, Bool.false_eq_true] at hS
             obtain ⟨hbW, hzW, -, hPW⟩ := hS
             have l12' : L 12 = true := hd 12 (by decide)
             simp only [l12', l14, if_false, if_true, Bool.false_eq_true, g12] at hPW
             have y1 := ((hPW.blk 1 rfl).2.cell 3)
             have y2 : W.cell? ⟨w.heap.size + 2 + 1, 3, none⟩ = some (.slice va (IN j).a.length ca) := y1.1
             have y3 := y1.2
             go_step
             refine hK.out _ _ rfl trivial ?_
             refine ⟨hbW.setCell (by show _ ≤ w.heap.size + 2 + 1; omega) _, by rw [World.size_setCell]; exact hzW, fun _ h => (by simp [l12'] at h), ?_⟩
             simp only [l12', ↓reduceIte, Nat.reduceEqDiff, g12]
             exact hPW.blkStore 1 rfl 3 _
           case crest =>
            intro L f WD hL hh hS
            rw [hSd] at hS
            clear hSd
            have l11 : L 11 = true := hL 11 (by decide)
            have l12 : L 12 = true := hL 12 (by decide)
            have l14 : L 14 = true := hL 14 (by decide)
            simp only [stage, l11, l12, l14, if_true] at hS
            clear hL l11 l12 l14
            obtain ⟨h0, h1, h2, h3, h4, h5, h6, h7, h8, h9, h10, h11, h12, h13, -⟩ := hh;have g0 : f 0=_:=h0;have g1 : f 1=_:=h1;have g2 : f 2=_:=h2;have g3 : f 3=_:=h3;have g4 : f 4=_:=h4;have g5 : f 5=_:=h5;have g6 : f 6=_:=h6;have g7 : f 7=_:=h7;have g8 : f 8=_:=h8;have g9 : f 9=_:=h9;have g10 : f 10=_:=h10
            obtain ⟨b11, (g11 : f 11 = _)⟩ := h11
            obtain ⟨a12, c12, (g12 : f 12 = _)⟩ := h12
            have g13 : f 13=_:=h13;simp only [puts, Za, Zb, Zc, Zd, Ze, g0, g1, g2, g3, g4, g5, g6, g7, g8, g9, g10, g11, g12, g13]
            clear h0 h1 h2 h3 h4 h5 h6 h7 h8 h9 h10 h13 g0 g1 g2 g3 g4 g5 g6 g7 g8 g9 g10 g13
            simp only [g12] at hS
            obtain ⟨hbD, hzD, -, hPD⟩ := hS
            have HEA : Hid ((IN (j + 1)).a = (IN j).a ++ [⟨k, l, p⟩]) := Lib.hid (by rw [HJ2.out, bq1_a, ← HJ2.out, HQ.out, HPP.out])
            have HPD := Lib.hid hPD
            clear hPD
            go_wp2_with (fail)
            go_roundw
            case rel =>
             refine ⟨j + 1, aq, cq, a12, c12, hlt, by go_num, by rw [HQ.out], ?_, hbD, hzD⟩
             have h1 := HPD.out
             have e1 : ((IN j).a ++ [(⟨(k : Int), (l : Int), (p : Int)⟩ : A3)]).length = (IN j).a.length + 1 := by rw [List.length_append]; rfl
             unfold canPsY at h1
             rw [e1] at h1
             unfold canPs
             rw [HQ.out, HEA.out, e1]
             exact Pcs.init (p := .blk wr.heap.size #[.int .i64 (Y : Int), .int .i64 (l : Int), .int .i64 (T : Int)]) h1
            case measure => simp [intOf]; omega
        ·have t2 : decide (j < OL) = false := decide_eq_false (by omega)
         obtain rfl : j = OL := by omega
         have HPE : Hid (Pcs wr (w.heap.size + 2) (canPs (w.heap.size + 2) N (w.heap.size + 2 + 1) (BQ (k + 1)) (((BQ (k + 1)).q.take (k + 1)).map fun q => gb fin q.toNat) (.slice aq (BQ (k + 1)).q.length cq) (.slice a11 (k + 1) c11) (.slice va (BQ (k + 1)).a.length ca))) := Lib.hid (by rw [HFN.out, ← HIE.out]; exact hP)
         have HQE : Hid ((IN j).q.length = (BQ (k + 1)).q.length ∧ k + 1 ≤ (BQ (k + 1)).q.length) := Lib.hid ⟨by rw [HIE.out], HKN.out⟩
         clear hP hI hdw
         go_wp2_with (fail)
         go_roundw
         case rel => exact ⟨k + 1, aq, cq, a11, c11, va, ca, HQE.out.2, by go_num, by rw [HQE.out.1], HPE.out, hb, hsz⟩
         case measure => simp [intOf]; omega
    ·have hke : (BQ k).q.length = k := by omega
     have t1 : decide (k < (BQ k).q.length) = false := decide_eq_false (by omega)
     obtain ⟨L, hL⟩ : ∃ L, (BQ k).q.length = L := ⟨_, rfl⟩
     have hB1 := (hP.blk 1 rfl).2
     have b0 := hB1.cell 0
     have hP5 := hP.blkStore 1 rfl 0 (.int .i64 (L : Int))
     obtain ⟨W5, hW5⟩ : ∃ W5, wr.setCell ⟨w.heap.size + 2 + 1, 0, none⟩ (.int .i64 (L : Int)) = W5 := ⟨_, rfl⟩
     have hb5 : Below (w.heap.size + 2) W2 W5 := by rw [← hW5]; exact hb.setCell (by show _ ≤ w.heap.size + 2 + 1; omega) _
     rw [hW5] at hP5
     have hB5 := (hP5.blk 1 rfl).2
     have e0 : W5.cell? ⟨w.heap.size + 2 + 1, 0, none⟩ = some (.int .i64 (L : Int)) := (hB5.cell 0).1
     have e1 : W5.cell? ⟨w.heap.size + 2 + 1, 1, none⟩ = some (.int .i64 0) := (hB5.cell 1).1
     have e2 : W5.cell? ⟨w.heap.size + 2 + 1, 2, none⟩ = some (.slice af k cf) := (hB5.cell 2).1
     have e3 : W5.cell? ⟨w.heap.size + 2 + 1, 3, none⟩ = some (.slice va (BQ k).a.length ca) := (hB5.cell 3).1
     have b01 : wr.cell? ⟨w.heap.size + 2 + 1, 0, none⟩ = some (.int .i64 0) := b0.1
     have b02 := b0.2
     obtain ⟨-, -, hbW5, hZ5⟩ := HO2.out W5 hb5
     have hZ6 := setRow_heap W5 (w.heap.size + 1) _ #[.int .i64 (L : Int), .int .i64 0, .slice af k cf, .slice va (BQ k).a.length ca] _ _ hZ5
     have hlen5 : (((BQ k).q.take k).map fun q => gb fin q.toNat).length = k := by rw [List.length_map, List.length_take]; omega
     have hbs := below_setRow (g := w.heap.size + 1) (Below.refl (w.heap.size + 1) W5) (Nat.le_refl _) #[.int .i64 (L : Int), .int .i64 0, .slice af k cf, .slice va (BQ k).a.length ca]
     have hgs : W5.grownBy (W5.setRow (w.heap.size + 1) #[.int .i64 (L : Int), .int .i64 0, .slice af k cf, .slice va (BQ k).a.length ca]) (some (w.heap.size + 1)) := ⟨hbs.os, hbs.tape, hbs.output, hbs.size, fun b _ hne => setRow_other W5 _ b _ (fun e => hne (by rw [e]))⟩
     have hF5 := (hP5.each 3 _ rfl).grown hgs fun b hb e => by have := ((hP5.each 3 _ rfl).lt hb).1; injection e with e; omega
     have hA5 := (hP5.each 4 _ rfl).grown hgs fun b hb e => by have := ((hP5.each 4 _ rfl).lt hb).1; injection e with e; omega
     simp only [Pc.At] at hF5 hA5
     have hIF := (IsBools.of_owns hF5).1
     have hIA := (IsArcs.of_owns hA5).1
     have hb6 := below_setRow (g := w.heap.size + 1) hbW5 (by omega) #[.int .i64 (L : Int), .int .i64 0, .slice af k cf, .slice va (BQ k).a.length ca]
     have HH := Lib.hid (And.intro hIF hIA)
     have HE := Lib.hid hke
     have HLL := Lib.hid hL
     have HR := Lib.hid (HFI.out k (by omega))
     rw [hL] at t1 ⊢
     clear hIF hIA hF5 hA5 hlen5 hP5 hB5 hP hB1 b0 hke hL hk hge hbs hgs
     go_wp2_with (show wpList _ _ _ (⟨_, .store 37 _ _, _, _, _, _⟩ :: _) _ _; refine wpList_store_row rfl 37 _ _ rfl (w.heap.size + 1) #[.int .i64 (L : Int), .int .i64 0, .slice af k cf, .slice va (BQ k).a.length ca] rfl rfl _ _ hZ5 dfa_i rfl (dfa_one _ _ _ _ _ _ _ _) ?_)
     try simp only [Exit.inBlock, Exit.then]
     refine bodyPost_ret (results_cell_row rfl _ _ (w.heap.size + 1) _ _ _ _ rfl hZ6 Tryz.underlying37 rfl dfa_i) rfl ?_
     rw [HC.out, HR.out]
     have hq : (BQ k).q.take k = (BQ k).q := List.take_of_length_le (by rw [HE.out]; exact Nat.le_refl _)
     obtain ⟨hIF, hIA⟩ := HH.out
     rw [hq] at hIF
     refine ⟨⟨⟨af, k, cf, va, (BQ k).a.length, ca⟩, ?_, hIF, hIA⟩, hb6⟩
     unfold vDf resB
     rw [HLL.out]
end Go.Proofs.YtbjdglopkpigbaaGreatDoor
