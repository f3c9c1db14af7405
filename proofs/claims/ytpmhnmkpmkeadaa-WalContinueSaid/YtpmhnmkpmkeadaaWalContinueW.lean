/-
  WalContinue: the walk.
-/
import Derived.Test.YtpmhnmkpmkeadaaWalP
set_option linter.unusedSimpArgs false
set_option linter.unusedVariables false
set_option maxHeartbeats 8000000
namespace Go.Proofs.Ytpmhnmkpmkeadaa
open Go.RowKit

/-- The cells of a list of byte strings. -/
theorem IsRecs.vals {w : World} {a : Option Addr} {len cap : Nat} {rs : List (List Int)} (h : IsRecs w a len cap rs) :
    ∃ vs : List Value, vs.length = len ∧ (∀ ad, a = some ad → ∀ j u, vs[j]? = some u → w.cell? (ad.add j) = some u) ∧ (a = none → len = 0 ∧ cap = 0) ∧ (∀ u ∈ vs, u.oneCell' = true) ∧ ∀ i v, vs[i]? = some v → RdB w v (gl rs i) := by
  obtain ⟨hl, h⟩ := h
  rcases h with ⟨rfl, rfl, rfl⟩ | ⟨b, off, rfl, h1, h2, h3⟩
  · exact ⟨[], rfl, (fun ad e => by cases e), fun _ => ⟨rfl, rfl⟩, (fun u hu => by cases hu), fun i v hv => by simp at hv⟩
  · have hv : ∀ i, i < len → ((List.range len).map fun i => (w.cell? ⟨b, off + i, none⟩).getD undef)[i]? = w.cell? ⟨b, off + i, none⟩ := by
      intro i hi
      obtain ⟨v, e, _⟩ := h3 i hi
      rw [List.getElem?_map, List.getElem?_range hi, e]
      simp [e]
    have hlt : ∀ {i v}, ((List.range len).map fun i => (w.cell? ⟨b, off + i, none⟩).getD undef)[i]? = some v → i < len := by
      intro i v e
      rcases Nat.lt_or_ge i len with h | h
      · exact h
      · rw [List.getElem?_eq_none (by simpa using h)] at e; cases e
    refine ⟨(List.range len).map fun i => (w.cell? ⟨b, off + i, none⟩).getD undef, by simp, ?_, (fun e => by cases e), ?_, ?_⟩
    · intro ad e j u hu
      cases e
      rw [addr_add, ← hv j (hlt hu)]
      exact hu
    · intro u hu
      obtain ⟨i, hi, rfl⟩ := List.mem_iff_getElem.1 hu
      have hi' : i < len := by simpa using hi
      obtain ⟨v, e, ar, n, c, rfl, _⟩ := h3 i hi'
      have := hv i hi'
      rw [List.getElem?_eq_getElem hi, e] at this
      rw [Option.some.inj this]
      rfl
    · intro i v e
      have hi := hlt e
      obtain ⟨v', e', hr⟩ := h3 i hi
      rw [hv i hi, e'] at e
      cases e
      exact hr
theorem IsRecs.valsIn {w : World} {a : Option Addr} {len cap : Nat} {rs : List (List Int)} (h : IsRecs w a len cap rs) {W : World} (hb : Below w.heap.size w W) :
    ∃ vs : List Value, vs.length = len ∧ (∀ ad, a = some ad → ∀ j u, vs[j]? = some u → W.cell? (ad.add j) = some u) ∧ (a = none → len = 0 ∧ cap = 0) ∧ (∀ u ∈ vs, u.oneCell' = true) ∧ ∀ i v, vs[i]? = some v → RdB w v (gl rs i) := by
  obtain ⟨vs, h1, h2, h3, h4, h5⟩ := h.vals
  exact ⟨vs, h1, fun ad e j u hu => (hb.cell (World.block_lt_of_cell? w _ (h2 ad e j u hu))).trans (h2 ad e j u hu), h3, h4, h5⟩
theorem gl_append_lt {xs ys : List (List Int)} {i : Nat} (h : i < xs.length) : gl (xs ++ ys) i = gl xs i := by simp [gl, List.getD, List.getElem?_append_left h]
theorem gl_append_ge {xs ys : List (List Int)} {i : Nat} (h : xs.length ≤ i) : gl (xs ++ ys) i = gl ys (i - xs.length) := by simp [gl, List.getD, List.getElem?_append_right h]
theorem rdb_append {w1 w2 W : World} {xs ys : List (List Int)} {vs us : List Value} (hl : vs.length = xs.length) (h1 : ∀ i v, vs[i]? = some v → RdB w1 v (gl xs i)) (b1 : Below w1.heap.size w1 W) (h2 : ∀ i v, us[i]? = some v → RdB w2 v (gl ys i)) (b2 : Below w2.heap.size w2 W) :
    ∀ i v, (vs ++ us)[i]? = some v → RdB W v (gl (xs ++ ys) i) := by
  intro i v hv
  rcases Nat.lt_or_ge i vs.length with hi | hi
  · rw [List.getElem?_append_left hi] at hv
    rw [gl_append_lt (by omega)]
    exact (h1 i v hv).later b1
  · rw [List.getElem?_append_right hi] at hv
    rw [gl_append_ge (by omega), ← hl]
    exact (h2 _ v hv).later b2
theorem recs_of_row {W : World} {B e n c : Nat} {a : Option Addr} {vs : List Value} {rs : List (List Int)} (h : W.ownsRow B e 1 (.slice a n c) n vs) (hl : rs.length = n) (hv : vs.length = n) (hr : ∀ i v, vs[i]? = some v → RdB W v (gl rs i)) : IsRecs W a n c rs := by
  rcases h.2 with ⟨e1, e2⟩ | ⟨g, cap, cur, e1, hb, hg, hn, hc, hs, ht⟩
  · simp only [Value.slice.injEq] at e1
    obtain ⟨rfl, rfl, rfl⟩ := e1
    exact ⟨hl, .inl ⟨rfl, rfl, rfl⟩⟩
  · simp only [Value.slice.injEq, true_and] at e1
    obtain ⟨rfl, rfl⟩ := e1
    refine ⟨hl, .inr ⟨g, 0, rfl, hn, hc, fun i hi => ?_⟩⟩
    have hvi : vs[i]? = some vs[i] := List.getElem?_eq_getElem (by omega)
    have := h.cells (g := g) rfl i _ hvi
    rw [addr_add] at this
    exact ⟨_, this, hr i _ hvi⟩

set_option maxRecDepth 20000 in
theorem walContinue_walk (a : Option Addr) (len cap : Nat) (rs : List (List Int)) (kp : Int) (a' : Option Addr) (len' cap' : Nat) (ms : List (List Int)) (w : World) (hs : IsRecs w a len cap rs) (hb : ∀ r ∈ rs, Bytes r) (hwt : (Lit.int .u16 kp).wf = true) (hs' : IsRecs w a' len' cap' ms) (hbm : ∀ r ∈ ms, Bytes r) :
    Calls Try.prog 6 #[.slice a len cap, .int .u16 kp, .slice a' len' cap'] w fun e w' => e = .returned (.bool true) ∧ Below w.heap.size w w' := by
  have hcap := hs.cap
  have hcap' := hs'.cap
  unfold maxLen at hcap hcap'
  have HL := Lib.hid hs.1
  have HL' := Lib.hid hs'.1
  have hK0 := bounds_u16 hwt
  clear hwt
  obtain ⟨K, rfl⟩ := Int.eq_ofNat_of_zero_le hK0.1
  go_enter Try.func6, Try.ntmps6
  go_wp2_with (fail)
  go_at_call 10
  refine (awake_any w).mono ?_
  rintro e w1 ⟨rfl, hb1⟩
  have hs1 := hs.later hb1
  have hs1' := hs'.later hb1
  have hF1 := Few_any _ _ _ _ _ hs1
  have hF2 := Few_any _ _ _ _ _ hs1'
  cases hfew : fewL rs with
  | false =>
    rw [hfew] at hF1
    go_wp2_with (go_at_call 14; refine hF1.mono ?_; rintro e w' ⟨rfl, rfl⟩)
    go_ret
    exact ⟨rfl, hb1⟩
  | true =>
  rw [hfew] at hF1
  cases hfew' : fewL ms with
  | false =>
    rw [hfew'] at hF2
    go_wp2_with (fail)
    refine hF1.mono ?_
    rintro e w' ⟨rfl, rfl⟩
    go_wp2_with (fail)
    refine hF2.mono ?_
    rintro e w' ⟨rfl, rfl⟩
    go_wp2
    go_ret
    exact ⟨rfl, hb1⟩
  | true =>
  rw [hfew'] at hF2
  obtain ⟨hok, h12⟩ := fewL_yes hfew hb
  obtain ⟨hok', h12'⟩ := fewL_yes hfew' hbm
  have hcnt := hok.cnt
  rw [hs.1] at h12 hcnt
  rw [hs'.1] at h12'
  obtain ⟨zs, hzs⟩ : ∃ zs, encP basis (allP rs) = zs := ⟨_, rfl⟩
  have hzb : Bytes zs := by rw [← hzs]; exact encP_bytes basis_bd.1 basis_bd.2 (allP_ok hok.okR)
  have hzl : zs.length = 32 * (allP rs).length := by rw [← hzs, encP_length (allP_ok hok.okR)]
  obtain ⟨Lf, hLf, hL1, hL2⟩ := keep_math (32 * (allP rs).length) 0 K (Nat.zero_le _)
  have hcm := fun k e h => @crash_math rs hok.okR Lf 0 hL2 (by simp [allP]) k e h
  rw [hzs] at hcm
  have hlo := logOf_any a len cap rs 0 w1 hs1 hok (by omega) (by omega)
  rw [hzs, List.take_zero] at hlo
  obtain ⟨fl, hfl⟩ : ∃ fl, 32 * (allP rs).length = fl := ⟨_, rfl⟩
  rw [hfl] at hlo hzl hLf hL2
  have hfl5 : fl ≤ 2000 := by omega
  have HCM := Lib.hid hcm
  have HLf := Lib.hid hLf
  clear hcm hLf hzs hfl hcnt
  go_wp2_with (fail)
  refine hF1.mono ?_
  rintro e w' ⟨rfl, rfl⟩
  go_wp2_with (fail)
  refine hF2.mono ?_
  rintro e w' ⟨rfl, rfl⟩
  clear hF1 hF2
  go_wp2_with (fail)
  go_at_call 16
  refine hlo.mono ?_
  clear hlo
  rintro e w2 ⟨⟨fa, fl', fc, rfl, rfl, ho2⟩, hb2⟩
  rw [show ((32 * (allP ([] : List (List Int))).length : Nat) : Int) = 0 from rfl]
  have hb02 := hb1.trans (hb2.mono hb1.size)
  go_wp2_with (fail)
  obtain ⟨w3, hw3⟩ : ∃ w3, w2.alloc (.cells #[.slice fa fl' fc, .int .i64 0] 26) = w3 := ⟨_, rfl⟩
  have hb23 : Below w2.heap.size w2 w3 := by rw [← hw3]; exact (Below.refl _ _).alloc (Nat.le_refl _) _
  have hX3 : Box2 w3 w2.heap.size (.slice fa fl' fc) (.int .i64 0) := by rw [← hw3]; exact Box2.new _ _ _ _
  have hI3 := (IsInts.of_owns ho2).1.later hb23
  have hb03 := hb02.trans (hb23.mono hb02.size)
  have hcg := Crash_any fa fl' fc zs 0 K w3 hI3 (by omega) (by omega) (by omega)
  have hcr : crashL zs 0 K = zs.take Lf := by
    have := HLf.out
    rw [crashL_in (by decide) (by omega), hzl, show ((fl' : Nat) : Int) = (fl' : Int) from rfl]
    rw [show keepN (fl' : Int) 0 (K : Int) = Lf from HLf.out]
    rfl
  rw [hcr] at hcg
  clear hcr
  rw [hw3]
  clear hw3
  go_at_call 18
  refine hcg.mono ?_
  clear hcg
  rintro e w4 ⟨⟨a4, n4, c4, rfl, ho4⟩, hb4⟩
  obtain ⟨hI4, -⟩ := IsInts.of_owns ho4
  have hn4 : Lf = n4 := by have := hI4.length; rw [List.length_take] at this; omega
  subst hn4
  go_wp2_with (fail)
  go_at_call 17
  refine (Open_any _ _ _ _ _ hI4 (hzb.take _) (by omega)).mono ?_
  rintro e w5 ⟨k5, e5, rv, ev, af, cf, U, rfl, hR5, hU5, hoF, hS5, hb5⟩
  obtain ⟨n, hn1, hn2, -, hn3, hn4, hn5, -⟩ := HCM.out k5 e5 hR5
  have hUn : U = 32 * (allP (rs.take n)).length := by rw [hn3] at hU5; omega
  rw [← hUn] at hn5
  obtain ⟨ar, cr, hrv, hrec⟩ := hS5.recs
  subst hrv
  rw [hn2] at hrec ⊢
  have hln : (rs.take n).length = n := by rw [List.length_take]; omega
  rw [hln] at hrec ⊢
  rw [hn5] at hoF
  have hb04 := hb03.trans (hb4.mono hb03.size)
  have hb05 := hb04.trans (hb5.mono hb04.size)
  have HUn := Lib.hid hUn
  have hUb : U ≤ 2000 := by omega
  have hnle : n ≤ 12 := by rw [HL.out] at hn1; omega
  obtain ⟨ts, hts⟩ : ∃ ts, rs.take n = ts := ⟨_, rfl⟩
  have hokts : Ok100 ts := by rw [← hts]; exact hok.take n
  rw [hts] at hrec hoF hln HUn
  have HLN := Lib.hid hln
  clear hUn hn1 hn2 hn3 hn4 hn5 hU5 hR5 hS5 hts hln HCM HLf hX3 hI3 hI4 ho2 ho4
  have hbL : Below w5.heap.size w5 ((w5.alloc (.cells #[.slice af U cf, .int .i64 (U : Int)] 26)).alloc (.cells #[] 24)) := ((Below.refl _ _).alloc (Nat.le_refl _) _).alloc (by simp) _
  have hmk : ((w5.alloc (.cells #[.slice af U cf, .int .i64 (U : Int)] 26)).alloc (.cells #[] 24)).ownsRow (w5.heap.size + 1) 24 1 (.slice (some ⟨w5.heap.size + 1, 0, none⟩) 0 0) 0 [] := by
    have := World.ownsRow_made (base := w5.heap.size + 1) (e := 24) (size := 1) (w5.alloc (.cells #[.slice af U cf, .int .i64 (U : Int)] 26)) #[] 0 (by simp) (by decide) rfl
    simpa using this
  obtain ⟨vs, q1, q2, q3, q4, q5⟩ := hrec.valsIn hbL
  have hq : vs.length = n * 1 ∧ (∀ ad, ar = some ad → ∀ j u, vs[j]? = some u → ((w5.alloc (.cells #[.slice af U cf, .int .i64 (U : Int)] 26)).alloc (.cells #[] 24)).cell? (ad.add j) = some u) ∧ (ar = none → n = 0 ∧ cr = 0) := ⟨by omega, q2, q3⟩
  have Q1 := Lib.hid q1
  have Q5 := Lib.hid q5
  clear q1 q2 q3 q5
  go_wp2_with (first | (at_builtin; refine app_own elRec rfl _ _ rfl rfl hmk rfl hq q4 (by omega) (by simp) ?_; intro a7 c7 w7 ho7 hgr7 hbel7 hnil7; clear hnil7 hgr7; rw [Nat.zero_add, List.nil_append] at ho7; have hB7 : w5.heap.size + 1 ≤ w7.heap.size := Nat.le_trans (by simp) hbel7.size; have hb57 := hbL.trans (hbel7.mono (Nat.le_succ _)); have hb07 := hb05.trans (hb57.mono hb05.size); obtain ⟨vs2, r1, r2, r3, r4, r5⟩ := hs'.valsIn hb07; have hr := (⟨r1.trans (Nat.mul_one _).symm, r2, r3⟩ : vs2.length = len' * 1 ∧ _ ∧ _); have R1 := Lib.hid r1; have R5 := Lib.hid r5; clear r1 r2 r3 r5) | (at_builtin; refine app_own elRec rfl _ _ rfl rfl ho7 rfl hr r4 (by omega) hB7 ?_; intro a8 c8 w8 ho8 hgr8 hbel8 hnil8; clear hnil8 hgr8) | fail)
  have hb58 := hb57.trans (hbel8.mono (Nat.le_succ _))
  have hb08 := hb05.trans (hb58.mono hb05.size)
  have hrecs8 := recs_of_row (rs := ts ++ ms) ho8 (by rw [List.length_append, HLN.out, HL'.out]) (by rw [List.length_append, Q1.out, R1.out]) (rdb_append (Q1.out.trans HLN.out.symm) Q5.out hb58 R5.out hb08)
  have hlo2 := logOf_any _ _ _ (ts ++ ms) 0 w8 hrecs8 (hokts.append hok') (by omega) (by omega)
  rw [List.take_zero] at hlo2
  have hX8 : Box2 w8 w5.heap.size (.slice af U cf) (.int .i64 (U : Int)) := by
    have hh := (Box2.new w5 (.slice af U cf) (.int .i64 (U : Int)) 26).later ((Below.refl _ _).alloc (Nat.le_refl _) (.cells #[] 24))
    exact hh.kept (hbel7.trans (hbel8.mono (Nat.le_refl _))) (Nat.lt_succ_self _)
  refine hlo2.mono ?_
  clear hlo2 hmk hq hr q4 r4 ho7 ho8 hrecs8 hbel7 hbel8 hbL hrec hs1 hs1' Q1 Q5 R1 R5 hL1 hL2 hzl hfl5 hzb hb57 hb07 hB7
  rintro e w9 ⟨⟨pa, PL, pc, rfl, hPL, hoP⟩, hb9⟩
  rw [show ((32 * (allP ([] : List (List Int))).length : Nat) : Int) = 0 from rfl]
  have HPL := Lib.hid hPL
  clear hPL
  go_wp2_with (fail)
  obtain ⟨w10, hw10⟩ : ∃ w10, w9.alloc (.cells #[.slice pa PL pc, .int .i64 0] 26) = w10 := ⟨_, rfl⟩
  have hb910 : Below w9.heap.size w9 w10 := by rw [← hw10]; exact (Below.refl _ _).alloc (Nat.le_refl _) _
  have hN10 : Box2 w10 w9.heap.size (.slice pa PL pc) (.int .i64 0) := by rw [← hw10]; exact Box2.new _ _ _ _
  have hb810 := hb9.trans (hb910.mono hb9.size)
  have hb510 := hb58.trans (hb810.mono hb58.size)
  have hb010 := hb08.trans (hb810.mono hb08.size)
  have hX10 := hX8.later hb810
  have hoP10 := (hoP.from_mono (show w5.heap.size + 1 ≤ w8.heap.size from hX8.lt)).kept_below hb910
  have ho10 := hoF.kept_below hb510
  have hz10 : w9.heap.size + 1 ≤ w10.heap.size := hN10.lt
  have hz59 : w5.heap.size + 1 ≤ w9.heap.size := Nat.le_trans hX8.lt hb9.size
  have hz45 : w4.heap.size ≤ w5.heap.size := hb5.size
  have hz04 : w.heap.size ≤ w4.heap.size := hb04.size
  rw [hw10]
  clear hw10 hoP hoF hX8 hb910 hb810 hb510 hb9 hb58 hb08 hb05 hb5 hb4 hb02 hb2 hb03 hb23 hb1
  obtain ⟨PB, hPB⟩ : ∃ PB, w9.heap.size = PB := ⟨_, rfl⟩
  rw [hPB] at hN10 hz10 hz59
  simp only [hPB]
  clear hPB
  have hPL5 : PL ≤ 4000 := by
    have := (hokts.append hok').cnt
    rw [List.length_append, HLN.out, HL'.out] at this
    have := HPL.out
    omega
  go_loopw [13] (fun i W => ∃ (k : Nat) (ma : Option Addr) (mc : Nat), k ≤ len' ∧ i = .int .i64 (k : Int) ∧ Below w.heap.size w W ∧ PB + 1 ≤ W.heap.size ∧
    Box2 W w5.heap.size (.slice ma (32 * (allP (ts ++ ms.take k)).length) mc) (.int .i64 (U : Int)) ∧
    W.ownsRow w4.heap.size 5 1 (.slice ma (32 * (allP (ts ++ ms.take k)).length) mc) (32 * (allP (ts ++ ms.take k)).length) (ivs .u8 (encP basis (allP (ts ++ ms.take k)))) ∧
    Box2 W PB (.slice pa PL pc) (.int .i64 0) ∧ W.ownsRow (w5.heap.size + 1) 5 1 (.slice pa PL pc) PL (ivs .u8 (encP basis (allP (ts ++ ms))))) (fun i _ => len' - (intOf i).toNat)
  case atStart => exact ⟨0, af, cf, Nat.zero_le _, rfl, hb010, hz10, by rw [List.take_zero, List.append_nil, ← HUn.out]; exact hX10, by rw [List.take_zero, List.append_nil, ← HUn.out]; exact ho10, hN10, hoP10⟩
  case round =>
    obtain ⟨k, fa, fc, hk, rfl, hB, hszr, hX, ho, hN, hoP⟩ := hrel
    clear hX10 ho10 hN10 hoP10 hb010
    obtain ⟨fl, hfl⟩ : ∃ fl, 32 * (allP (ts ++ ms.take k)).length = fl := ⟨_, rfl⟩
    have hfl5 : fl ≤ 4000 := by
      have := (hokts.append (hok'.take k)).cnt
      rw [List.length_append, List.length_take, HLN.out] at this
      omega
    obtain ⟨P, hP⟩ : ∃ P, allP (ts ++ ms.take k) = P := ⟨_, rfl⟩
    have hPo : ∀ x ∈ P, OkP x := by rw [← hP]; exact allP_ok (hokts.append (hok'.take k)).okR
    rw [hfl] at hX ho
    rw [hP] at ho
    obtain ⟨q0, q1, q2, q3⟩ := hX.cells
    have hwr := hB.size
    have hsz : w5.heap.size + 1 ≤ wr.heap.size := by omega
    by_cases hlt : k < len'
    · have dlt : decide ((k : Int) < len') = true := decide_eq_true (by omega)
      obtain ⟨b, off, ai, ci, rfl, hbl', hcell, hrow⟩ := hs'.at w (Below.refl _ _) k hlt
      obtain ⟨r, hr⟩ : ∃ r, gl ms k = r := ⟨_, rfl⟩
      have hrok := hok' _ (gl_mem ms k (by rw [HL'.out]; exact hlt))
      rw [hr] at hcell hrow hrok
      have hrb := hrok.1
      have hr100 := hrok.2
      have hPn : allP (ts ++ ms.take (k + 1)) = P ++ partsL r := by rw [take_succ_gl ms k (by rw [HL'.out]; exact hlt), ← List.append_assoc, allP_append, allP_one, hP, hr]
      obtain ⟨lr, hlr⟩ : ∃ lr, r.length = lr := ⟨_, rfl⟩
      rw [hlr] at hcell hrow hr100
      have HPn := Lib.hid hPn
      have HLR := Lib.hid hlr
      have HP := Lib.hid hP
      have HFL := Lib.hid hfl
      clear hPn hlr hP hfl hr hrok
      obtain ⟨nl, hnl⟩ : ∃ nl, fl + 32 * cellsN lr = nl := ⟨_, rfl⟩
      have hcp := cellsN_pos lr
      have hc5 : cellsN lr ≤ 5 := by unfold cellsN; split <;> omega
      go_wp2
      obtain ⟨S, hSd⟩ : ∃ S : (Nat → Bool) → (Nat → Value) → World → Prop, S = fun L f W' => ((Below w.heap.size w W' ∧ (Below wr.heap.size wr W')) ∧ Box2 W' (w5.heap.size) (.slice fa fl fc) (.int .i64 (U : Int)) ∧ (W'.ownsRow (w4.heap.size) 5 1 (.slice fa fl fc) fl (ivs .u8 (encP basis P)) ∧ w5.heap.size + 1 ≤ W'.heap.size) ∧ (stage L f W' (fun _ => True) [(10, fun f W' => ∃ a c g, f 9 = .pointer (some ⟨g, 0, none⟩) ∧ wr.heap.size ≤ g ∧ Box2 W' g (.slice a nl c) (.int .i64 (U : Int)) ∧ W'.ownsRow (wr.heap.size) 5 1 (.slice a nl c) nl (ivs .u8 (encP basis (P ++ partsL r)))), (7, fun f W' => ∃ a c, f 7 = .agg #[.slice a nl c, .int .i64 (U : Int)] ∧ W'.ownsRow (wr.heap.size) 5 1 (.slice a nl c) nl (ivs .u8 (encP basis (P ++ partsL r)))), (6, fun f W' => ∃ a c, f 6 = .tuple #[.agg #[.slice a nl c, .int .i64 (U : Int)], .int .i64 0] ∧ W'.ownsRow (wr.heap.size) 5 1 (.slice a nl c) nl (ivs .u8 (encP basis (P ++ partsL r)))), (5, fun f W' => ∃ a c, f 5 = .tuple #[.agg #[.slice a nl c, .int .i64 (U : Int)], .int .i64 0] ∧ W'.ownsRow (wr.heap.size) 5 1 (.slice a nl c) nl (ivs .u8 (encP basis (P ++ partsL r))))]) ∧ (stage L f W' (fun _ => True) [(10, fun _ _ => True), (9, fun f W' => ∃ g, f 9 = .pointer (some ⟨g, 0, none⟩) ∧ wr.heap.size ≤ g ∧ W'.heap[g]? = some (.cells #[.slice none 0 0, .int .i64 0] 26 (0, 0)))])) := ⟨_, rfl⟩
      refine wp_region_st mixed (by kernel_rfl) [[], [], [], [(1, 56), (2, 57)], [(3, 58)], [(0, 55), (4, 59)], [(5, 60)], [(6, 54)], [(6, 54)], [], [(9, 14), (7, 61), (5, 60), (0, 55), (1, 56), (2, 57), (3, 58), (4, 59), (5, 60), (6, 54), (7, 61), (9, 14)], [(8, 62), (0, 55), (1, 56), (2, 57), (3, 58), (4, 59), (5, 60), (6, 54), (7, 61), (8, 62), (9, 14)]] [(0, 55), (1, 56), (2, 57), (3, 58), (4, 59), (5, 60), (6, 54), (7, 61), (8, 62), (9, 14), (11, 15)] rfl rfl [EV ?e0, EV ?e1, EV ?e2, EV ?e3, EV ?e4, fun v => ∃ a c, v = .tuple #[.agg #[.slice a nl c, .int .i64 (U : Int)], .int .i64 0], fun v => ∃ a c, v = .tuple #[.agg #[.slice a nl c, .int .i64 (U : Int)], .int .i64 0], fun v => ∃ a c, v = .agg #[.slice a nl c, .int .i64 (U : Int)], EV ?e8, fun v => ∃ g, v = .pointer (some ⟨g, 0, none⟩), fun _ => True, EV ?e11] S ?start ?steps ?rest
      case start =>
        intro f
        rw [hSd]
        exact ⟨⟨hB.drew, (Below.refl _ _).drew⟩, hX, ⟨ho, hsz⟩, trivial, trivial⟩
      case steps =>
        refine ⟨fun L f W hi hd hdn hh hS => ?_, fun L f W hi hd hdn hh hS => ?_, fun L f W hi hd hdn hh hS => ?_, fun L f W hi hd hdn hh hS => ?_, fun L f W hi hd hdn hh hS => ?_, fun L f W hi hd hdn hh hS => ?_, fun L f W hi hd hdn hh hS => ?_, fun L f W hi hd hdn hh hS => ?_, fun L f W hi hd hdn hh hS => ?_, fun L f W hi hd hdn hh hS => ?_, fun L f W hi hd hdn hh hS => ?_, fun L f W hi hd hdn hh hS => ?_, trivial⟩
        · -- 0: Op.load 26 (Operand.tmp 9)
          unfold stStep
          rw [if_pos (by simp [Region.wanted])]
          intro K Q hK
          simp only [puts, List.foldr_nil]
          have hS' := hS
          rw [hSd] at hS'
          obtain ⟨q0, q1, -, -⟩ := hS'.2.1.cells
          go_step
          refine st_ex hK rfl rfl (by simp only [Act.put, List.setIfInBounds_toArray, List.set_cons_succ, List.set_cons_zero, Array.getD_eq_getD_getElem?, List.getElem?_toArray, List.getElem?_cons_succ, List.getElem?_cons_zero, Option.getD_some] <;> rfl) rfl (by rw [hSd] at hS ⊢; exact hS)
        · -- 1: Op.move (Operand.tmp 2)
          unfold stStep
          rw [if_pos (by simp [Region.wanted])]
          intro K Q hK
          simp only [puts, List.foldr_nil]
          go_step
          refine st_ex hK rfl rfl (by simp only [Act.put, List.setIfInBounds_toArray, List.set_cons_succ, List.set_cons_zero, Array.getD_eq_getD_getElem?, List.getElem?_toArray, List.getElem?_cons_succ, List.getElem?_cons_zero, Option.getD_some] <;> rfl) rfl (by rw [hSd] at hS ⊢; exact hS)
        · -- 2: Op.move (Operand.tmp 13)
          unfold stStep
          rw [if_pos (by simp [Region.wanted])]
          intro K Q hK
          simp only [puts, List.foldr_nil]
          go_step
          refine st_ex hK rfl rfl (by simp only [Act.put, List.setIfInBounds_toArray, List.set_cons_succ, List.set_cons_zero, Array.getD_eq_getD_getElem?, List.getElem?_toArray, List.getElem?_cons_succ, List.getElem?_cons_zero, Option.getD_some] <;> rfl) rfl (by rw [hSd] at hS ⊢; exact hS)
        · -- 3: Op.indexAddr 30 (Operand.tmp 56) (Operand.tmp 57)
          obtain ⟨h1, h2, -⟩ := hh
          have g1 : f 1 = _ := h1
          have g2 : f 2 = _ := h2
          unfold stStep
          rw [if_pos (by simp [Region.wanted])]
          intro K Q hK
          simp only [puts, List.foldr_cons, List.foldr_nil, List.setIfInBounds_toArray, List.set_cons_succ, List.set_cons_zero, g1, g2]
          go_step
          refine st_ex hK rfl rfl (by simp only [Act.put, List.setIfInBounds_toArray, List.set_cons_succ, List.set_cons_zero, Array.getD_eq_getD_getElem?, List.getElem?_toArray, List.getElem?_cons_succ, List.getElem?_cons_zero, Option.getD_some] <;> rfl) rfl (by rw [hSd] at hS ⊢; exact hS)
        · -- 4: Op.load 24 (Operand.tmp 58)
          obtain ⟨h3, -⟩ := hh
          have g3 : f 3 = _ := h3
          unfold stStep
          rw [if_pos (by simp [Region.wanted])]
          intro K Q hK
          simp only [puts, List.foldr_cons, List.foldr_nil, List.setIfInBounds_toArray, List.set_cons_succ, List.set_cons_zero, g3]
          have hS' := hS
          rw [hSd] at hS'
          have hc4 := (hS'.1.1.cell (p := ⟨b, off + k, none⟩) hbl').trans hcell
          go_step
          refine st_ex hK rfl rfl (by simp only [Act.put, List.setIfInBounds_toArray, List.set_cons_succ, List.set_cons_zero, Array.getD_eq_getD_getElem?, List.getElem?_toArray, List.getElem?_cons_succ, List.getElem?_cons_zero, Option.getD_some] <;> rfl) rfl (by rw [hSd] at hS ⊢; exact hS)
        · -- 5: Op.call { callee := Callee.value (Operand.func 11), args := #[Operand.tmp 55, Operand.tmp 
          obtain ⟨h0, h4, -⟩ := hh
          have g0 : f 0 = _ := h0
          have g4 : f 4 = _ := h4
          have l6 : L 6 = false := Bool.eq_false_iff.2 fun h => by have q := hdn 6 _ h rfl 5 (by decide); rw [show L 5 = false from hi] at q; cases q
          have l7 : L 7 = false := Bool.eq_false_iff.2 fun h => by have q := hdn 7 _ h rfl 6 (by decide); rw [show L 6 = false from l6] at q; cases q
          have l10 : L 10 = false := Bool.eq_false_iff.2 fun h => by have q := hdn 10 _ h rfl 7 (by decide); rw [show L 7 = false from l7] at q; cases q
          unfold stStep
          rw [if_pos (by simp [Region.wanted])]
          intro K Q hK
          simp only [puts, List.foldr_cons, List.foldr_nil, List.setIfInBounds_toArray, List.set_cons_succ, List.set_cons_zero, g0, g4]
          rw [hSd] at hS hK
          have l5 : L 5 = false := hi
          simp only [stage, l6, l7, l10, l5, if_true, if_false, Bool.false_eq_true] at hS
          obtain ⟨⟨hB, hBQ⟩, hX, ⟨ho, hsz⟩, hst1, hst2⟩ := hS
          go_step
          go_at_call 11
          refine (append_any _ _ _ _ _ _ _ _ _ _ (IsInts.of_owns ho).1 hPo (hrow.later hB) hrb (by omega) (by omega)).mono ?_
          rintro e w' ⟨⟨a', n', c', rfl, hown', hn'⟩, hb'⟩
          rw [hnl] at hn'
          subst hn'
          refine hK.out _ _ rfl ⟨_, _, rfl⟩ ?_
          refine ⟨⟨hB.trans (hb'.mono hB.size), hBQ.trans (hb'.mono hBQ.size)⟩, hX.later hb', ⟨ho.kept_below hb', Nat.le_trans hsz hb'.size⟩, ?_, ?_⟩
          · simp only [stage, l6, l7, l10]
            exact ⟨_, _, rfl, hown'.from_mono hBQ.size⟩
          · by_cases h9 : L 9 = true
            · simp only [stage, l10, h9] at hst2 ⊢
              obtain ⟨g, e1, e2, e3⟩ := hst2
              exact ⟨g, e1, e2, (hb'.block g (Array.getElem?_eq_some_iff.1 e3).1).trans e3⟩
            · rw [Bool.not_eq_true] at h9
              simp only [stage, l10, h9]
              trivial
        · -- 6: Op.move (Operand.tmp 60)
          obtain ⟨h5, -⟩ := hh
          obtain ⟨a5, c5, g5⟩ := h5
          have l5 : L 5 = true := hd 5 (by decide)
          have l7 : L 7 = false := Bool.eq_false_iff.2 fun h => by have q := hdn 7 _ h rfl 6 (by decide); rw [show L 6 = false from hi] at q; cases q
          have l10 : L 10 = false := Bool.eq_false_iff.2 fun h => by have q := hdn 10 _ h rfl 7 (by decide); rw [show L 7 = false from l7] at q; cases q
          unfold stStep
          rw [if_pos (by simp [Region.wanted])]
          intro K Q hK
          simp only [puts, List.foldr_cons, List.foldr_nil, List.setIfInBounds_toArray, List.set_cons_succ, List.set_cons_zero, g5]
          rw [hSd] at hS hK
          have l6 : L 6 = false := hi
          simp only [stage, l7, l10, l6, l5, if_true, if_false, Bool.false_eq_true] at hS
          obtain ⟨hB, hX, ho, hst1, hst2⟩ := hS
          go_step
          refine hK.out _ _ rfl ⟨_, _, rfl⟩ ?_
          refine ⟨hB, hX, ho, ?_, ?_⟩
          · simp only [stage, l5, l6, l7, l10] at hst1 ⊢
            obtain ⟨a, c, e1, e2⟩ := hst1
            refine ⟨a, c, ?_, e2⟩
            have e5 : f 5 = _ := g5
            rw [e5] at e1
            rw [← e1]
            rfl
          · by_cases h9 : L 9 = true
            · simp only [stage, l10, h9] at hst2 ⊢
              obtain ⟨g, e1, e2, e3⟩ := hst2
              exact ⟨g, e1, e2, e3⟩
            · rw [Bool.not_eq_true] at h9
              simp only [stage, l10, h9]
              trivial
        · -- 7: Op.extract (Operand.tmp 54) 0
          obtain ⟨h6, -⟩ := hh
          obtain ⟨a6, c6, g6⟩ := h6
          have l6 : L 6 = true := hd 6 (by decide)
          have l10 : L 10 = false := Bool.eq_false_iff.2 fun h => by have q := hdn 10 _ h rfl 7 (by decide); rw [show L 7 = false from hi] at q; cases q
          unfold stStep
          rw [if_pos (by simp [Region.wanted])]
          intro K Q hK
          simp only [puts, List.foldr_cons, List.foldr_nil, List.setIfInBounds_toArray, List.set_cons_succ, List.set_cons_zero, g6]
          rw [hSd] at hS hK
          have l7 : L 7 = false := hi
          simp only [stage, l10, l7, l6, if_true, if_false, Bool.false_eq_true] at hS
          obtain ⟨hB, hX, ho, hst1, hst2⟩ := hS
          go_step
          refine hK.out _ _ rfl ⟨_, _, rfl⟩ ?_
          refine ⟨hB, hX, ho, ?_, ?_⟩
          · simp only [stage, l6, l7, l10] at hst1 ⊢
            obtain ⟨a, c, e1, e2⟩ := hst1
            refine ⟨a, c, ?_, e2⟩
            have e6 : f 6 = _ := g6
            rw [e6] at e1
            simp only [Value.tuple.injEq, Array.mk.injEq, List.cons.injEq, Value.agg.injEq, Value.slice.injEq, and_true, true_and] at e1
            obtain ⟨rfl, rfl⟩ := e1
            rfl
          · by_cases h9 : L 9 = true
            · simp only [stage, l10, h9] at hst2 ⊢
              obtain ⟨g, e1, e2, e3⟩ := hst2
              exact ⟨g, e1, e2, e3⟩
            · rw [Bool.not_eq_true] at h9
              simp only [stage, l10, h9]
              trivial
        · -- 8: Op.extract (Operand.tmp 54) 1
          obtain ⟨h6, -⟩ := hh
          obtain ⟨a6, c6, g6⟩ := h6
          unfold stStep
          rw [if_pos (by simp [Region.wanted])]
          intro K Q hK
          simp only [puts, List.foldr_cons, List.foldr_nil, List.setIfInBounds_toArray, List.set_cons_succ, List.set_cons_zero, g6]
          go_step
          refine st_ex hK rfl rfl (by simp only [Act.put, List.setIfInBounds_toArray, List.set_cons_succ, List.set_cons_zero, Array.getD_eq_getD_getElem?, List.getElem?_toArray, List.getElem?_cons_succ, List.getElem?_cons_zero, Option.getD_some] <;> rfl) rfl (by rw [hSd] at hS ⊢; exact hS)
        · -- 9: Op.alloc 26
          have l10 : L 10 = false := Bool.eq_false_iff.2 fun h => by have q := hdn 10 _ h rfl 9 (by decide); rw [show L 9 = false from hi] at q; cases q
          unfold stStep
          rw [if_pos (by simp [Region.wanted])]
          intro K Q hK
          simp only [puts, List.foldr_nil]
          rw [hSd] at hS hK
          have l9 : L 9 = false := hi
          simp only [stage, l10, l9, if_true, if_false, Bool.false_eq_true] at hS
          obtain ⟨⟨hB, hBQ⟩, hX, ⟨ho, hsz⟩, hst1, hst2⟩ := hS
          go_step
          have hb' : Below W.heap.size W (W.alloc (.cells #[.slice none 0 0, .int .i64 0] 26)) := (Below.refl _ _).alloc (Nat.le_refl _) _
          refine hK.out _ _ rfl ⟨_, rfl⟩ ?_
          refine ⟨⟨hB.trans (hb'.mono hB.size), hBQ.trans (hb'.mono hBQ.size)⟩, hX.later hb', ⟨ho.kept_below hb', Nat.le_trans hsz hb'.size⟩, ?_, ?_⟩
          · by_cases h7 : L 7 = true
            · simp only [stage, l10, h7] at hst1 ⊢
              obtain ⟨a, c, e1, e2⟩ := hst1
              exact ⟨a, c, e1, e2.kept_below hb'⟩
            · rw [Bool.not_eq_true] at h7
              by_cases h6 : L 6 = true
              · simp only [stage, l10, h7, h6] at hst1 ⊢
                obtain ⟨a, c, e1, e2⟩ := hst1
                exact ⟨a, c, e1, e2.kept_below hb'⟩
              · rw [Bool.not_eq_true] at h6
                by_cases h5 : L 5 = true
                · simp only [stage, l10, h7, h6, h5] at hst1 ⊢
                  obtain ⟨a, c, e1, e2⟩ := hst1
                  exact ⟨a, c, e1, e2.kept_below hb'⟩
                · rw [Bool.not_eq_true] at h5
                  simp only [stage, l10, h7, h6, h5]
                  trivial
          · simp only [stage, l10]
            exact ⟨_, rfl, hBQ.size, heap_alloc_new W _⟩
        · -- 10: Op.store 26 (Operand.tmp 14) (Operand.tmp 61)
          obtain ⟨h9, h7, h5, h0, h1, h2, h3, h4, _, h6, _, _, -⟩ := hh
          obtain ⟨q9, g9⟩ := h9
          obtain ⟨a7, c7, g7⟩ := h7
          obtain ⟨a5, c5, g5⟩ := h5
          have g0 : f 0 = _ := h0
          have g1 : f 1 = _ := h1
          have g2 : f 2 = _ := h2
          have g3 : f 3 = _ := h3
          have g4 : f 4 = _ := h4
          obtain ⟨a6, c6, g6⟩ := h6
          have l7 : L 7 = true := hd 7 (by decide)
          have l9 : L 9 = true := hd 9 (by decide)
          unfold stStep
          rw [if_pos (by simp [Region.wanted])]
          intro K Q hK
          simp only [puts, List.foldr_cons, List.foldr_nil, List.setIfInBounds_toArray, List.set_cons_succ, List.set_cons_zero, g9, g7, g5, g0, g1, g2, g3, g4, g6]
          rw [hSd] at hS hK
          have l10 : L 10 = false := hi
          simp only [stage, l10, l7, l9, if_true, if_false, Bool.false_eq_true] at hS
          obtain ⟨⟨hB, hBQ⟩, hX, ⟨ho, hsz⟩, hst1, hst2⟩ := hS
          obtain ⟨a, c, e1, e2⟩ := hst1
          obtain ⟨g, e3, e4, e5⟩ := hst2
          have e7 : f 7 = _ := g7
          have e9 : f 9 = _ := g9
          rw [e7] at e1
          rw [e9] at e3
          simp only [Value.agg.injEq, Array.mk.injEq, List.cons.injEq, Value.slice.injEq, and_true, true_and] at e1
          obtain ⟨rfl, rfl⟩ := e1
          simp only [Value.pointer.injEq, Option.some.injEq, Addr.mk.injEq, and_true] at e3
          subst e3
          have e5b : Box2 W q9 (.slice none 0 0) (.int .i64 0) := ⟨_, e5⟩
          obtain ⟨q0, q1, q2, q3⟩ := e5b.cells
          go_step
          refine hK.out _ _ rfl trivial ?_
          have k1 := owns_set2 ho e5 (by decide) (.slice a7 nl c7) (.int .i64 (U : Int))
          have k2 := owns_set2 e2 e5 (by decide) (.slice a7 nl c7) (.int .i64 (U : Int))
          refine ⟨⟨(hB.setCell (p := ⟨q9, 0, none⟩) (by show _ ≤ q9; omega) _).setCell (p := ⟨q9, 1, none⟩) (by show _ ≤ q9; omega) _, (hBQ.setCell (p := ⟨q9, 0, none⟩) (by show _ ≤ q9; omega) _).setCell (p := ⟨q9, 1, none⟩) (by show _ ≤ q9; omega) _⟩, (hX.other _ (by show _ ≠ q9; omega) _).other _ (by show _ ≠ q9; omega) _, ⟨k1, by rw [World.size_setCell, World.size_setCell]; exact hsz⟩, ?_, trivial⟩
          show ∃ a c g', f 9 = .pointer (some ⟨g', 0, none⟩) ∧ wr.heap.size ≤ g' ∧ Box2 _ g' (.slice a nl c) (.int .i64 (U : Int)) ∧ World.ownsRow _ (wr.heap.size) _ _ (.slice a nl c) nl _
          exact ⟨_, _, q9, e9, e4, e5b.store _ _, k2⟩
        · -- 11: Op.assign (Operand.tmp 62)
          obtain ⟨h8, h0, h1, h2, h3, h4, h5, h6, h7, _, h9, -⟩ := hh
          have g8 : f 8 = _ := h8
          have g0 : f 0 = _ := h0
          have g1 : f 1 = _ := h1
          have g2 : f 2 = _ := h2
          have g3 : f 3 = _ := h3
          have g4 : f 4 = _ := h4
          obtain ⟨a5, c5, g5⟩ := h5
          obtain ⟨a6, c6, g6⟩ := h6
          obtain ⟨a7, c7, g7⟩ := h7
          obtain ⟨q9, g9⟩ := h9
          unfold stStep
          rw [if_pos (by simp [Region.wanted])]
          intro K Q hK
          simp only [puts, List.foldr_cons, List.foldr_nil, List.setIfInBounds_toArray, List.set_cons_succ, List.set_cons_zero, g8, g0, g1, g2, g3, g4, g5, g6, g7, g9]
          go_step
          refine st_ex hK rfl rfl (by simp only [Act.put, List.setIfInBounds_toArray, List.set_cons_succ, List.set_cons_zero, Array.getD_eq_getD_getElem?, List.getElem?_toArray, List.getElem?_cons_succ, List.getElem?_cons_zero, Option.getD_some] <;> rfl) rfl (by rw [hSd] at hS ⊢; exact hS)
      case rest =>
        intro L f W2 hL hh hS
        rw [hSd] at hS
        clear hSd
        have l10 : L 10 = true := hL 10 (by decide)
        simp only [stage, l10, if_true] at hS
        clear hL l10
        obtain ⟨h0, h1, h2, h3, h4, h5, h6, h7, h8, h9, h11, -⟩ := hh
        have g0 : f 0 = _ := h0
        have g1 : f 1 = _ := h1
        have g2 : f 2 = _ := h2
        have g3 : f 3 = _ := h3
        have g4 : f 4 = _ := h4
        obtain ⟨a5, c5, g5⟩ := h5
        obtain ⟨a6, c6, g6⟩ := h6
        obtain ⟨a7, c7, g7⟩ := h7
        have g8 : f 8 = _ := h8
        obtain ⟨q9, g9⟩ := h9
        have g11 : f 11 = _ := h11
        simp only [puts, List.foldr_cons, List.foldr_nil, List.setIfInBounds_toArray, List.set_cons_succ, List.set_cons_zero, g0, g1, g2, g3, g4, g5, g6, g7, g8, g9, g11]
        clear h0 h1 h2 h3 h4 h8 h11 g0 g1 g2 g3 g4 g8 g11

        obtain ⟨⟨hB, hBQ⟩, hX, ⟨ho, hsz⟩, hst1, hst2⟩ := hS
        obtain ⟨a2, c2, g, e3, e4, hG, hrow2⟩ := hst1
        have e9 : f 9 = _ := g9
        rw [e3] at e9
        simp only [Value.pointer.injEq, Option.some.injEq, Addr.mk.injEq, and_true] at e9
        subst e9
        have hN2 := hN.later hBQ
        have hoP2 := hoP.kept_below hBQ
        obtain ⟨z0, z1, -, -⟩ := hG.cells
        obtain ⟨v0, v1, v2, v3⟩ := hX.cells
        have hsz2 : PB + 1 ≤ W2.heap.size := Nat.le_trans hszr hBQ.size
        have hszQ : w5.heap.size + 1 ≤ wr.heap.size := by omega
        obtain ⟨W4, hW4⟩ : ∃ W4, (W2.setCell ⟨w5.heap.size, 0, none⟩ (.slice a2 nl c2)).setCell ⟨w5.heap.size, 1, none⟩ (.int .i64 (U : Int)) = W4 := ⟨_, rfl⟩
        have hX4 : Box2 W4 w5.heap.size (.slice a2 nl c2) (.int .i64 (U : Int)) := by rw [← hW4]; exact hX.store _ _
        have hrow4 : W4.ownsRow w4.heap.size 5 1 (.slice a2 nl c2) nl (ivs .u8 (encP basis (P ++ partsL r))) := by
          rw [← hW4]
          exact (ownsRow_setCell_below (ownsRow_setCell_below hrow2 (by show w5.heap.size < _; omega) _) (by show w5.heap.size < _; omega) _).from_mono (by omega)
        have hoP4 : W4.ownsRow (w5.heap.size + 1) 5 1 (.slice pa PL pc) PL (ivs .u8 (encP basis (allP (ts ++ ms)))) := by
          rw [← hW4]
          exact ownsRow_setCell_below (ownsRow_setCell_below hoP2 (by show w5.heap.size < _; omega) _) (by show w5.heap.size < _; omega) _
        have hN4 : Box2 W4 PB (.slice pa PL pc) (.int .i64 0) := by
          rw [← hW4]
          exact (hN2.other _ (by show PB ≠ w5.heap.size; omega) _).other _ (by show PB ≠ w5.heap.size; omega) _
        have hB4 : Below w.heap.size w W4 := by
          rw [← hW4]
          exact (hB.setCell (p := ⟨w5.heap.size, 0, none⟩) (by show _ ≤ w5.heap.size; omega) _).setCell (p := ⟨w5.heap.size, 1, none⟩) (by show _ ≤ w5.heap.size; omega) _
        have hsz4 : PB + 1 ≤ W4.heap.size := by rw [← hW4, World.size_setCell, World.size_setCell]; exact hsz2
        have hnl2 : 32 * (allP (ts ++ ms.take (k + 1))).length = nl := by rw [HPn.out, List.length_append, partsL_length, HLR.out, ← hnl, ← HFL.out, HP.out]; omega
        have HNL := Lib.hid hnl2
        have hk1 : k + 1 ≤ len' := hlt
        clear hnl2 hnl hX ho hG hrow2 hN2 hoP2 hN hoP hB hBQ hst2 e3 e4 hcell hrow
        go_wp2_with (fail)
        go_roundw
        case rel => exact ⟨k + 1, a2, c2, hk1, by go_num, hB4, hsz4, by rw [HNL.out]; exact hX4, by rw [HNL.out, HPn.out]; exact hrow4, hN4, hoP4⟩
        case measure => simp [intOf]; omega
    · obtain rfl : k = len' := by omega
      have dlt : decide ((k : Int) < k) = false := decide_eq_false (by omega)
      have hall : ms.take k = ms := List.take_of_length_le (by rw [HL'.out]; exact Nat.le_refl _)
      rw [hall] at hP hfl
      have hflP : fl = PL := by rw [HPL.out, ← hfl]
      rw [hP] at hoP
      have h1 := run_toString wr 24 9 5 Try.underlying24 Try.underlying5 Try.underlying9 fa fl fc (encP basis P) (IsInts.of_owns ho).1
      have h2 := run_toString wr 24 9 5 Try.underlying24 Try.underlying5 Try.underlying9 pa PL pc (encP basis P) (IsInts.of_owns hoP).1
      obtain ⟨u0, u1, -, -⟩ := hN.cells
      clear hflP hP hall hfl
      go_wp2_with (fail)
      go_ret
      exact ⟨rfl, hB⟩
end Go.Proofs.Ytpmhnmkpmkeadaa
