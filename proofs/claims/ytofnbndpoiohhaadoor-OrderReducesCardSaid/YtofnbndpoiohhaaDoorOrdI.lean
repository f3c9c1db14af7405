/-
  Package order: IsLinear, Cut.
-/
import Derived.Test.YtofnbndpoiohhaaDoorOrdF
set_option linter.unusedSimpArgs false
set_option linter.unusedVariables false
set_option maxHeartbeats 8000000
namespace Go.Proofs.YtofnbndpoiohhaaDoor
open Go.RowKit Go.Shelf
attribute [local go_sem] Oper.semAt_some

variable {n : Int} {a : Option Addr} {len cap : Nat} {es : List (Int × Int)} {w : World}

/-! Lists of events as bit vectors. -/
def BitsOf (dv : Int) (p : List Int) : Prop := (0 ≤ dv ∧ dv < 18446744073709551616) ∧ ∀ i : Nat, i < 64 → (tb dv i = true ↔ (i : Int) ∈ p)
theorem BitsOf.zero : BitsOf 0 [] := ⟨by decide, fun i _ => by rw [tb_zero]; simp⟩
theorem BitsOf.snoc {dv : Int} {p : List Int} {x : Nat} (h : BitsOf dv p) (hx : x < 60) : BitsOf (bits .or .u64 dv (IntKind.u64.wrap (2 ^ x))) (p ++ [(x : Int)]) := by
  obtain ⟨h1, h2⟩ := orBit_spec h.1 (show x < 64 by omega)
  refine ⟨h1, fun i hi => ?_⟩
  rw [h2, Bool.or_eq_true, h.2 i hi, decide_eq_true_iff, List.mem_append, List.mem_singleton, Int.ofNat_inj]
theorem BitsOf.test {dv : Int} {p : List Int} {x : Nat} (h : BitsOf dv p) (hx : x < 60) : ((x : Int) ∈ p → (bits .and .u64 (dv / 2 ^ x) 1 == 1) = true) ∧ ((x : Int) ∉ p → (bits .and .u64 (dv / 2 ^ x) 1 == 1) = false) := by
  have e : (bits .and .u64 (dv / 2 ^ x) 1 == 1) = tb dv x := bitI_tb h.1.1 h.1.2 x
  rw [e]
  exact ⟨fun hm => (h.2 x (by omega)).2 hm, fun hm => Bool.eq_false_iff.2 fun hh => hm ((h.2 x (by omega)).1 hh)⟩
theorem BitsOf.test0 {dv : Int} {p : List Int} {x : Nat} (h : BitsOf dv p) (hx : x < 60) : ((x : Int) ∈ p → (bits .and .u64 (dv / 2 ^ x) 1 == 0) = false) ∧ ((x : Int) ∉ p → (bits .and .u64 (dv / 2 ^ x) 1 == 0) = true) := by
  rw [and1_eq h.1]
  exact ⟨fun hm => by rw [(h.2 x (by omega)).2 hm]; rfl, fun hm => by rw [Bool.not_eq_true', Bool.eq_false_iff]; exact fun hh => hm ((h.2 x (by omega)).1 hh)⟩
def PreIn (es : List (Int × Int)) (p : List Int) (x : Nat) : Prop := ∀ a : Nat, Path (Ed es) a x → (a : Int) ∈ p
theorem BitsOf.pre {dv : Int} {p ps : List Int} {x : Nat} (h : BitsOf dv p) (hv : ValidO n es) (hps : PastOf es ps) (hx : x < 60) : (PreIn es p x → (bits .andNot .u64 (gi ps x) dv == 0) = true) ∧ (¬ PreIn es p x → (bits .andNot .u64 (gi ps x) dv == 0) = false) := by
  have hg := hps.2.1.gi x
  have hin : ∀ a, Path (Ed es) a x → a < 64 := fun a p => by
    obtain ⟨b, e⟩ := p.first
    have := (hv.2.2.1 _ e).1
    have := hv.1.2
    simp only at *
    omega
  have key : (bits .andNot .u64 (gi ps x) dv == 0) = true ↔ PreIn es p x := by
    rw [andNot_eq hg h.1]
    constructor
    · intro hh a pa
      exact (h.2 a (hin a pa)).1 (hh a (hin a pa) ((hps.2.2 x hx a (hin a pa)).2 pa))
    · intro hh r hr h1
      exact (h.2 r hr).2 (hh r ((hps.2.2 x hx r hr).1 h1))
  exact ⟨key.2, fun hn => Bool.eq_false_iff.2 fun hh => hn (key.1 hh)⟩
theorem bne_of {a b : Int} {r : Bool} (h : (a == b) = r) : (a != b) = !r := by unfold bne; rw [h]

def InRng (n : Int) (p : List Int) (x : Int) : Prop := (0 ≤ x ∧ x < n) ∧ x ∉ p
def LinP (n : Int) (es : List (Int × Int)) (l : List Int) : Prop := ValidO n es ∧ (l.length : Int) = n ∧ ∀ k, k < l.length → InRng n (l.take k) (gi l k) ∧ PreIn es (l.take k) (gi l k).toNat
def CutP (n : Int) (es : List (Int × Int)) (l : List Int) : Prop := ValidO n es ∧ (∀ k, k < l.length → InRng n (l.take k) (gi l k)) ∧ ∀ k, k < l.length → PreIn es l (gi l k).toNat
open Classical in
noncomputable def linB (n : Int) (es : List (Int × Int)) (l : List Int) : Bool := decide (LinP n es l)
open Classical in
noncomputable def cutB (n : Int) (es : List (Int × Int)) (l : List Int) : Bool := decide (CutP n es l)
open Classical in
theorem linB_yes {l : List Int} (h : LinP n es l) : linB n es l = true := by unfold linB; exact decide_eq_true h
open Classical in
theorem linB_no {l : List Int} (h : ¬ LinP n es l) : linB n es l = false := by unfold linB; exact decide_eq_false h
open Classical in
theorem cutB_yes {l : List Int} (h : CutP n es l) : cutB n es l = true := by unfold cutB; exact decide_eq_true h
open Classical in
theorem cutB_no {l : List Int} (h : ¬ CutP n es l) : cutB n es l = false := by unfold cutB; exact decide_eq_false h

theorem lin_inv (al : Option Addr) (ll cl : Nat) (he : IsPairs w a len cap es) (hT : TabAt 0 Lib.deBruijn64tab w) (hv : ¬ ValidO n es) :
    Calls Tryd.prog 22 #[.agg #[.int .i64 n, .slice a len cap], .slice al ll cl] w fun e w' => e = .returned (.bool false) ∧ Below w.heap.size w w' := by
  obtain ⟨hb1, hs1, hO⟩ := boxO n a len cap w
  obtain ⟨c0, c1⟩ := hO _ (Below.refl _ _)
  have he1 := he.later hb1
  have hT1 := tab_later hT hb1
  have hc := closed_no he1 hT1 hv
  clear hv he hT he1 hT1
  go_enter Tryd.func22, Tryd.ntmps22
  go_wp2_with (fail)
  go_at_call 33
  refine hc.mono ?_
  rintro e w2 ⟨ps, rfl, hpl, hb2⟩
  clear hc
  go_wp2_with (show wpList _ _ _ (⟨_, .store 56 _ _, _, _, _, _⟩ :: _) _ _; refine store_past rfl _ _ rfl rfl rfl rfl hpl ?_; intro w3 hs3 hb3 hP3; have hb13 := hb2.trans (hb3.mono hb2.size); obtain ⟨d0, d1⟩ := hO w3 (by rw [← hs1]; exact hb13))
  go_ret
  exact ⟨rfl, hb1.trans (hb13.mono (by omega))⟩

theorem cut_inv (al : Option Addr) (ll cl : Nat) (he : IsPairs w a len cap es) (hT : TabAt 0 Lib.deBruijn64tab w) (hv : ¬ ValidO n es) :
    Calls Tryd.prog 24 #[.agg #[.int .i64 n, .slice a len cap], .slice al ll cl] w fun e w' => e = .returned (.bool false) ∧ Below w.heap.size w w' := by
  obtain ⟨hb1, hs1, hO⟩ := boxO n a len cap w
  obtain ⟨c0, c1⟩ := hO _ (Below.refl _ _)
  have he1 := he.later hb1
  have hT1 := tab_later hT hb1
  have hc := closed_no he1 hT1 hv
  clear hv he hT he1 hT1
  go_enter Tryd.func24, Tryd.ntmps24
  go_wp2_with (fail)
  go_at_call 33
  refine hc.mono ?_
  rintro e w2 ⟨ps, rfl, hpl, hb2⟩
  clear hc
  go_wp2_with (show wpList _ _ _ (⟨_, .store 56 _ _, _, _, _, _⟩ :: _) _ _; refine store_past rfl _ _ rfl rfl rfl rfl hpl ?_; intro w3 hs3 hb3 hP3; have hb13 := hb2.trans (hb3.mono hb2.size); obtain ⟨d0, d1⟩ := hO w3 (by rw [← hs1]; exact hb13))
  go_ret
  exact ⟨rfl, hb1.trans (hb13.mono (by omega))⟩

theorem lin_len (al : Option Addr) (ll cl : Nat) (l : List Int) (he : IsPairs w a len cap es) (hT : TabAt 0 Lib.deBruijn64tab w) (hl : IsInts .i64 w al ll cl l) (hv : ValidO n es) (hne : (ll : Int) ≠ n) :
    Calls Tryd.prog 22 #[.agg #[.int .i64 n, .slice a len cap], .slice al ll cl] w fun e w' => e = .returned (.bool false) ∧ Below w.heap.size w w' := by
  obtain ⟨hb1, hs1, hO⟩ := boxO n a len cap w
  obtain ⟨c0, c1⟩ := hO _ (Below.refl _ _)
  have he1 := he.later hb1
  have hT1 := tab_later hT hb1
  have hc := closed_yes he1 hT1 hv
  have hcapl := hl.cap
  unfold maxLen at hcapl
  have hll := Lib.hid hl.length
  obtain ⟨N, rfl⟩ := Int.eq_ofNat_of_zero_le hv.1.1
  have hN60 : N ≤ 60 := by have := hv.1.2; omega
  have HV := Lib.hid hv
  clear hv he hT he1 hT1
  go_enter Tryd.func22, Tryd.ntmps22
  go_wp2_with (fail)
  go_at_call 33
  refine hc.mono ?_
  rintro e w2 ⟨ps, lo, ao, co, rfl, hps, hK, hlo, hrow, hb2⟩
  have hpl := hps.1
  have HPS := Lib.hid hps
  clear hc hK hlo hrow hps
  have dl : ((ll : Int) != (N : Int)) = true := by simp; omega
  clear hne
  go_wp2_with (show wpList _ _ _ (⟨_, .store 56 _ _, _, _, _, _⟩ :: _) _ _; refine store_past rfl _ _ rfl rfl rfl rfl hpl ?_; intro w3 hs3 hb3 hP3; have hb13 := hb2.trans (hb3.mono hb2.size); obtain ⟨d0, d1⟩ := hO w3 (by rw [← hs1]; exact hb13))
  go_ret
  exact ⟨rfl, hb1.trans (hb13.mono (by omega))⟩

theorem lin_yes (al : Option Addr) (ll cl : Nat) (l : List Int) (he : IsPairs w a len cap es) (hT : TabAt 0 Lib.deBruijn64tab w) (hl : IsInts .i64 w al ll cl l) (hv : ValidO n es) (heq : (ll : Int) = n) :
    Calls Tryd.prog 22 #[.agg #[.int .i64 n, .slice a len cap], .slice al ll cl] w fun e w' => e = .returned (.bool (linB n es l)) ∧ Below w.heap.size w w' := by
  obtain ⟨hb1, hs1, hO⟩ := boxO n a len cap w
  obtain ⟨c0, c1⟩ := hO _ (Below.refl _ _)
  have he1 := he.later hb1
  have hT1 := tab_later hT hb1
  have hc := closed_yes he1 hT1 hv
  have hcapl := hl.cap
  unfold maxLen at hcapl
  have hll := Lib.hid hl.length
  obtain ⟨N, rfl⟩ := Int.eq_ofNat_of_zero_le hv.1.1
  have hN60 : N ≤ 60 := by have := hv.1.2; omega
  have HV := Lib.hid hv
  clear hv he hT he1 hT1
  go_enter Tryd.func22, Tryd.ntmps22
  go_wp2_with (fail)
  go_at_call 33
  refine hc.mono ?_
  rintro e w2 ⟨ps, lo, ao, co, rfl, hps, hK, hlo, hrow, hb2⟩
  have hpl := hps.1
  have HPS := Lib.hid hps
  clear hc hK hlo hrow hps
  have dl : ((ll : Int) != (N : Int)) = false := by simp; omega
  have HEQ := Lib.hid heq
  clear heq
  go_wp2_with (show wpList _ _ _ (⟨_, .store 56 _ _, _, _, _, _⟩ :: _) _ _; refine store_past rfl _ _ rfl rfl rfl rfl hpl ?_; intro w3 hs3 hb3 hP3; have hb13 := hb2.trans (hb3.mono hb2.size); obtain ⟨d0, d1⟩ := hO w3 (by rw [← hs1]; exact hb13))
  have HB0 := Lib.hid (hb1.trans (hb13.mono (by omega)))
  have HP := Lib.hid hP3
  clear hs3 hb3 hb13 hb2 hP3 hO c0 c1 dl
  go_loop [8, 28] (fun d c => ∃ (k : Nat) (dv : Int), k ≤ ll ∧ c = .int .i64 (k : Int) ∧ d = .int .u64 dv ∧ Hid (BitsOf dv (l.take k)) ∧ Hid (∀ i, i < k → InRng N (l.take i) (gi l i) ∧ PreIn es (l.take i) (gi l i).toNat)) (fun _ c => ll - (intOf c).toNat)
  case atStart => exact ⟨0, 0, Nat.zero_le _, rfl, rfl, Lib.hid BitsOf.zero, Lib.hid (fun i hi => by omega)⟩
  case round =>
    obtain ⟨k, dv, hk, rfl, rfl, HD, HK⟩ := hrel
    by_cases hlt : k < ll
    · have dlt : decide ((k : Int) < ll) = true := decide_eq_true (by omega)
      have dlN : decide ((k : Int) < N) = true := by have := HEQ.out; exact decide_eq_true (by omega)
      obtain ⟨bl, ol, rfl, hbl, hcl⟩ := hl.at w3 HB0.out k hlt
      obtain ⟨x, hx⟩ : ∃ x, gi l k = x := ⟨_, rfl⟩
      rw [hx] at hcl
      replace hx := Lib.hid hx
      by_cases hx0 : x < 0
      · have t1 : decide (x < 0) = true := decide_eq_true hx0
        go_wp2
        go_ret
        exact ⟨by rw [linB_no (fun h => by have := (h.2.2 k (by rw [hll.out]; exact hlt)).1.1.1; rw [hx.out] at this; omega)] <;> rfl, HB0.out⟩
      have t1 : decide (x < 0) = false := decide_eq_false hx0
      by_cases hxn : (N : Int) ≤ x
      · have t2 : decide ((N : Int) ≤ x) = true := decide_eq_true hxn
        go_wp2
        go_ret
        exact ⟨by rw [linB_no (fun h => by have := (h.2.2 k (by rw [hll.out]; exact hlt)).1.1.2; rw [hx.out] at this; omega)] <;> rfl, HB0.out⟩
      have t2 : decide ((N : Int) ≤ x) = false := decide_eq_false hxn
      obtain ⟨x, rfl⟩ := Int.eq_ofNat_of_zero_le (show 0 ≤ x by omega)
      have hx60 : x < 60 := by omega
      have hdv := HD.out.1
      have hdv0 := hdv.1
      have hdv1 := hdv.2
      by_cases hmem : (x : Int) ∈ l.take k
      · have t3 := (HD.out.test hx60).1 hmem
        go_wp2
        go_ret
        exact ⟨by rw [linB_no (fun h => (h.2.2 k (by rw [hll.out]; exact hlt)).1.2 (by rw [hx.out]; exact hmem))] <;> rfl, HB0.out⟩
      have t3 := (HD.out.test hx60).2 hmem
      obtain ⟨hcp, -⟩ := HP.out.cell x (by rw [hpl]; exact hx60)
      by_cases hpre : PreIn es (l.take k) x
      · have t4 := bne_of ((HD.out.pre HV.out HPS.out hx60).1 hpre)
        have hD2 := Lib.hid (HD.out.snoc hx60)
        rw [← hx.out, ← take_succ_gi l k (by rw [hll.out]; exact hlt)] at hD2
        have hok2 : Hid (∀ i, i < k + 1 → InRng N (l.take i) (gi l i) ∧ PreIn es (l.take i) (gi l i).toNat) := Lib.hid fun i hi => by
          rcases Nat.lt_or_ge i k with h | h
          · exact HK.out i h
          · obtain rfl : i = k := by omega
            rw [hx.out]
            exact ⟨⟨by omega, hmem⟩, hpre⟩
        clear hmem
        go_wp2
        go_round
        case rel => exact ⟨k + 1, _, hlt, by go_num, rfl, hD2, hok2⟩
        case measure => simp [intOf]; omega
      · have t4 := bne_of ((HD.out.pre HV.out HPS.out hx60).2 hpre)
        go_wp2
        go_ret
        exact ⟨by rw [linB_no (fun h => hpre (by have := (h.2.2 k (by rw [hll.out]; exact hlt)).2; rw [hx.out] at this; exact this))] <;> rfl, HB0.out⟩
    · obtain rfl : k = ll := by omega
      have dlt : decide ((k : Int) < k) = false := decide_eq_false (by omega)
      have dlN : decide ((k : Int) < N) = false := by have := HEQ.out; exact decide_eq_false (by omega)
      go_wp2
      go_ret
      exact ⟨by rw [linB_yes ⟨HV.out, by rw [hll.out, HEQ.out], by rw [hll.out]; exact HK.out⟩] <;> rfl, HB0.out⟩

theorem isLinear_any (al : Option Addr) (ll cl : Nat) (l : List Int) (he : IsPairs w a len cap es) (hT : TabAt 0 Lib.deBruijn64tab w) (hl : IsInts .i64 w al ll cl l) :
    Calls Tryd.prog 22 #[.agg #[.int .i64 n, .slice a len cap], .slice al ll cl] w fun e w' => e = .returned (.bool (linB n es l)) ∧ Below w.heap.size w w' := by
  by_cases hv : ValidO n es
  · by_cases hq : (ll : Int) = n
    · exact lin_yes al ll cl l he hT hl hv hq
    · rw [linB_no (fun h => hq (by rw [← h.2.1, hl.length]))]
      exact lin_len al ll cl l he hT hl hv hq
  · rw [linB_no (fun h => hv h.1)]
    exact lin_inv al ll cl he hT hv

theorem cut_yes (al : Option Addr) (ll cl : Nat) (l : List Int) (he : IsPairs w a len cap es) (hT : TabAt 0 Lib.deBruijn64tab w) (hl : IsInts .i64 w al ll cl l) (hv : ValidO n es) :
    Calls Tryd.prog 24 #[.agg #[.int .i64 n, .slice a len cap], .slice al ll cl] w fun e w' => e = .returned (.bool (cutB n es l)) ∧ Below w.heap.size w w' := by
  obtain ⟨hb1, hs1, hO⟩ := boxO n a len cap w
  obtain ⟨c0, c1⟩ := hO _ (Below.refl _ _)
  have he1 := he.later hb1
  have hT1 := tab_later hT hb1
  have hc := closed_yes he1 hT1 hv
  have hcapl := hl.cap
  unfold maxLen at hcapl
  have hll := Lib.hid hl.length
  obtain ⟨N, rfl⟩ := Int.eq_ofNat_of_zero_le hv.1.1
  have hN60 : N ≤ 60 := by have := hv.1.2; omega
  have HV := Lib.hid hv
  clear hv he hT he1 hT1
  go_enter Tryd.func24, Tryd.ntmps24
  go_wp2_with (fail)
  go_at_call 33
  refine hc.mono ?_
  rintro e w2 ⟨ps, lo, ao, co, rfl, hps, hK, hlo, hrow, hb2⟩
  have hpl := hps.1
  have HPS := Lib.hid hps
  clear hc hK hlo hrow hps
  go_wp2_with (show wpList _ _ _ (⟨_, .store 56 _ _, _, _, _, _⟩ :: _) _ _; refine store_past rfl _ _ rfl rfl rfl rfl hpl ?_; intro w3 hs3 hb3 hP3; have hb13 := hb2.trans (hb3.mono hb2.size); obtain ⟨d0, d1⟩ := hO w3 (by rw [← hs1]; exact hb13))
  have HB0 := Lib.hid (hb1.trans (hb13.mono (by omega)))
  have HP := Lib.hid hP3
  clear hs3 hb3 hb13 hb2 hP3 hO c0 c1
  go_loop [8, 23] (fun d c => ∃ (k : Nat) (dv : Int), k ≤ ll ∧ c = .int .i64 (k : Int) ∧ d = .int .u64 dv ∧ Hid (BitsOf dv (l.take k)) ∧ Hid (∀ i, i < k → InRng N (l.take i) (gi l i))) (fun _ c => ll - (intOf c).toNat)
  case atStart => exact ⟨0, 0, Nat.zero_le _, rfl, rfl, Lib.hid BitsOf.zero, Lib.hid (fun i hi => by omega)⟩
  case round =>
    obtain ⟨k, dv, hk, rfl, rfl, HD, HK⟩ := hrel
    by_cases hlt : k < ll
    · have dlt : decide ((k : Int) < ll) = true := decide_eq_true (by omega)
      obtain ⟨bl, ol, rfl, hbl, hcl⟩ := hl.at w3 HB0.out k hlt
      obtain ⟨x, hx⟩ : ∃ x, gi l k = x := ⟨_, rfl⟩
      rw [hx] at hcl
      replace hx := Lib.hid hx
      by_cases hx0 : x < 0
      · have t1 : decide (x < 0) = true := decide_eq_true hx0
        go_wp2
        go_ret
        exact ⟨by rw [cutB_no (fun h => by have := (h.2.1 k (by rw [hll.out]; exact hlt)).1.1; rw [hx.out] at this; omega)] <;> rfl, HB0.out⟩
      have t1 : decide (x < 0) = false := decide_eq_false hx0
      by_cases hxn : (N : Int) ≤ x
      · have t2 : decide ((N : Int) ≤ x) = true := decide_eq_true hxn
        go_wp2
        go_ret
        exact ⟨by rw [cutB_no (fun h => by have := (h.2.1 k (by rw [hll.out]; exact hlt)).1.2; rw [hx.out] at this; omega)] <;> rfl, HB0.out⟩
      have t2 : decide ((N : Int) ≤ x) = false := decide_eq_false hxn
      obtain ⟨x, rfl⟩ := Int.eq_ofNat_of_zero_le (show 0 ≤ x by omega)
      have hx60 : x < 60 := by omega
      have hdv := HD.out.1
      have hdv0 := hdv.1
      have hdv1 := hdv.2
      by_cases hmem : (x : Int) ∈ l.take k
      · have t3 := (HD.out.test hx60).1 hmem
        go_wp2
        go_ret
        exact ⟨by rw [cutB_no (fun h => (h.2.1 k (by rw [hll.out]; exact hlt)).2 (by rw [hx.out]; exact hmem))] <;> rfl, HB0.out⟩
      have t3 := (HD.out.test hx60).2 hmem
      have hD2 := Lib.hid (HD.out.snoc hx60)
      rw [← hx.out, ← take_succ_gi l k (by rw [hll.out]; exact hlt)] at hD2
      have hok2 : Hid (∀ i, i < k + 1 → InRng N (l.take i) (gi l i)) := Lib.hid fun i hi => by
        rcases Nat.lt_or_ge i k with h | h
        · exact HK.out i h
        · obtain rfl : i = k := by omega
          rw [hx.out]
          exact ⟨by omega, hmem⟩
      clear hmem
      go_wp2
      go_round
      case rel => exact ⟨k + 1, _, hlt, by go_num, rfl, hD2, hok2⟩
      case measure => simp [intOf]; omega
    · obtain rfl : k = ll := by omega
      have dlt : decide ((k : Int) < k) = false := decide_eq_false (by omega)
      have hall : l.take k = l := List.take_of_length_le (by rw [hll.out]; exact Nat.le_refl _)
      rw [hall] at HD
      have hdv := HD.out.1
      have hdv0 := hdv.1
      have hdv1 := hdv.2
      go_wp2_with (fail)
      go_loop [49] (fun c => ∃ (j : Nat), j ≤ k ∧ c = .int .i64 (j : Int) ∧ Hid (∀ i, i < j → PreIn es l (gi l i).toNat)) (fun c => k - (intOf c).toNat)
      case atStart => exact ⟨0, Nat.zero_le _, rfl, Lib.hid (fun i hi => by omega)⟩
      case round =>
        obtain ⟨j, hj, rfl, HJ⟩ := hrel
        by_cases hlt : j < k
        · have dlt : decide ((j : Int) < k) = true := decide_eq_true (by omega)
          obtain ⟨bl, ol, rfl, hbl, hcl⟩ := hl.at w3 HB0.out j hlt
          obtain ⟨x, hx⟩ : ∃ x, gi l j = x := ⟨_, rfl⟩
          have hxr := (HK.out j hlt).1
          rw [hx] at hcl hxr
          replace hx := Lib.hid hx
          obtain ⟨x, rfl⟩ := Int.eq_ofNat_of_zero_le hxr.1
          have hx60 : x < 60 := by omega
          obtain ⟨hcp, -⟩ := HP.out.cell x (by rw [hpl]; exact hx60)
          by_cases hpre : PreIn es l x
          · have t4 := bne_of ((HD.out.pre HV.out HPS.out hx60).1 hpre)
            have hok2 : Hid (∀ i, i < j + 1 → PreIn es l (gi l i).toNat) := Lib.hid fun i hi => by
              rcases Nat.lt_or_ge i j with h | h
              · exact HJ.out i h
              · obtain rfl : i = j := by omega
                rw [hx.out]
                exact hpre
            go_wp2
            go_round
            case rel => exact ⟨j + 1, hlt, by go_num, hok2⟩
            case measure => simp [intOf]; omega
          · have t4 := bne_of ((HD.out.pre HV.out HPS.out hx60).2 hpre)
            go_wp2
            go_ret
            exact ⟨by rw [cutB_no (fun h => hpre (by have := h.2.2 j (by rw [hll.out]; exact hlt); rw [hx.out] at this; exact this))] <;> rfl, HB0.out⟩
        · obtain rfl : j = k := by omega
          have dlt : decide ((j : Int) < j) = false := decide_eq_false (by omega)
          go_wp2
          go_ret
          exact ⟨by rw [cutB_yes ⟨HV.out, by rw [hll.out]; exact HK.out, by rw [hll.out]; exact HJ.out⟩] <;> rfl, HB0.out⟩

theorem cut_any (al : Option Addr) (ll cl : Nat) (l : List Int) (he : IsPairs w a len cap es) (hT : TabAt 0 Lib.deBruijn64tab w) (hl : IsInts .i64 w al ll cl l) :
    Calls Tryd.prog 24 #[.agg #[.int .i64 n, .slice a len cap], .slice al ll cl] w fun e w' => e = .returned (.bool (cutB n es l)) ∧ Below w.heap.size w w' := by
  by_cases hv : ValidO n es
  · exact cut_yes al ll cl l he hT hl hv
  · rw [cutB_no (fun h => hv h.1)]
    exact cut_inv al ll cl he hT hv
end Go.Proofs.YtofnbndpoiohhaaDoor

