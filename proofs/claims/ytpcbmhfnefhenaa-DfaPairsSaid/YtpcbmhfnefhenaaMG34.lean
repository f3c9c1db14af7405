import Derived.Test.YtpcbmhfnefhenaaMG12
import Derived.Test.YtpcbmhfnefhenaaMG14
import Derived.Test.YtpcbmhfnefhenaaMG28
import Derived.Test.YtpcbmhfnefhenaaMG31
/-
  DfaFi, Rf3
-/
set_option linter.unusedSimpArgs false
set_option linter.unusedVariables false
namespace Go.Proofs.Ytpcbmhfnefhenaa
open Go.RowKit
attribute [local go_sem] Oper.semAt_some

def fndP (q : List P2) (x : P2) : Int := if x ∈ q then ((q.idxOf x : Nat) : Int) else -1
theorem fnd_at {q : List P2} {x : P2} {k : Nat} (hk : k < q.length) (h : gp2 q k = x) (hno : ∀ i, i < k → gp2 q i ≠ x) : fndP q x = k := by
 have hm : x ∈ q := by rw [← h]; exact gp2_mem _ _ hk
 unfold fndP
 rw [if_pos hm]
 have h1 := List.idxOf_lt_length_of_mem hm
 have h2 : gp2 q (q.idxOf x) = x := by rw [gp2_eq _ _ h1]; exact List.getElem_idxOf h1
 have h3 : q.idxOf x ≤ k := by
  rcases Nat.lt_or_ge k (q.idxOf x) with h4 | h4
  ·exact absurd (List.not_of_lt_findIdx (xs := q) (p := fun y => y == x) (by exact h4)) (by rw [← gp2_eq _ _ hk, h]; simp)
  ·exact h4
 rcases Nat.lt_or_ge (q.idxOf x) k with h4 | h4
 ·exact absurd h2 (hno _ h4)
 ·have : q.idxOf x = k := by omega
  rw [this]
theorem fnd_no {q : List P2} {x : P2} (hno : ∀ i, i < q.length → gp2 q i ≠ x) : fndP q x = -1 := by
 unfold fndP
 rw [if_neg]
 intro hm
 obtain ⟨i, hi, e⟩ := List.getElem_of_mem hm
 exact hno i hi (by rw [gp2_eq _ _ hi, e])
set_option maxRecDepth 20000 in
set_option maxHeartbeats 2000000 in
theorem refFind_any {w : World} {g n cap : Nat} {q : List P2} (hq : q.length = n) (hc : ∀ i, i < n → w.cell? ⟨g, i * 3, none⟩ = some (.int .i64 (gp2 q i).a) ∧ w.cell? ⟨g, i * 3 + 1, none⟩ = some (.int .i64 (gp2 q i).b)) (x : P2) (hn : n ≤ 2000000) :
  Calls Try.prog 64 #[.slice (some ⟨g, 0, none⟩) n cap, .int .i64 x.a, .int .i64 x.b] w fun e w' => e = .returned (.int .i64 (fndP q x)) ∧ Below w.heap.size w w' := by
 obtain ⟨V, hV⟩ : ∃ V, fndP q x = V := ⟨_, rfl⟩
 rw [hV]
 have HV := Lib.hid hV
 have HQ := Lib.hid hq
 have HC := Lib.hid hc
 obtain ⟨X, Y⟩ := x
 simp only
 clear hV hq hc
 go_enter Try.func64, Try.ntmps64
 go_wp2_with (fail)
 go_loopw [7] (fun c W => ∃ k : Nat, k ≤ n ∧ c = .int .i64 (k : Int) ∧ Hid (∀ i, i < k → gp2 q i ≠ ⟨X, Y⟩) ∧ Below w.heap.size w W) (fun c _ => n - (intOf c).toNat)
 case atStart => exact ⟨0, Nat.zero_le _, rfl, Lib.hid (fun i hi => absurd hi (Nat.not_lt_zero _)), Below.refl _ _⟩
 case round =>
  obtain ⟨k, hk, rfl, HNO, hb⟩ := hrel
  rcases Nat.lt_or_ge k n with hlt | hge
  ·have t1 : decide (k < n) = true := decide_eq_true hlt
   obtain ⟨k1, k2⟩ := HC.out k hlt
   have m1 := (hb.cell (p := ⟨g, k * 3, none⟩) (lt_of_cell k1)).trans k1
   have m2 := (hb.cell (p := ⟨g, k * 3 + 1, none⟩) (lt_of_cell k2)).trans k2
   obtain ⟨⟨u, v⟩, hp⟩ : ∃ p, gp2 q k = p := ⟨_, rfl⟩
   rw [hp] at m1 m2
   simp only at m1 m2
   have HP := Lib.hid hp
   have HB := Lib.hid hb
   have HLT := Lib.hid hlt
   clear k1 k2 hp hb
   by_cases h1 : u = X
   ·subst h1
    by_cases h2 : v = Y
    ·subst h2
     have HR : Hid (V = (k : Int)) := Lib.hid (by rw [← HV.out]; exact fnd_at (by rw [HQ.out]; exact HLT.out) HP.out HNO.out)
     go_wp2_with (fail)
     go_ret
     exact ⟨by rw [HR.out]; rfl, HB.out⟩
    ·have d1 : decide (v = Y) = false := decide_eq_false h2
     have d2 : (v == Y) = false := by simp [h2]
     have HNO2 : Hid (∀ i, i < k + 1 → gp2 q i ≠ ⟨u, Y⟩) := Lib.hid (fun i hi => by
      rcases Nat.lt_or_ge i k with h | h
      ·exact HNO.out i h
      ·rw [show i = k by omega, HP.out]; intro e; injection e with _ e; exact h2 e)
     clear h2
     go_wp2_with (fail)
     go_roundw
     case rel => exact ⟨k + 1, HLT.out, by go_num, HNO2, HB.out⟩
     case measure => simp [intOf]; omega
   ·have d1 : decide (u = X) = false := decide_eq_false h1
    have d2 : (u == X) = false := by simp [h1]
    have HNO2 : Hid (∀ i, i < k + 1 → gp2 q i ≠ ⟨X, Y⟩) := Lib.hid (fun i hi => by
     rcases Nat.lt_or_ge i k with h | h
     ·exact HNO.out i h
     ·rw [show i = k by omega, HP.out]; intro e; injection e with e _; exact h1 e)
    clear h1
    go_wp2_with (fail)
    go_roundw
    case rel => exact ⟨k + 1, HLT.out, by go_num, HNO2, HB.out⟩
    case measure => simp [intOf]; omega
  ·obtain rfl : k = n := by omega
   have t1 : decide (k < k) = false := decide_eq_false (by omega)
   have HR : Hid (V = -1) := Lib.hid (by rw [← HV.out]; exact fnd_no (fun i hi => HNO.out i (by rw [HQ.out] at hi; exact hi)))
   have HB := Lib.hid hb
   clear hb hge hk
   go_wp2_with (fail)
   go_ret
   exact ⟨by rw [HR.out]; rfl, HB.out⟩
end Go.Proofs.Ytpcbmhfnefhenaa

set_option linter.unusedSimpArgs false
set_option linter.unusedVariables false
namespace Go.Proofs.Ytpcbmhfnefhenaa
open List (foldr_cons foldr_nil setIfInBounds_toArray set_cons_succ set_cons_zero)
open Go.RowKit
theorem gi_ne {xs ys : List Int} {k : Nat} (h : gi xs k ≠ gi ys k) : decide (xs = ys) = false := decide_eq_false (fun e => h (by rw [e]))
set_option maxHeartbeats 1000000 in
theorem same_any (a : Option Addr) (len cap : Nat) (xs : List Int) (a' : Option Addr) (len' cap' : Nat) (ys : List Int) (w : World) (hs : IsInts .i64 w a len cap xs) (hs' : IsInts .i64 w a' len' cap' ys) (hl : len ≤ 9223372036854775800) :
  Calls Try.prog 34 #[.slice a len cap, .slice a' len' cap'] w fun e w' => e = .returned (.bool (decide (xs = ys))) ∧ Below w.heap.size w w' := by
 have hxl := hs.length
 have hyl := hs'.length
 by_cases he : len = len'
 ·subst he
  have hq : ((len : Int) != (len : Int)) = false := by simp
  go_enter Try.func34, Try.ntmps34
  go_wp2
  go_loopw [5] (fun c W => ∃ k : Nat, k ≤ len ∧ c = .int .i64 (k : Int) ∧ (∀ i, i < k → gi xs i = gi ys i) ∧ Below w.heap.size w W) (fun c _ => len - (intOf c).toNat)
  case atStart => exact ⟨0, Nat.zero_le _, rfl, (fun i hi => by omega), Below.refl _ _⟩
  case round =>
   obtain ⟨k, hk, rfl, hall, hb⟩ := hrel
   have HA := Lib.hid hall
   clear hall
   rcases Nat.lt_or_ge k len with hlt | hge
   ·obtain ⟨b, off, rfl, hbl, hc⟩ := hs.at wr hb k hlt
    obtain ⟨b', off', rfl, hbl', hc'⟩ := hs'.at wr hb k hlt
    have hz := hb.size
    clear hs hs'
    go_wp2
    refine wp_region_grow mixed (by kernel_rfl) [[], [], [(0, 17), (1, 18)], [(2, 19)], [], [], [(4, 21), (5, 22)], [(6, 23)], [(3, 20), (7, 24)]] [(0, 17), (1, 18), (2, 19), (3, 20), (4, 21), (5, 22), (6, 23), (7, 24), (8, 25)] rfl rfl [Ex ?e0, Ex ?e1, Ex ?e2, Ex ?e3, Ex ?e4, Ex ?e5, Ex ?e6, Ex ?e7, Ex ?e8] ⟨stays_ex _, stays_ex _, stays_ex _, stays_ex _, stays_ex _, stays_ex _, stays_ex _, stays_ex _, stays_ex _, trivial⟩ ?steps ?rest
    case steps =>
     refine ⟨fun f W hC hh => ?_, fun f W hC hh => ?_, fun f W hC hh => ?_, fun f W hC hh => ?_, fun f W hC hh => ?_, fun f W hC hh => ?_, fun f W hC hh => ?_, fun f W hC hh => ?_, fun f W hC hh => ?_, trivial⟩
     ·
      refine tab_plain fun K Q hK => ?_
      simp only [puts, foldr_nil]
      go_step
      exact fam_e hK rfl rfl (Below.refl _ _) hC
     ·
      refine tab_plain fun K Q hK => ?_
      simp only [puts, foldr_nil]
      go_step
      exact fam_e hK rfl rfl (Below.refl _ _) hC
     ·
      obtain ⟨h0, h1, -⟩ := hh
      have g0 : f 0 = _ := h0
      have g1 : f 1 = _ := h1
      refine tab_plain fun K Q hK => ?_
      simp only [puts, Za, Zb, Zc, Zd, Ze, g0, g1]
      go_step
      exact fam_e hK rfl rfl (Below.refl _ _) hC
     ·
      obtain ⟨h2, -⟩ := hh
      have g2 : f 2 = _ := h2
      refine tab_plain fun K Q hK => ?_
      simp only [puts, Za, Zb, Zc, Zd, Ze, g2]
      have hc3 := (hC.cell (p := ⟨b, off + k, none⟩) (show b < _ by omega)).trans hc
      go_step
      exact fam_e hK rfl rfl (Below.refl _ _) hC
     ·
      refine tab_plain fun K Q hK => ?_
      simp only [puts, foldr_nil]
      go_step
      exact fam_e hK rfl rfl (Below.refl _ _) hC
     ·
      refine tab_plain fun K Q hK => ?_
      simp only [puts, foldr_nil]
      go_step
      exact fam_e hK rfl rfl (Below.refl _ _) hC
     ·
      obtain ⟨h4, h5, -⟩ := hh
      have g4 : f 4 = _ := h4
      have g5 : f 5 = _ := h5
      refine tab_plain fun K Q hK => ?_
      simp only [puts, Za, Zb, Zc, Zd, Ze, g4, g5]
      go_step
      exact fam_e hK rfl rfl (Below.refl _ _) hC
     ·
      obtain ⟨h6, -⟩ := hh
      have g6 : f 6 = _ := h6
      refine tab_plain fun K Q hK => ?_
      simp only [puts, Za, Zb, Zc, Zd, Ze, g6]
      have hc3 := (hC.cell (p := ⟨b', off' + k, none⟩) (show b' < _ by omega)).trans hc'
      go_step
      exact fam_e hK rfl rfl (Below.refl _ _) hC
     ·
      obtain ⟨h3, h7, -⟩ := hh
      have g3 : f 3 = _ := h3
      have g7 : f 7 = _ := h7
      refine tab_plain fun K Q hK => ?_
      simp only [puts, Za, Zb, Zc, Zd, Ze, g3, g7]
      go_step
      exact fam_e hK rfl rfl (Below.refl _ _) hC
    case rest =>
     intro f W2 hC hh
     obtain ⟨h0, h1, h2, h3, h4, h5, h6, h7, h8, -⟩ := hh
     have g0 : f 0 = _ := h0
     have g1 : f 1 = _ := h1
     have g2 : f 2 = _ := h2
     have g3 : f 3 = _ := h3
     have g4 : f 4 = _ := h4
     have g5 : f 5 = _ := h5
     have g6 : f 6 = _ := h6
     have g7 : f 7 = _ := h7
     have g8 : f 8 = _ := h8
     simp only [puts, Za, Zb, Zc, Zd, Ze, g0, g1, g2, g3, g4, g5, g6, g7, g8]
     clear h0 h1 h2 h3 h4 h5 h6 h7 h8 g0 g1 g2 g3 g4 g5 g6 g7 g8
     have hb2 := hb.trans (hC.mono hb.size)
     by_cases h0 : gi xs k = gi ys k
     ·have hq : (gi xs k != gi ys k) = false := by simpa using h0
      rw [hq]
      go_wp2
      go_roundw
      case rel => exact ⟨k + 1, by omega, by go_num, (fun i hi => by rcases Nat.lt_or_ge i k with h | h; exact HA.out i h; rw [show i = k by omega]; exact h0), hb2⟩
      case measure => simp [intOf]; omega
     ·have hq : (gi xs k != gi ys k) = true := by simpa using h0
      rw [hq]
      have HE := Lib.hid (gi_ne h0)
      clear h0
      go_wp2
      go_ret
      exact ⟨by rw [HE.out]; rfl, hb2⟩
   ·have hkm : k = len := by omega
    subst hkm
    have HE : Hid (decide (xs = ys) = true) := Lib.hid (decide_eq_true (gi_ext (by omega) (fun i hi => HA.out i (by omega))))
    go_wp2
    go_ret
    exact ⟨by rw [HE.out]; rfl, hb⟩
 ·have hq : ((len : Int) != (len' : Int)) = true := by simp; omega
  have HE : Hid (decide (xs = ys) = false) := Lib.hid (decide_eq_false (fun e => he (by rw [← hxl, ← hyl, e])))
  go_enter Try.func34, Try.ntmps34
  go_wp2
  go_ret
  exact ⟨by rw [HE.out]; rfl, Below.refl _ _⟩
theorem refHas_any (a : Option Addr) (len cap : Nat) (xs : List Int) (n : Int) (w : World) (hs : IsInts .i64 w a len cap xs) (hl : len ≤ 9223372036854775800) :
  Calls Try.prog 43 #[.slice a len cap, .int .i64 n] w fun e w' => e = .returned (.bool (decide (n ∈ xs))) ∧ w = w' := by
 have HX : Hid (xs.length = len) := Lib.hid hs.length
 go_enter Try.func43, Try.ntmps43
 go_wp2
 go_loop [5] (fun c => ∃ k : Nat, k ≤ len ∧ c = .int .i64 (k : Int) ∧ (∀ i, i < k → gi xs i ≠ n)) (fun c => len - (intOf c).toNat)
 case atStart => exact ⟨0, Nat.zero_le _, rfl, (fun i hi => by omega)⟩
 case round =>
  obtain ⟨k, hk, rfl, hall⟩ := hrel
  have HA := Lib.hid hall
  clear hall
  rcases Nat.lt_or_ge k len with hlt | hge
  ·obtain ⟨b, off, rfl, hbl, hc⟩ := hs.at w (Below.refl _ _) k hlt
   clear hs
   by_cases h0 : gi xs k = n
   ·have hq : (gi xs k == n) = true := by simpa using h0
    have HE : Hid (decide (n ∈ xs) = true) := Lib.hid (decide_eq_true (by rw [← h0]; exact gi_mem xs k (by rw [HX.out]; exact hlt)))
    clear h0
    go_wp2
    go_ret
    exact ⟨by rw [HE.out]; rfl, rfl⟩
   ·have hq : (gi xs k == n) = false := by simpa using h0
    have H0 := Lib.hid h0
    clear h0
    go_wp2
    go_round
    case rel => exact ⟨k + 1, by omega, by go_num, (fun i hi => by rcases Nat.lt_or_ge i k with h | h; exact HA.out i h; rw [show i = k by omega]; exact H0.out)⟩
    case measure => simp [intOf]; omega
  ·have hkm : k = len := by omega
   subst hkm
   have HE : Hid (decide (n ∈ xs) = false) := Lib.hid (decide_eq_false (fun e => by
    obtain ⟨i, hi, e⟩ := List.getElem_of_mem e
    exact HA.out i (by rw [← HX.out]; exact hi) (by rw [gi_eq xs i hi]; exact e)))
   go_wp2
   go_ret
   exact ⟨by rw [HE.out]; rfl, rfl⟩
def withStep (n : Int) (s : List Int × Bool) (x : Int) : List Int × Bool :=
 if s.2 = false ∧ n ≤ x then ((if n < x then s.1 ++ [n] else s.1) ++ [x], true) else (s.1 ++ [x], s.2)
def withF (l : List Int) (n : Int) : List Int × Bool := l.foldl (withStep n) ([], false)
def withL (l : List Int) (n : Int) : List Int := if (withF l n).2 = true then (withF l n).1 else (withF l n).1 ++ [n]
theorem withF_snoc (l : List Int) (n : Int) (k : Nat) (h : k < l.length) : withF (l.take (k + 1)) n = withStep n (withF (l.take k) n) (gi l k) := by
 rw [take_succ_gi l k h, withF, List.foldl_append]; rfl
set_option maxHeartbeats 2000000 in
theorem refWith_any (a : Option Addr) (len cap : Nat) (xs : List Int) (n : Int) (w : World) (hs : IsInts .i64 w a len cap xs) (hl : len ≤ 1000000) :
  Calls Try.prog 68 #[.slice a len cap, .int .i64 n] w fun e w' => ∃ a3 n3 c3, e = .returned (.slice a3 n3 c3) ∧ w'.ownsRow w.heap.size 3 1 (.slice a3 n3 c3) n3 (ivs .i64 (withL xs n)) ∧ Below w.heap.size w w' := by
 have HX : Hid (xs.length = len) := Lib.hid hs.length
 go_enter Try.func68, Try.ntmps68
 go_wp2
 go_loopw [5, 6, 7] (fun v d c W => ∃ k ao no co D L, k ≤ len ∧ c = .int .i64 (k : Int) ∧ v = .slice ao no co ∧ d = .bool D ∧ no ≤ 2 * k ∧ withF (xs.take k) n = (L, D) ∧ W.ownsRow w.heap.size 3 1 (.slice ao no co) no (ivs .i64 L) ∧ Below w.heap.size w W) (fun _ _ c _ => len - (intOf c).toNat)
 case atStart => exact ⟨0, none, 0, 0, false, [], Nat.zero_le _, rfl, rfl, rfl, Nat.le_refl _, rfl, World.ownsRow_nil _ _ _ _, Below.refl _ _⟩
 case round =>
  obtain ⟨k, ao, no, co, D, L, hk, rfl, rfl, rfl, hno, hF, ho, hb⟩ := hrel
  rcases Nat.lt_or_ge k len with hlt | hge
  ·obtain ⟨b, off, rfl, hbl, hc⟩ := hs.at wr hb k hlt
   have hkx : k < xs.length := by rw [HX.out]; exact hlt
   have hS := withF_snoc xs n k hkx
   rw [hF] at hS
   unfold withStep at hS
   simp only at hS
   have hlw := hb.size
   have hcc := fun W (hC : Below wr.heap.size wr W) => (hC.cell (p := ⟨b, off + k, none⟩) (show b < _ by omega)).trans hc
   cases D with
   | true =>
    rw [if_neg (by simp)] at hS
    have HS := Lib.hid hS
    clear hS hF hs
    go_wp2_with (at_builtin; refine app_one (k := .i64) elI64 rfl _ _ rfl rfl ho rfl (by omega) hb.size ?_; clear ho; intro a3 c3 w3 ho hb3; replace hb := hb.trans hb3; clear hb3)
    go_roundw
    case rel => exact ⟨k + 1, a3, no + 1, c3, true, _, hlt, by go_num, rfl, rfl, by omega, HS.out, ho, hb⟩
    case measure => simp [intOf]; omega
   | false =>
    rcases Int.lt_trichotomy n (gi xs k) with hn | hn | hn
    ·have hd1 : decide (n ≤ gi xs k) = true := decide_eq_true (by omega)
     have hd2 : decide (n < gi xs k) = true := decide_eq_true hn
     rw [if_pos ⟨rfl, by omega⟩, if_pos hn] at hS
     have HS := Lib.hid hS
     clear hS hF hs hn
     go_wp2_with (at_builtin; refine app_one (k := .i64) elI64 rfl _ _ rfl rfl ho rfl (by omega) hb.size ?_; clear ho; intro a3 c3 w3 ho hb3; have hc2 := (hb3.cell (p := ⟨b, off + k, none⟩) (show b < _ by omega)); replace hb := hb.trans hb3; clear hb3; try (rw [hc] at hc2))
     go_roundw
     case rel => exact ⟨k + 1, a3, no + 1 + 1, c3, true, _, hlt, by go_num, rfl, rfl, by omega, HS.out, ho, hb⟩
     case measure => simp [intOf]; omega
    ·have hd1 : decide (n ≤ gi xs k) = true := decide_eq_true (by omega)
     have hd2 : decide (n < gi xs k) = false := decide_eq_false (by omega)
     rw [if_pos ⟨rfl, by omega⟩, if_neg (by omega)] at hS
     have HS := Lib.hid hS
     clear hS hF hs hn
     go_wp2_with (at_builtin; refine app_one (k := .i64) elI64 rfl _ _ rfl rfl ho rfl (by omega) hb.size ?_; clear ho; intro a3 c3 w3 ho hb3; replace hb := hb.trans hb3; clear hb3)
     go_roundw
     case rel => exact ⟨k + 1, a3, no + 1, c3, true, _, hlt, by go_num, rfl, rfl, by omega, HS.out, ho, hb⟩
     case measure => simp [intOf]; omega
    ·have hd1 : decide (n ≤ gi xs k) = false := decide_eq_false (by omega)
     rw [if_neg (by omega)] at hS
     have HS := Lib.hid hS
     clear hS hF hs hn
     go_wp2_with (at_builtin; refine app_one (k := .i64) elI64 rfl _ _ rfl rfl ho rfl (by omega) hb.size ?_; clear ho; intro a3 c3 w3 ho hb3; replace hb := hb.trans hb3; clear hb3)
     go_roundw
     case rel => exact ⟨k + 1, a3, no + 1, c3, false, _, hlt, by go_num, rfl, rfl, by omega, HS.out, ho, hb⟩
     case measure => simp [intOf]; omega
  ·have hkm : k = len := by omega
   subst hkm
   rw [List.take_of_length_le (by rw [HX.out]; exact Nat.le_refl _)] at hF
   cases D with
   | true =>
    have HW : Hid (withL xs n = L) := Lib.hid (by unfold withL; rw [hF]; rfl)
    clear hF
    go_wp2
    go_ret
    exact ⟨ao, no, co, rfl, by rw [HW.out]; exact ho, hb⟩
   | false =>
    have HW : Hid (withL xs n = L ++ [n]) := Lib.hid (by unfold withL; rw [hF]; rfl)
    clear hF
    go_wp2_with (at_builtin; refine app_one (k := .i64) elI64 rfl _ _ rfl rfl ho rfl (by omega) hb.size ?_; clear ho; intro a3 c3 w3 ho hb3; replace hb := hb.trans hb3; clear hb3)
    go_ret
    exact ⟨a3, no + 1, c3, rfl, by rw [HW.out]; exact ho, hb⟩
theorem withStep_gt {n x : Int} (acc : List Int) (h : n < x) : withStep n (acc, false) x = (acc ++ [n] ++ [x], true) := by
 unfold withStep; rw [if_pos ⟨rfl, by omega⟩, if_pos h]
theorem withStep_eq {n x : Int} (acc : List Int) (h1 : n ≤ x) (h : ¬ n < x) : withStep n (acc, false) x = (acc ++ [x], true) := by
 unfold withStep; rw [if_pos ⟨rfl, h1⟩, if_neg h]
theorem withStep_lt {n x : Int} (acc : List Int) (h : ¬ n ≤ x) : withStep n (acc, false) x = (acc ++ [x], false) := by
 unfold withStep; rw [if_neg (fun e => h e.2)]
theorem withStep_done (n x : Int) (acc : List Int) : withStep n (acc, true) x = (acc ++ [x], true) := by
 unfold withStep; rw [if_neg (by simp)]
theorem withF_done (n : Int) : ∀ (l acc : List Int), l.foldl (withStep n) (acc, true) = (acc ++ l, true)
 | [], acc => by simp
 | x :: l, acc => by
  rw [List.foldl_cons, withStep_done, withF_done n l]
  simp
theorem withF_asc (n : Int) : ∀ (l acc : List Int), Asc l → (if (l.foldl (withStep n) (acc, false)).2 = true then (l.foldl (withStep n) (acc, false)).1 else (l.foldl (withStep n) (acc, false)).1 ++ [n]) = acc ++ (l.filter (fun x => decide (x < n)) ++ n :: l.filter (fun x => decide (n < x)))
 | [], acc, _ => by simp
 | x :: l, acc, h => by
  have h' := List.pairwise_cons.1 h
  rw [List.foldl_cons]
  by_cases h1 : n ≤ x
  ·have hz : ∀ y ∈ l, n < y := fun y hy => by have := h'.1 y hy; omega
   have e1 : l.filter (fun x => decide (x < n)) = [] := List.filter_eq_nil_iff.2 fun y hy => by have := hz y hy; simp; omega
   have e2 : l.filter (fun x => decide (n < x)) = l := List.filter_eq_self.2 fun y hy => by simpa using hz y hy
   by_cases h2 : n < x
   ·rw [withStep_gt _ h2, withF_done]
    simp [List.filter_cons, e1, e2, h2, show ¬ x < n by omega]
   ·have : x = n := by omega
    subst this
    rw [withStep_eq _ h1 h2, withF_done]
    simp [List.filter_cons, e1, e2]
  ·rw [withStep_lt _ h1, withF_asc n l _ h'.2, List.filter_cons, List.filter_cons, if_pos (by simp; omega), if_neg (by simp; omega)]
   simp
theorem withL_asc (n : Int) (l : List Int) (h : Asc l) : withL l n = l.filter (fun x => decide (x < n)) ++ n :: l.filter (fun x => decide (n < x)) := by
 have := withF_asc n l [] h
 rw [List.nil_append] at this
 exact this
end Go.Proofs.Ytpcbmhfnefhenaa
