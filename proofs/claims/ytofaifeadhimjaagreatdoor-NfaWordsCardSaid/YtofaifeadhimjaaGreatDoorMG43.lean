import Derived.Deep.QuietTactic
import Derived.BigQuiet
import Derived.WalkSmall
import Derived.Test.YtofaifeadhimjaaGreatDoorMG10
import Derived.Test.YtofaifeadhimjaaGreatDoorMG42
/-
  NfaRe, NfaSm
-/
set_option linter.unusedSimpArgs false
set_option linter.unusedVariables false
namespace Go.Proofs.YtofaifeadhimjaaGreatDoor
open Go.RowKit
attribute [local go_sem] Oper.semAt_some

theorem finL_at {fin : List Bool} {S : List Int} {k : Nat} (hk : k < S.length) (h : gb fin (gi S k).toNat = true) : finL fin S = true := finL_iff.2 ⟨gi S k, gi_mem _ _ hk, h⟩
theorem finL_none {fin : List Bool} {S : List Int} (h : ∀ k, k < S.length → gb fin (gi S k).toNat = false) : finL fin S = false := by
 cases e : finL fin S with
 | false => rfl
 | true =>
  obtain ⟨z, hz, hg⟩ := finL_iff.1 e
  obtain ⟨i, hi, rfl⟩ := List.getElem_of_mem hz
  have := h i hi
  rw [gi_eq _ _ hi, hg] at this
  cases this
set_option maxRecDepth 20000 in
set_option maxHeartbeats 4000000 in
theorem refFinal_any {a : Nfa} {h : NH} {w : World} {aq : Option Addr} {lq cq : Nat} {S : List Int} (hv : ValidN a) (hd : IsNfa w h a) (hq : IsInts .i64 w aq lq cq S) (hz : Bd a.n S) :
  Calls Tryz.prog 25 #[vNf a h, .slice aq lq cq] w fun e w' => e = .returned (.bool (finL a.fin S)) ∧ Below w.heap.size w w' := by
 obtain ⟨V, hV⟩ : ∃ V, finL a.fin S = V := ⟨_, rfl⟩
 rw [hV]
 have HYES : Hid (∀ k, k < S.length → gb a.fin (gi S k).toNat = true → true = V) := Lib.hid fun k hk hn => by rw [← hV, finL_at hk hn]
 have HNO : Hid ((∀ k, k < S.length → gb a.fin (gi S k).toNat = false) → false = V) := Lib.hid fun hy => by rw [← hV, finL_none hy]
 obtain ⟨W1, hW1, hs1, hb1, hO⟩ := boxRN a h w hd
 have HQL := Lib.hid hq.length
 have hqc := hq.cap
 unfold maxLen at hqc
 have hfl : (h.fl : Int) = a.n := by
  have h1 := hd.2.length
  have h2 := hv.2.1
  omega
 have HFL := Lib.hid hfl
 have HZ := Lib.hid hz
 have HO := Lib.hid hO
 have HB1 := Lib.hid hb1
 have HS1 := Lib.hid hs1
 unfold vNf
 clear hO hd hV hb1 hz hfl hv
 go_enter Tryz.func25, Tryz.ntmps25
 go_wp2_with (fail)
 clear hW1
 go_loopw [5] (fun c W => ∃ k : Nat, k ≤ lq ∧ c = .int .i64 (k : Int) ∧ Hid (∀ i, i < k → gb a.fin (gi S i).toNat = false) ∧ Below (w.heap.size + 1) W1 W) (fun c _ => lq - (intOf c).toNat)
 case atStart => exact ⟨0, Nat.zero_le _, rfl, Lib.hid (fun i hi => by omega), Below.refl _ _⟩
 case round =>
  obtain ⟨k, hk, rfl, HA, hb⟩ := hrel
  have hbW : Below w.heap.size w wr := HB1.out.trans (hb.mono (by omega))
  obtain ⟨⟨e1, e2, e3, e4⟩, hdr, -⟩ := HO.out wr hb
  have hsz : w.heap.size + 1 ≤ wr.heap.size := by have := hb.size; have := HS1.out; omega
  rcases Nat.lt_or_ge k lq with hlt | hge
  ·have t1 : decide (k < lq) = true := decide_eq_true hlt
   obtain ⟨bs, os, rfl, hbl, hc⟩ := hq.at wr hbW k hlt
   have hzb := HZ.out (gi S k) (gi_mem _ _ (by rw [HQL.out]; exact hlt))
   obtain ⟨z, hz⟩ : ∃ z, gi S k = z := ⟨_, rfl⟩
   rw [hz] at hc hzb
   obtain ⟨z, rfl⟩ := Int.eq_ofNat_of_zero_le hzb.1
   have hzl : z < h.fl := by have := HFL.out; have := hzb.2; omega
   obtain ⟨bf, of, hfa, hfc⟩ := hdr.2.fix (by omega)
   have x1 := hfc wr (Below.refl _ _) z hzl
   rw [hfa] at e3
   have HZZ := Lib.hid hz
   have HBW := Lib.hid hbW
   have HB := Lib.hid hb
   clear hz hb hbW hdr hfc hfa hzb
   go_upto_region 4 with (fail)
   cases hg : gb a.fin z with
   | true =>
    rw [hg] at x1
    have HN : Hid (true = V) := Lib.hid (HYES.out k (by rw [HQL.out]; exact hlt) (by rw [HZZ.out]; exact hg))
    clear hg
    go_quiet (fail)
    go_wp2_with (fail)
    go_ret
    exact ⟨by rw [← HN.out]; rfl, HBW.out.trans ((below_drew_n wr nq).mono HBW.out.size)⟩
   | false =>
    rw [hg] at x1
    have HS : Hid (∀ i, i < k + 1 → gb a.fin (gi S i).toNat = false) := Lib.hid fun i hi => by
     rcases Nat.lt_or_ge i k with h1 | h1
     ·exact HA.out i h1
     ·rw [show i = k by omega, HZZ.out]; exact hg
    clear hg
    go_quiet (fail)
    go_wp2_with (fail)
    go_roundw
    case rel => exact ⟨k + 1, hlt, by go_num, HS, HB.out.trans ((below_drew_n wr nq).mono hsz)⟩
    case measure => simp [intOf]; omega
  ·have t1 : decide (k < lq) = false := decide_eq_false (by omega)
   have HY : Hid (false = V) := Lib.hid (HNO.out fun i hi => HA.out i (by rw [HQL.out] at hi; omega))
   go_wp2_with (fail)
   go_ret
   exact ⟨by rw [← HY.out]; rfl, hbW⟩
end Go.Proofs.YtofaifeadhimjaaGreatDoor

set_option linter.unusedSimpArgs false
set_option linter.unusedVariables false
namespace Go.Proofs.YtofaifeadhimjaaGreatDoor
open Go.RowKit
attribute [local go_sem] Oper.semAt_some

set_option maxRecDepth 20000 in
theorem sameBools_any (a : Option Addr) (len cap : Nat) (xs : List Bool) (a' : Option Addr) (len' cap' : Nat) (ys : List Bool) (w : World) (hs : IsBools w a len cap xs) (hs' : IsBools w a' len' cap' ys) :
  Calls Tryz.prog 35 #[.slice a len cap, .slice a' len' cap'] w fun e w' => e = .returned (.bool (decide (xs = ys))) ∧ Below w.heap.size w w' := by
 have hxl := hs.length
 have hyl := hs'.length
 have hcap := hs.capLe
 have hcap' := hs'.capLe
 unfold maxLen at hcap hcap'
 by_cases he : len = len'
 ·subst he
  have hq : ((len : Int) != (len : Int)) = false := by simp
  go_enter Tryz.func35, Tryz.ntmps35
  go_wp2
  go_loopw [5] (fun c W => ∃ k : Nat, k ≤ len ∧ c = .int .i64 (k : Int) ∧ (∀ i, i < k → gb xs i = gb ys i) ∧ Below w.heap.size w W) (fun c _ => len - (intOf c).toNat)
  case atStart => exact ⟨0, Nat.zero_le _, rfl, (fun i hi => by omega), Below.refl _ _⟩
  case round =>
   obtain ⟨k, hk, rfl, hall, hb⟩ := hrel
   have HA := Lib.hid hall
   have HB := Lib.hid hb
   clear hall hb
   rcases Nat.lt_or_ge k len with hlt | hge
   ·have t1 : decide (k < len) = true := decide_eq_true hlt
    obtain ⟨b, off, rfl, hc⟩ := hs.fix (by omega)
    obtain ⟨b', off', rfl, hc'⟩ := hs'.fix (by omega)
    obtain ⟨x, hx⟩ : ∃ x, gb xs k = x := ⟨_, rfl⟩
    obtain ⟨y, hy⟩ : ∃ y, gb ys k = y := ⟨_, rfl⟩
    have f1 := hc wr HB.out k hlt
    have f2 := hc' wr HB.out k hlt
    rw [hx] at f1
    rw [hy] at f2
    have HX := Lib.hid hx
    have HY := Lib.hid hy
    clear hc hc'
    clear hs hs' hx hy
    by_cases h0 : x = y
    ·subst h0
     go_wp2_with (fail)
     go_quiet (fail)
     go_wp2_with (fail)
     go_roundw
     case rel => exact ⟨k + 1, by omega, by go_num, (fun i hi => by rcases Nat.lt_or_ge i k with h | h; exact HA.out i h; rw [show i = k by omega, HX.out, HY.out]), below_drewN HB.out _⟩
     case measure => simp [intOf]; omega
    ·have HE : Hid (decide (xs = ys) = false) := Lib.hid (decide_eq_false (fun e => h0 (by have h := HX.out; rw [e, HY.out] at h; exact h.symm)))
     have q1 : (x == y) = false := by simpa using h0
     have q2 : (x != y) = true := by simpa using h0
     clear h0
     go_wp2_with (fail)
     go_quiet (fail)
     go_wp2_with (fail)
     go_ret
     exact ⟨by first | exact rfl | (rw [HE.out]; rfl), below_drewN HB.out _⟩
   ·have hkm : k = len := by omega
    subst hkm
    have t1 : decide (k < k) = false := decide_eq_false (by omega)
    have HE : Hid (decide (xs = ys) = true) := Lib.hid (decide_eq_true (gb_ext (by omega) (fun i hi => HA.out i (by omega))))
    go_wp2_with (fail)
    go_ret
    exact ⟨by rw [HE.out]; rfl, HB.out⟩
 ·have hq : ((len : Int) != (len' : Int)) = true := by simp; omega
  have HE : Hid (decide (xs = ys) = false) := Lib.hid (decide_eq_false (fun e => he (by rw [← hxl, ← hyl, e])))
  go_enter Tryz.func35, Tryz.ntmps35
  go_wp2
  go_ret
  exact ⟨by rw [HE.out]; rfl, Below.refl _ _⟩
set_option maxRecDepth 20000 in
theorem sameArcs_any (a : Option Addr) (len cap : Nat) (xs : List A3) (a' : Option Addr) (len' cap' : Nat) (ys : List A3) (w : World) (hs : IsArcs w a len cap xs) (hs' : IsArcs w a' len' cap' ys) :
  Calls Tryz.prog 36 #[.slice a len cap, .slice a' len' cap'] w fun e w' => e = .returned (.bool (decide (xs = ys))) ∧ Below w.heap.size w w' := by
 have hxl := hs.length
 have hyl := hs'.length
 have hcap := hs.capLe
 have hcap' := hs'.capLe
 unfold maxLen at hcap hcap'
 by_cases he : len = len'
 ·subst he
  have hq : ((len : Int) != (len : Int)) = false := by simp
  go_enter Tryz.func36, Tryz.ntmps36
  go_wp2
  go_loopw [5] (fun c W => ∃ k : Nat, k ≤ len ∧ c = .int .i64 (k : Int) ∧ (∀ i, i < k → g3 xs i = g3 ys i) ∧ Below w.heap.size w W) (fun c _ => len - (intOf c).toNat)
  case atStart => exact ⟨0, Nat.zero_le _, rfl, (fun i hi => by omega), Below.refl _ _⟩
  case round =>
   obtain ⟨k, hk, rfl, hall, hb⟩ := hrel
   have HA := Lib.hid hall
   have HB := Lib.hid hb
   clear hall hb
   rcases Nat.lt_or_ge k len with hlt | hge
   ·have t1 : decide (k < len) = true := decide_eq_true hlt
    obtain ⟨b, off, rfl, hc⟩ := hs.fix (by omega)
    obtain ⟨b', off', rfl, hc'⟩ := hs'.fix (by omega)
    obtain ⟨x1, x2, x3, hx⟩ : ∃ x1 x2 x3, g3 xs k = ⟨x1, x2, x3⟩ := ⟨_, _, _, rfl⟩
    obtain ⟨y1, y2, y3, hy⟩ : ∃ y1 y2 y3, g3 ys k = ⟨y1, y2, y3⟩ := ⟨_, _, _, rfl⟩
    obtain ⟨f1, f2, f3⟩ := hc wr HB.out k hlt
    obtain ⟨f4, f5, f6⟩ := hc' wr HB.out k hlt
    rw [hx] at f1 f2 f3
    rw [hy] at f4 f5 f6
    simp only at f1 f2 f3 f4 f5 f6
    have HX := Lib.hid hx
    have HY := Lib.hid hy
    clear hc hc'
    clear hs hs' hx hy
    by_cases h0 : x1 = y1 ∧ x2 = y2 ∧ x3 = y3
    ·obtain ⟨rfl, rfl, rfl⟩ := h0
     go_wp2_with (fail)
     go_quiet (fail)
     go_wp2_with (fail)
     go_roundw
     case rel => exact ⟨k + 1, by omega, by go_num, (fun i hi => by rcases Nat.lt_or_ge i k with h | h; exact HA.out i h; rw [show i = k by omega, HX.out, HY.out]), below_drewN HB.out _⟩
     case measure => simp [intOf]; omega
    ·have HE : Hid (decide (xs = ys) = false) := Lib.hid (decide_eq_false (fun e => h0 (by have h := HX.out; rw [e, HY.out] at h; injection h with e1 e2 e3; exact ⟨e1.symm, e2.symm, e3.symm⟩)))
     have hw : x1 ≠ y1 ∨ (x1 = y1 ∧ x2 ≠ y2) ∨ (x1 = y1 ∧ x2 = y2 ∧ x3 ≠ y3) := by omega
     clear h0
     rcases hw with hw | ⟨rfl, hw⟩ | ⟨rfl, rfl, hw⟩
     all_goals
      go_wp2_with (fail)
      go_quiet (fail)
      go_wp2_with (fail)
      go_ret
      exact ⟨by first | exact rfl | (rw [HE.out]; rfl), below_drewN HB.out _⟩
   ·have hkm : k = len := by omega
    subst hkm
    have t1 : decide (k < k) = false := decide_eq_false (by omega)
    have HE : Hid (decide (xs = ys) = true) := Lib.hid (decide_eq_true (g3_ext (by omega) (fun i hi => HA.out i (by omega))))
    go_wp2_with (fail)
    go_ret
    exact ⟨by rw [HE.out]; rfl, HB.out⟩
 ·have hq : ((len : Int) != (len' : Int)) = true := by simp; omega
  have HE : Hid (decide (xs = ys) = false) := Lib.hid (decide_eq_false (fun e => he (by rw [← hxl, ← hyl, e])))
  go_enter Tryz.func36, Tryz.ntmps36
  go_wp2
  go_ret
  exact ⟨by rw [HE.out]; rfl, Below.refl _ _⟩
theorem elRA5 : Elem Tryz.prog 24 57 (.agg #[.int .i64 0, .int .i64 0, .int .i64 0]) 3 24 := ⟨Tryz.underlying24, by kernel_rfl, rfl, by decide⟩
set_option maxRecDepth 20000 in
theorem lawArcs_any {w : World} {aa : Option Addr} {al ac : Nat} {es : List A3} (he : IsArcs w aa al ac es) (hl : al ≤ 10000000) :
  Calls Tryz.prog 37 #[.slice aa al ac] w fun e w' => (∃ a' c', e = .returned (.slice a' al c') ∧ w'.ownsRow w.heap.size 57 3 (.slice a' al c') al (tvs es)) ∧ Below w.heap.size w w' := by
 have hlen := he.length
 have HX := Lib.hid hlen
 clear hlen
 go_enter Tryz.func37, Tryz.ntmps37
 go_wp2_with (fail)
 go_loopw [3, 7] (fun v x W => ∃ (k : Nat) (ao : Option Addr) (co : Nat), k ≤ al ∧ x = .int .i64 (k : Int) ∧ v = .slice ao k co ∧ W.ownsRow w.heap.size 57 3 (.slice ao k co) k (tvs (es.take k)) ∧ Below w.heap.size w W) (fun _ x _ => al - (intOf x).toNat)
 case atStart => exact ⟨0, none, 0, Nat.zero_le _, rfl, rfl, World.ownsRow_nil _ _ _ _, Below.refl _ _⟩
 case round =>
  obtain ⟨k, ao, co, hk, rfl, rfl, ho, hb⟩ := hrel
  rcases Nat.lt_or_ge k al with hlt | hge
  ·have t1 : decide ((k : Int) < al) = true := decide_eq_true (by omega)
   obtain ⟨b, off, rfl, hcell⟩ := he.fix (by omega)
   obtain ⟨cx1, cx2, cx3⟩ := hcell wr hb k hlt
   obtain ⟨x1, x2, x3, hx⟩ : ∃ x1 x2 x3, g3 es k = ⟨x1, x2, x3⟩ := ⟨_, _, _, rfl⟩
   rw [hx] at cx1 cx2 cx3
   have HN : Hid (es.take (k + 1) = es.take k ++ [⟨x1, x2, x3⟩]) := Lib.hid (by rw [← hx]; exact take_succ_g3 _ _ (by rw [HX.out]; exact hlt))
   clear hx
   have HE := Lib.hid he
   clear hcell he
   go_wp2_with (at_builtin; refine app_arc elRA5 rfl _ _ rfl rfl ho rfl (by omega) hb.size ?_; intro a1 c1 w1 ho1 hb1 hs1)
   go_roundw
   case rel => exact ⟨k + 1, a1, c1, hlt, by go_num, rfl, by rw [HN.out]; exact ho1, hb.trans hb1⟩
   case measure => simp [intOf]; omega
  ·have t1 : decide ((k : Int) < al) = false := decide_eq_false (by omega)
   obtain rfl : k = al := by omega
   rw [List.take_of_length_le (by rw [HX.out]; exact Nat.le_refl _)] at ho
   have HO := Lib.hid ho
   clear ho
   go_wp2_with (fail)
   go_ret
   exact ⟨⟨ao, co, rfl, HO.out⟩, hb⟩
end Go.Proofs.YtofaifeadhimjaaGreatDoor
