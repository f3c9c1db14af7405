import Derived.Deep.QuietTactic
import Derived.BigQuiet
import Derived.WalkSmall
import Derived.Test.YtofaifeadhimjaaGreatDoorMG10
import Derived.Test.YtofaifeadhimjaaGreatDoorMG33
import Derived.Test.YtofaifeadhimjaaGreatDoorMG34
import Derived.Test.YtofaifeadhimjaaGreatDoorMG36
import Derived.Test.YtofaifeadhimjaaGreatDoorMG42
import Derived.Test.YtofaifeadhimjaaGreatDoorMG43
/-
  NfaEq, NfaWa
-/
set_option linter.unusedSimpArgs false
set_option linter.unusedVariables false
namespace Go.Proofs.YtofaifeadhimjaaGreatDoor
open Go.RowKit
attribute [local go_sem] Oper.semAt_some

theorem IsInts.capLe {k : IntKind} {w : World} {a : Option Addr} {len cap : Nat} {zs : List Int} (h : IsInts k w a len cap zs) : len ≤ cap ∧ cap ≤ maxLen := h.cap
set_option maxRecDepth 20000 in
theorem eqInts_any (a : Option Addr) (len cap : Nat) (xs : List Int) (a' : Option Addr) (len' cap' : Nat) (ys : List Int) (w : World) (hs : IsInts .i64 w a len cap xs) (hs' : IsInts .i64 w a' len' cap' ys) :
  Calls Tryz.prog 38 #[.slice a len cap, .slice a' len' cap'] w fun e w' => e = .returned (.bool (decide (xs = ys))) ∧ Below w.heap.size w w' := by
 have hxl := hs.length
 have hyl := hs'.length
 have hcap := hs.capLe
 have hcap' := hs'.capLe
 unfold maxLen at hcap hcap'
 by_cases he : len = len'
 ·subst he
  have hq : ((len : Int) != (len : Int)) = false := by simp
  go_enter Tryz.func38, Tryz.ntmps38
  go_wp2
  go_loopw [13] (fun c W => ∃ k : Nat, k ≤ len ∧ c = .int .i64 (k : Int) ∧ (∀ i, i < k → gi xs i = gi ys i) ∧ Below w.heap.size w W) (fun c _ => len - (intOf c).toNat)
  case atStart => exact ⟨0, Nat.zero_le _, rfl, (fun i hi => by omega), Below.refl _ _⟩
  case round =>
   obtain ⟨k, hk, rfl, hall, hb⟩ := hrel
   have HA := Lib.hid hall
   have HB := Lib.hid hb
   clear hall hb
   rcases Nat.lt_or_ge k len with hlt | hge
   ·have t1 : decide (k < len) = true := decide_eq_true hlt
    obtain ⟨b, off, rfl, -, f1⟩ := hs.at wr HB.out k hlt
    obtain ⟨b', off', rfl, -, f2⟩ := hs'.at wr HB.out k hlt
    obtain ⟨x, hx⟩ : ∃ x, gi xs k = x := ⟨_, rfl⟩
    obtain ⟨y, hy⟩ : ∃ y, gi ys k = y := ⟨_, rfl⟩
    rw [hx] at f1
    rw [hy] at f2
    have HX := Lib.hid hx
    have HY := Lib.hid hy
    clear hs hs' hx hy
    by_cases h0 : x = y
    ·subst h0
     go_wp2_with (fail)
     go_quiet (fail)
     go_wp2_with (fail)
     go_roundw
     case rel => exact ⟨k + 1, by omega, by go_num, (fun i hi => by rcases Nat.lt_or_ge i k with h | h; exact HA.out i h; rw [show i = k by omega, HX.out, HY.out]), below_drewN HB.out _⟩
     case measure => simp [intOf]; omega
    ·have HE : Hid (decide (xs = ys) = false) := Lib.hid (decide_eq_false (fun e => h0 (by have h := HX.out; rw [e, HY.out] at h; exact h.symm)))
     have q1 : (x == y) = false := by simpa using h0
     have q2 : (x != y) = true := by simpa using h0
     clear h0
     go_wp2_with (fail)
     go_quiet (fail)
     go_wp2_with (fail)
     go_ret
     exact ⟨by first | exact rfl | (rw [HE.out]; rfl), below_drewN HB.out _⟩
   ·have hkm : k = len := by omega
    subst hkm
    have t1 : decide (k < k) = false := decide_eq_false (by omega)
    have HE : Hid (decide (xs = ys) = true) := Lib.hid (decide_eq_true (gi_ext (by omega) (fun i hi => HA.out i (by omega))))
    go_wp2_with (fail)
    go_ret
    exact ⟨by rw [HE.out]; rfl, HB.out⟩
 ·have hq : ((len : Int) != (len' : Int)) = true := by simp; omega
  have HE : Hid (decide (xs = ys) = false) := Lib.hid (decide_eq_false (fun e => he (by rw [← hxl, ← hyl, e])))
  go_enter Tryz.func38, Tryz.ntmps38
  go_wp2
  go_ret
  exact ⟨by rw [HE.out]; rfl, Below.refl _ _⟩
set_option maxRecDepth 20000 in
theorem eqBools_any (a : Option Addr) (len cap : Nat) (xs : List Bool) (a' : Option Addr) (len' cap' : Nat) (ys : List Bool) (w : World) (hs : IsBools w a len cap xs) (hs' : IsBools w a' len' cap' ys) :
  Calls Tryz.prog 39 #[.slice a len cap, .slice a' len' cap'] w fun e w' => e = .returned (.bool (decide (xs = ys))) ∧ Below w.heap.size w w' := by
 have hxl := hs.length
 have hyl := hs'.length
 have hcap := hs.capLe
 have hcap' := hs'.capLe
 unfold maxLen at hcap hcap'
 by_cases he : len = len'
 ·subst he
  have hq : ((len : Int) != (len : Int)) = false := by simp
  go_enter Tryz.func39, Tryz.ntmps39
  go_wp2
  go_loopw [13] (fun c W => ∃ k : Nat, k ≤ len ∧ c = .int .i64 (k : Int) ∧ (∀ i, i < k → gb xs i = gb ys i) ∧ Below w.heap.size w W) (fun c _ => len - (intOf c).toNat)
  case atStart => exact ⟨0, Nat.zero_le _, rfl, (fun i hi => by omega), Below.refl _ _⟩
  case round =>
   obtain ⟨k, hk, rfl, hall, hb⟩ := hrel
   have HA := Lib.hid hall
   have HB := Lib.hid hb
   clear hall hb
   rcases Nat.lt_or_ge k len with hlt | hge
   ·have t1 : decide (k < len) = true := decide_eq_true hlt
    obtain ⟨b, off, rfl, hc⟩ := hs.fix (by omega)
    obtain ⟨b', off', rfl, hc'⟩ := hs'.fix (by omega)
    obtain ⟨x, hx⟩ : ∃ x, gb xs k = x := ⟨_, rfl⟩
    obtain ⟨y, hy⟩ : ∃ y, gb ys k = y := ⟨_, rfl⟩
    have f1 := hc wr HB.out k hlt
    have f2 := hc' wr HB.out k hlt
    rw [hx] at f1
    rw [hy] at f2
    have HX := Lib.hid hx
    have HY := Lib.hid hy
    clear hc hc'
    clear hs hs' hx hy
    by_cases h0 : x = y
    ·subst h0
     go_wp2_with (fail)
     go_quiet (fail)
     go_wp2_with (fail)
     go_roundw
     case rel => exact ⟨k + 1, by omega, by go_num, (fun i hi => by rcases Nat.lt_or_ge i k with h | h; exact HA.out i h; rw [show i = k by omega, HX.out, HY.out]), below_drewN HB.out _⟩
     case measure => simp [intOf]; omega
    ·have HE : Hid (decide (xs = ys) = false) := Lib.hid (decide_eq_false (fun e => h0 (by have h := HX.out; rw [e, HY.out] at h; exact h.symm)))
     have q1 : (x == y) = false := by simpa using h0
     have q2 : (x != y) = true := by simpa using h0
     clear h0
     go_wp2_with (fail)
     go_quiet (fail)
     go_wp2_with (fail)
     go_ret
     exact ⟨by first | exact rfl | (rw [HE.out]; rfl), below_drewN HB.out _⟩
   ·have hkm : k = len := by omega
    subst hkm
    have t1 : decide (k < k) = false := decide_eq_false (by omega)
    have HE : Hid (decide (xs = ys) = true) := Lib.hid (decide_eq_true (gb_ext (by omega) (fun i hi => HA.out i (by omega))))
    go_wp2_with (fail)
    go_ret
    exact ⟨by rw [HE.out]; rfl, HB.out⟩
 ·have hq : ((len : Int) != (len' : Int)) = true := by simp; omega
  have HE : Hid (decide (xs = ys) = false) := Lib.hid (decide_eq_false (fun e => he (by rw [← hxl, ← hyl, e])))
  go_enter Tryz.func39, Tryz.ntmps39
  go_wp2
  go_ret
  exact ⟨by rw [HE.out]; rfl, Below.refl _ _⟩
set_option maxRecDepth 20000 in
theorem eqArcs_any (a : Option Addr) (len cap : Nat) (xs : List A3) (a' : Option Addr) (len' cap' : Nat) (ys : List A3) (w : World) (hs : IsArcs w a len cap xs) (hs' : IsArcs w a' len' cap' ys) :
  Calls Tryz.prog 40 #[.slice a len cap, .slice a' len' cap'] w fun e w' => e = .returned (.bool (decide (xs = ys))) ∧ Below w.heap.size w w' := by
 have hxl := hs.length
 have hyl := hs'.length
 have hcap := hs.capLe
 have hcap' := hs'.capLe
 unfold maxLen at hcap hcap'
 by_cases he : len = len'
 ·subst he
  have hq : ((len : Int) != (len : Int)) = false := by simp
  go_enter Tryz.func40, Tryz.ntmps40
  go_wp2
  go_loopw [13] (fun c W => ∃ k : Nat, k ≤ len ∧ c = .int .i64 (k : Int) ∧ (∀ i, i < k → g3 xs i = g3 ys i) ∧ Below w.heap.size w W) (fun c _ => len - (intOf c).toNat)
  case atStart => exact ⟨0, Nat.zero_le _, rfl, (fun i hi => by omega), Below.refl _ _⟩
  case round =>
   obtain ⟨k, hk, rfl, hall, hb⟩ := hrel
   have HA := Lib.hid hall
   have HB := Lib.hid hb
   clear hall hb
   rcases Nat.lt_or_ge k len with hlt | hge
   ·have t1 : decide (k < len) = true := decide_eq_true hlt
    obtain ⟨b, off, rfl, hc⟩ := hs.fix (by omega)
    obtain ⟨b', off', rfl, hc'⟩ := hs'.fix (by omega)
    obtain ⟨x1, x2, x3, hx⟩ : ∃ x1 x2 x3, g3 xs k = ⟨x1, x2, x3⟩ := ⟨_, _, _, rfl⟩
    obtain ⟨y1, y2, y3, hy⟩ : ∃ y1 y2 y3, g3 ys k = ⟨y1, y2, y3⟩ := ⟨_, _, _, rfl⟩
    obtain ⟨f1, f2, f3⟩ := hc wr HB.out k hlt
    obtain ⟨f4, f5, f6⟩ := hc' wr HB.out k hlt
    rw [hx] at f1 f2 f3
    rw [hy] at f4 f5 f6
    simp only at f1 f2 f3 f4 f5 f6
    have HX := Lib.hid hx
    have HY := Lib.hid hy
    clear hc hc'
    clear hs hs' hx hy
    by_cases h0 : x1 = y1 ∧ x2 = y2 ∧ x3 = y3
    ·obtain ⟨rfl, rfl, rfl⟩ := h0
     go_wp2_with (fail)
     go_quiet (fail)
     go_wp2_with (fail)
     go_roundw
     case rel => exact ⟨k + 1, by omega, by go_num, (fun i hi => by rcases Nat.lt_or_ge i k with h | h; exact HA.out i h; rw [show i = k by omega, HX.out, HY.out]), below_drewN HB.out _⟩
     case measure => simp [intOf]; omega
    ·have HE : Hid (decide (xs = ys) = false) := Lib.hid (decide_eq_false (fun e => h0 (by have h := HX.out; rw [e, HY.out] at h; injection h with e1 e2 e3; exact ⟨e1.symm, e2.symm, e3.symm⟩)))
     have hw : x1 ≠ y1 ∨ (x1 = y1 ∧ x2 ≠ y2) ∨ (x1 = y1 ∧ x2 = y2 ∧ x3 ≠ y3) := by omega
     clear h0
     rcases hw with hw | ⟨rfl, hw⟩ | ⟨rfl, rfl, hw⟩
     all_goals
      go_wp2_with (fail)
      go_quiet (fail)
      go_wp2_with (fail)
      go_ret
      exact ⟨by first | exact rfl | (rw [HE.out]; rfl), below_drewN HB.out _⟩
   ·have hkm : k = len := by omega
    subst hkm
    have t1 : decide (k < k) = false := decide_eq_false (by omega)
    have HE : Hid (decide (xs = ys) = true) := Lib.hid (decide_eq_true (g3_ext (by omega) (fun i hi => HA.out i (by omega))))
    go_wp2_with (fail)
    go_ret
    exact ⟨by rw [HE.out]; rfl, HB.out⟩
 ·have hq : ((len : Int) != (len' : Int)) = true := by simp; omega
  have HE : Hid (decide (xs = ys) = false) := Lib.hid (decide_eq_false (fun e => he (by rw [← hxl, ← hyl, e])))
  go_enter Tryz.func40, Tryz.ntmps40
  go_wp2
  go_ret
  exact ⟨by rw [HE.out]; rfl, Below.refl _ _⟩
def eqN (a b : Nfa) : Bool := decide (a.n = b.n ∧ a.s = b.s ∧ a.fin = b.fin ∧ a.arcs = b.arcs)
theorem eqN_iff {a b : Nfa} : eqN a b = true ↔ a = b := by
 obtain ⟨n, s, f, l⟩ := a
 obtain ⟨n', s', f', l'⟩ := b
 unfold eqN
 rw [decide_eq_true_iff]
 simp
theorem eqN_self (a : Nfa) : eqN a a = true := eqN_iff.2 rfl
set_option maxRecDepth 20000 in
set_option maxHeartbeats 2000000 in
theorem equal_any {a b : Nfa} {h k : NH} {w : World} (hd : IsNfa w h a) (he : IsNfa w k b) :
  Calls Tryz.prog 16 #[vNf a h, vNf b k] w fun e w' => e = .returned (.bool (eqN a b)) ∧ Below w.heap.size w w' := by
 obtain ⟨V, hV⟩ : ∃ V, eqN a b = V := ⟨_, rfl⟩
 rw [hV]
 have HN : ¬ (a.n = b.n ∧ a.s = b.s ∧ a.fin = b.fin ∧ a.arcs = b.arcs) → V = false := fun h => by rw [← hV]; exact decide_eq_false h
 have HY : (a.n = b.n ∧ a.s = b.s ∧ a.fin = b.fin ∧ a.arcs = b.arcs) → V = true := fun h => by rw [← hV]; exact decide_eq_true h
 clear hV
 obtain ⟨W1, hW1, hs1, hb1, hO⟩ := boxNW a h w hd
 have he1 := he.later hb1
 obtain ⟨W2, hW2, hs2, hb2, hP⟩ := boxNW b k W1 he1
 obtain ⟨⟨p1, p2, p3, p4⟩, hd1, -⟩ := hO W2 (hb2.mono (by omega))
 obtain ⟨⟨q1, q2, q3, q4⟩, he2, -⟩ := hP W2 (Below.refl _ _)
 have hB : Below w.heap.size w W2 := hb1.trans (hb2.mono (by omega))
 have hall : ∀ W, Below W2.heap.size W2 W → (W.cell? ⟨w.heap.size, 2, none⟩ = some (.slice h.fa h.fl h.fc) ∧ W.cell? ⟨w.heap.size, 3, none⟩ = some (.slice h.aa h.al h.ac)) ∧ (W.cell? ⟨w.heap.size + 1, 2, none⟩ = some (.slice k.fa k.fl k.fc) ∧ W.cell? ⟨w.heap.size + 1, 3, none⟩ = some (.slice k.aa k.al k.ac)) ∧ IsNfa W h a ∧ IsNfa W k b := fun W hb => by
  have h1 := hO W ((hb2.mono (by omega)).trans (hb.mono (by omega)))
  have h2 := hP W (hb.mono (by omega))
  rw [hs1] at h2
  exact ⟨h1.1.2.2, h2.1.2.2, h1.2.1, h2.2.1⟩
 rw [hs1] at q1 q2 q3 q4
 have hi := eqInts_any _ _ _ _ _ _ _ _ W2 hd1.start he2.start
 clear hd he he1 hO hP hd1 he2 hb1 hb2
 obtain ⟨n, s, fin, es⟩ := a
 obtain ⟨sa, sl, sc, fa, fl, fc, aa, al, ac⟩ := h
 obtain ⟨n', s', fin', es'⟩ := b
 obtain ⟨sa', sl', sc', fa', fl', fc', aa', al', ac'⟩ := k
 simp only [vNf] at hW1 hW2 p1 p2 p3 p4 q1 q2 q3 q4 hi hall HN HY ⊢
 have HN := Lib.hid HN
 have HY := Lib.hid HY
 have HA := Lib.hid hall
 clear hall
 by_cases h1 : n = n'
 case neg =>
  have t1 : (n == n') = false := by simpa using h1
  have HF := Lib.hid (HN.out fun h => h1 h.1)
  clear h1
  go_enter Tryz.func16, Tryz.ntmps16
  go_wp2
  go_ret
  exact ⟨by rw [HF.out]; rfl, hB⟩
 have t1 : (n == n') = true := by simpa using h1
 have H1 := Lib.hid h1
 clear h1
 by_cases h2 : s = s'
 case neg =>
  rw [decide_eq_false h2] at hi
  have HF := Lib.hid (HN.out fun h => h2 h.2.1)
  clear h2
  go_enter Tryz.func16, Tryz.ntmps16
  go_wp2_with (go_at_call 38; refine hi.mono ?_; rintro e w3 ⟨rfl, hb3⟩)
  go_ret
  exact ⟨by rw [HF.out]; rfl, hB.trans (hb3.mono hB.size)⟩
 rw [decide_eq_true h2] at hi
 have H2 := Lib.hid h2
 clear h2
 by_cases h3 : fin = fin'
 case neg =>
  have H3 := Lib.hid h3
  have HF := Lib.hid (HN.out fun h => h3 h.2.2.1)
  clear h3
  go_enter Tryz.func16, Tryz.ntmps16
  go_wp2_with (first
   | (go_at_call 38; refine hi.mono ?_; rintro e w3 ⟨rfl, hb3⟩; obtain ⟨⟨r1, r2⟩, ⟨r3, r4⟩, r5, r6⟩ := HA.out w3 hb3; have hf := eqBools_any _ _ _ _ _ _ _ _ w3 r5.fin r6.fin; rw [decide_eq_false H3.out] at hf; clear r5 r6)
   | (go_at_call 39; refine hf.mono ?_; rintro e w4 ⟨rfl, hb4⟩))
  go_ret
  exact ⟨by rw [HF.out]; rfl, hB.trans ((hb3.trans (hb4.mono hb3.size)).mono hB.size)⟩
 have H3 := Lib.hid h3
 clear h3
 have HF : Hid (V = decide (es = es')) := Lib.hid (by
  by_cases h4 : es = es'
  ·rw [decide_eq_true h4]; exact HY.out ⟨H1.out, H2.out, H3.out, h4⟩
  ·rw [decide_eq_false h4]; exact HN.out fun h => h4 h.2.2.2)
 go_enter Tryz.func16, Tryz.ntmps16
 go_wp2_with (first
  | (go_at_call 38; refine hi.mono ?_; rintro e w3 ⟨rfl, hb3⟩; obtain ⟨⟨r1, r2⟩, ⟨r3, r4⟩, r5, r6⟩ := HA.out w3 hb3; have hf := eqBools_any _ _ _ _ _ _ _ _ w3 r5.fin r6.fin; rw [decide_eq_true H3.out] at hf; clear r5 r6)
  | (go_at_call 39; refine hf.mono ?_; rintro e w4 ⟨rfl, hb4⟩; obtain ⟨⟨r1, r2⟩, ⟨r3, r4⟩, r5, r6⟩ := HA.out w4 (hb3.trans (hb4.mono hb3.size)); have hg := eqArcs_any _ _ _ _ _ _ _ _ w4 r5.arcs r6.arcs; clear r5 r6)
  | (go_at_call 40; refine hg.mono ?_; rintro e w5 ⟨rfl, hb5⟩))
 go_ret
 exact ⟨by rw [HF.out]; rfl, hB.trans ((hb3.trans ((hb4.trans (hb5.mono hb4.size)).mono hb3.size)).mono hB.size)⟩
end Go.Proofs.YtofaifeadhimjaaGreatDoor

set_option linter.unusedSimpArgs false
set_option linter.unusedVariables false
namespace Go.Proofs.YtofaifeadhimjaaGreatDoor
open Go.RowKit
attribute [local go_sem] Oper.semAt_some

theorem run_cs2 {a : Nfa} (hv : ValidN a) (zs : List Int) : CS a (runL a.arcs a.s zs) := by
 rcases List.eq_nil_or_concat zs with rfl | ⟨w, c, rfl⟩
 ·rw [runL_nil]; exact cs_clo hv hv.startIn
 ·rw [List.concat_eq_append, runL_snoc]; exact cs_mov hv _ _
set_option maxRecDepth 20000 in
set_option maxHeartbeats 8000000 in
theorem refAccepts_any {a : Nfa} {h : NH} {w : World} {aq : Option Addr} {lq cq : Nat} {ws : List Int} (hd : IsNfa w h a) (hq : IsInts .i64 w aq lq cq ws) (hlq2 : lq ≤ 100000) :
  Calls Tryz.prog 8 #[vNf a h, .slice aq lq cq] w fun e w' => e = .returned (accV a ws) ∧ Below w.heap.size w w' := by
 obtain ⟨W1, hW1, hs1, hb1, hO⟩ := boxRN a h w hd
 have hva := refValid_any a h W1 (hd.later hb1)
 simp only [vNf] at hva
 have hlq := hq.length
 have HLQ := Lib.hid hlq
 have HQ := Lib.hid hq
 have HO := Lib.hid hO
 have HS1 := Lib.hid hs1
 have HB1 := Lib.hid hb1
 obtain ⟨⟨c1, c2, c3, c4⟩, -, -⟩ := hO W1 (by rw [← hs1]; exact Below.refl _ _)
 unfold vNf
 by_cases hv : ValidN a
 ·rw [vN_yes hv] at hva
  have HV := Lib.hid hv
  have HLB : Hid (∀ W, Below W1.heap.size W1 W → Below w.heap.size w W) := Lib.hid (fun W hB => HB1.out.trans (hB.mono (by have := HS1.out; omega)))
  have hlen : ∀ u, (runL a.arcs a.s u).length ≤ 100000 := fun u => by
   obtain ⟨h1, _, h3⟩ := run_cs2 hv u
   have := bd_len h3 h1
   have := hv.1
   omega
  have hsl : h.sl ≤ 100000 := by
   have h1 := bd_len hv.startAsc hv.startIn
   have h2 := hv.1
   rw [hd.start.length] at h1
   omega
  have hcl := fun W (hB : Below W1.heap.size W1 W) => closureO_any (w := W) hv (HO.out W (by rw [← HS1.out]; exact hB)).2.1 (HO.out W (by rw [← HS1.out]; exact hB)).2.1.start hv.startIn hsl
  have hmv := fun W (hB : Below W1.heap.size W1 W) (c : Int) (u : List Int) (g : Option Addr) (k : Nat) (hi : IsInts .i64 W g (runL a.arcs a.s u).length k (runL a.arcs a.s u)) => (show Calls Tryz.prog 24 #[vNf a h, .slice g (runL a.arcs a.s u).length k, .int .i64 c] W (GivesR (runL a.arcs a.s (u ++ [c])) W) from by
   have h1 := refstepO_any (w := W) (c := c) hv (HO.out W (by rw [← HS1.out]; exact hB)).2.1 hi (run_cs2 hv u).1 (hlen u)
   rw [(run_cs2 hv u).stp c, ← runL_snoc] at h1
   exact h1)
  have hfi := fun W (hB : Below W1.heap.size W1 W) (u : List Int) (g : Option Addr) (k : Nat) (hi : IsInts .i64 W g (runL a.arcs a.s u).length k (runL a.arcs a.s u)) => refFinal_any (w := W) hv (HO.out W (by rw [← HS1.out]; exact hB)).2.1 hi (run_cs2 hv u).1
  simp only [vNf] at hcl hmv hfi
  have HCL := Lib.hid hcl
  have HMV := Lib.hid hmv
  have HFI := Lib.hid hfi
  rw [accV_yes hv]
  clear hd hq hO hb1 hs1 hv hcl hmv hfi hlq hlen hsl
  go_enter Tryz.func8, Tryz.ntmps8
  go_wp2_with (first | (go_at_call 22; refine hva.mono ?_; rintro e w3 ⟨rfl, hb3⟩; obtain ⟨⟨d1, d2, d3, d4⟩, -, -⟩ := HO.out w3 (by rw [← HS1.out]; exact hb3)) | (go_at_call 23; refine (HCL.out w3 hb3).mono ?_; rintro e w4 ⟨⟨g, k, rfl, ho4⟩, hb4⟩; have HI4 := Lib.hid (IsInts.of_owns ho4).1; clear ho4))
  have HB4 : Hid (Below W1.heap.size W1 w4) := Lib.hid (hb3.trans (hb4.mono hb3.size))
  have HZ4 : Hid (cloL a.arcs a.s = runL a.arcs a.s (ws.take 0)) := Lib.hid (by rw [List.take_zero, runL_nil])
  rw [HZ4.out] at HI4 ⊢
  clear d1 d2 d3 d4 c1 c2 c3 c4 hW1 hb3 hb4
  go_loopw [6, 7] (fun v c W => ∃ (i : Nat) (g : Option Addr) (k : Nat), i ≤ lq ∧ c = .int .i64 (i : Int) ∧ v = .slice g (runL a.arcs a.s (ws.take i)).length k ∧ IsInts .i64 W g (runL a.arcs a.s (ws.take i)).length k (runL a.arcs a.s (ws.take i)) ∧ Below W1.heap.size W1 W) (fun _ c _ => lq - (intOf c).toNat)
  case atStart => exact ⟨0, g, k, Nat.zero_le _, rfl, rfl, HI4.out, HB4.out⟩
  case round =>
   clear HI4 HZ4 HB4
   obtain ⟨i, g, k, hi, rfl, rfl, hI, hb⟩ := hrel
   obtain ⟨⟨d1, d2, d3, d4⟩, -, -⟩ := HO.out wr (by rw [← HS1.out]; exact hb)
   rcases Nat.lt_or_ge i lq with hlt | hge
   ·have t1 : decide (i < lq) = true := decide_eq_true hlt
    obtain ⟨bq, oq, rfl, hbl, hc⟩ := HQ.out.at wr (HLB.out wr hb) i hlt
    obtain ⟨z, hz⟩ : ∃ z, gi ws i = z := ⟨_, rfl⟩
    rw [hz] at hc
    have hE : ws.take (i + 1) = ws.take i ++ [z] := by rw [← hz]; exact take_succ_gi ws i (by rw [HLQ.out]; exact hlt)
    have hm := fun W (hW : Below wr.heap.size wr W) => HMV.out W (hb.trans (hW.mono hb.size)) z _ g k (hI.later hW)
    rw [← hE] at hm
    have hcm : ∀ W, Below wr.heap.size wr W → (W.cell? ⟨w.heap.size, 0, none⟩ = some (.int .i64 a.n) ∧ W.cell? ⟨w.heap.size, 1, none⟩ = some (.slice h.sa h.sl h.sc) ∧ W.cell? ⟨w.heap.size, 2, none⟩ = some (.slice h.fa h.fl h.fc) ∧ W.cell? ⟨w.heap.size, 3, none⟩ = some (.slice h.aa h.al h.ac)) ∧ W.cell? ⟨bq, oq + i, none⟩ = some (.int .i64 z) := fun W hW => by
     refine ⟨(HO.out W (by rw [← HS1.out]; exact hb.trans (hW.mono hb.size))).1, ?_⟩
     exact (hW.cell (p := ⟨bq, oq + i, none⟩) (lt_of_cell hc)).trans hc
    obtain ⟨R, hR⟩ : ∃ R, runL a.arcs a.s (ws.take (i + 1)) = R := ⟨_, rfl⟩
    obtain ⟨Q, hQ⟩ : ∃ Q, runL a.arcs a.s (ws.take i) = Q := ⟨_, rfl⟩
    rw [hR] at hm
    rw [hQ] at hm hI ⊢
    have HM := Lib.hid hm
    have HB := Lib.hid hb
    have HR := Lib.hid hR
    have HC := Lib.hid hcm
    clear hz hm hb hI hE hR hQ hcm
    go_wp2_with (fail)
    refine wp_region_grow mixed (by kernel_rfl) [[], [], [], [], [(2, 23), (3, 24)], [(4, 25)], [(0, 21), (1, 22), (5, 26)], [(6, 27), (6, 27), (0, 21), (1, 22), (2, 23), (3, 24), (4, 25), (5, 26), (6, 27)]] [(0, 21), (1, 22), (2, 23), (3, 24), (4, 25), (5, 26), (6, 27), (7, 6)] rfl rfl [Ex ?eb0, Ex ?eb1, Ex ?eb2, Ex ?eb3, Ex ?eb4, Ex ?eb5, OwnR wr.heap.size R, OwnR wr.heap.size R] ⟨stays_ex _, stays_ex _, stays_ex _, stays_ex _, stays_ex _, stays_ex _, stays_ownR _ _, stays_ownR _ _, trivial⟩ ?bsteps ?brest
    case bsteps =>
     refine ⟨fun f W hC hh => ?_, fun f W hC hh => ?_, fun f W hC hh => ?_, fun f W hC hh => ?_, fun f W hC hh => ?_, fun f W hC hh => ?_, fun f W hC hh => ?_, fun f W hC hh => ?_, trivial⟩
     ·
      refine tab_plain fun K Q hK => ?_
      simp only [puts, List.foldr_nil]
      obtain ⟨⟨q1, q2, q3, q4⟩, q5⟩ := HC.out W hC
      go_step
      exact fam_e hK rfl rfl (Below.refl _ _) hC
     ·
      refine tab_plain fun K Q hK => ?_
      simp only [puts, List.foldr_nil]
      go_step
      exact fam_e hK rfl rfl (Below.refl _ _) hC
     ·
      refine tab_plain fun K Q hK => ?_
      simp only [puts, List.foldr_nil]
      go_step
      exact fam_e hK rfl rfl (Below.refl _ _) hC
     ·
      refine tab_plain fun K Q hK => ?_
      simp only [puts, List.foldr_nil]
      go_step
      exact fam_e hK rfl rfl (Below.refl _ _) hC
     ·
      obtain ⟨h2, h3, -⟩ := hh
      have g2 : f 2 = _ := h2
      have g3 : f 3 = _ := h3
      refine tab_plain fun K Q hK => ?_
      simp only [puts, List.foldr_cons, List.foldr_nil, List.setIfInBounds_toArray, List.set_cons_succ, List.set_cons_zero, g2, g3]
      go_step
      exact fam_e hK rfl rfl (Below.refl _ _) hC
     ·
      obtain ⟨h4, -⟩ := hh
      have g4 : f 4 = _ := h4
      refine tab_plain fun K Q hK => ?_
      simp only [puts, List.foldr_cons, List.foldr_nil, List.setIfInBounds_toArray, List.set_cons_succ, List.set_cons_zero, g4]
      obtain ⟨⟨q1, q2, q3, q4⟩, q5⟩ := HC.out W hC
      go_step
      exact fam_e hK rfl rfl (Below.refl _ _) hC
     ·
      obtain ⟨h0, h1, h5, -⟩ := hh
      have g0 : f 0 = _ := h0
      have g1 : f 1 = _ := h1
      have g5 : f 5 = _ := h5
      refine tab_plain fun K Q hK => ?_
      simp only [puts, List.foldr_cons, List.foldr_nil, List.setIfInBounds_toArray, List.set_cons_succ, List.set_cons_zero, g0, g1, g5]
      go_step
      go_at_call 24
      refine (HM.out W hC).mono ?_
      rintro e w' ⟨⟨a', c', rfl, hI⟩, hb⟩
      exact fam_fin hK rfl ⟨a', c', rfl, hI.from_mono (by have := hC.size; omega)⟩ hb (hC.trans (hb.mono hC.size))
     ·
      obtain ⟨h6, _, h0, h1, h2, h3, h4, h5, _, -⟩ := hh
      obtain ⟨a6, c6, g6, s6⟩ := h6
      have g0 : f 0 = _ := h0
      have g1 : f 1 = _ := h1
      have g2 : f 2 = _ := h2
      have g3 : f 3 = _ := h3
      have g4 : f 4 = _ := h4
      have g5 : f 5 = _ := h5
      refine tab_plain fun K Q hK => ?_
      simp only [puts, List.foldr_cons, List.foldr_nil, List.setIfInBounds_toArray, List.set_cons_succ, List.set_cons_zero, g6, g0, g1, g2, g3, g4, g5]
      go_step
      exact fam_fin hK rfl ⟨a6, c6, rfl, s6⟩ (Below.refl _ _) hC
    case brest =>
     intro f WB hC hh
     obtain ⟨h0, h1, h2, h3, h4, h5, h6, h7, -⟩ := hh
     have g0 : f 0 = _ := h0
     have g1 : f 1 = _ := h1
     have g2 : f 2 = _ := h2
     have g3 : f 3 = _ := h3
     have g4 : f 4 = _ := h4
     have g5 : f 5 = _ := h5
     obtain ⟨a6, c6, g6, s6⟩ := h6
     obtain ⟨a7, c7, g7, s7⟩ := h7
     simp only [puts, List.foldr_cons, List.foldr_nil, List.setIfInBounds_toArray, List.set_cons_succ, List.set_cons_zero, g0, g1, g2, g3, g4, g5, g6, g7]
     clear h0 h1 h2 h3 h4 h5 g0 g1 g2 g3 g4 g5
     have HI7 := Lib.hid (IsInts.of_owns s7).1
     clear s6 s7
     go_wp2_with (fail)
     go_roundw
     case rel => exact ⟨i + 1, a7, c7, hlt, by go_num, by rw [HR.out], by rw [HR.out]; exact HI7.out, HB.out.trans (hC.mono HB.out.size)⟩
     case measure => simp [intOf]; omega
   ·obtain rfl : i = lq := by omega
    have t1 : decide (i < i) = false := decide_eq_false (by omega)
    have hf := HFI.out wr hb _ g k hI
    have HE : Hid (finL a.fin (runL a.arcs a.s (ws.take i)) = acN a ws) := Lib.hid (by rw [List.take_of_length_le (by rw [HLQ.out]; exact Nat.le_refl _)]; rfl)
    rw [HE.out] at hf
    obtain ⟨Q, hQ⟩ : ∃ Q, runL a.arcs a.s (ws.take i) = Q := ⟨_, rfl⟩
    rw [hQ] at hf hI ⊢
    have HB := Lib.hid hb
    clear hb hI hQ
    go_wp2_with (go_at_call 25; refine hf.mono ?_; rintro e w5 ⟨rfl, hb5⟩)
    go_ret2
    exact ⟨rfl, HLB.out _ (HB.out.trans (hb5.mono HB.out.size))⟩
 ·rw [vN_no hv] at hva
  rw [accV_no hv]
  clear hd hq hO hb1 hs1 hv
  go_enter Tryz.func8, Tryz.ntmps8
  go_wp2_with (go_at_call 22; refine hva.mono ?_; rintro e w3 ⟨rfl, hb3⟩)
  go_ret2
  exact ⟨rfl, HB1.out.trans (hb3.mono (by have := HS1.out; omega))⟩
end Go.Proofs.YtofaifeadhimjaaGreatDoor
