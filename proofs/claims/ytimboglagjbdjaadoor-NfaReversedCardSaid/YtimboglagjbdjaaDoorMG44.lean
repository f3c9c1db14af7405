import Derived.Deep.QuietTactic
import Derived.BigQuiet
import Derived.WalkSmall
import Derived.Test.YtimboglagjbdjaaDoorMG10
import Derived.Test.YtimboglagjbdjaaDoorMG34
import Derived.Test.YtimboglagjbdjaaDoorMG36
import Derived.Test.YtimboglagjbdjaaDoorMG43
/-
  NfaEq, NfaReversedW
-/
set_option linter.unusedSimpArgs false
set_option linter.unusedVariables false
namespace Go.Proofs.YtimboglagjbdjaaDoor
open Go.RowKit
attribute [local go_sem] Oper.semAt_some

theorem IsInts.capLe {k : IntKind} {w : World} {a : Option Addr} {len cap : Nat} {zs : List Int} (h : IsInts k w a len cap zs) : len ≤ cap ∧ cap ≤ maxLen := h.cap
set_option maxRecDepth 20000 in
theorem eqInts_any (a : Option Addr) (len cap : Nat) (xs : List Int) (a' : Option Addr) (len' cap' : Nat) (ys : List Int) (w : World) (hs : IsInts .i64 w a len cap xs) (hs' : IsInts .i64 w a' len' cap' ys) :
  Calls Tryd.prog 41 #[.slice a len cap, .slice a' len' cap'] w fun e w' => e = .returned (.bool (decide (xs = ys))) ∧ Below w.heap.size w w' := by
 have hxl := hs.length
 have hyl := hs'.length
 have hcap := hs.capLe
 have hcap' := hs'.capLe
 unfold maxLen at hcap hcap'
 by_cases he : len = len'
 ·subst he
  have hq : ((len : Int) != (len : Int)) = false := by simp
  go_enter Tryd.func41, Tryd.ntmps41
  go_wp2
  go_loopw [13] (fun c W => ∃ k : Nat, k ≤ len ∧ c = .int .i64 (k : Int) ∧ (∀ i, i < k → gi xs i = gi ys i) ∧ Below w.heap.size w W) (fun c _ => len - (intOf c).toNat)
  case atStart => exact ⟨0, Nat.zero_le _, rfl, (fun i hi => by omega), Below.refl _ _⟩
  case round =>
   obtain ⟨k, hk, rfl, hall, hb⟩ := hrel
   have HA := Lib.hid hall
   have HB := Lib.hid hb
   clear hall hb
   rcases Nat.lt_or_ge k len with hlt | hge
   ·have t1 : decide (k < len) = true := decide_eq_true hlt
    obtain ⟨b, off, rfl, -, f1⟩ := hs.at wr HB.out k hlt
    obtain ⟨b', off', rfl, -, f2⟩ := hs'.at wr HB.out k hlt
    obtain ⟨x, hx⟩ : ∃ x, gi xs k = x := ⟨_, rfl⟩
    obtain ⟨y, hy⟩ : ∃ y, gi ys k = y := ⟨_, rfl⟩
    rw [hx] at f1
    rw [hy] at f2
    have HX := Lib.hid hx
    have HY := Lib.hid hy
    clear hs hs' hx hy
    by_cases h0 : x = y
    ·subst h0
     go_wp2_with (fail)
     go_quiet (fail)
     go_wp2_with (fail)
     go_roundw
     case rel => exact ⟨k + 1, by omega, by go_num, (fun i hi => by rcases Nat.lt_or_ge i k with h | h; exact HA.out i h; rw [show i = k by omega, HX.out, HY.out]), below_drewN HB.out _⟩
     case measure => simp [intOf]; omega
    ·have HE : Hid (decide (xs = ys) = false) := Lib.hid (decide_eq_false (fun e => h0 (by have h := HX.out; rw [e, HY.out] at h; exact h.symm)))
     have q1 : (x == y) = false := by simpa using h0
     have q2 : (x != y) = true := by simpa using h0
     clear h0
     go_wp2_with (fail)
     go_quiet (fail)
     go_wp2_with (fail)
     go_ret
     exact ⟨by first | exact rfl | (rw [HE.out]; rfl), below_drewN HB.out _⟩
   ·have hkm : k = len := by omega
    subst hkm
    have t1 : decide (k < k) = false := decide_eq_false (by omega)
    have HE : Hid (decide (xs = ys) = true) := Lib.hid (decide_eq_true (gi_ext (by omega) (fun i hi => HA.out i (by omega))))
    go_wp2_with (fail)
    go_ret
    exact ⟨by rw [HE.out]; rfl, HB.out⟩
 ·have hq : ((len : Int) != (len' : Int)) = true := by simp; omega
  have HE : Hid (decide (xs = ys) = false) := Lib.hid (decide_eq_false (fun e => he (by rw [← hxl, ← hyl, e])))
  go_enter Tryd.func41, Tryd.ntmps41
  go_wp2
  go_ret
  exact ⟨by rw [HE.out]; rfl, Below.refl _ _⟩
set_option maxRecDepth 20000 in
theorem eqBools_any (a : Option Addr) (len cap : Nat) (xs : List Bool) (a' : Option Addr) (len' cap' : Nat) (ys : List Bool) (w : World) (hs : IsBools w a len cap xs) (hs' : IsBools w a' len' cap' ys) :
  Calls Tryd.prog 42 #[.slice a len cap, .slice a' len' cap'] w fun e w' => e = .returned (.bool (decide (xs = ys))) ∧ Below w.heap.size w w' := by
 have hxl := hs.length
 have hyl := hs'.length
 have hcap := hs.capLe
 have hcap' := hs'.capLe
 unfold maxLen at hcap hcap'
 by_cases he : len = len'
 ·subst he
  have hq : ((len : Int) != (len : Int)) = false := by simp
  go_enter Tryd.func42, Tryd.ntmps42
  go_wp2
  go_loopw [13] (fun c W => ∃ k : Nat, k ≤ len ∧ c = .int .i64 (k : Int) ∧ (∀ i, i < k → gb xs i = gb ys i) ∧ Below w.heap.size w W) (fun c _ => len - (intOf c).toNat)
  case atStart => exact ⟨0, Nat.zero_le _, rfl, (fun i hi => by omega), Below.refl _ _⟩
  case round =>
   obtain ⟨k, hk, rfl, hall, hb⟩ := hrel
   have HA := Lib.hid hall
   have HB := Lib.hid hb
   clear hall hb
   rcases Nat.lt_or_ge k len with hlt | hge
   ·have t1 : decide (k < len) = true := decide_eq_true hlt
    obtain ⟨b, off, rfl, hc⟩ := hs.fix (by omega)
    obtain ⟨b', off', rfl, hc'⟩ := hs'.fix (by omega)
    obtain ⟨x, hx⟩ : ∃ x, gb xs k = x := ⟨_, rfl⟩
    obtain ⟨y, hy⟩ : ∃ y, gb ys k = y := ⟨_, rfl⟩
    have f1 := hc wr HB.out k hlt
    have f2 := hc' wr HB.out k hlt
    rw [hx] at f1
    rw [hy] at f2
    have HX := Lib.hid hx
    have HY := Lib.hid hy
    clear hc hc'
    clear hs hs' hx hy
    by_cases h0 : x = y
    ·subst h0
     go_wp2_with (fail)
     go_quiet (fail)
     go_wp2_with (fail)
     go_roundw
     case rel => exact ⟨k + 1, by omega, by go_num, (fun i hi => by rcases Nat.lt_or_ge i k with h | h; exact HA.out i h; rw [show i = k by omega, HX.out, HY.out]), below_drewN HB.out _⟩
     case measure => simp [intOf]; omega
    ·have HE : Hid (decide (xs = ys) = false) := Lib.hid (decide_eq_false (fun e => h0 (by have h := HX.out; rw [e, HY.out] at h; exact h.symm)))
     have q1 : (x == y) = false := by simpa using h0
     have q2 : (x != y) = true := by simpa using h0
     clear h0
     go_wp2_with (fail)
     go_quiet (fail)
     go_wp2_with (fail)
     go_ret
     exact ⟨by first | exact rfl | (rw [HE.out]; rfl), below_drewN HB.out _⟩
   ·have hkm : k = len := by omega
    subst hkm
    have t1 : decide (k < k) = false := decide_eq_false (by omega)
    have HE : Hid (decide (xs = ys) = true) := Lib.hid (decide_eq_true (gb_ext (by omega) (fun i hi => HA.out i (by omega))))
    go_wp2_with (fail)
    go_ret
    exact ⟨by rw [HE.out]; rfl, HB.out⟩
 ·have hq : ((len : Int) != (len' : Int)) = true := by simp; omega
  have HE : Hid (decide (xs = ys) = false) := Lib.hid (decide_eq_false (fun e => he (by rw [← hxl, ← hyl, e])))
  go_enter Tryd.func42, Tryd.ntmps42
  go_wp2
  go_ret
  exact ⟨by rw [HE.out]; rfl, Below.refl _ _⟩
set_option maxRecDepth 20000 in
theorem eqArcs_any (a : Option Addr) (len cap : Nat) (xs : List A3) (a' : Option Addr) (len' cap' : Nat) (ys : List A3) (w : World) (hs : IsArcs w a len cap xs) (hs' : IsArcs w a' len' cap' ys) :
  Calls Tryd.prog 43 #[.slice a len cap, .slice a' len' cap'] w fun e w' => e = .returned (.bool (decide (xs = ys))) ∧ Below w.heap.size w w' := by
 have hxl := hs.length
 have hyl := hs'.length
 have hcap := hs.capLe
 have hcap' := hs'.capLe
 unfold maxLen at hcap hcap'
 by_cases he : len = len'
 ·subst he
  have hq : ((len : Int) != (len : Int)) = false := by simp
  go_enter Tryd.func43, Tryd.ntmps43
  go_wp2
  go_loopw [13] (fun c W => ∃ k : Nat, k ≤ len ∧ c = .int .i64 (k : Int) ∧ (∀ i, i < k → g3 xs i = g3 ys i) ∧ Below w.heap.size w W) (fun c _ => len - (intOf c).toNat)
  case atStart => exact ⟨0, Nat.zero_le _, rfl, (fun i hi => by omega), Below.refl _ _⟩
  case round =>
   obtain ⟨k, hk, rfl, hall, hb⟩ := hrel
   have HA := Lib.hid hall
   have HB := Lib.hid hb
   clear hall hb
   rcases Nat.lt_or_ge k len with hlt | hge
   ·have t1 : decide (k < len) = true := decide_eq_true hlt
    obtain ⟨b, off, rfl, hc⟩ := hs.fix (by omega)
    obtain ⟨b', off', rfl, hc'⟩ := hs'.fix (by omega)
    obtain ⟨x1, x2, x3, hx⟩ : ∃ x1 x2 x3, g3 xs k = ⟨x1, x2, x3⟩ := ⟨_, _, _, rfl⟩
    obtain ⟨y1, y2, y3, hy⟩ : ∃ y1 y2 y3, g3 ys k = ⟨y1, y2, y3⟩ := ⟨_, _, _, rfl⟩
    obtain ⟨f1, f2, f3⟩ := hc wr HB.out k hlt
    obtain ⟨f4, f5, f6⟩ := hc' wr HB.out k hlt
    rw [hx] at f1 f2 f3
    rw [hy] at f4 f5 f6
    simp only at f1 f2 f3 f4 f5 f6
    have HX := Lib.hid hx
    have HY := Lib.hid hy
    clear hc hc'
    clear hs hs' hx hy
    by_cases h0 : x1 = y1 ∧ x2 = y2 ∧ x3 = y3
    ·obtain ⟨rfl, rfl, rfl⟩ := h0
     go_wp2_with (fail)
     go_quiet (fail)
     go_wp2_with (fail)
     go_roundw
     case rel => exact ⟨k + 1, by omega, by go_num, (fun i hi => by rcases Nat.lt_or_ge i k with h | h; exact HA.out i h; rw [show i = k by omega, HX.out, HY.out]), below_drewN HB.out _⟩
     case measure => simp [intOf]; omega
    ·have HE : Hid (decide (xs = ys) = false) := Lib.hid (decide_eq_false (fun e => h0 (by have h := HX.out; rw [e, HY.out] at h; injection h with e1 e2 e3; exact ⟨e1.symm, e2.symm, e3.symm⟩)))
     have hw : x1 ≠ y1 ∨ (x1 = y1 ∧ x2 ≠ y2) ∨ (x1 = y1 ∧ x2 = y2 ∧ x3 ≠ y3) := by omega
     clear h0
     rcases hw with hw | ⟨rfl, hw⟩ | ⟨rfl, rfl, hw⟩
     all_goals
      go_wp2_with (fail)
      go_quiet (fail)
      go_wp2_with (fail)
      go_ret
      exact ⟨by first | exact rfl | (rw [HE.out]; rfl), below_drewN HB.out _⟩
   ·have hkm : k = len := by omega
    subst hkm
    have t1 : decide (k < k) = false := decide_eq_false (by omega)
    have HE : Hid (decide (xs = ys) = true) := Lib.hid (decide_eq_true (g3_ext (by omega) (fun i hi => HA.out i (by omega))))
    go_wp2_with (fail)
    go_ret
    exact ⟨by rw [HE.out]; rfl, HB.out⟩
 ·have hq : ((len : Int) != (len' : Int)) = true := by simp; omega
  have HE : Hid (decide (xs = ys) = false) := Lib.hid (decide_eq_false (fun e => he (by rw [← hxl, ← hyl, e])))
  go_enter Tryd.func43, Tryd.ntmps43
  go_wp2
  go_ret
  exact ⟨by rw [HE.out]; rfl, Below.refl _ _⟩
def eqN (a b : Nfa) : Bool := decide (a.n = b.n ∧ a.s = b.s ∧ a.fin = b.fin ∧ a.arcs = b.arcs)
theorem eqN_iff {a b : Nfa} : eqN a b = true ↔ a = b := by
 obtain ⟨n, s, f, l⟩ := a
 obtain ⟨n', s', f', l'⟩ := b
 unfold eqN
 rw [decide_eq_true_iff]
 simp
theorem eqN_self (a : Nfa) : eqN a a = true := eqN_iff.2 rfl
set_option maxRecDepth 20000 in
set_option maxHeartbeats 2000000 in
theorem equal_any {a b : Nfa} {h k : NH} {w : World} (hd : IsNfa w h a) (he : IsNfa w k b) :
  Calls Tryd.prog 21 #[vNf a h, vNf b k] w fun e w' => e = .returned (.bool (eqN a b)) ∧ Below w.heap.size w w' := by
 obtain ⟨V, hV⟩ : ∃ V, eqN a b = V := ⟨_, rfl⟩
 rw [hV]
 have HN : ¬ (a.n = b.n ∧ a.s = b.s ∧ a.fin = b.fin ∧ a.arcs = b.arcs) → V = false := fun h => by rw [← hV]; exact decide_eq_false h
 have HY : (a.n = b.n ∧ a.s = b.s ∧ a.fin = b.fin ∧ a.arcs = b.arcs) → V = true := fun h => by rw [← hV]; exact decide_eq_true h
 clear hV
 obtain ⟨W1, hW1, hs1, hb1, hO⟩ := boxNW a h w hd
 have he1 := he.later hb1
 obtain ⟨W2, hW2, hs2, hb2, hP⟩ := boxNW b k W1 he1
 obtain ⟨⟨p1, p2, p3, p4⟩, hd1, -⟩ := hO W2 (hb2.mono (by omega))
 obtain ⟨⟨q1, q2, q3, q4⟩, he2, -⟩ := hP W2 (Below.refl _ _)
 have hB : Below w.heap.size w W2 := hb1.trans (hb2.mono (by omega))
 have hall : ∀ W, Below W2.heap.size W2 W → (W.cell? ⟨w.heap.size, 2, none⟩ = some (.slice h.fa h.fl h.fc) ∧ W.cell? ⟨w.heap.size, 3, none⟩ = some (.slice h.aa h.al h.ac)) ∧ (W.cell? ⟨w.heap.size + 1, 2, none⟩ = some (.slice k.fa k.fl k.fc) ∧ W.cell? ⟨w.heap.size + 1, 3, none⟩ = some (.slice k.aa k.al k.ac)) ∧ IsNfa W h a ∧ IsNfa W k b := fun W hb => by
  have h1 := hO W ((hb2.mono (by omega)).trans (hb.mono (by omega)))
  have h2 := hP W (hb.mono (by omega))
  rw [hs1] at h2
  exact ⟨h1.1.2.2, h2.1.2.2, h1.2.1, h2.2.1⟩
 rw [hs1] at q1 q2 q3 q4
 have hi := eqInts_any _ _ _ _ _ _ _ _ W2 hd1.start he2.start
 clear hd he he1 hO hP hd1 he2 hb1 hb2
 obtain ⟨n, s, fin, es⟩ := a
 obtain ⟨sa, sl, sc, fa, fl, fc, aa, al, ac⟩ := h
 obtain ⟨n', s', fin', es'⟩ := b
 obtain ⟨sa', sl', sc', fa', fl', fc', aa', al', ac'⟩ := k
 simp only [vNf] at hW1 hW2 p1 p2 p3 p4 q1 q2 q3 q4 hi hall HN HY ⊢
 have HN := Lib.hid HN
 have HY := Lib.hid HY
 have HA := Lib.hid hall
 clear hall
 by_cases h1 : n = n'
 case neg =>
  have t1 : (n == n') = false := by simpa using h1
  have HF := Lib.hid (HN.out fun h => h1 h.1)
  clear h1
  go_enter Tryd.func21, Tryd.ntmps21
  go_wp2
  go_ret
  exact ⟨by rw [HF.out]; rfl, hB⟩
 have t1 : (n == n') = true := by simpa using h1
 have H1 := Lib.hid h1
 clear h1
 by_cases h2 : s = s'
 case neg =>
  rw [decide_eq_false h2] at hi
  have HF := Lib.hid (HN.out fun h => h2 h.2.1)
  clear h2
  go_enter Tryd.func21, Tryd.ntmps21
  go_wp2_with (go_at_call 41; refine hi.mono ?_; rintro e w3 ⟨rfl, hb3⟩)
  go_ret
  exact ⟨by rw [HF.out]; rfl, hB.trans (hb3.mono hB.size)⟩
 rw [decide_eq_true h2] at hi
 have H2 := Lib.hid h2
 clear h2
 by_cases h3 : fin = fin'
 case neg =>
  have H3 := Lib.hid h3
  have HF := Lib.hid (HN.out fun h => h3 h.2.2.1)
  clear h3
  go_enter Tryd.func21, Tryd.ntmps21
  go_wp2_with (first
   | (go_at_call 41; refine hi.mono ?_; rintro e w3 ⟨rfl, hb3⟩; obtain ⟨⟨r1, r2⟩, ⟨r3, r4⟩, r5, r6⟩ := HA.out w3 hb3; have hf := eqBools_any _ _ _ _ _ _ _ _ w3 r5.fin r6.fin; rw [decide_eq_false H3.out] at hf; clear r5 r6)
   | (go_at_call 42; refine hf.mono ?_; rintro e w4 ⟨rfl, hb4⟩))
  go_ret
  exact ⟨by rw [HF.out]; rfl, hB.trans ((hb3.trans (hb4.mono hb3.size)).mono hB.size)⟩
 have H3 := Lib.hid h3
 clear h3
 have HF : Hid (V = decide (es = es')) := Lib.hid (by
  by_cases h4 : es = es'
  ·rw [decide_eq_true h4]; exact HY.out ⟨H1.out, H2.out, H3.out, h4⟩
  ·rw [decide_eq_false h4]; exact HN.out fun h => h4 h.2.2.2)
 go_enter Tryd.func21, Tryd.ntmps21
 go_wp2_with (first
  | (go_at_call 41; refine hi.mono ?_; rintro e w3 ⟨rfl, hb3⟩; obtain ⟨⟨r1, r2⟩, ⟨r3, r4⟩, r5, r6⟩ := HA.out w3 hb3; have hf := eqBools_any _ _ _ _ _ _ _ _ w3 r5.fin r6.fin; rw [decide_eq_true H3.out] at hf; clear r5 r6)
  | (go_at_call 42; refine hf.mono ?_; rintro e w4 ⟨rfl, hb4⟩; obtain ⟨⟨r1, r2⟩, ⟨r3, r4⟩, r5, r6⟩ := HA.out w4 (hb3.trans (hb4.mono hb3.size)); have hg := eqArcs_any _ _ _ _ _ _ _ _ w4 r5.arcs r6.arcs; clear r5 r6)
  | (go_at_call 43; refine hg.mono ?_; rintro e w5 ⟨rfl, hb5⟩))
 go_ret
 exact ⟨by rw [HF.out]; rfl, hB.trans ((hb3.trans ((hb4.trans (hb5.mono hb4.size)).mono hb3.size)).mono hB.size)⟩
end Go.Proofs.YtimboglagjbdjaaDoor

set_option linter.unusedSimpArgs false
set_option linter.unusedVariables false
namespace Go.Proofs.YtimboglagjbdjaaDoor
open Go.RowKit
attribute [local go_sem] Oper.semAt_some

theorem cell_later {w w' : World} {b j : Nat} {v : Value} (hb : Below w.heap.size w w') (h : w.cell? ⟨b, j, none⟩ = some v) : w'.cell? ⟨b, j, none⟩ = some v := (hb.cell (p := ⟨b, j, none⟩) (lt_of_cell h)).trans h
set_option maxRecDepth 20000 in
set_option maxHeartbeats 16000000 in
theorem nfaReversed_walk (a : Nfa) (h : NH) (aw : Option Addr) (lw cw : Nat) (zs : List Int) (w : World) (ia : IsNfa w h a) (iw : IsInts .i64 w aw lw cw zs) (iT : TabW w) :
  Calls Tryd.prog 5 #[vNf a h, .slice aw lw cw] w fun e w' => e = .returned (.bool true) ∧ Below w.heap.size w w' := by
 obtain ⟨W0, hW0, hs0, hb0, hO0⟩ := boxRN a h w ia
 replace ia := (hO0 W0 (Below.refl _ _)).2.1
 replace iw := iw.later hb0
 obtain ⟨c01, c02, c03, c04⟩ := (hO0 W0 (Below.refl _ _)).1
 have HB : Below w.heap.size w W0 := hb0
 clear hO0 hb0
 unfold vNf
 replace iT := iT.later HB
 by_cases fa : FewN a
 rotate_left
 ·have hx := fa
  go_enter Tryd.func5, Tryd.ntmps5
  go_wp2_with (fail)
  refine (awake_any iT).mono ?_
  rintro e w1 ⟨rfl, hb⟩
  replace c01 := cell_later hb c01
  replace c02 := cell_later hb c02
  replace c03 := cell_later hb c03
  replace c04 := cell_later hb c04
  replace ia := ia.later hb
  replace iw := iw.later hb
  replace iT := iT.later hb
  replace HB := HB.trans (hb.mono HB.size)
  clear hb
  go_wp2_with (fail)
  refine (few_no ia fa).mono ?_
  rintro e w2 ⟨rfl, hb⟩
  replace c01 := cell_later hb c01
  replace c02 := cell_later hb c02
  replace c03 := cell_later hb c03
  replace c04 := cell_later hb c04
  replace ia := ia.later hb
  replace iw := iw.later hb
  replace iT := iT.later hb
  replace HB := HB.trans (hb.mono HB.size)
  clear hb
  go_wp2_with (fail)
  go_ret
  exact ⟨rfl, HB⟩
 have rv := fun W h' (hd : IsNfa W h' a) => refValid_any a h' W hd
 by_cases hv : ValidN a
 rotate_left
 ·rw [vN_no hv] at rv
  go_enter Tryd.func5, Tryd.ntmps5
  go_wp2_with (fail)
  refine (awake_any iT).mono ?_
  rintro e w3 ⟨rfl, hb⟩
  replace c01 := cell_later hb c01
  replace c02 := cell_later hb c02
  replace c03 := cell_later hb c03
  replace c04 := cell_later hb c04
  replace ia := ia.later hb
  replace iw := iw.later hb
  replace iT := iT.later hb
  replace HB := HB.trans (hb.mono HB.size)
  clear hb
  go_wp2_with (fail)
  refine (few_yes ia fa).mono ?_
  rintro e w4 ⟨rfl, hb⟩
  replace c01 := cell_later hb c01
  replace c02 := cell_later hb c02
  replace c03 := cell_later hb c03
  replace c04 := cell_later hb c04
  replace ia := ia.later hb
  replace iw := iw.later hb
  replace iT := iT.later hb
  replace HB := HB.trans (hb.mono HB.size)
  clear hb
  go_wp2_with (fail)
  refine (rv _ _ ia).mono ?_
  rintro e w5 ⟨rfl, hb⟩
  replace c01 := cell_later hb c01
  replace c02 := cell_later hb c02
  replace c03 := cell_later hb c03
  replace c04 := cell_later hb c04
  replace ia := ia.later hb
  replace iw := iw.later hb
  replace iT := iT.later hb
  replace HB := HB.trans (hb.mono HB.size)
  clear hb
  go_wp2_with (fail)
  go_ret
  exact ⟨rfl, HB⟩
 rw [vN_yes hv] at rv
 by_cases hlw : 20 < lw
 ·have d1 : decide ((20 : Int) < (lw : Int)) = true := decide_eq_true (by omega)
  go_enter Tryd.func5, Tryd.ntmps5
  go_wp2_with (fail)
  refine (awake_any iT).mono ?_
  rintro e w6 ⟨rfl, hb⟩
  replace c01 := cell_later hb c01
  replace c02 := cell_later hb c02
  replace c03 := cell_later hb c03
  replace c04 := cell_later hb c04
  replace ia := ia.later hb
  replace iw := iw.later hb
  replace iT := iT.later hb
  replace HB := HB.trans (hb.mono HB.size)
  clear hb
  go_wp2_with (fail)
  refine (few_yes ia fa).mono ?_
  rintro e w7 ⟨rfl, hb⟩
  replace c01 := cell_later hb c01
  replace c02 := cell_later hb c02
  replace c03 := cell_later hb c03
  replace c04 := cell_later hb c04
  replace ia := ia.later hb
  replace iw := iw.later hb
  replace iT := iT.later hb
  replace HB := HB.trans (hb.mono HB.size)
  clear hb
  go_wp2_with (fail)
  refine (rv _ _ ia).mono ?_
  rintro e w8 ⟨rfl, hb⟩
  replace c01 := cell_later hb c01
  replace c02 := cell_later hb c02
  replace c03 := cell_later hb c03
  replace c04 := cell_later hb c04
  replace ia := ia.later hb
  replace iw := iw.later hb
  replace iT := iT.later hb
  replace HB := HB.trans (hb.mono HB.size)
  clear hb
  go_wp2_with (fail)
  go_ret
  exact ⟨rfl, HB⟩
 have d1 : decide ((20 : Int) < (lw : Int)) = false := decide_eq_false (by omega)
 have fa3 : a.arcs.length ≤ 1000 := by have := fa.2.2.2; omega
 have hzl : zs.length = lw := iw.length
 have hlw2 : lw ≤ 20 := by omega
 have HZL := Lib.hid hzl
 have HLW := Lib.hid hlw2
 obtain ⟨u, hu⟩ : ∃ u, acN a zs = u := ⟨_, rfl⟩
 have hR := revN_valid hv
 have hRR := revN_revN hv
 have hur := acN_rev hv zs
 rw [hu] at hur
 obtain ⟨R, hRd⟩ : ∃ R, revN a = R := ⟨_, rfl⟩
 have kr := fun W h' (hd : IsNfa W h' a) => Reverse_yes (w := W) (h := h') hv hd
 rw [hRd] at hR hRR hur kr
 have kq := fun W h' (hd : IsNfa W h' R) => Reverse_yes (w := W) (h := h') hR hd
 rw [hRR] at kq
 have ka := fun W h' (aq : Option Addr) (lq cq : Nat) (hd : IsNfa W h' a) (hi : IsInts .i64 W aq lq cq zs) (hT : TabW W) => (show Calls Tryd.prog 17 #[vNf a h', .slice aq lq cq] W (fun e w' => e = .returned (.tuple #[.bool u, .int .i64 0]) ∧ Below W.heap.size W w') from by
  have h1 := accepts_any (w := W) (h := h') hd hi hT
  rw [accV_yes hv, hu] at h1
  exact h1)
 have kb := fun W h' (aq : Option Addr) (lq cq : Nat) (hd : IsNfa W h' R) (hi : IsInts .i64 W aq lq cq zs.reverse) (hT : TabW W) => (show Calls Tryd.prog 17 #[vNf R h', .slice aq lq cq] W (fun e w' => e = .returned (.tuple #[.bool u, .int .i64 0]) ∧ Below W.heap.size W w') from by
  have h1 := accepts_any (w := W) (h := h') hd hi hT
  rw [accV_yes hR, hur] at h1
  exact h1)
 have kv := fun W h' (hd : IsNfa W h' R) => valid_any R h' W hd
 rw [vN_yes hR] at kv
 have ke := fun W h' k' (hd : IsNfa W h' a) (he : IsNfa W k' a) => equal_any hd he
 rw [eqN_self a] at ke
 have KR := Lib.hid kr
 have KQ := Lib.hid kq
 have KA := Lib.hid ka
 have KB := Lib.hid kb
 have KV := Lib.hid kv
 have KE := Lib.hid ke
 have q0 : (u == u) = true := by simp
 clear hzl hlw hlw2 hv kr kq ka kb kv ke hR hRR hur hu hRd
 go_enter Tryd.func5, Tryd.ntmps5
 go_wp2_with (fail)
 refine (awake_any iT).mono ?_
 rintro e w9 ⟨rfl, hb⟩
 replace c01 := cell_later hb c01
 replace c02 := cell_later hb c02
 replace c03 := cell_later hb c03
 replace c04 := cell_later hb c04
 replace ia := ia.later hb
 replace iw := iw.later hb
 replace iT := iT.later hb
 replace HB := HB.trans (hb.mono HB.size)
 clear hb
 go_wp2_with (fail)
 refine (few_yes ia fa).mono ?_
 rintro e w10 ⟨rfl, hb⟩
 replace c01 := cell_later hb c01
 replace c02 := cell_later hb c02
 replace c03 := cell_later hb c03
 replace c04 := cell_later hb c04
 replace ia := ia.later hb
 replace iw := iw.later hb
 replace iT := iT.later hb
 replace HB := HB.trans (hb.mono HB.size)
 clear hb
 go_wp2_with (fail)
 refine (rv _ _ ia).mono ?_
 rintro e w11 ⟨rfl, hb⟩
 replace c01 := cell_later hb c01
 replace c02 := cell_later hb c02
 replace c03 := cell_later hb c03
 replace c04 := cell_later hb c04
 replace ia := ia.later hb
 replace iw := iw.later hb
 replace iT := iT.later hb
 replace HB := HB.trans (hb.mono HB.size)
 clear hb
 go_wp2_with (fail)
 refine (own_any ia fa3).mono ?_
 rintro e w12 ⟨⟨yp, rfl, ip⟩, hb⟩
 unfold vNf
 replace c01 := cell_later hb c01
 replace c02 := cell_later hb c02
 replace c03 := cell_later hb c03
 replace c04 := cell_later hb c04
 replace ia := ia.later hb
 replace iw := iw.later hb
 replace iT := iT.later hb
 replace HB := HB.trans (hb.mono HB.size)
 clear hb
 go_upto_region 6 with (fail)
 obtain ⟨Vp, hVp, -, hb, hOp⟩ := boxNW a yp _ ip
 rw [hVp]
 obtain ⟨⟨cp1, cp2, cp3, cp4⟩, -, -⟩ := hOp Vp (Below.refl _ _)
 clear hOp hVp
 replace c01 := cell_later hb c01
 replace c02 := cell_later hb c02
 replace c03 := cell_later hb c03
 replace c04 := cell_later hb c04
 replace ia := ia.later hb
 replace iw := iw.later hb
 replace iT := iT.later hb
 replace ip := ip.later hb
 replace HB := HB.trans (hb.mono HB.size)
 clear hb
 go_wp2_with (fail)
 refine (KR.out _ _ ip).mono ?_
 rintro e w13 ⟨⟨yr, rfl, ir⟩, hb⟩
 unfold vNf
 replace c01 := cell_later hb c01
 replace c02 := cell_later hb c02
 replace c03 := cell_later hb c03
 replace c04 := cell_later hb c04
 replace cp1 := cell_later hb cp1
 replace cp2 := cell_later hb cp2
 replace cp3 := cell_later hb cp3
 replace cp4 := cell_later hb cp4
 replace ia := ia.later hb
 replace iw := iw.later hb
 replace iT := iT.later hb
 replace ip := ip.later hb
 replace HB := HB.trans (hb.mono HB.size)
 clear hb
 go_upto_region 7 with (fail)
 obtain ⟨Vr, hVr, -, hb, hOr⟩ := boxNW R yr _ ir
 rw [hVr]
 obtain ⟨⟨cr1, cr2, cr3, cr4⟩, -, -⟩ := hOr Vr (Below.refl _ _)
 clear hOr hVr
 replace c01 := cell_later hb c01
 replace c02 := cell_later hb c02
 replace c03 := cell_later hb c03
 replace c04 := cell_later hb c04
 replace cp1 := cell_later hb cp1
 replace cp2 := cell_later hb cp2
 replace cp3 := cell_later hb cp3
 replace cp4 := cell_later hb cp4
 replace ia := ia.later hb
 replace iw := iw.later hb
 replace iT := iT.later hb
 replace ip := ip.later hb
 replace ir := ir.later hb
 replace HB := HB.trans (hb.mono HB.size)
 clear hb
 go_wp2_with (fail)
 refine (KQ.out _ _ ir).mono ?_
 rintro e w14 ⟨⟨yb, rfl, ib⟩, hb⟩
 unfold vNf
 replace c01 := cell_later hb c01
 replace c02 := cell_later hb c02
 replace c03 := cell_later hb c03
 replace c04 := cell_later hb c04
 replace cp1 := cell_later hb cp1
 replace cp2 := cell_later hb cp2
 replace cp3 := cell_later hb cp3
 replace cp4 := cell_later hb cp4
 replace cr1 := cell_later hb cr1
 replace cr2 := cell_later hb cr2
 replace cr3 := cell_later hb cr3
 replace cr4 := cell_later hb cr4
 replace ia := ia.later hb
 replace iw := iw.later hb
 replace iT := iT.later hb
 replace ip := ip.later hb
 replace ir := ir.later hb
 replace HB := HB.trans (hb.mono HB.size)
 clear hb
 go_upto_region 8 with (fail)
 obtain ⟨Vb, hVb, -, hb, hOb⟩ := boxNW a yb _ ib
 rw [hVb]
 obtain ⟨⟨cb1, cb2, cb3, cb4⟩, -, -⟩ := hOb Vb (Below.refl _ _)
 clear hOb hVb
 replace c01 := cell_later hb c01
 replace c02 := cell_later hb c02
 replace c03 := cell_later hb c03
 replace c04 := cell_later hb c04
 replace cp1 := cell_later hb cp1
 replace cp2 := cell_later hb cp2
 replace cp3 := cell_later hb cp3
 replace cp4 := cell_later hb cp4
 replace cr1 := cell_later hb cr1
 replace cr2 := cell_later hb cr2
 replace cr3 := cell_later hb cr3
 replace cr4 := cell_later hb cr4
 replace ia := ia.later hb
 replace iw := iw.later hb
 replace iT := iT.later hb
 replace ip := ip.later hb
 replace ir := ir.later hb
 replace ib := ib.later hb
 replace HB := HB.trans (hb.mono HB.size)
 clear hb
 obtain ⟨wo, hwo⟩ : ∃ wo, wo = Vb := ⟨Vb, rfl⟩
 subst hwo
 have hlw2 := HLW.out
 go_wp2_with (fail)
 go_loopw [10, 11] (fun v c W => (∃ (k : Nat) (aT : Option Addr) (cT : Nat), k ≤ lw ∧ v = .slice aT k cT ∧ c = .int .i64 ((lw : Int) - 1 - (k : Int)) ∧ W.ownsRow wo.heap.size 3 1 (.slice aT k cT) k (ivs .i64 (zs.reverse.take k))) ∧ Below wo.heap.size wo W) (fun _ c _ => (intOf c + 1).toNat)
 case atStart => exact ⟨⟨0, none, 0, Nat.zero_le _, rfl, by simp, World.ownsRow_nil _ _ _ _⟩, Below.refl _ _⟩
 case round =>
  obtain ⟨⟨k, aT, cT, hk, rfl, rfl, hO⟩, hb⟩ := hrel
  have HL := Lib.hid hb
  replace c01 := cell_later hb c01
  replace c02 := cell_later hb c02
  replace c03 := cell_later hb c03
  replace c04 := cell_later hb c04
  replace cp1 := cell_later hb cp1
  replace cp2 := cell_later hb cp2
  replace cp3 := cell_later hb cp3
  replace cp4 := cell_later hb cp4
  replace cr1 := cell_later hb cr1
  replace cr2 := cell_later hb cr2
  replace cr3 := cell_later hb cr3
  replace cr4 := cell_later hb cr4
  replace cb1 := cell_later hb cb1
  replace cb2 := cell_later hb cb2
  replace cb3 := cell_later hb cb3
  replace cb4 := cell_later hb cb4
  replace ia := ia.later hb
  replace iw := iw.later hb
  replace iT := iT.later hb
  replace ip := ip.later hb
  replace ir := ir.later hb
  replace ib := ib.later hb
  replace HB := HB.trans (hb.mono HB.size)
  clear hb
  rcases Nat.lt_or_ge k lw with hlt | hge
  ·have q1 : decide ((0 : Int) ≤ (lw : Int) - 1 - (k : Int)) = true := decide_eq_true (by omega)
   obtain ⟨bw, ow, rfl, -, x1⟩ := iw.at wr (Below.refl _ _) (lw - 1 - k) (by omega)
   have hij : (lw : Int) - 1 - (k : Int) = ((lw - 1 - k : Nat) : Int) := by omega
   have HTK : Hid (zs.reverse.take (k + 1) = zs.reverse.take k ++ [gi zs (lw - 1 - k)]) := Lib.hid (by
    have h1 : k < zs.reverse.length := by rw [List.length_reverse, HZL.out]; exact hlt
    rw [take_succ_gi _ _ h1, gi_eq _ _ h1, List.getElem_reverse, gi_eq _ _ (by rw [HZL.out]; omega)]
    congr 3
    rw [HZL.out])
   obtain ⟨j, hj⟩ : ∃ j, lw - 1 - k = j := ⟨_, rfl⟩
   rw [hj] at hij HTK x1
   have hjl : j < lw := by omega
   have hij2 : (lw : Int) - 1 - (k : Int) - 1 = (lw : Int) - 1 - ((k + 1 : Nat) : Int) := by omega
   have HO := Lib.hid hO
   have HIJ2 := Lib.hid hij2
   rw [hij] at q1 hij2 ⊢
   have HIJ := Lib.hid hij
   obtain ⟨z, hz⟩ : ∃ z, gi zs j = z := ⟨_, rfl⟩
   rw [hz] at HTK x1
   have HSZ := Lib.hid HL.out.size
   have HO2 : Hid ((wr.alloc (.cells #[.int .i64 z] 3)).ownsRow wo.heap.size 3 1 (.slice aT k cT) k (ivs .i64 (zs.reverse.take k))) := Lib.hid (HO.out.kept_below ((Below.refl _ _).alloc (Nat.le_refl _) _))
   have hj0 : (j : Int) - 1 = (lw : Int) - 1 - ((k + 1 : Nat) : Int) := by omega
   have HJ0 := Lib.hid hj0
   clear hO hz hij hij2 hj hj0
   go_wp2_with (at_builtin; refine app_own elI64 rfl _ _ rfl (xs := ivs .i64 (zs.reverse.take k)) rfl HO2.out rfl (new_src wr #[.int .i64 z] _ rfl) (by intro u hu; rw [List.mem_singleton.1 hu]; rfl) (by omega) (by have := HSZ.out; simp; omega) ?_; intro a9 c9 w9 h9 _ hb9 _; have H9 := Lib.hid h9; have HB9 := Lib.hid hb9; clear h9 hb9)
   go_roundw
   case rel =>
    refine ⟨⟨k + 1, a9, c9, hlt, rfl, by rw [← HJ0.out], ?_⟩, ?_⟩
    ·have h1 := H9.out
     rw [HTK.out, show ivs .i64 (zs.reverse.take k ++ [z]) = ivs .i64 (zs.reverse.take k) ++ [.int .i64 z] by simp [ivs]]
     exact h1
    ·exact (HL.out.alloc HL.out.size _).trans HB9.out
   case measure => simp only [intOf]; omega
  ·obtain rfl : k = lw := by omega
   have q1 : decide ((0 : Int) ≤ (k : Int) - 1 - (k : Int)) = false := decide_eq_false (by omega)
   have iu := (IsInts.of_owns hO).1
   rw [List.take_of_length_le (by rw [List.length_reverse, HZL.out]; exact Nat.le_refl _)] at iu
   clear hO
   go_wp2_with (fail)
   refine (KA.out _ _ _ _ _ ip iw iT).mono ?_
   rintro e w15 ⟨rfl, hb⟩
   replace c01 := cell_later hb c01
   replace c02 := cell_later hb c02
   replace c03 := cell_later hb c03
   replace c04 := cell_later hb c04
   replace cp1 := cell_later hb cp1
   replace cp2 := cell_later hb cp2
   replace cp3 := cell_later hb cp3
   replace cp4 := cell_later hb cp4
   replace cr1 := cell_later hb cr1
   replace cr2 := cell_later hb cr2
   replace cr3 := cell_later hb cr3
   replace cr4 := cell_later hb cr4
   replace cb1 := cell_later hb cb1
   replace cb2 := cell_later hb cb2
   replace cb3 := cell_later hb cb3
   replace cb4 := cell_later hb cb4
   replace ia := ia.later hb
   replace iw := iw.later hb
   replace iT := iT.later hb
   replace ip := ip.later hb
   replace ir := ir.later hb
   replace ib := ib.later hb
   replace iu := iu.later hb
   replace HB := HB.trans (hb.mono HB.size)
   clear hb
   go_wp2_with (fail)
   refine (KB.out _ _ _ _ _ ir iu iT).mono ?_
   rintro e w16 ⟨rfl, hb⟩
   replace c01 := cell_later hb c01
   replace c02 := cell_later hb c02
   replace c03 := cell_later hb c03
   replace c04 := cell_later hb c04
   replace cp1 := cell_later hb cp1
   replace cp2 := cell_later hb cp2
   replace cp3 := cell_later hb cp3
   replace cp4 := cell_later hb cp4
   replace cr1 := cell_later hb cr1
   replace cr2 := cell_later hb cr2
   replace cr3 := cell_later hb cr3
   replace cr4 := cell_later hb cr4
   replace cb1 := cell_later hb cb1
   replace cb2 := cell_later hb cb2
   replace cb3 := cell_later hb cb3
   replace cb4 := cell_later hb cb4
   replace ia := ia.later hb
   replace iw := iw.later hb
   replace iT := iT.later hb
   replace ip := ip.later hb
   replace ir := ir.later hb
   replace ib := ib.later hb
   replace iu := iu.later hb
   replace HB := HB.trans (hb.mono HB.size)
   clear hb
   go_wp2_with (fail)
   refine (KV.out _ _ ir).mono ?_
   rintro e w17 ⟨rfl, hb⟩
   replace c01 := cell_later hb c01
   replace c02 := cell_later hb c02
   replace c03 := cell_later hb c03
   replace c04 := cell_later hb c04
   replace cp1 := cell_later hb cp1
   replace cp2 := cell_later hb cp2
   replace cp3 := cell_later hb cp3
   replace cp4 := cell_later hb cp4
   replace cr1 := cell_later hb cr1
   replace cr2 := cell_later hb cr2
   replace cr3 := cell_later hb cr3
   replace cr4 := cell_later hb cr4
   replace cb1 := cell_later hb cb1
   replace cb2 := cell_later hb cb2
   replace cb3 := cell_later hb cb3
   replace cb4 := cell_later hb cb4
   replace ia := ia.later hb
   replace iw := iw.later hb
   replace iT := iT.later hb
   replace ip := ip.later hb
   replace ir := ir.later hb
   replace ib := ib.later hb
   replace iu := iu.later hb
   replace HB := HB.trans (hb.mono HB.size)
   clear hb
   go_wp2_with (fail)
   refine (KE.out _ _ _ ib ip).mono ?_
   rintro e w18 ⟨rfl, hb⟩
   replace c01 := cell_later hb c01
   replace c02 := cell_later hb c02
   replace c03 := cell_later hb c03
   replace c04 := cell_later hb c04
   replace cp1 := cell_later hb cp1
   replace cp2 := cell_later hb cp2
   replace cp3 := cell_later hb cp3
   replace cp4 := cell_later hb cp4
   replace cr1 := cell_later hb cr1
   replace cr2 := cell_later hb cr2
   replace cr3 := cell_later hb cr3
   replace cr4 := cell_later hb cr4
   replace cb1 := cell_later hb cb1
   replace cb2 := cell_later hb cb2
   replace cb3 := cell_later hb cb3
   replace cb4 := cell_later hb cb4
   replace ia := ia.later hb
   replace iw := iw.later hb
   replace iT := iT.later hb
   replace ip := ip.later hb
   replace ir := ir.later hb
   replace ib := ib.later hb
   replace iu := iu.later hb
   replace HB := HB.trans (hb.mono HB.size)
   clear hb
   go_wp2_with (fail)
   go_ret
   exact ⟨rfl, HB⟩
theorem nfaReversed_top (a : Nfa) (h : NH) (aw : Option Addr) (lw cw : Nat) (zs : List Int) (w : World) (ia : IsNfa w h a) (iw : IsInts .i64 w aw lw cw zs) {P Q : Prop} (_ : P) (_ : Q) (iT : TabW w) :
  Calls Tryd.prog 5 #[vNf a h, .slice aw lw cw] w fun e w' => e = .returned (.bool true) ∧ Below w.heap.size w w' := nfaReversed_walk a h aw lw cw zs w ia iw iT
end Go.Proofs.YtimboglagjbdjaaDoor
