import Derived.Test.YtpcbmhfnefhenaaMG4
import Derived.Test.YtpcbmhfnefhenaaMG11
/-
  DfaWf, DfaC
-/
set_option linter.unusedVariables false
namespace Go.Proofs.Ytpcbmhfnefhenaa
section
variable {d : Dfa}
theorem words_end {n most : Int} {i : Nat} (hi : i ≤ (n + 1).toNat) (h : n < (i : Int) ∨ min most 1000 ≤ ((tk (min most 1000).toNat [] (allW d i)).length : Int) ∨ ∀ k, i ≤ k → wordsL d k d.s = []) : tk (min most 1000).toNat [] (allW d i) = wordsD d n most := by
 unfold wordsD
 rcases h with h | h | h
 ·rw [show i = (n + 1).toNat by omega]
 ·exact (allW_full (by omega) hi).symm
 ·rw [allW_stop h hi]
theorem emp_stop (hv : ValidD d) {i e : Nat} (he : e ≤ i) (hE : ∀ k, i - e ≤ k → k < i → wordsL d k d.s = []) (h : d.n < (e : Int)) : ∀ k, i ≤ k → wordsL d k d.s = [] := fun k hk =>
 pump hv (L := i - e) (fun k h1 h2 => hE k h1 (by have := hv.1; omega)) k (by omega)
theorem emp_more {i e : Nat} (he : e ≤ i) (hE : ∀ k, i - e ≤ k → k < i → wordsL d k d.s = []) (h : canB d i d.s = false) : ∀ k, i + 1 - (e + 1) ≤ k → k < i + 1 → wordsL d k d.s = [] := fun k h1 h2 => by
 rcases Nat.lt_or_ge k i with h3 | h3
 ·exact hE k (by omega) h3
 ·rw [show k = i by omega]
  exact canB_no.1 h
theorem tk_step (m i : Nat) : tk m (tk m [] (allW d i)) (wordsL d i d.s) = tk m [] (allW d (i + 1)) := by rw [allW_succ, tk_append]
theorem none_stop (hv : ValidD d) {k : Nat} (h : ∀ i : Nat, (i : Int) < d.n → canB d k i = false) : ∀ n, k ≤ n → wordsL d n d.s = [] := fun n hn => by
 have h1 := none_after hv h n hn d.s.toNat (by have := hv.2.1; unfold InD at this; omega)
 rw [show ((d.s.toNat : Nat) : Int) = d.s by have := hv.2.1; unfold InD at this; omega] at h1
 exact h1
theorem tk_cut (m : Nat) (out : List (List Int)) (d : Dfa) (k : Nat) (word : List Int) (l : List A3) {j : Nat} (hj : j < l.length) : tk m (tk m out (arcW d k word (l.take j))) ((wordsL d k (g3 l j).t).map fun v => (word ++ [(g3 l j).l]) ++ v) = tk m out (arcW d k word (l.take (j + 1))) := by
 rw [arcW_take k word l hj, tk_append]
theorem tk_arcs (m : Nat) (out : List (List Int)) (d : Dfa) (k : Nat) (word : List Int) (q : Int) : tk m out (arcW d k word ((outsD d.arcs q).take (outsD d.arcs q).length)) = tk m out ((wordsL d (k + 1) q).map fun v => word ++ v) := by
 rw [List.take_length, arcW_all]
theorem tk_empty {d : Dfa} (m : Nat) (out : List (List Int)) {k : Nat} {q : Int} (word : List Int) (h : canB d k q = false) : tk m out ((wordsL d k q).map fun v => word ++ v) = out := by
 rw [canB_no.1 h, List.map_nil, tk_nil]
theorem words_zero {d : Dfa} {q : Int} (word : List Int) (h : canB d 0 q = true) : (wordsL d 0 q).map (fun v => word ++ v) = [word] := by
 unfold canB at h
 have e : wordsL d 0 q = if gb d.fin q.toNat = true then [[]] else [] := rfl
 rw [e] at h ⊢
 split at h
 ·rename_i h1; rw [if_pos h1]; simp
 ·simp at h
end
end Go.Proofs.Ytpcbmhfnefhenaa

set_option linter.unusedSimpArgs false
set_option linter.unusedVariables false
namespace Go.Proofs.Ytpcbmhfnefhenaa
open Go.RowKit
attribute [local go_sem] Oper.semAt_some

def nextV (ar : List A3) (q c : Int) : Value := match nxtD ar q c with
 | some x => .tuple #[.int .i64 x.t, .bool true]
 | none => .tuple #[.int .i64 0, .bool false]
set_option maxRecDepth 20000 in
theorem next_any (d : Dfa) (h : DH) (q c : Int) (w : World) (hd : IsDfa w h d) (hS : SortedA d.arcs) (hl : d.arcs.length ≤ 20000) :
  Calls Try.prog 53 #[vDf d h, .int .i64 q, .int .i64 c] w fun e w' => e = .returned (nextV d.arcs q c) ∧ Below w.heap.size w w' := by
 obtain ⟨n, s, fin, es⟩ := d
 obtain ⟨fa, fl, fc, aa, al, ac⟩ := h
 obtain ⟨-, he⟩ := hd
 simp only at he hS hl ⊢
 have hlen := he.length
 rw [hlen] at hl
 obtain ⟨hb1, hs1, hO⟩ := boxD n s fa fl fc aa al ac w
 obtain ⟨W1, hW1⟩ : ∃ W1, w.alloc (.cells #[.int .i64 n, .int .i64 s, .slice fa fl fc, .slice aa al ac] 30) = W1 := ⟨_, rfl⟩
 rw [hW1] at hb1 hs1 hO
 obtain ⟨-, -, -, co⟩ := hO W1 (Below.refl _ _)
 have he1 := he.later hb1
 unfold vDf
 by_cases hh : hasAt es q c
 ·have HR : Hid (nextV es q c = .tuple #[.int .i64 (g3 es (loP es ⟨q, c, 0⟩)).t, .bool true]) := Lib.hid (by unfold nextV; rw [nxtD_some hS hh])
  have hp := hh.1
  obtain ⟨b, off, rfl, hcell⟩ := he.fix (by omega)
  have hcall := search_any _ al ac es q c W1 he1 hS (by omega)
  have HH := Lib.hid hh
  obtain ⟨p, hpe⟩ : ∃ p, loP es ⟨q, c, 0⟩ = p := ⟨_, rfl⟩
  rw [hpe] at HR hp hcall
  clear hpe hh he he1
  go_enter Try.func53, Try.ntmps53
  go_wp2_with (go_at_call 70; refine hcall.mono ?_; rintro e w2 ⟨⟨u, rfl, hu⟩, hb2⟩; have hu2 : u = true := hu.2 HH.out; subst hu2; clear hu; obtain ⟨-, -, -, co2⟩ := hO w2 (hb2.mono (by omega)); obtain ⟨-, -, ct⟩ := hcell w2 (hb1.trans (hb2.mono hb1.size)) p (by omega))
  go_ret2
  exact ⟨by rw [HR.out]; rfl, hb1.trans (hb2.mono hb1.size)⟩
 ·have HR : Hid (nextV es q c = .tuple #[.int .i64 0, .bool false]) := Lib.hid (by unfold nextV; rw [nxtD_none hS hh])
  have hcall := search_any _ al ac es q c W1 he1 hS (by omega)
  have HH := Lib.hid hh
  clear hh he he1
  go_enter Try.func53, Try.ntmps53
  go_wp2_with (go_at_call 70; refine hcall.mono ?_; rintro e w2 ⟨⟨u, rfl, hu⟩, hb2⟩; have hu2 : u = false := Bool.eq_false_iff.2 fun h => HH.out (hu.1 h); subst hu2; clear hu)
  go_ret2
  exact ⟨by rw [HR.out]; rfl, hb1.trans (hb2.mono hb1.size)⟩
theorem IsArcs.part {w : World} {b off al ac : Nat} {es : List A3} (h : IsArcs w (some ⟨b, off, none⟩) al ac es) {i k c : Nat} (hik : i ≤ k) (hk : k ≤ al) (hc : k - i ≤ c) (hcm : c ≤ maxLen) : IsArcs w (some ⟨b, off + i * 3, none⟩) (k - i) c ((es.drop i).take (k - i)) := by
 have hl := h.length
 refine .inr ⟨b, off + i * 3, rfl, hc, hcm, by rw [List.length_take, List.length_drop]; omega, fun j hj => ?_⟩
 have e : g3 ((es.drop i).take (k - i)) j = g3 es (i + j) := by
  unfold g3
  rw [List.getD_eq_getElem?_getD, List.getD_eq_getElem?_getD, List.getElem?_take_of_lt (by omega), List.getElem?_drop]
 rw [e]
 have := h.get (i + j) (by omega)
 rwa [show off + (i + j) * 3 = off + i * 3 + j * 3 by omega] at this
set_option maxRecDepth 20000 in
theorem out_any (d : Dfa) (h : DH) (q : Int) (w : World) (hd : IsDfa w h d) (hS : SortedA d.arcs) (hL : ∀ x ∈ d.arcs, 1 ≤ x.l) (hl : d.arcs.length ≤ 20000) (hq : 0 ≤ q ∧ q < 1000000) :
  Calls Try.prog 45 #[vDf d h, .int .i64 q] w fun e w' => (∃ a' c', e = .returned (.slice a' (outsD d.arcs q).length c') ∧ IsArcs w' a' (outsD d.arcs q).length c' (outsD d.arcs q)) ∧ Below w.heap.size w w' := by
 obtain ⟨n, s, fin, es⟩ := d
 obtain ⟨fa, fl, fc, aa, al, ac⟩ := h
 obtain ⟨-, he⟩ := hd
 simp only at he hS hl hL ⊢
 have hlen := he.length
 have hcap := he.capLe
 unfold maxLen at hcap
 rw [hlen] at hl
 obtain ⟨hb1, hs1, hO⟩ := boxD n s fa fl fc aa al ac w
 obtain ⟨W1, hW1⟩ : ∃ W1, w.alloc (.cells #[.int .i64 n, .int .i64 s, .slice fa fl fc, .slice aa al ac] 30) = W1 := ⟨_, rfl⟩
 rw [hW1] at hb1 hs1 hO
 obtain ⟨-, -, -, co⟩ := hO W1 (Below.refl _ _)
 have hcall := fun W (hb : Below w.heap.size w W) (c : Int) => search_any _ al ac es c 0 W (he.later hb) hS (by omega)
 obtain ⟨hik, hpart⟩ := outsD_part hS hL q
 have hk := loP_le es ⟨q + 1, 0, 0⟩
 rw [hlen] at hk
 have hc0 := hcall W1 hb1 q
 have hc1 := fun W hb => hcall W hb (q + 1)
 obtain ⟨i, hi⟩ : ∃ i, loP es ⟨q, 0, 0⟩ = i := ⟨_, rfl⟩
 obtain ⟨k, hk'⟩ : ∃ k, loP es ⟨q + 1, 0, 0⟩ = k := ⟨_, rfl⟩
 rw [hi] at hc0 hik hpart
 rw [hk'] at hc1 hik hpart hk
 simp only [vA] at hc0 hc1
 have HC := Lib.hid hc1
 have hol : (outsD es q).length = k - i := by rw [← hpart, List.length_take, List.length_drop]; omega
 have HP := Lib.hid hpart
 have HE := Lib.hid he
 unfold vDf
 rw [hol]
 clear hcall hi hk' hpart hc1 he hol
 have hi64 : ((i : Int) ≤ k) := by omega
 have hk64 : ((k : Int) ≤ ac) := by omega
 go_enter Try.func45, Try.ntmps45
 go_wp2_with (first | (go_at_call 70; with_reducible refine hc0.mono ?_; rintro e w2 ⟨⟨u, rfl, hu⟩, hb2⟩; have HB2 : Hid (Below w.heap.size w w2) := Lib.hid (hb1.trans (hb2.mono hb1.size)); obtain ⟨-, -, -, co2⟩ := hO w2 (hb2.mono (by omega)); have hc2 := HC.out w2 HB2.out) | (go_at_call 70; with_reducible refine hc2.mono ?_; rintro e w3 ⟨⟨u3, rfl, hu3⟩, hb3⟩; obtain ⟨-, -, -, co3⟩ := hO w3 ((hb2.trans (hb3.mono hb2.size)).mono (by omega))))
 all_goals (
  have hB3 : Below w.heap.size w w3 := HB2.out.trans (hb3.mono HB2.out.size)
  have hE3 := HE.out.later hB3
  rw [← HP.out])
 ·go_ret
  have h0 : k - i = 0 := by omega
  exact ⟨⟨aa, 0, by rw [h0]; rfl, .inl ⟨h0, rfl, by rw [h0]; rfl⟩⟩, hB3⟩
 ·rcases HE.out with ⟨h1, h2, h3⟩ | ⟨b, off, rfl, h4⟩
  ·go_ret
   have h0 : k - i = 0 := by omega
   exact ⟨⟨_, ac - i, by rw [h0]; rfl, .inl ⟨h0, by omega, by rw [h0]; rfl⟩⟩, hB3⟩
  ·go_ret
   exact ⟨⟨some ⟨b, off + i * 3, none⟩, ac - i, by rw [← addr_add]; rfl, hE3.part hik hk (by omega) (by unfold maxLen; omega)⟩, hB3⟩
end Go.Proofs.Ytpcbmhfnefhenaa
