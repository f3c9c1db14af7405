import Derived.Test.YtpcbmhfnefhenaaMG3
import Derived.Test.YtpcbmhfnefhenaaMG12
/-
  DfaCo, Fam2
-/
set_option linter.unusedSimpArgs false
set_option linter.unusedVariables false
namespace Go.Proofs.Ytpcbmhfnefhenaa
open Go.RowKit
attribute [local go_sem] Oper.semAt_some

set_option maxRecDepth 20000 in
theorem out_in (d : Dfa) (h : DH) (q : Int) (w : World) (hd : IsDfa w h d) (hS : SortedA d.arcs) (hL : ∀ x ∈ d.arcs, 1 ≤ x.l) (hl : d.arcs.length ≤ 20000) (hq : 0 ≤ q ∧ q < 1000000) :
  Calls Try.prog 45 #[vDf d h, .int .i64 q] w fun e w' => (∃ a' c', e = .returned (.slice a' (outsD d.arcs q).length c') ∧ ∀ W0, IsDfa W0 h d → IsArcs W0 a' (outsD d.arcs q).length c' (outsD d.arcs q)) ∧ Below w.heap.size w w' := by
 obtain ⟨n, s, fin, es⟩ := d
 obtain ⟨fa, fl, fc, aa, al, ac⟩ := h
 obtain ⟨-, he⟩ := hd
 simp only at he hS hl hL ⊢
 have hlen := he.length
 have hcap := he.capLe
 unfold maxLen at hcap
 rw [hlen] at hl
 obtain ⟨hb1, hs1, hO⟩ := boxD n s fa fl fc aa al ac w
 obtain ⟨W1, hW1⟩ : ∃ W1, w.alloc (.cells #[.int .i64 n, .int .i64 s, .slice fa fl fc, .slice aa al ac] 30) = W1 := ⟨_, rfl⟩
 rw [hW1] at hb1 hs1 hO
 obtain ⟨-, -, -, co⟩ := hO W1 (Below.refl _ _)
 have hcall := fun W (hb : Below w.heap.size w W) (c : Int) => search_any _ al ac es c 0 W (he.later hb) hS (by omega)
 obtain ⟨hik, hpart⟩ := outsD_part hS hL q
 have hk := loP_le es ⟨q + 1, 0, 0⟩
 rw [hlen] at hk
 have hc0 := hcall W1 hb1 q
 have hc1 := fun W hb => hcall W hb (q + 1)
 obtain ⟨i, hi⟩ : ∃ i, loP es ⟨q, 0, 0⟩ = i := ⟨_, rfl⟩
 obtain ⟨k, hk'⟩ : ∃ k, loP es ⟨q + 1, 0, 0⟩ = k := ⟨_, rfl⟩
 rw [hi] at hc0 hik hpart
 rw [hk'] at hc1 hik hpart hk
 simp only [vA] at hc0 hc1
 have HC := Lib.hid hc1
 have hol : (outsD es q).length = k - i := by rw [← hpart, List.length_take, List.length_drop]; omega
 have HP := Lib.hid hpart
 have HE := Lib.hid he
 unfold vDf
 rw [hol]
 clear hcall hi hk' hpart hc1 he hol
 have hi64 : ((i : Int) ≤ k) := by omega
 have hk64 : ((k : Int) ≤ ac) := by omega
 go_enter Try.func45, Try.ntmps45
 go_wp2_with (first | (go_at_call 70; with_reducible refine hc0.mono ?_; rintro e w2 ⟨⟨u, rfl, hu⟩, hb2⟩; have HB2 : Hid (Below w.heap.size w w2) := Lib.hid (hb1.trans (hb2.mono hb1.size)); obtain ⟨-, -, -, co2⟩ := hO w2 (hb2.mono (by omega)); have hc2 := HC.out w2 HB2.out) | (go_at_call 70; with_reducible refine hc2.mono ?_; rintro e w3 ⟨⟨u3, rfl, hu3⟩, hb3⟩; obtain ⟨-, -, -, co3⟩ := hO w3 ((hb2.trans (hb3.mono hb2.size)).mono (by omega))))
 all_goals (
  have hB3 : Below w.heap.size w w3 := HB2.out.trans (hb3.mono HB2.out.size)
  rw [← HP.out])
 ·go_ret
  have h0 : k - i = 0 := by omega
  exact ⟨⟨aa, 0, by rw [h0]; rfl, fun W0 _ => .inl ⟨h0, rfl, by rw [h0]; rfl⟩⟩, hB3⟩
 ·rcases HE.out with ⟨h1, h2, h3⟩ | ⟨b, off, rfl, h4⟩
  ·go_ret
   have h0 : k - i = 0 := by omega
   exact ⟨⟨_, ac - i, by rw [h0]; rfl, fun W0 _ => .inl ⟨h0, by omega, by rw [h0]; rfl⟩⟩, hB3⟩
  ·go_ret
   exact ⟨⟨some ⟨b, off + i * 3, none⟩, ac - i, by rw [← addr_add]; rfl, fun W0 hW0 => IsArcs.part hW0.arcs hik hk (by omega) (by unfold maxLen; omega)⟩, hB3⟩
end Go.Proofs.Ytpcbmhfnefhenaa

set_option linter.unusedVariables false
namespace Go.Proofs.Ytpcbmhfnefhenaa
open Go.RowKit
section
variable {P : Program} {a0 : Act} {C : World → Prop} {G : World → World → Prop} {Vi : Value → World → Prop} {o : Oper} {f : Nat → Value} {d : List (Nat × Nat)} {W : World}
theorem tab_noU {j : Nat} {b : Bool} (hg : o.guard = some (j, b)) (hf : f j = undef) (h : Vi undef W) : tabStep P a0 C G Vi o f d W := by
 unfold tabStep
 rw [if_neg (by simp [Region.wanted, hg, fyield, hf, undef])]
 exact h
end
section
variable {P : Program} {a0 : Act} {Vs : List (Value → Prop)} {S : (Nat → Bool) → (Nat → Value) → World → Prop} {i : Nat} {o : Oper} {d : List (Nat × Nat)} {L : Nat → Bool} {f : Nat → Value} {W : World}
theorem st_noU {j : Nat} {b : Bool} (hg : o.guard = some (j, b)) (hf : f j = undef) (hV : (Vs.getD i fun _ => True) undef) (h : S (fun j => if j = i then true else L j) (fun j => if j = i then undef else f j) W) : stStep P a0 Vs S i o d L f W := by
 unfold stStep
 rw [if_neg (by simp [Region.wanted, hg, fyield, hf, undef])]
 exact ⟨hV, h⟩
end
end Go.Proofs.Ytpcbmhfnefhenaa
