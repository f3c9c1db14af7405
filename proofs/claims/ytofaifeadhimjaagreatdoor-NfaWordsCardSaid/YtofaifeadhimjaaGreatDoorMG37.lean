import Derived.Test.YtofaifeadhimjaaGreatDoorMG31
import Derived.Test.YtofaifeadhimjaaGreatDoorMG35
import Derived.Test.YtofaifeadhimjaaGreatDoorMG36
/-
  NfaRq, NfaRl
-/
set_option linter.unusedSimpArgs false
set_option linter.unusedVariables false
namespace Go.Proofs.YtofaifeadhimjaaGreatDoor
open Go.RowKit
attribute [local go_sem] Oper.semAt_some

def GivesLE (l : List Int) (x : Int) (w : World) (e : Ending) (w' : World) : Prop := (∃ a c, e = .returned (.tuple #[.slice a l.length c, .int .i64 x]) ∧ IsInts .i64 w' a l.length c l) ∧ Below w.heap.size w w'
variable {a : Nfa} {h : NH} {w : World} {aq : Option Addr} {lq cq : Nat} {zs : List Int}
end Go.Proofs.YtofaifeadhimjaaGreatDoor

set_option linter.unusedSimpArgs false
set_option linter.unusedVariables false
namespace Go.Proofs.YtofaifeadhimjaaGreatDoor
open Go.RowKit
attribute [local go_sem] Oper.semAt_some

noncomputable def letV (a : Nfa) : List Int := if vN a = true then letL a.arcs else []
noncomputable def vE (a : Nfa) : Int := if vN a = true then 0 else 1
def ltO1 (o : List Int) (x : A3) : List Int := if 0 < x.l then Bt.withL o x.l else o
def ltO (es : List A3) : List Int := es.foldl ltO1 []
theorem ltO_take {es : List A3} {k : Nat} (hk : k < es.length) : ltO (es.take (k + 1)) = ltO1 (ltO (es.take k)) (g3 es k) := by
 unfold ltO
 rw [List.take_add_one, List.getElem?_eq_getElem hk, Option.toList_some, List.foldl_append, g3_eq _ _ hk]
 rfl
theorem ltO_facts (es : List A3) : ∀ k, k ≤ es.length → (ltO (es.take k)).Pairwise (· < ·) ∧ (∀ z, z ∈ ltO (es.take k) ↔ ∃ x ∈ es.take k, 0 < x.l ∧ x.l = z) ∧ (ltO (es.take k)).length ≤ k
 | 0, _ => ⟨by simp [ltO], fun z => by simp [ltO], by simp [ltO]⟩
 | k + 1, hk => by
  obtain ⟨h1, h2, h3⟩ := ltO_facts es k (by omega)
  have hlt : k < es.length := by omega
  have ht : ∀ z, (∃ x ∈ es.take (k + 1), 0 < x.l ∧ x.l = z) ↔ (∃ x ∈ es.take k, 0 < x.l ∧ x.l = z) ∨ (0 < (g3 es k).l ∧ (g3 es k).l = z) := fun z => by
   rw [List.take_add_one, List.getElem?_eq_getElem hlt, Option.toList_some, ← g3_eq _ _ hlt]
   constructor
   ·rintro ⟨x, hx, e⟩
    rcases List.mem_append.1 hx with hx | hx
    ·exact .inl ⟨x, hx, e⟩
    ·rw [List.mem_singleton.1 hx] at e
     exact .inr e
   ·rintro (⟨x, hx, e⟩ | e)
    ·exact ⟨x, List.mem_append_left _ hx, e⟩
    ·exact ⟨_, List.mem_append_right _ (List.mem_singleton.2 rfl), e⟩
  rw [ltO_take hlt]
  unfold ltO1
  by_cases hc : 0 < (g3 es k).l
  ·rw [if_pos hc]
   refine ⟨with_law.asc _ _ h1, fun z => ?_, ?_⟩
   ·rw [with_law.mem _ _ _ h1, h2, ht]
    constructor
    ·rintro (h | h)
     ·exact .inl h
     ·exact .inr ⟨hc, h.symm⟩
    ·rintro (h | h)
     ·exact .inl h
     ·exact .inr h.2.symm
   ·have := Bt.withL_len (ltO (es.take k)) (g3 es k).l
    omega
  ·rw [if_neg hc]
   refine ⟨h1, fun z => ?_, by omega⟩
   rw [h2, ht]
   constructor
   ·exact .inl
   ·rintro (h | h)
    ·exact h
    ·exact absurd h.1 hc
theorem ltO_eq {a : Nfa} (hv : ValidN a) : ltO a.arcs = letL a.arcs := by
 have h := ltO_facts a.arcs a.arcs.length (Nat.le_refl _)
 rw [List.take_length] at h
 refine pairwise_ext h.1 (letL_asc _) fun z => ?_
 rw [h.2.1, mem_letL]
 constructor
 ·rintro ⟨x, hx, h0, rfl⟩
  exact ⟨⟨h0, (hv.arc hx).2.2⟩, x, hx, rfl⟩
 ·rintro ⟨⟨h0, _⟩, x, hx, rfl⟩
  exact ⟨x, hx, h0, rfl⟩
variable {a : Nfa} {h : NH} {w : World}
set_option maxRecDepth 20000 in
set_option maxHeartbeats 4000000 in
theorem refLetters_any (hd : IsNfa w h a) : Calls Tryz.prog 29 #[vNf a h] w (GivesLE (letV a) (vE a) w) := by
 obtain ⟨W1, hW1, hs1, hb1, hO⟩ := boxRN a h w hd
 have HO := Lib.hid hO
 have HS := Lib.hid hs1
 obtain ⟨⟨c1, c2, c3, c4⟩, hd1, -⟩ := hO W1 (Below.refl _ _)
 have hva := refValid_any a h W1 hd1
 by_cases hv : ValidN a
 ·have HR : Hid (vE a = 0 ∧ letV a = ltO a.arcs) := Lib.hid (by rw [ltO_eq hv]; unfold vE letV; rw [vN_yes hv]; exact ⟨rfl, rfl⟩)
  rw [vN_yes hv] at hva
  have HV := Lib.hid hv
  have hal := hv.2.2.1
  obtain ⟨E, hE⟩ : ∃ E, vE a = E := ⟨_, rfl⟩
  obtain ⟨Lt, hLt⟩ : ∃ Lt, letV a = Lt := ⟨_, rfl⟩
  rw [hE, hLt] at HR ⊢
  obtain ⟨n, ss, fin, es⟩ := a
  obtain ⟨sa, sl, sc, fa, fl, fc, aa, al, ac⟩ := h
  have hel := hd.3.length
  simp only [vNf] at hel hal HO HR hva c1 c2 c3 c4 hW1 ⊢
  have HEL := Lib.hid hel
  clear hO hd hd1 hb1 hv hel hE hLt
  rw [HEL.out] at hal
  go_enter Tryz.func29, Tryz.ntmps29
  go_wp2_with (go_at_call 22; (refine hva.mono ?_; rintro e w2 ⟨rfl, hb2⟩; have HB2 : Hid (Below (w.heap.size + 1) W1 w2 ∧ w.heap.size + 1 ≤ w2.heap.size) := Lib.hid ⟨hb2.mono (by rw [HS.out]; exact Nat.le_refl _), by rw [← HS.out]; exact hb2.size⟩; clear hva hb2 c1 c2 c3 c4))
  clear hW1
  go_loopw [4, 5] (fun v k W => ∃ (j : Nat) (aT : Option Addr) (cT : Nat), j ≤ al ∧ k = .int .i64 (j : Int) ∧ v = .slice aT (ltO (es.take j)).length cT ∧ IsInts .i64 W aT (ltO (es.take j)).length cT (ltO (es.take j)) ∧ Below w2.heap.size w2 W) (fun _ k _ => al - (intOf k).toNat)
  case atStart => exact ⟨0, none, 0, Nat.zero_le _, rfl, rfl, .inl ⟨rfl, rfl, rfl, rfl⟩, Below.refl _ _⟩
  case round =>
   obtain ⟨j, aT, cT, hj, rfl, rfl, hiT, hbT⟩ := hrel
   obtain ⟨⟨e1, e2, e3, e4⟩, hdr, hbw⟩ := HO.out wr (HB2.out.1.trans (hbT.mono HB2.out.2))
   have hTl := (ltO_facts es j (by rw [HEL.out]; exact hj)).2.2
   rcases Nat.lt_or_ge j al with hlt | hge
   ·have t2 : decide (j < al) = true := decide_eq_true hlt
    obtain ⟨b, off, rfl, hcell⟩ := hdr.3.fix (by simp only; omega)
    obtain ⟨x1, x2, x3, hx⟩ : ∃ x1 x2 x3, g3 es j = ⟨x1, x2, x3⟩ := ⟨_, _, _, rfl⟩
    obtain ⟨cx1, cx2, cx3⟩ := hcell wr (Below.refl _ _) j hlt
    simp only at cx1 cx2 cx3
    rw [hx] at cx1 cx2 cx3
    simp only at cx1 cx2 cx3
    have HN : Hid (ltO (es.take (j + 1)) = ltO1 (ltO (es.take j)) ⟨x1, x2, x3⟩) := Lib.hid (by rw [ltO_take (by rw [HEL.out]; exact hlt), hx])
    obtain ⟨T, hT⟩ : ∃ T, ltO (es.take j) = T := ⟨_, rfl⟩
    rw [hT] at HN hTl hiT ⊢
    have HBT := Lib.hid hbT
    clear hT hx hcell hbT hdr hbw cx1 cx3
    by_cases h0 : 0 < x2
    ·have q0 : decide (0 < x2) = true := decide_eq_true h0
     have HE : Hid (ltO (es.take (j + 1)) = Bt.withL T x2) := Lib.hid (by rw [HN.out]; unfold ltO1; rw [if_pos h0])
     have hw := with_any x2 hiT (by omega)
     clear h0
     go_wp2_with (go_at_call 52; refine hw.mono ?_; rintro e w5 ⟨⟨a5, c5, rfl, hi5⟩, hb5⟩; clear hw)
     go_roundw
     case rel => exact ⟨j + 1, a5, c5, hlt, by go_num, by rw [HE.out], by rw [HE.out]; exact hi5, HBT.out.trans (hb5.mono HBT.out.size)⟩
     case measure => simp [intOf]; omega
    ·have q0 : decide (0 < x2) = false := decide_eq_false h0
     have HE : Hid (ltO (es.take (j + 1)) = T) := Lib.hid (by rw [HN.out]; unfold ltO1; rw [if_neg h0])
     clear h0
     go_wp2_with (fail)
     go_roundw
     case rel => exact ⟨j + 1, aT, cT, hlt, by go_num, by rw [HE.out], by rw [HE.out]; exact hiT, HBT.out⟩
     case measure => simp [intOf]; omega
   ·have t2 : decide (j < al) = false := decide_eq_false (by omega)
    obtain rfl : j = al := by omega
    rw [show es.take j = es from List.take_of_length_le (by rw [HEL.out]; exact Nat.le_refl _)] at hiT hTl ⊢
    have HI := Lib.hid hiT
    have HBW := Lib.hid hbw
    clear hiT hbT hdr hbw
    go_wp2_with (fail)
    go_ret2
    rw [HR.out.1, HR.out.2]
    exact ⟨⟨aT, cT, rfl, HI.out⟩, HBW.out⟩
 ·have HR : Hid (vE a = 1 ∧ letV a = []) := Lib.hid (by unfold vE letV; rw [vN_no hv]; exact ⟨rfl, rfl⟩)
  rw [vN_no hv] at hva
  have HBW1 := Lib.hid hb1
  unfold vNf at hva ⊢
  clear hO hd hd1 hb1 hv
  go_enter Tryz.func29, Tryz.ntmps29
  go_wp2_with (go_at_call 22; refine hva.mono ?_; rintro e w2 ⟨rfl, hb2⟩; have HBW : Hid (Below w.heap.size w w2) := Lib.hid (HBW1.out.trans (hb2.mono HBW1.out.size)); clear hb2)
  go_ret2
  rw [HR.out.1, HR.out.2]
  exact ⟨⟨none, 0, rfl, .inl ⟨rfl, rfl, rfl, rfl⟩⟩, HBW.out⟩
end Go.Proofs.YtofaifeadhimjaaGreatDoor
