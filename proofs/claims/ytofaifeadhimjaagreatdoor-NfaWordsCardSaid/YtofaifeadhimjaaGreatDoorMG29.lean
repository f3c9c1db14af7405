import Derived.Test.YtofaifeadhimjaaGreatDoorMG28
/-
  NfaFn, NfaDf
-/
set_option linter.unusedSimpArgs false
set_option linter.unusedVariables false
namespace Go.Proofs.YtofaifeadhimjaaGreatDoor
open Go.RowKit Go.Shelf
attribute [local go_sem] Oper.semAt_some


theorem finIdx_any {a : Nfa} {h : NH} {w : World} {px : Nat} {aq : Option Addr} {lq cq : Nat} {l : List Int} {p : Int → Bool} (hq : IsInts .i64 w aq lq cq l)
  (hf : ∀ W, Below w.heap.size w W → ∀ z ∈ l, Calls Tryz.prog 48 #[.int .i64 z, .pointer (some ⟨px, 0, none⟩)] W fun e w' => e = .returned (.bool (p z)) ∧ Below W.heap.size W w') :
  Calls Tryz.prog 65 #[.slice aq lq cq, .func (.func 48) #[] #[.pointer (some ⟨px, 0, none⟩)]] w fun e w' => (∃ r : Int, e = .returned (.int .i64 r) ∧ decide (0 ≤ r) = l.any p) ∧ Below w.heap.size w w' := by
 have hlq := hq.length
 have HLQ := Lib.hid hlq
 have hcq := hq.cap
 unfold maxLen at hcq
 have HF := Lib.hid hf
 clear hf hlq
 go_enter Tryz.func65, Tryz.ntmps65
 go_wp2
 go_loopw [8] (fun c W => ∃ i : Nat, i ≤ lq ∧ c = .int .i64 (i : Int) ∧ Hid (∀ j, j < i → p (gi l j) = false) ∧ Below w.heap.size w W) (fun c _ => lq - (intOf c).toNat)
 case atStart => exact ⟨0, Nat.zero_le _, rfl, Lib.hid (fun j hj => by omega), Below.refl _ _⟩
 case round =>
  obtain ⟨i, hi, rfl, HA, hb⟩ := hrel
  rcases Nat.lt_or_ge i lq with hlt | hge
  ·have t1 : decide (i < lq) = true := decide_eq_true hlt
   obtain ⟨bq, oq, rfl, hbl, hc⟩ := hq.at wr hb i hlt
   have hv := HF.out wr hb (gi l i) (gi_mem_n (by rw [HLQ.out]; exact hlt))
   obtain ⟨b, hpb⟩ : ∃ b, p (gi l i) = b := ⟨_, rfl⟩
   rw [hpb] at hv
   have HPB := Lib.hid hpb
   obtain ⟨z, hz⟩ : ∃ z, gi l i = z := ⟨_, rfl⟩
   have HZ := Lib.hid hz
   rw [hz] at hc hv
   have HB := Lib.hid hb
   clear hz hpb hb
   cases b
   ·have HA2 : Hid (∀ j, j < i + 1 → p (gi l j) = false) := Lib.hid (fun j hj => by
     rcases Nat.lt_or_ge j i with h1 | h1
     ·exact HA.out j h1
     ·rw [show j = i by omega]; exact HPB.out)
    go_wp2_with (go_at_call 48; refine hv.mono ?_; rintro e w5 ⟨rfl, hb5⟩)
    go_roundw
    case rel => exact ⟨i + 1, hlt, by go_num, HA2, HB.out.trans (hb5.mono HB.out.size)⟩
    case measure => simp [intOf]; omega
   ·have HR : Hid (l.any p = true) := Lib.hid (List.any_eq_true.2 ⟨gi l i, gi_mem_n (by rw [HLQ.out]; exact hlt), HPB.out⟩)
    go_wp2_with (go_at_call 48; refine hv.mono ?_; rintro e w5 ⟨rfl, hb5⟩)
    go_ret
    exact ⟨⟨_, rfl, by rw [HR.out]; exact decide_eq_true (by omega)⟩, HB.out.trans (hb5.mono HB.out.size)⟩
  ·obtain rfl : i = lq := by omega
   have t1 : decide (i < i) = false := decide_eq_false (by omega)
   have HR : Hid (l.any p = false) := Lib.hid (by
    rw [List.any_eq_false]
    intro z hz
    obtain ⟨j, hj, e⟩ := List.getElem_of_mem hz
    have := HA.out j (by rw [HLQ.out] at hj; exact hj)
    rw [show gi l j = z by rw [← e]; simp [gi, List.getD, hj]] at this
    simp [this])
   go_wp2_with (fail)
   go_ret
   exact ⟨⟨_, rfl, by rw [HR.out]; rfl⟩, hb⟩
theorem finHas_any {a : Nfa} {h : NH} {w : World} {px : Nat} {aq : Option Addr} {lq cq : Nat} {l : List Int} {p : Int → Bool} (hq : IsInts .i64 w aq lq cq l)
  (hf : ∀ W, Below w.heap.size w W → ∀ z ∈ l, Calls Tryz.prog 48 #[.int .i64 z, .pointer (some ⟨px, 0, none⟩)] W fun e w' => e = .returned (.bool (p z)) ∧ Below W.heap.size W w') :
  Calls Tryz.prog 47 #[.slice aq lq cq, .func (.func 48) #[] #[.pointer (some ⟨px, 0, none⟩)]] w fun e w' => e = .returned (.bool (l.any p)) ∧ Below w.heap.size w w' := by
 have hi := finIdx_any (a := a) (h := h) hq hf
 clear hf hq
 go_enter Tryz.func47, Tryz.ntmps47
 go_wp2_with (go_at_call 65; refine hi.mono ?_; rintro e w5 ⟨⟨r, rfl, hr⟩, hb5⟩)
 go_ret
 exact ⟨by rw [← hr]; rfl, hb5⟩

theorem final1_any {px : Nat} {fa : Option Addr} {fl fc : Nat} {fin : List Bool} {z : Nat} {W : World} (c2 : W.cell? ⟨px, 2, none⟩ = some (.slice fa fl fc)) (hf : IsBools W fa fl fc fin) (hz : z < fl) :
  Calls Tryz.prog 48 #[.int .i64 (z : Int), .pointer (some ⟨px, 0, none⟩)] W fun e w' => e = .returned (.bool (gb fin z)) ∧ Below W.heap.size W w' := by
 obtain ⟨bf, of, rfl, hc⟩ := hf.fix (by omega)
 have cf := hc W (Below.refl _ _) z hz
 clear hc hf
 go_enter Tryz.func48, Tryz.ntmps48
 go_wp2_with (fail)
 go_ret
 exact ⟨rfl, Below.refl _ _⟩
theorem final_any {a : Nfa} {h : NH} {w : World} {aq : Option Addr} {lq cq : Nat} {zs S : List Int} (hv : ValidN a) (hd : IsNfa w h a) (hs : IsInts .u64 w aq lq cq zs) (hz : Bt.SetIs zs (inL S)) (hS : CS a S) (hT : TabW w) :
  Calls Tryz.prog 21 #[vNf a h, .slice aq lq cq] w fun e w' => e = .returned (.bool (finL a.fin S)) ∧ Below w.heap.size w w' := by
 obtain ⟨W1, hW1, hs1, hb1, hO⟩ := boxNW a h w hd
 have hls := list_S (hs.later hb1) hz hS.2.2 hS.1 (by have := hv.1; omega) (hT.later hb1)
 have HSS := Lib.hid hS
 have HV := Lib.hid hv
 have HO := Lib.hid hO
 have HS1 := Lib.hid hs1
 have HB1 := Lib.hid hb1
 have hmf : ∀ (fn : Fn) (first cap : Array Value) (w : World), (Instr.makeFunc fn first cap).run Tryz.prog w = .ok (.func fn first cap) w := fun _ _ _ _ => rfl
 unfold vNf
 clear hv hd hs hz hS hT hO hb1 hs1
 go_enter Tryz.func21, Tryz.ntmps21
 go_wp2_with (first | (go_at_call 46; refine hls.mono ?_; rintro e w3 ⟨⟨aS, cS, rfl, hiS⟩, hb3⟩; have hfh := finHas_any (a := a) (h := h) (px := w.heap.size) (p := fun z => gb a.fin z.toNat) hiS (fun W hB z hz => (by
   have hBw := HB1.out.trans ((hb3.trans (hB.mono hb3.size)).mono (by have := HS1.out; omega))
   obtain ⟨⟨k1, k2, k3, k4⟩, hdW, -⟩ := HO.out W (by rw [← HS1.out]; exact hb3.trans (hB.mono hb3.size))
   have hzb := HSS.out.1 z hz
   obtain ⟨z, rfl⟩ := Int.eq_ofNat_of_zero_le hzb.1
   rw [show ((z : Int)).toNat = z by omega]
   exact final1_any k3 hdW.fin (by have := hdW.fin.length; have := HV.out.2.1; omega)))) | (go_at_call 47; refine hfh.mono ?_; rintro e w5 ⟨rfl, hb5⟩))
 go_ret
 exact ⟨rfl, HB1.out.trans ((hb3.trans (hb5.mono hb3.size)).mono (by have := HS1.out; omega))⟩
end Go.Proofs.YtofaifeadhimjaaGreatDoor

set_option linter.unusedVariables false
set_option linter.unusedSectionVars false
namespace Go.Proofs.YtofaifeadhimjaaGreatDoor

section
variable {α : Type} [DecidableEq α] {o : α → List (Int × α)} {s : α} {N : Nat}
end
noncomputable def detF (a : Nfa) : Bq (List Int) := detB a 1000
section
variable {a : Nfa} {lim : Int} {N : Nat}
theorem DetOk.len (h : DetOk a lim) : (detF a).q.length ≤ 1000 := by
 have := h 1000
 have e : detF a = detB a 1000 := rfl
 rw [e]
 omega
end
end Go.Proofs.YtofaifeadhimjaaGreatDoor
