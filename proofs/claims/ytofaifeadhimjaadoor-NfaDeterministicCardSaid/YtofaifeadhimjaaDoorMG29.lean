import Derived.Test.YtofaifeadhimjaaDoorMG28
/-
  NfaFn, NfaDf
-/
set_option linter.unusedSimpArgs false
set_option linter.unusedVariables false
namespace Go.Proofs.YtofaifeadhimjaaDoor
open Go.RowKit Go.Shelf
attribute [local go_sem] Oper.semAt_some


theorem finIdx_any {a : Nfa} {h : NH} {w : World} {px : Nat} {aq : Option Addr} {lq cq : Nat} {l : List Int} {p : Int → Bool} (hq : IsInts .i64 w aq lq cq l)
  (hf : ∀ W, Below w.heap.size w W → ∀ z ∈ l, Calls Tryd.prog 81 #[.int .i64 z, .pointer (some ⟨px, 0, none⟩)] W fun e w' => e = .returned (.bool (p z)) ∧ Below W.heap.size W w') :
  Calls Tryd.prog 88 #[.slice aq lq cq, .func (.func 81) #[] #[.pointer (some ⟨px, 0, none⟩)]] w fun e w' => (∃ r : Int, e = .returned (.int .i64 r) ∧ decide (0 ≤ r) = l.any p) ∧ Below w.heap.size w w' := by
 have hlq := hq.length
 have HLQ := Lib.hid hlq
 have hcq := hq.cap
 unfold maxLen at hcq
 have HF := Lib.hid hf
 clear hf hlq
 go_enter Tryd.func88, Tryd.ntmps88
 go_wp2
 go_loopw [8] (fun c W => ∃ i : Nat, i ≤ lq ∧ c = .int .i64 (i : Int) ∧ Hid (∀ j, j < i → p (gi l j) = false) ∧ Below w.heap.size w W) (fun c _ => lq - (intOf c).toNat)
 case atStart => exact ⟨0, Nat.zero_le _, rfl, Lib.hid (fun j hj => by omega), Below.refl _ _⟩
 case round =>
  obtain ⟨i, hi, rfl, HA, hb⟩ := hrel
  rcases Nat.lt_or_ge i lq with hlt | hge
  ·have t1 : decide (i < lq) = true := decide_eq_true hlt
   obtain ⟨bq, oq, rfl, hbl, hc⟩ := hq.at wr hb i hlt
   have hv := HF.out wr hb (gi l i) (gi_mem_n (by rw [HLQ.out]; exact hlt))
   obtain ⟨b, hpb⟩ : ∃ b, p (gi l i) = b := ⟨_, rfl⟩
   rw [hpb] at hv
   have HPB := Lib.hid hpb
   obtain ⟨z, hz⟩ : ∃ z, gi l i = z := ⟨_, rfl⟩
   have HZ := Lib.hid hz
   rw [hz] at hc hv
   have HB := Lib.hid hb
   clear hz hpb hb
   cases b
   ·have HA2 : Hid (∀ j, j < i + 1 → p (gi l j) = false) := Lib.hid (fun j hj => by
     rcases Nat.lt_or_ge j i with h1 | h1
     ·exact HA.out j h1
     ·rw [show j = i by omega]; exact HPB.out)
    go_wp2_with (go_at_call 81; refine hv.mono ?_; rintro e w5 ⟨rfl, hb5⟩)
    go_roundw
    case rel => exact ⟨i + 1, hlt, by go_num, HA2, HB.out.trans (hb5.mono HB.out.size)⟩
    case measure => simp [intOf]; omega
   ·have HR : Hid (l.any p = true) := Lib.hid (List.any_eq_true.2 ⟨gi l i, gi_mem_n (by rw [HLQ.out]; exact hlt), HPB.out⟩)
    go_wp2_with (go_at_call 81; refine hv.mono ?_; rintro e w5 ⟨rfl, hb5⟩)
    go_ret
    exact ⟨⟨_, rfl, by rw [HR.out]; exact decide_eq_true (by omega)⟩, HB.out.trans (hb5.mono HB.out.size)⟩
  ·obtain rfl : i = lq := by omega
   have t1 : decide (i < i) = false := decide_eq_false (by omega)
   have HR : Hid (l.any p = false) := Lib.hid (by
    rw [List.any_eq_false]
    intro z hz
    obtain ⟨j, hj, e⟩ := List.getElem_of_mem hz
    have := HA.out j (by rw [HLQ.out] at hj; exact hj)
    rw [show gi l j = z by rw [← e]; simp [gi, List.getD, hj]] at this
    simp [this])
   go_wp2_with (fail)
   go_ret
   exact ⟨⟨_, rfl, by rw [HR.out]; rfl⟩, hb⟩
theorem finHas_any {a : Nfa} {h : NH} {w : World} {px : Nat} {aq : Option Addr} {lq cq : Nat} {l : List Int} {p : Int → Bool} (hq : IsInts .i64 w aq lq cq l)
  (hf : ∀ W, Below w.heap.size w W → ∀ z ∈ l, Calls Tryd.prog 81 #[.int .i64 z, .pointer (some ⟨px, 0, none⟩)] W fun e w' => e = .returned (.bool (p z)) ∧ Below W.heap.size W w') :
  Calls Tryd.prog 71 #[.slice aq lq cq, .func (.func 81) #[] #[.pointer (some ⟨px, 0, none⟩)]] w fun e w' => e = .returned (.bool (l.any p)) ∧ Below w.heap.size w w' := by
 have hi := finIdx_any (a := a) (h := h) hq hf
 clear hf hq
 go_enter Tryd.func71, Tryd.ntmps71
 go_wp2_with (go_at_call 88; refine hi.mono ?_; rintro e w5 ⟨⟨r, rfl, hr⟩, hb5⟩)
 go_ret
 exact ⟨by rw [← hr]; rfl, hb5⟩

theorem chkIdx_any {a : Nfa} {h : NH} {w : World} {px : Nat} {aq : Option Addr} {lq cq : Nat} {l : List Int} {p : Int → Bool} (hq : IsInts .i64 w aq lq cq l)
  (hf : ∀ W, Below w.heap.size w W → ∀ z ∈ l, Calls Tryd.prog 72 #[.int .i64 z, .pointer (some ⟨px, 0, none⟩)] W fun e w' => e = .returned (.bool (p z)) ∧ Below W.heap.size W w') :
  Calls Tryd.prog 88 #[.slice aq lq cq, .func (.func 72) #[] #[.pointer (some ⟨px, 0, none⟩)]] w fun e w' => (∃ r : Int, e = .returned (.int .i64 r) ∧ decide (0 ≤ r) = l.any p) ∧ Below w.heap.size w w' := by
 have hlq := hq.length
 have HLQ := Lib.hid hlq
 have hcq := hq.cap
 unfold maxLen at hcq
 have HF := Lib.hid hf
 clear hf hlq
 go_enter Tryd.func88, Tryd.ntmps88
 go_wp2
 go_loopw [8] (fun c W => ∃ i : Nat, i ≤ lq ∧ c = .int .i64 (i : Int) ∧ Hid (∀ j, j < i → p (gi l j) = false) ∧ Below w.heap.size w W) (fun c _ => lq - (intOf c).toNat)
 case atStart => exact ⟨0, Nat.zero_le _, rfl, Lib.hid (fun j hj => by omega), Below.refl _ _⟩
 case round =>
  obtain ⟨i, hi, rfl, HA, hb⟩ := hrel
  rcases Nat.lt_or_ge i lq with hlt | hge
  ·have t1 : decide (i < lq) = true := decide_eq_true hlt
   obtain ⟨bq, oq, rfl, hbl, hc⟩ := hq.at wr hb i hlt
   have hv := HF.out wr hb (gi l i) (gi_mem_n (by rw [HLQ.out]; exact hlt))
   obtain ⟨b, hpb⟩ : ∃ b, p (gi l i) = b := ⟨_, rfl⟩
   rw [hpb] at hv
   have HPB := Lib.hid hpb
   obtain ⟨z, hz⟩ : ∃ z, gi l i = z := ⟨_, rfl⟩
   have HZ := Lib.hid hz
   rw [hz] at hc hv
   have HB := Lib.hid hb
   clear hz hpb hb
   cases b
   ·have HA2 : Hid (∀ j, j < i + 1 → p (gi l j) = false) := Lib.hid (fun j hj => by
     rcases Nat.lt_or_ge j i with h1 | h1
     ·exact HA.out j h1
     ·rw [show j = i by omega]; exact HPB.out)
    go_wp2_with (go_at_call 72; refine hv.mono ?_; rintro e w5 ⟨rfl, hb5⟩)
    go_roundw
    case rel => exact ⟨i + 1, hlt, by go_num, HA2, HB.out.trans (hb5.mono HB.out.size)⟩
    case measure => simp [intOf]; omega
   ·have HR : Hid (l.any p = true) := Lib.hid (List.any_eq_true.2 ⟨gi l i, gi_mem_n (by rw [HLQ.out]; exact hlt), HPB.out⟩)
    go_wp2_with (go_at_call 72; refine hv.mono ?_; rintro e w5 ⟨rfl, hb5⟩)
    go_ret
    exact ⟨⟨_, rfl, by rw [HR.out]; exact decide_eq_true (by omega)⟩, HB.out.trans (hb5.mono HB.out.size)⟩
  ·obtain rfl : i = lq := by omega
   have t1 : decide (i < i) = false := decide_eq_false (by omega)
   have HR : Hid (l.any p = false) := Lib.hid (by
    rw [List.any_eq_false]
    intro z hz
    obtain ⟨j, hj, e⟩ := List.getElem_of_mem hz
    have := HA.out j (by rw [HLQ.out] at hj; exact hj)
    rw [show gi l j = z by rw [← e]; simp [gi, List.getD, hj]] at this
    simp [this])
   go_wp2_with (fail)
   go_ret
   exact ⟨⟨_, rfl, by rw [HR.out]; rfl⟩, hb⟩
theorem chkHas_any {a : Nfa} {h : NH} {w : World} {px : Nat} {aq : Option Addr} {lq cq : Nat} {l : List Int} {p : Int → Bool} (hq : IsInts .i64 w aq lq cq l)
  (hf : ∀ W, Below w.heap.size w W → ∀ z ∈ l, Calls Tryd.prog 72 #[.int .i64 z, .pointer (some ⟨px, 0, none⟩)] W fun e w' => e = .returned (.bool (p z)) ∧ Below W.heap.size W w') :
  Calls Tryd.prog 71 #[.slice aq lq cq, .func (.func 72) #[] #[.pointer (some ⟨px, 0, none⟩)]] w fun e w' => e = .returned (.bool (l.any p)) ∧ Below w.heap.size w w' := by
 have hi := chkIdx_any (a := a) (h := h) hq hf
 clear hf hq
 go_enter Tryd.func71, Tryd.ntmps71
 go_wp2_with (go_at_call 88; refine hi.mono ?_; rintro e w5 ⟨⟨r, rfl, hr⟩, hb5⟩)
 go_ret
 exact ⟨by rw [← hr]; rfl, hb5⟩

theorem final1_any {px : Nat} {fa : Option Addr} {fl fc : Nat} {fin : List Bool} {z : Nat} {W : World} (c2 : W.cell? ⟨px, 2, none⟩ = some (.slice fa fl fc)) (hf : IsBools W fa fl fc fin) (hz : z < fl) :
  Calls Tryd.prog 81 #[.int .i64 (z : Int), .pointer (some ⟨px, 0, none⟩)] W fun e w' => e = .returned (.bool (gb fin z)) ∧ Below W.heap.size W w' := by
 obtain ⟨bf, of, rfl, hc⟩ := hf.fix (by omega)
 have cf := hc W (Below.refl _ _) z hz
 clear hc hf
 go_enter Tryd.func81, Tryd.ntmps81
 go_wp2_with (fail)
 go_ret
 exact ⟨rfl, Below.refl _ _⟩
theorem check1_any {a : Nfa} {h : NH} {px : Nat} {z : Int} {W : World} (c : W.cell? ⟨px, 0, none⟩ = some (.int .i64 a.n) ∧ W.cell? ⟨px, 1, none⟩ = some (.slice h.sa h.sl h.sc) ∧ W.cell? ⟨px, 2, none⟩ = some (.slice h.fa h.fl h.fc) ∧ W.cell? ⟨px, 3, none⟩ = some (.slice h.aa h.al h.ac)) :
  Calls Tryd.prog 72 #[.int .i64 z, .pointer (some ⟨px, 0, none⟩)] W fun e w' => e = .returned (.bool (!decide (0 ≤ z ∧ z < a.n))) ∧ Below W.heap.size W w' := by
 obtain ⟨c1, c2, c3, c4⟩ := c
 have hst := state_any a h z W
 simp only [vNf] at hst
 obtain ⟨b, hb⟩ : ∃ b, decide (0 ≤ z ∧ z < a.n) = b := ⟨_, rfl⟩
 rw [hb] at hst ⊢
 clear hb
 go_enter Tryd.func72, Tryd.ntmps72
 go_wp2_with (go_at_call 50; refine hst.mono ?_; rintro e w5 ⟨rfl, hb5⟩)
 go_ret
 exact ⟨rfl, hb5⟩
theorem final_any {a : Nfa} {h : NH} {w : World} {aq : Option Addr} {lq cq : Nat} {zs S : List Int} (hv : ValidN a) (hd : IsNfa w h a) (hs : IsInts .u64 w aq lq cq zs) (hz : Bt.SetIs zs (inL S)) (hS : CS a S) (hT : TabW w) :
  Calls Tryd.prog 61 #[vNf a h, .slice aq lq cq] w fun e w' => e = .returned (.bool (finL a.fin S)) ∧ Below w.heap.size w w' := by
 obtain ⟨W1, hW1, hs1, hb1, hO⟩ := boxNW a h w hd
 have hls := list_S (hs.later hb1) hz hS.2.2 hS.1 (by have := hv.1; omega) (hT.later hb1)
 have HSS := Lib.hid hS
 have HV := Lib.hid hv
 have HO := Lib.hid hO
 have HS1 := Lib.hid hs1
 have HB1 := Lib.hid hb1
 have hmf : ∀ (fn : Fn) (first cap : Array Value) (w : World), (Instr.makeFunc fn first cap).run Tryd.prog w = .ok (.func fn first cap) w := fun _ _ _ _ => rfl
 unfold vNf
 clear hv hd hs hz hS hT hO hb1 hs1
 go_enter Tryd.func61, Tryd.ntmps61
 go_wp2_with (first | (go_at_call 27; refine hls.mono ?_; rintro e w3 ⟨⟨aS, cS, rfl, hiS⟩, hb3⟩; have hfh := finHas_any (a := a) (h := h) (px := w.heap.size) (p := fun z => gb a.fin z.toNat) hiS (fun W hB z hz => (by
   have hBw := HB1.out.trans ((hb3.trans (hB.mono hb3.size)).mono (by have := HS1.out; omega))
   obtain ⟨⟨k1, k2, k3, k4⟩, hdW, -⟩ := HO.out W (by rw [← HS1.out]; exact hb3.trans (hB.mono hb3.size))
   have hzb := HSS.out.1 z hz
   obtain ⟨z, rfl⟩ := Int.eq_ofNat_of_zero_le hzb.1
   rw [show ((z : Int)).toNat = z by omega]
   exact final1_any k3 hdW.fin (by have := hdW.fin.length; have := HV.out.2.1; omega)))) | (go_at_call 71; refine hfh.mono ?_; rintro e w5 ⟨rfl, hb5⟩))
 go_ret
 exact ⟨rfl, HB1.out.trans ((hb3.trans (hb5.mono hb3.size)).mono (by have := HS1.out; omega))⟩
end Go.Proofs.YtofaifeadhimjaaDoor

set_option linter.unusedVariables false
set_option linter.unusedSectionVars false
namespace Go.Proofs.YtofaifeadhimjaaDoor

section
variable {α : Type} [DecidableEq α] {o : α → List (Int × α)} {s : α} {N : Nat}
theorem hN_at {Q : List α} {i : Nat} (hi : i < Q.length) : headArcs o Q i = (o Q[i]).map fun x => ⟨i, x.1, (Q.idxOf x.2 : Nat)⟩ := by
 unfold headArcs
 rw [List.getElem?_eq_getElem hi]
theorem hN_f {Q : List α} {i : Nat} {x : A3} (h : x ∈ headArcs o Q i) : x.f = i ∧ i < Q.length := by
 rcases Nat.lt_or_ge i Q.length with hi | hi
 ·rw [hN_at hi] at h
  obtain ⟨y, _, rfl⟩ := List.mem_map.1 h
  exact ⟨rfl, hi⟩
 ·unfold headArcs at h
  rw [List.getElem?_eq_none hi] at h
  simp at h
theorem lastN_mem (hl : (bq o s N).q.length ≤ N) {x : A3} : x ∈ (bq o s N).a ↔ ∃ i, ∃ hi : i < (bq o s N).q.length, x.f = i ∧ ∃ y ∈ o (bq o s N).q[i], x.l = y.1 ∧ x.t = ((bq o s N).q.idxOf y.2 : Nat) := by
 rw [bq_arcs, List.mem_flatMap]
 constructor
 ·rintro ⟨i, _, hx⟩
  have hf := hN_f hx
  rw [hN_at hf.2] at hx
  obtain ⟨z, hz, rfl⟩ := List.mem_map.1 hx
  exact ⟨i, hf.2, rfl, z, hz, rfl, rfl⟩
 ·rintro ⟨i, hi, h1, y, hy, h4, h5⟩
  refine ⟨i, List.mem_range.2 (by omega), ?_⟩
  rw [hN_at hi]
  exact List.mem_map.2 ⟨y, hy, by rw [← h1, ← h4, ← h5]⟩
theorem lastN_sorted (ha : ∀ q, (o q).Pairwise fun x y => x.1 < y.1) : SortedA (bq o s N).a := by
 unfold SortedA
 rw [bq_arcs, List.pairwise_flatMap]
 refine ⟨fun i _ => ?_, ?_⟩
 ·rcases Nat.lt_or_ge i (bq o s N).q.length with hi | hi
  ·rw [hN_at hi, List.pairwise_map]
   exact List.Pairwise.imp (fun h => .inr ⟨rfl, h⟩) (ha _)
  ·unfold headArcs
   rw [List.getElem?_eq_none hi]
   exact List.Pairwise.nil
 ·refine List.Pairwise.imp ?_ (List.pairwise_lt_range)
  intro i j hij x hx y hy
  have h1 := (hN_f hx).1
  have h2 := (hN_f hy).1
  exact .inl (by omega)
theorem lastN_closed (hl : (bq o s N).q.length ≤ N) {i : Nat} (hi : i < (bq o s N).q.length) : ∀ x ∈ o (bq o s N).q[i], x.2 ∈ (bq o s N).q :=
 bq_closed o s N i (by omega) _ (List.getElem?_eq_getElem hi)
theorem lastN_pos : 0 < (bq o s N).q.length := by
 have := (bq_pre o s (Nat.zero_le N)).length_le
 exact Nat.lt_of_lt_of_le (by show 0 < [s].length; simp) this
theorem lastN_start : (bq o s N).q[0]'lastN_pos = s := by
 have h := bq_pre o s (Nat.zero_le N)
 obtain ⟨h', hg⟩ := get_pre h (show 0 < (bq o s 0).q.length by show 0 < [s].length; simp)
 rw [hg]
 rfl
theorem lastN_arc (hl : (bq o s N).q.length ≤ N) {x : A3} : x ∈ (bq o s N).a ↔ ∃ i, ∃ hi : i < (bq o s N).q.length, x.f = i ∧ ∃ y ∈ o (bq o s N).q[i], x.l = y.1 ∧ ∃ t, ∃ ht : t < (bq o s N).q.length, x.t = (t : Nat) ∧ (bq o s N).q[t] = y.2 := by
 have hnd := bq_nodup o s N
 rw [lastN_mem hl]
 constructor
 ·rintro ⟨i, hi, h1, y, hy, h2, h3⟩
  have ht := List.idxOf_lt_length_of_mem (lastN_closed hl hi y hy)
  exact ⟨i, hi, h1, y, hy, h2, _, ht, h3, List.getElem_idxOf ht⟩
 ·rintro ⟨i, hi, h1, y, hy, h2, t, ht, h3, h4⟩
  refine ⟨i, hi, h1, y, hy, h2, ?_⟩
  have hm : y.2 ∈ (bq o s N).q := lastN_closed hl hi y hy
  have h5 := List.idxOf_lt_length_of_mem hm
  have h6 : (bq o s N).q.idxOf y.2 = t := (List.getElem_inj hnd).1 ((List.getElem_idxOf h5).trans h4.symm)
  rw [h6, h3]
end
theorem out_mem {ar : List A3} {S : List Int} {c : Int} (h : c ∈ lvL ar S) : (c, movL ar S c) ∈ outN ar S := List.mem_map_of_mem h
noncomputable def detF (a : Nfa) : Bq (List Int) := detB a 1000
theorem detF_eq (a : Nfa) : detF a = bq (outN a.arcs) (cloL a.arcs a.s) 1000 := rfl
theorem movL_out {a : Nfa} (hv : ValidN a) {S : List Int} {c : Int} (h : ¬ (0 < c ∧ c ≤ 10000)) : movL a.arcs S c = [] := by
 refine List.eq_nil_iff_forall_not_mem.2 fun z hz => ?_
 obtain ⟨y, hy, _⟩ := (mem_cloL hv.arcsIn (tgtL_bd hv.arcsIn S c)).1 hz
 obtain ⟨h0, x, hx, h1, _⟩ := mem_tgtL.1 hy
 have := (hv.arc hx).2
 omega
theorem movL_ne {a : Nfa} (hv : ValidN a) {S : List Int} {c : Int} : movL a.arcs S c ≠ [] ↔ c ∈ lvL a.arcs S := by
 by_cases h : 0 < c ∧ c ≤ 10000
 ·exact movL_nil hv.arcsIn h
 ·rw [movL_out hv h, mem_lvL]
  exact ⟨fun e => absurd rfl e, fun e => absurd e.1 h⟩
section
variable {a : Nfa} {lim : Int} {N : Nat}
theorem DetOk.len (h : DetOk a lim) : (detF a).q.length ≤ 1000 := by
 have := h 1000
 have e : detF a = detB a 1000 := rfl
 rw [e]
 omega
theorem detB_zero (a : Nfa) (N : Nat) : gw (detB a N).q 0 = cloL a.arcs a.s := by
 rw [gw_eq _ _ (detB_pos a N)]
 exact lastN_start (o := outN a.arcs) (s := cloL a.arcs a.s) (N := N)
theorem detF_start (a : Nfa) : 0 < (detF a).q.length ∧ gw (detF a).q 0 = cloL a.arcs a.s := by
 rw [detF_eq]
 exact ⟨detB_pos a 1000, detB_zero a 1000⟩
theorem detB_nodup (a : Nfa) (N : Nat) : (detB a N).q.Nodup := bq_nodup _ _ _
theorem detF_nodup (a : Nfa) : (detF a).q.Nodup := by rw [detF_eq]; exact detB_nodup a 1000
theorem gw_distinct {l : List (List Int)} (hn : l.Nodup) {i k : Nat} (hi : i < l.length) (hk : k < i) : gw l i ≠ gw l k := fun e => by
 rw [gw_eq _ _ hi, gw_eq _ _ (by omega)] at e
 exact List.pairwise_iff_getElem.1 hn k i (by omega) hi hk e.symm
theorem gw_inj {l : List (List Int)} (hn : l.Nodup) {i k : Nat} (hi : i < l.length) (hk : k < l.length) (e : gw l i = gw l k) : i = k := by
 rcases Nat.lt_trichotomy i k with h | h | h
 ·exact absurd e.symm (gw_distinct hn hk h)
 ·exact h
 ·exact absurd e (gw_distinct hn hi h)
theorem detF_distinct {i k : Nat} (hi : i < (detF a).q.length) (hk : k < i) : gw (detF a).q i ≠ gw (detF a).q k := gw_distinct (detF_nodup a) hi hk
theorem detF_cs (hv : ValidN a) {i : Nat} (hi : i < (detF a).q.length) : CS a (gw (detF a).q i) := by
 rw [detF_eq] at hi ⊢
 exact detB_in hv 1000 _ (gw_mem hi)
theorem mem_detB (hv : ValidN a) (hl : (detB a N).q.length ≤ N) {x : A3} : x ∈ (detB a N).a ↔ ∃ i : Nat, i < (detB a N).q.length ∧ x.f = i ∧ movL a.arcs (gw (detB a N).q i) x.l ≠ [] ∧ ∃ t : Nat, t < (detB a N).q.length ∧ x.t = t ∧ gw (detB a N).q t = movL a.arcs (gw (detB a N).q i) x.l := by
 have key := lastN_arc (o := outN a.arcs) (s := cloL a.arcs a.s) (N := N) hl (x := x)
 have e0 : detB a N = bq (outN a.arcs) (cloL a.arcs a.s) N := rfl
 rw [← e0] at key
 rw [key]
 clear key e0
 generalize detB a N = D at hl ⊢
 constructor
 ·rintro ⟨i, hi, h1, y, hy, h2, t, ht, h3, h4⟩
  rw [← gw_eq _ _ hi] at hy
  rw [← gw_eq _ _ ht] at h4
  have hy' := mem_outN.1 hy
  exact ⟨i, hi, h1, by rw [h2]; exact (movL_ne hv).2 hy'.1, t, ht, h3, by rw [h4, h2]; exact hy'.2⟩
 ·rintro ⟨i, hi, h1, h2, t, ht, h3, h4⟩
  have hm := out_mem ((movL_ne hv).1 h2)
  generalize movL a.arcs (gw D.q i) x.l = M at h4 hm
  refine ⟨i, hi, h1, (x.l, M), ?_, rfl, t, ht, h3, ?_⟩
  ·rw [← gw_eq _ _ hi]
   exact hm
  ·rw [← gw_eq _ _ ht]
   exact h4
theorem mem_detF (hv : ValidN a) (h : DetOk a lim) {x : A3} : x ∈ (detF a).a ↔ ∃ i : Nat, i < (detF a).q.length ∧ x.f = i ∧ movL a.arcs (gw (detF a).q i) x.l ≠ [] ∧ ∃ t : Nat, t < (detF a).q.length ∧ x.t = t ∧ gw (detF a).q t = movL a.arcs (gw (detF a).q i) x.l := by
 have hl := h.len
 rw [detF_eq] at hl ⊢
 exact mem_detB hv hl
theorem detF_sorted (a : Nfa) : SortedA (detF a).a := by
 rw [detF_eq]
 exact lastN_sorted (o := outN a.arcs) (s := cloL a.arcs a.s) (N := 1000) (outN_asc a.arcs)
theorem detB_closed (hl : (detB a N).q.length ≤ N) {i : Nat} (hi : i < (detB a N).q.length) : ∀ x ∈ outN a.arcs (gw (detB a N).q i), x.2 ∈ (detB a N).q := by
 rw [gw_eq _ _ hi]
 exact lastN_closed (o := outN a.arcs) (s := cloL a.arcs a.s) (N := N) hl hi
theorem detF_arc (hv : ValidN a) (h : DetOk a lim) {i : Nat} (hi : i < (detF a).q.length) {c : Int} (hc : movL a.arcs (gw (detF a).q i) c ≠ []) : ∃ t : Nat, t < (detF a).q.length ∧ gw (detF a).q t = movL a.arcs (gw (detF a).q i) c ∧ (⟨i, c, t⟩ : A3) ∈ (detF a).a ∧ ∀ x ∈ (detF a).a, x.f = i → x.l = c → x.t = t := by
 have hcl : ∀ x ∈ outN a.arcs (gw (detF a).q i), x.2 ∈ (detF a).q := by
  have hl := h.len
  rw [detF_eq] at hl hi ⊢
  exact detB_closed hl hi
 have hkey := fun x => mem_detF hv h (x := x)
 have hnd := detF_nodup a
 generalize detF a = D at hi hc hcl hkey hnd ⊢
 have hm := hcl _ (out_mem ((movL_ne hv).1 hc))
 simp only at hm
 obtain ⟨t, ht, e⟩ := List.getElem_of_mem hm
 have e' : gw D.q t = movL a.arcs (gw D.q i) c := by rw [gw_eq _ _ ht]; exact e
 refine ⟨t, ht, e', (hkey _).2 ⟨i, hi, rfl, hc, t, ht, rfl, e'⟩, fun x hx h1 h2 => ?_⟩
 obtain ⟨j, hj, h3, h4, u, hu, h5, h6⟩ := (hkey _).1 hx
 obtain rfl : j = i := by omega
 rw [h2, ← e'] at h6
 rw [h5, gw_inj hnd hu ht h6]
theorem detF_noarc (hv : ValidN a) (h : DetOk a lim) {i : Nat} {c : Int} (hc : movL a.arcs (gw (detF a).q i) c = []) : ∀ x ∈ (detF a).a, ¬ (x.f = i ∧ x.l = c) := fun x hx ⟨h1, h2⟩ => by
 obtain ⟨j, hj, h3, h4, _⟩ := (mem_detF hv h).1 hx
 obtain rfl : j = i := by omega
 rw [h2] at h4
 exact h4 hc
end
end Go.Proofs.YtofaifeadhimjaaDoor
