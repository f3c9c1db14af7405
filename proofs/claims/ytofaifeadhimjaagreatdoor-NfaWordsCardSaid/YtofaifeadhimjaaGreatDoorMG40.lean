import Derived.Deep.LoopGhost
import Derived.Deep.QuietTactic
import Derived.BigQuiet
import Derived.Test.YtofaifeadhimjaaGreatDoorMG8
import Derived.Test.YtofaifeadhimjaaGreatDoorMG31
/-
  NfaDi, NfaNe
-/
set_option linter.unusedVariables false
namespace Go.Proofs.YtofaifeadhimjaaGreatDoor

def costI (z : Int) : Nat := if z < 0 then 200 else z.toNat
def muL : List Int → Nat
 | [] => 0
 | z :: l => costI z + muL l
def posI (z : Int) : Nat := if z < 0 then 0 else 1
theorem posI_pos {z : Int} (h : 0 ≤ z) : posI z = 1 := by unfold posI; rw [if_neg (by omega)]
theorem posI_neg {z : Int} (h : z < 0) : posI z = 0 := by unfold posI; rw [if_pos h]
theorem posI_le (z : Int) : posI z ≤ 1 := by unfold posI; split <;> omega
def setC : List Int → Nat
 | [] => 0
 | z :: l => posI z + setC l
theorem setC_le : ∀ l : List Int, setC l ≤ l.length
 | [] => Nat.le_refl _
 | z :: l => by
  have := setC_le l
  have := posI_le z
  simp only [setC, List.length_cons]
  omega
theorem gi_cons_zero (z : Int) (l : List Int) : gi (z :: l) 0 = z := rfl
theorem gi_cons_succ (z : Int) (l : List Int) (i : Nat) : gi (z :: l) (i + 1) = gi l i := rfl
theorem muL_set (v : Int) : ∀ (l : List Int) (i : Nat), i < l.length → muL (l.set i v) + costI (gi l i) = muL l + costI v
 | [], i, h => absurd h (Nat.not_lt_zero _)
 | z :: l, 0, _ => by simp only [List.set_cons_zero, muL, gi_cons_zero]; omega
 | z :: l, i + 1, h => by
  have := muL_set v l i (by simpa using h)
  simp only [List.set_cons_succ, muL, gi_cons_succ]
  omega
theorem setC_set (v : Int) : ∀ (l : List Int) (i : Nat), i < l.length → setC (l.set i v) + posI (gi l i) = setC l + posI v
 | [], i, h => absurd h (Nat.not_lt_zero _)
 | z :: l, 0, _ => by simp only [List.set_cons_zero, setC, gi_cons_zero]; omega
 | z :: l, i + 1, h => by
  have := setC_set v l i (by simpa using h)
  simp only [List.set_cons_succ, setC, gi_cons_succ]
  omega
theorem gi_set {l : List Int} {i : Nat} (hi : i < l.length) (v : Int) (j : Nat) : gi (l.set i v) j = if j = i then v else gi l j := by
 by_cases e : j = i
 ·subst e; rw [if_pos rfl]; simp [gi, List.getD, hi]
 ·rw [if_neg e]; simp [gi, List.getD, List.getElem?_set_ne (Ne.symm e)]
def di1 (left : List Int) (x : A3) : List Int := if dl left x.t < 0 then left else if dl left x.f < 0 ∨ dl left x.t + min x.l 1 < dl left x.f then left.set x.f.toNat (dl left x.t + min x.l 1) else left
def RelA (left : List Int) (x : A3) : Prop := 0 ≤ dl left x.t → 0 ≤ dl left x.f ∧ dl left x.f ≤ dl left x.t + min x.l 1
structure DistI (a : Nfa) (left : List Int) : Prop where
 len : left.length = a.n.toNat
 rng : ∀ q, 0 ≤ q → q < a.n → -1 ≤ dl left q
 fin : ∀ q, 0 ≤ q → q < a.n → gb a.fin q.toNat = true → dl left q = 0
 sound : ∀ q, 0 ≤ q → q < a.n → 0 ≤ dl left q → dl left q < (setC left : Nat) ∧ ∃ w : List Int, (w.length : Int) = dl left q ∧ AccQ a q w
section
variable {a : Nfa} {left : List Int}
theorem DistI.bound (h : DistI a left) {q : Int} (h0 : 0 ≤ q) (h1 : q < a.n) (h2 : 0 ≤ dl left q) : dl left q < a.n := by
 have := (h.sound q h0 h1 h2).1
 have := setC_le left
 rw [h.len] at this
 omega
theorem di1_same {x : A3} (h : RelA left x) : di1 left x = left := by
 unfold di1
 unfold RelA at h
 split
 ·rfl
 ·split
  ·omega
  ·rfl
theorem di1_step (hv : ValidN a) (h : DistI a left) {x : A3} (hx : x ∈ a.arcs) : DistI a (di1 left x) ∧ (RelA left x ∨ muL (di1 left x) < muL left) := by
 have hr := hv.arc hx
 have hn := hv.1
 by_cases hra : RelA left x
 ·rw [di1_same hra]; exact ⟨h, .inl hra⟩
 have hlen := h.len
 have hft : x.f.toNat < left.length := by omega
 have ht : 0 ≤ dl left x.t := by
  refine Int.not_lt.1 fun hlt => hra fun h0 => by omega
 have hc : dl left x.f < 0 ∨ dl left x.t + min x.l 1 < dl left x.f := by
  refine Classical.byContradiction fun hno => hra fun _ => by omega
 obtain ⟨d, hd⟩ : ∃ d, dl left x.t + min x.l 1 = d := ⟨_, rfl⟩
 have e : di1 left x = left.set x.f.toNat d := by
  unfold di1
  rw [if_neg (by omega), if_pos hc, hd]
 rw [e]
 rw [hd] at hc
 have hd0 : 0 ≤ d := by omega
 have hst := h.sound x.t hr.1.2.1 hr.1.2.2 ht
 have hsc := setC_set d left x.f.toNat hft
 have hmu := muL_set d left x.f.toNat hft
 have hcl := setC_le left
 have hgf : gi left x.f.toNat = dl left x.f := rfl
 rw [hgf] at hsc hmu
 rw [posI_pos hd0] at hsc
 have hple := posI_le (dl left x.f)
 have hdl : ∀ q, 0 ≤ q → dl (left.set x.f.toNat d) q = if q = x.f then d else dl left q := fun q hq => by
  unfold dl
  rw [gi_set hft]
  by_cases e : q = x.f
  ·rw [if_pos e, if_pos (by rw [e])]
  ·rw [if_neg e, if_neg (by omega)]
 have hsc' : setC left ≤ setC (left.set x.f.toNat d) := by omega
 have hdb : d < (setC (left.set x.f.toNat d) : Nat) := by
  rcases hc with hc | hc
  ·rw [posI_neg hc] at hsc; omega
  ·have := h.sound x.f hr.1.1.1 hr.1.1.2 (by omega)
   omega
 refine ⟨⟨by rw [List.length_set]; exact hlen, fun q h0 h1 => ?_, fun q h0 h1 hf => ?_, fun q h0 h1 h2 => ?_⟩, .inr ?_⟩
 ·rw [hdl q h0]
  split
  ·omega
  ·exact h.rng q h0 h1
 ·rw [hdl q h0]
  by_cases e : q = x.f
  ·have := h.fin q h0 h1 hf
   rw [e] at this
   omega
  ·rw [if_neg e]; exact h.fin q h0 h1 hf
 ·rw [hdl q h0] at h2 ⊢
  by_cases e : q = x.f
  ·rw [if_pos e]
   subst e
   refine ⟨hdb, ?_⟩
   obtain ⟨w, hw, z, hr', hf⟩ := hst.2
   by_cases hl : x.l = 0
   ·exact ⟨w, by rw [hl] at hd; omega, z, .eps hx hl hr', hf⟩
   ·exact ⟨x.l :: w, by simp only [List.length_cons]; omega, z, .arc hx (by omega) hr', hf⟩
  ·rw [if_neg e] at h2 ⊢
   have := h.sound q h0 h1 h2
   exact ⟨by omega, this.2⟩
 ·have h1 : costI d = d.toNat := by unfold costI; rw [if_neg (by omega)]
  have h2 : d.toNat < costI (dl left x.f) := by
   unfold costI
   have := setC_le (left.set x.f.toNat d)
   rw [List.length_set, hlen] at this
   split <;> omega
  omega
def di0 (fin : List Bool) (N : Nat) : List Int := (List.range N).map fun i => if gb fin i = true then 0 else -1
theorem dl_di0 {fin : List Bool} {N : Nat} {q : Int} (h0 : 0 ≤ q) (h1 : q < N) : dl (di0 fin N) q = if gb fin q.toNat = true then 0 else -1 := by
 unfold dl di0 gi
 simp [List.getD, show q.toNat < N by omega]
theorem setC_pos : ∀ {l : List Int} {i : Nat}, i < l.length → 0 ≤ gi l i → 0 < setC l
 | [], i, h, _ => absurd h (Nat.not_lt_zero _)
 | z :: l, 0, _, h => by rw [gi_cons_zero] at h; simp only [setC, posI_pos h]; omega
 | z :: l, i + 1, h, h' => by
  have := setC_pos (l := l) (i := i) (by simpa using h) h'
  simp only [setC]
  omega
theorem DistI.start (hv : ValidN a) : DistI a (di0 a.fin a.n.toNat) := by
 have hn := hv.1
 have e : ∀ q, 0 ≤ q → q < a.n → dl (di0 a.fin a.n.toNat) q = if gb a.fin q.toNat = true then 0 else -1 := fun q h0 h1 => dl_di0 h0 (by omega)
 refine ⟨by simp [di0], fun q h0 h1 => ?_, fun q h0 h1 hf => ?_, fun q h0 h1 h2 => ?_⟩
 ·rw [e q h0 h1]; split <;> omega
 ·rw [e q h0 h1, if_pos hf]
 ·rw [e q h0 h1] at h2 ⊢
  by_cases hf : gb a.fin q.toNat = true
  ·rw [if_pos hf]
   refine ⟨?_, [], rfl, q, .nil q, hf⟩
   have h3 : 0 ≤ gi (di0 a.fin a.n.toNat) q.toNat := by
    have := e q h0 h1
    unfold dl at this
    rw [this, if_pos hf]
    exact Int.le_refl _
   have := setC_pos (l := di0 a.fin a.n.toNat) (i := q.toNat) (by simp [di0]; omega) h3
   omega
  ·rw [if_neg hf] at h2; omega
theorem DistI.done (hv : ValidN a) (h : DistI a left) (hr : ∀ x ∈ a.arcs, RelA left x) : DistF a left := by
 have key : ∀ q w z, Rd a.arcs q w z → gb a.fin z.toNat = true → (0 ≤ z ∧ z < a.n) → 0 ≤ dl left q ∧ dl left q ≤ (w.length : Int) := by
  intro q w z hr' hf hz
  induction hr' with
  | nil q =>
   rw [h.fin q hz.1 hz.2 hf]
   exact ⟨Int.le_refl _, by simp⟩
  | eps hx hl _ ih =>
   have h1 := ih hf hz
   have h2 := hr _ hx h1.1
   omega
  | arc hx hl _ ih =>
   have h1 := ih hf hz
   have h2 := hr _ hx h1.1
   simp only [List.length_cons]
   omega
 have zin : ∀ q w z, Rd a.arcs q w z → (0 ≤ q ∧ q < a.n) → (0 ≤ z ∧ z < a.n) := by
  intro q w z hr' hq
  induction hr' with
  | nil => exact hq
  | eps hx _ _ ih => exact ih (hv.arc hx).1.2
  | arc hx _ _ ih => exact ih (hv.arc hx).1.2
 refine ⟨fun q h0 h1 h2 => ⟨h.bound h0 h1 h2, (h.sound q h0 h1 h2).2⟩, fun q w h0 h1 hw => ?_⟩
 obtain ⟨z, hr', hf⟩ := hw
 exact key q w z hr' hf (zin q w z hr' ⟨h0, h1⟩)
end
end Go.Proofs.YtofaifeadhimjaaGreatDoor

set_option linter.unusedSimpArgs false
set_option linter.unusedVariables false
namespace Go.Proofs.YtofaifeadhimjaaGreatDoor
open Go.RowKit
attribute [local go_sem] Oper.semAt_some

theorem near1_no {L : List Int} {o : Int} {q : Nat} (h : ¬ (0 ≤ gi L q ∧ (o < 0 ∨ gi L q < o))) : near1 L o (q : Int) = o := by
 unfold near1 dl
 rw [Int.toNat_natCast, if_neg h]
theorem near1_yes {L : List Int} {o : Int} {q : Nat} (h : 0 ≤ gi L q ∧ (o < 0 ∨ gi L q < o)) : near1 L o (q : Int) = gi L q := by
 unfold near1 dl
 rw [Int.toNat_natCast, if_pos h]
set_option maxRecDepth 20000 in
set_option maxHeartbeats 2000000 in
theorem nearest_any {n : Int} {L S zs : List Int} {w : World} {aL aq : Option Addr} {lL cL lq cq : Nat} (hL : IsInts .i64 w aL lL cL L) (hs : IsInts .u64 w aq lq cq zs) (hz : Bt.SetIs zs (inL S)) (hS : S.Pairwise (· < ·)) (hb : Bd n S) (hn : n ≤ 4096) (hnl : n = (lL : Int)) (hT : TabW w) :
  Calls Tryz.prog 27 #[.slice aL lL cL, .slice aq lq cq] w fun e w' => e = .returned (.int .i64 (nearL L S)) ∧ Below w.heap.size w w' := by
 have hls := list_S hs hz hS hb hn hT
 have HBD := Lib.hid hb
 have HL := Lib.hid hL
 have HNL := Lib.hid hnl
 have HSL : Hid (S.length ≤ 4096) := Lib.hid (by have := bd_len hS hb; omega)
 clear hL hs hz hS hb hn hnl hT
 go_enter Tryz.func27, Tryz.ntmps27
 go_wp2_with (go_at_call 46; refine hls.mono ?_; rintro e w3 ⟨⟨aS, cS, rfl, hiS⟩, hb3⟩; have HIS := Lib.hid hiS; have HB3 := Lib.hid hb3; clear hiS hb3)
 clear hls
 obtain ⟨Ls, hLs⟩ : ∃ Ls, S.length = Ls := ⟨_, rfl⟩
 have HLs := Lib.hid hLs
 have hSL : Ls ≤ 4096 := by rw [← hLs]; have := HSL.out; omega
 rw [hLs] at HIS ⊢
 clear hLs
 go_loopw [5, 11] (fun vo c' W => ∃ i : Nat, i ≤ Ls ∧ c' = .int .i64 (i : Int) ∧ vo = .int .i64 (nearL L (S.take i)) ∧ Below w3.heap.size w3 W) (fun _ c' _ => Ls - (intOf c').toNat)
 case atStart => exact ⟨0, Nat.zero_le _, rfl, rfl, Below.refl _ _⟩
 case round =>
  obtain ⟨i, hi, rfl, rfl, hb⟩ := hrel
  rcases Nat.lt_or_ge i Ls with hlt | hge
  ·have t3 : decide (i < Ls) = true := decide_eq_true hlt
   obtain ⟨bS, oS, rfl, hbl, hcS⟩ := HIS.out.at wr hb i hlt
   have hN : nearL L (S.take (i + 1)) = near1 L (nearL L (S.take i)) (gi S i) := by rw [take_succ_gi S i (by rw [HLs.out]; exact hlt), nearL_snoc]
   have hqb := HBD.out (gi S i) (gi_mem S i (by rw [HLs.out]; exact hlt))
   obtain ⟨q, hq⟩ : ∃ q, gi S i = q := ⟨_, rfl⟩
   rw [hq] at hN hqb hcS
   obtain ⟨q, rfl⟩ := Int.eq_ofNat_of_zero_le hqb.1
   have hql : q < lL := by have := HNL.out; omega
   obtain ⟨bL, oL, rfl, hbl2, hcL⟩ := HL.out.at wr (HB3.out.trans (hb.mono HB3.out.size)) q hql
   obtain ⟨o, ho⟩ : ∃ o, nearL L (S.take i) = o := ⟨_, rfl⟩
   obtain ⟨d, hd⟩ : ∃ d, gi L q = d := ⟨_, rfl⟩
   have e1 := near1_no (L := L) (o := o) (q := q)
   have e2 := near1_yes (L := L) (o := o) (q := q)
   rw [ho] at hN ⊢
   rw [hd] at hcL e1 e2
   rw [← hN] at e1 e2
   have E1 := Lib.hid e1
   have E2 := Lib.hid e2
   have HB := Lib.hid hb
   clear e1 e2 hN hd ho hb hq hqb
   by_cases hd0 : 0 ≤ d
   ·have t4 : decide (0 ≤ d) = true := decide_eq_true hd0
    by_cases ho0 : o < 0
    ·have t5 : decide (o < 0) = true := decide_eq_true ho0
     have HE := Lib.hid (E2.out ⟨hd0, .inl ho0⟩)
     clear hd0 ho0
     go_wp2_with (fail)
     go_roundw
     case rel => exact ⟨i + 1, hlt, by go_num, by rw [HE.out], HB.out⟩
     case measure => simp [intOf]; omega
    ·have t5 : decide (o < 0) = false := decide_eq_false ho0
     by_cases hdo : d < o
     ·have t6 : decide (d < o) = true := decide_eq_true hdo
      have HE := Lib.hid (E2.out ⟨hd0, .inr hdo⟩)
      clear hd0 ho0 hdo
      go_wp2_with (fail)
      go_roundw
      case rel => exact ⟨i + 1, hlt, by go_num, by rw [HE.out], HB.out⟩
      case measure => simp [intOf]; omega
     ·have t6 : decide (d < o) = false := decide_eq_false hdo
      have HE := Lib.hid (E1.out (by omega))
      clear hd0 ho0 hdo
      go_wp2_with (fail)
      go_roundw
      case rel => exact ⟨i + 1, hlt, by go_num, by rw [HE.out], HB.out⟩
      case measure => simp [intOf]; omega
   ·have t4 : decide (0 ≤ d) = false := decide_eq_false hd0
    have HE := Lib.hid (E1.out (by omega))
    clear hd0
    go_wp2_with (fail)
    go_roundw
    case rel => exact ⟨i + 1, hlt, by go_num, by rw [HE.out], HB.out⟩
    case measure => simp [intOf]; omega
  ·obtain rfl : i = Ls := by omega
   have t3 : decide (i < i) = false := decide_eq_false (by omega)
   have HE : Hid (nearL L (S.take i) = nearL L S) := Lib.hid (by rw [List.take_of_length_le (by rw [HLs.out]; exact Nat.le_refl _)])
   have HB := Lib.hid hb
   clear hb
   go_wp2_with (fail)
   go_ret
   exact ⟨by first | exact rfl | (rw [HE.out]; exact rfl), HB3.out.trans (HB.out.mono HB3.out.size)⟩
theorem relA_mk {L : List Int} {x : A3} {f t : Nat} (hf : x.f = f) (ht : x.t = t) (h : 0 ≤ gi L t → 0 ≤ gi L f ∧ gi L f ≤ gi L t + min x.l 1) : RelA L x := by
 unfold RelA dl
 rw [hf, ht]
 exact h
theorem di1_set {L : List Int} {x : A3} {f t : Nat} (hf : x.f = f) (ht : x.t = t) (h0 : 0 ≤ gi L t) (h : gi L f < 0 ∨ gi L t + min x.l 1 < gi L f) : di1 L x = L.set f (gi L t + min x.l 1) ∧ ¬ RelA L x := by
 unfold RelA di1 dl
 rw [hf, ht]
 simp only [Int.toNat_natCast]
 rw [if_neg (by omega), if_pos h]
 exact ⟨rfl, fun hr => by have := hr h0; omega⟩
set_option maxRecDepth 20000 in
set_option maxHeartbeats 8000000 in
theorem distances_any {a : Nfa} {h : NH} {w : World} (hv : ValidN a) (hd : IsNfa w h a) :
  Calls Tryz.prog 26 #[vNf a h] w fun e w' => (∃ L aL lL cL, e = .returned (.slice aL lL cL) ∧ IsInts .i64 w' aL lL cL L ∧ a.n = (lL : Int) ∧ DistF a L) ∧ Below w.heap.size w w' := by
 have HV := Lib.hid hv
 have hn := hv.1
 obtain ⟨W1, hW1, hs1, hb1, hO⟩ := boxNW a h w hd
 obtain ⟨N, hN⟩ := Int.eq_ofNat_of_zero_le hn.1
 have HN := Lib.hid hN
 have hN2 : N ≤ 200 := by omega
 have HO := Lib.hid hO
 have HS1 := Lib.hid hs1
 have HB1 := Lib.hid hb1
 obtain ⟨⟨c1, c2, c3, c4⟩, -, -⟩ := hO W1 (by rw [← hs1]; exact Below.refl _ _)
 have hfl := hd.fin.length
 have hfl2 : h.fl = N := by have := hv.2.1; omega
 have hal := hd.arcs.length
 have hal2 : h.al ≤ 2000 := by have := hv.2.2.1; omega
 have HAL := Lib.hid hal
 have HFL := Lib.hid hfl2
 obtain ⟨va, hva⟩ : ∃ v, h.aa = v := ⟨_, rfl⟩
 have HVA := Lib.hid hva
 rw [hN] at c1 hW1
 unfold vNf
 rw [hN, hva]
 rw [hva] at hW1 c4
 have HST := Lib.hid (DistI.start hv)
 clear hv hd hO hb1 hs1 hal hfl hfl2 hn hva
 go_enter Tryz.func26, Tryz.ntmps26
 go_wp2_with (refine make_row elI64 rfl rfl _ _ rfl rfl rfl rfl rfl (by omega) (Nat.le_refl _) ?_; intro w2 ho2 hb2)
 rw [show List.replicate N (Value.int .i64 0) = ivs .i64 (List.replicate N 0) by simp [ivs]] at ho2
 clear hW1 c1 c2 c3 c4
 have HO2 := Lib.hid ho2
 have HB2 := Lib.hid hb2
 clear ho2 hb2
 obtain ⟨G, hG⟩ : ∃ G, W1.heap.size = G := ⟨_, rfl⟩
 have HG := Lib.hid hG
 rw [hG] at HO2 HB2 ⊢
 clear hG
 go_loopw [14] (fun c W => ∃ (i : Nat) (L : List Int), i ≤ N ∧ c = .int .i64 (i : Int) ∧ L.length = N ∧ W.ownsRow G 3 1 (.slice (some ⟨G, 0, none⟩) N N) N (ivs .i64 L) ∧ Hid (∀ j, j < i → gi L j = if gb a.fin j = true then 0 else -1) ∧ Below G W1 W) (fun c _ => N - (intOf c).toNat)
 case atStart => exact ⟨0, _, Nat.zero_le _, rfl, by simp, HO2.out, Lib.hid (fun j hj => by omega), HB2.out⟩
 case round =>
  clear HO2 HB2
  obtain ⟨i, L, hi, rfl, hLl, ho, HI, hb⟩ := hrel
  obtain ⟨⟨c1, c2, c3, c4⟩, hdr, -⟩ := HO.out wr (by rw [← HS1.out, HG.out]; exact hb)
  rcases Nat.lt_or_ge i N with hlt | hge
  ·have t3 : decide (i < N) = true := decide_eq_true hlt
   obtain ⟨bF, oF, hF, hcF⟩ := hdr.fin.fix (by rw [HFL.out]; omega)
   have cF := hcF wr (Below.refl _ _) i (by rw [HFL.out]; exact hlt)
   rw [hF] at c3
   obtain ⟨k1, k2⟩ := own_cell ho i hlt hLl
   have ho2 := own_store ho i (-1)
   have hb2 : Below G W1 (wr.setCell ⟨G, i, none⟩ (.int .i64 (-1))) := hb.setCell (p := ⟨G, i, none⟩) (Nat.le_refl _) _
   have d1 : (wr.setCell ⟨G, i, none⟩ (.int .i64 (-1))).cell? ⟨w.heap.size, 2, none⟩ = some (.slice (some ⟨bF, oF, none⟩) h.fl h.fc) := by
    obtain ⟨⟨-, -, k3, -⟩, -, -⟩ := HO.out _ (by rw [← HS1.out, HG.out]; exact hb2)
    rw [k3, hF]
   have d2 : (wr.setCell ⟨G, i, none⟩ (.int .i64 (-1))).cell? ⟨bF, oF + i, none⟩ = some (.bool (gb a.fin i)) := by
    obtain ⟨-, hdr2, -⟩ := HO.out (wr.setCell ⟨G, i, none⟩ (.int .i64 (-1))) (by rw [← HS1.out, HG.out]; exact hb2)
    obtain ⟨bF2, oF2, hF2, hcF2⟩ := hdr2.fin.fix (by rw [HFL.out]; omega)
    rw [hF] at hF2
    injection hF2 with e; injection e with e1 e2; subst e1; subst e2
    exact hcF2 _ (Below.refl _ _) i (by rw [HFL.out]; exact hlt)
   have hfl : h.fl = N := HFL.out
   rw [hfl] at d1
   clear hcF hF hdr c1 c2 c3 c4 cF hfl
   cases hg : gb a.fin i with
   | true =>
    rw [hg] at d2
    obtain ⟨k3, k4⟩ := own_cell ho2 i hlt (by simp [hLl])
    have ho3 := own_store ho2 i 0
    have hb3 := hb2.setCell (p := ⟨G, i, none⟩) (Nat.le_refl _) (.int .i64 0)
    have HR : Hid ((∀ j, j < i + 1 → gi ((L.set i (-1)).set i 0) j = if gb a.fin j = true then 0 else -1) ∧ ((L.set i (-1)).set i 0).length = N) := Lib.hid ⟨fun j hj => by
     rw [gi_set (by simp; omega)]
     by_cases e : j = i
     ·rw [if_pos e, e, hg, if_pos rfl]
     ·rw [if_neg e, gi_set (by omega), if_neg e]; exact HI.out j (by omega), by simp [hLl]⟩
    have HO3 := Lib.hid ho3
    have HB3 := Lib.hid hb3
    clear ho ho2 ho3 hb hb2 hb3 hg
    go_wp2_with (fail)
    go_roundw
    case rel => exact ⟨i + 1, _, hlt, by go_num, HR.out.2, HO3.out, Lib.hid HR.out.1, HB3.out⟩
    case measure => simp [intOf]; omega
   | false =>
    rw [hg] at d2
    have HR : Hid ((∀ j, j < i + 1 → gi (L.set i (-1)) j = if gb a.fin j = true then 0 else -1) ∧ (L.set i (-1)).length = N) := Lib.hid ⟨fun j hj => by
     rw [gi_set (by omega)]
     by_cases e : j = i
     ·rw [if_pos e, e, hg]; rfl
     ·rw [if_neg e]; exact HI.out j (by omega), by simp [hLl]⟩
    have HO3 := Lib.hid ho2
    have HB3 := Lib.hid hb2
    clear ho ho2 hb hb2 hg
    go_wp2_with (fail)
    go_roundw
    case rel => exact ⟨i + 1, _, hlt, by go_num, HR.out.2, HO3.out, Lib.hid HR.out.1, HB3.out⟩
    case measure => simp [intOf]; omega
  ·obtain rfl : i = N := by omega
   have t3 : decide (i < i) = false := decide_eq_false (by omega)
   have hLe : L = di0 a.fin a.n.toNat := gi_ext (by rw [hLl]; simp [di0]; have := HN.out; omega) fun j hj => by
    rw [HI.out j (by omega)]
    unfold di0 gi
    simp [List.getD, show j < a.n.toNat by have := HN.out; omega]
   have HD := HST.out
   rw [← hLe] at HD
   have HD := Lib.hid HD
   have HLL := Lib.hid hLl
   have HOW := Lib.hid ho
   have HB := Lib.hid hb
   clear hLe HI HST hLl ho hb hdr c1 c2 c3 c4
   go_wp2_with (fail)
   go_loopg [5] (muL L + 1) (fun q v W => ∃ (L : List Int) (b : Bool), v = .bool b ∧ Hid (muL L + (if b = true then 1 else 0) ≤ q) ∧ Hid (L.length = i) ∧ Hid (DistI a L) ∧ Hid (b = false → ∀ x ∈ a.arcs, RelA L x) ∧ Hid (W.ownsRow G 3 1 (.slice (some ⟨G, 0, none⟩) i i) i (ivs .i64 L)) ∧ Hid (Below G W1 W))
   case atStart => exact ⟨L, true, rfl, Lib.hid (Nat.le_refl _), HLL, HD, Lib.hid (fun h => by cases h), HOW, HB⟩
   case round =>
    clear HD HLL HOW HB
    obtain ⟨L, b, rfl, HM, HLL, HD, HR, HOW, HB⟩ := hrel
    cases b with
    | false =>
     go_wp2_with (fail)
     go_ret
     exact ⟨⟨L, _, _, _, rfl, (IsInts.of_owns HOW.out).1, rfl, HD.out.done HV.out (by first | exact HR.out rfl | exact HR.out trivial)⟩, HB1.out.trans (HB.out.mono (by have := HS1.out; have := HG.out; omega))⟩
    | true =>
     clear HR
     obtain ⟨⟨c1, c2, c3, c4⟩, -, -⟩ := HO.out wr (by rw [← HS1.out, HG.out]; exact HB.out)
     rw [HVA.out] at c4
     go_wp2_with (fail)
     clear c1 c2 c3 c4
     obtain ⟨M0, hM0⟩ : ∃ M0, muL L = M0 := ⟨_, rfl⟩
     have HM0 : Hid (M0 + 1 ≤ gk) := Lib.hid (by rw [← hM0]; exact HM.out)
     have HMS : Hid ((false : Bool) = false → muL L = M0 ∧ ∀ j, j < 0 → RelA L (g3 a.arcs j)) := Lib.hid (fun _ => ⟨hM0, fun j hj => by omega⟩)
     have HMT : Hid ((false : Bool) = true → muL L < M0) := Lib.hid (fun h => by cases h)
     clear hM0 HM
     go_loopg [5, 33] (h.al - 0) (fun q v c W => ∃ (L : List Int) (b : Bool) (r : Nat), v = .bool b ∧ c = .int .i64 (r : Int) ∧ r ≤ h.al ∧ h.al - r ≤ q ∧ Hid (b = false → muL L = M0 ∧ ∀ j, j < r → RelA L (g3 a.arcs j)) ∧ Hid (b = true → muL L < M0) ∧ Hid (L.length = i) ∧ Hid (DistI a L) ∧ Hid (W.ownsRow G 3 1 (.slice (some ⟨G, 0, none⟩) i i) i (ivs .i64 L)) ∧ Hid (Below G W1 W))
     case atStart => exact ⟨L, false, 0, rfl, rfl, Nat.zero_le _, Nat.le_refl _, HMS, HMT, HLL, HD, HOW, HB⟩
     case round =>
      clear HMS HMT HLL HD HOW HB
      obtain ⟨L, b, r, rfl, rfl, hr, hrq, HMS, HMT, HLL, HD, HOW, HB⟩ := hrel
      have hr' : r ≤ h.al := hr
      rcases Nat.lt_or_ge r h.al with hlt | hge
      ·have t4 : decide (r < h.al) = true := decide_eq_true hlt
       obtain ⟨⟨c1, c2, c3, c4⟩, hdr, -⟩ := HO.out wr (by rw [← HS1.out, HG.out]; exact HB.out)
       obtain ⟨bA, oA, hA, hcA⟩ := hdr.arcs.fix (by omega)
       obtain ⟨y1, y2, y3⟩ := hcA wr (Below.refl _ _) r hlt
       have hxm : g3 a.arcs r ∈ a.arcs := g3_mem _ _ (by rw [HAL.out]; exact hlt)
       have hxb := HV.out.arc hxm
       have hst := di1_step HV.out HD.out hxm
       obtain ⟨⟨x, xl, y⟩, hX⟩ : ∃ X, g3 a.arcs r = X := ⟨_, rfl⟩
       rw [hX] at y1 y2 y3 hxb hst
       simp only at y1 y2 y3 hxb
       obtain ⟨x, rfl⟩ := Int.eq_ofNat_of_zero_le hxb.1.1.1
       obtain ⟨y, rfl⟩ := Int.eq_ofNat_of_zero_le hxb.1.2.1
       have hxi : x < i := by have := HN.out; omega
       have hyi : y < i := by have := HN.out; omega
       have hLl : L.length = i := HLL.out
       have hxl := hxb.2
       obtain ⟨mn, hm1⟩ : ∃ mn, min xl 1 = mn := ⟨_, rfl⟩
       have hm2 : (if 1 < xl then 1 else xl) = mn := by rw [← hm1]; split <;> omega
       have hm3 : (if xl < 1 then xl else 1) = mn := by rw [← hm1]; split <;> omega
       have hm4 : 0 ≤ mn ∧ mn ≤ 1 := by omega
       have hsz : G ≤ wr.heap.size := Nat.le_trans (by rw [HG.out]; exact Nat.le_refl _) HB.out.size
       obtain ⟨W2, hW2⟩ : ∃ W2, wr.alloc (.cells #[.int .i64 (x : Int), .int .i64 xl, .int .i64 (y : Int)] 50) = W2 := ⟨_, rfl⟩
       have hb2 : Below wr.heap.size wr W2 := by rw [← hW2]; exact (Below.refl _ _).alloc (Nat.le_refl _) _
       have z0 : W2.cell? ⟨wr.heap.size, 0, none⟩ = some (.int .i64 (x : Int)) := by rw [← hW2]; exact cell_of_row _ _ 0 _ _ _ (heap_alloc_new wr _)
       have z1 : W2.cell? ⟨wr.heap.size, 1, none⟩ = some (.int .i64 xl) := by rw [← hW2]; exact cell_of_row _ _ 1 _ _ _ (heap_alloc_new wr _)
       have z2 : W2.cell? ⟨wr.heap.size, 2, none⟩ = some (.int .i64 (y : Int)) := by rw [← hW2]; exact cell_of_row _ _ 2 _ _ _ (heap_alloc_new wr _)
       have ho2 := HOW.out.kept_below hb2
       have k1 := (own_cell ho2 y hyi hLl).1
       obtain ⟨dt, hdt⟩ : ∃ dt, gi L y = dt := ⟨_, rfl⟩
       obtain ⟨df, hdf⟩ : ∃ df, gi L x = df := ⟨_, rfl⟩
       have hbd : 0 ≤ dt → dt < 200 := fun h0 => by
        have h1 := HD.out.bound (q := (y : Int)) (by omega) (by have := HN.out; omega) (by unfold dl; rw [Int.toNat_natCast, hdt]; exact h0)
        unfold dl at h1
        rw [Int.toNat_natCast, hdt] at h1
        have := HN.out
        omega
       rw [hdt] at k1
       have HX := Lib.hid hX
       have HB2 : Hid (Below G W1 W2 ∧ G ≤ W2.heap.size) := Lib.hid ⟨HB.out.trans (hb2.mono hsz), Nat.le_trans hsz hb2.size⟩
       have HO2 := Lib.hid ho2
       have HST := Lib.hid hst
       have HDT := Lib.hid hdt
       have HDF := Lib.hid hdf
       rw [HVA.out] at hA
       subst hA
       have HM1 := Lib.hid hm1
       have hsame : RelA L ⟨(x : Int), xl, (y : Int)⟩ → (∀ bb, b = bb → Hid ((bb = false → muL L = M0 ∧ ∀ j, j < r + 1 → RelA L (g3 a.arcs j)) ∧ (bb = true → muL L < M0))) := fun hra bb hbb => Lib.hid ⟨fun h0 => ⟨(HMS.out (by rw [hbb]; exact h0)).1, fun j hj => by
        rcases Nat.lt_or_ge j r with h1 | h1
        ·exact (HMS.out (by rw [hbb]; exact h0)).2 j h1
        ·rw [show j = r by omega, HX.out]; exact hra⟩, fun h0 => HMT.out (by rw [hbb]; exact h0)⟩
       have HSAME := Lib.hid hsame
       have hmu : muL L ≤ M0 := by
        cases b with
        | false => have := (HMS.out rfl).1; omega
        | true => have := HMT.out rfl; omega
       have HMU := Lib.hid hmu
       clear hcA hX hdr HB HOW hst hxb hxm hdt hdf hsame HMS HMT hmu hb2 ho2 hm1 c1 c2 c3 c4
       by_cases h0 : 0 ≤ dt
       ·have t5 : decide (dt < 0) = false := decide_eq_false (by omega)
        have hdt2 := hbd h0
        go_upto_region 16 with (fail)
        go_quiet (fail)
        rw [HM1.out]
        obtain ⟨D, hD⟩ : ∃ D, dt + mn = D := ⟨_, rfl⟩
        rw [hD]
        obtain ⟨W3, hW3⟩ : ∃ W3, W2.drewN nq = W3 := ⟨_, rfl⟩
        have hb3 : Below W2.heap.size W2 W3 := by rw [← hW3]; exact ⟨rfl, rfl, rfl, Nat.le_refl _, fun _ _ => rfl⟩
        rw [hW3]
        have ho3 := HO2.out.kept_below hb3
        have v0 : W3.cell? ⟨wr.heap.size, 0, none⟩ = some (.int .i64 (x : Int)) := (hb3.cell (lt_of_cell z0)).trans z0
        obtain ⟨k2, k3⟩ := own_cell ho3 x hxi hLl
        rw [HDF.out] at k2
        have HB3 : Hid (Below G W1 W3) := Lib.hid (HB2.out.1.trans (hb3.mono HB2.out.2))
        have HO3 := Lib.hid ho3
        have HO4 := Lib.hid (own_store ho3 x D)
        have HB4 : Hid (Below G W1 (W3.setCell ⟨G, x, none⟩ (.int .i64 D))) := Lib.hid (HB3.out.setCell (p := ⟨G, x, none⟩) (Nat.le_refl _) _)
        have hsto : (df < 0 ∨ D < df) → Hid (DistI a (L.set x D) ∧ muL (L.set x D) < M0 ∧ (L.set x D).length = i) := fun hc => Lib.hid (by
         have h1 := di1_set (L := L) (x := ⟨(x : Int), xl, (y : Int)⟩) rfl rfl (by rw [HDT.out]; exact h0) (by rw [HDT.out, HDF.out]; simp only; rw [HM1.out, hD]; exact hc)
         rw [HDT.out] at h1
         simp only at h1
         rw [HM1.out, hD] at h1
         have h2 := HST.out
         rw [h1.1] at h2
         refine ⟨h2.1, ?_, by rw [List.length_set]; exact hLl⟩
         rcases h2.2 with h3 | h3
         ·exact absurd h3 h1.2
         ·exact Nat.lt_of_lt_of_le h3 HMU.out)
        have hnot : ¬ (df < 0 ∨ D < df) → RelA L ⟨(x : Int), xl, (y : Int)⟩ := fun hc => relA_mk (L := L) rfl rfl (by rw [HDT.out, HDF.out]; simp only; rw [HM1.out, hD]; omega)
        have HSTO := Lib.hid hsto
        have HNOT := Lib.hid hnot
        clear hsto hnot hb3 ho3 hW3 hW2 z0 z1 z2 k1 hD h0 hdt2 hbd hm2 hm3 y1 y2 y3 t5
        by_cases h1 : df < 0
        ·have t6 : decide (df < 0) = true := decide_eq_true h1
         have HR := HSTO.out (.inl h1)
         clear h1
         go_wp2_with (fail)
         go_roundg (h.al - (r + 1))
         case rel => exact ⟨_, true, r + 1, rfl, by go_num, hlt, Nat.le_refl _, Lib.hid (fun h => by cases h), Lib.hid (fun _ => HR.out.2.1), Lib.hid HR.out.2.2, Lib.hid HR.out.1, HO4, HB4⟩
         case measure => omega
        ·have t6 : decide (df < 0) = false := decide_eq_false h1
         by_cases h2 : D < df
         ·have t7 : decide (D < df) = true := decide_eq_true h2
          have HR := HSTO.out (.inr h2)
          clear h1 h2
          go_wp2_with (fail)
          go_roundg (h.al - (r + 1))
          case rel => exact ⟨_, true, r + 1, rfl, by go_num, hlt, Nat.le_refl _, Lib.hid (fun h => by cases h), Lib.hid (fun _ => HR.out.2.1), Lib.hid HR.out.2.2, Lib.hid HR.out.1, HO4, HB4⟩
          case measure => omega
         ·have t7 : decide (D < df) = false := decide_eq_false h2
          have HS := HSAME.out (HNOT.out (by omega)) b rfl
          clear h1 h2
          go_wp2_with (fail)
          go_roundg (h.al - (r + 1))
          case rel => exact ⟨L, b, r + 1, rfl, by go_num, hlt, Nat.le_refl _, Lib.hid HS.out.1, Lib.hid HS.out.2, HLL, HD, HO3, HB3⟩
          case measure => omega
       ·have t5 : decide (dt < 0) = true := decide_eq_true (by omega)
        have HS := HSAME.out (relA_mk (L := L) rfl rfl (by rw [HDT.out]; omega)) b rfl
        clear h0 hbd
        go_wp2_with (fail)
        go_roundg (h.al - (r + 1))
        case rel => exact ⟨L, b, r + 1, rfl, by go_num, hlt, Nat.le_refl _, Lib.hid HS.out.1, Lib.hid HS.out.2, HLL, HD, HO2, Lib.hid HB2.out.1⟩
        case measure => omega
      ·obtain rfl : r = h.al := by omega
       have t4 : decide (h.al < h.al) = false := decide_eq_false (by omega)
       cases b with
       | false =>
        have HRR : Hid (muL L = M0 ∧ ∀ x ∈ a.arcs, RelA L x) := Lib.hid ⟨(HMS.out rfl).1, fun x hx => by
         obtain ⟨j, hj, e⟩ := List.getElem_of_mem hx
         have := (HMS.out rfl).2 j (by rw [HAL.out] at hj; exact hj)
         rwa [show g3 a.arcs j = x by rw [← e]; simp [g3, List.getD, hj]] at this⟩
        clear HMS HMT
        go_wp2_with (fail)
        go_roundg (muL L)
        case rel => exact ⟨L, false, rfl, Lib.hid (by simp), HLL, HD, Lib.hid (fun _ => HRR.out.2), HOW, HB⟩
        case measure => have := HM0.out; have := HRR.out.1; omega
       | true =>
        have HLT : Hid (muL L < M0) := Lib.hid (HMT.out rfl)
        clear HMS HMT
        go_wp2_with (fail)
        go_roundg (muL L + 1)
        case rel => exact ⟨L, true, rfl, Lib.hid (by simp), HLL, HD, Lib.hid (fun h => by cases h), HOW, HB⟩
        case measure => have := HM0.out; have := HLT.out; omega
end Go.Proofs.YtofaifeadhimjaaGreatDoor
