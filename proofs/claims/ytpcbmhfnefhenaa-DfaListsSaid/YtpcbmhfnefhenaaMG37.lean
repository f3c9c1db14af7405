import Derived.Test.YtpcbmhfnefhenaaMG10
import Derived.Test.YtpcbmhfnefhenaaMG11
import Derived.Test.YtpcbmhfnefhenaaMG33
import Derived.Test.YtpcbmhfnefhenaaMG35
/-
  DfaLo, DfaUs
-/
set_option linter.unusedSimpArgs false
set_option linter.unusedVariables false
namespace Go.Proofs.Ytpcbmhfnefhenaa
open Go.RowKit
attribute [local go_sem] Oper.semAt_some

variable {d : Dfa} {h : DH} {w : World}
theorem bvs_replicate (n : Nat) (b : Bool) : bvs (List.replicate n b) = List.replicate n (.bool b) := by simp [bvs]
set_option maxRecDepth 20000 in
set_option maxHeartbeats 2000000 in
theorem refLonger_any (hv : ValidD d) (hd : IsDfa w h d) {sa : Option Addr} {ls cs : Nat} {S : List Bool} (hs : IsBools w sa ls cs S) (hl : (ls : Int) = d.n) :
  Calls Try.prog 62 #[vDf d h, .slice sa ls cs] w fun e w' => (∃ a c, e = .returned (.slice a d.n.toNat c) ∧ w'.ownsRow (w.heap.size + 1) 4 1 (.slice a d.n.toNat c) d.n.toNat (bvs (lonJ d S d.arcs.length))) ∧ Below w.heap.size w w' := by
 have HV := Lib.hid hv
 have HSS := Lib.hid hs
 have HLL := Lib.hid hl
 obtain ⟨W1, hW1, hs1, hb1, hO⟩ := boxRW d h w hd
 obtain ⟨N, hN⟩ := Int.eq_ofNat_of_zero_le (show 0 ≤ d.n by have := hv.1; omega)
 have HN := Lib.hid hN
 have hN1 : N ≤ 1000 := by have := hv.1; omega
 rw [show d.n.toNat = N by omega]
 have HO := Lib.hid hO
 obtain ⟨⟨c1, c2, c3, c4⟩, -, -⟩ := hO W1 (by rw [← hs1]; exact Below.refl _ _)
 rw [hN] at c1
 have HS1 := Lib.hid hs1
 obtain ⟨al, hal⟩ : ∃ n, d.arcs.length = n := ⟨_, rfl⟩
 have HAL := Lib.hid hal
 rw [hal]
 have halb : al ≤ 20000 := by rw [← hal]; exact HV.out.2.2.2.1
 have hta : h.al = al := by
  have h1 := (HO.out W1 (by rw [← HS1.out]; exact Below.refl _ _)).2.1.2.length
  omega
 have HTA := Lib.hid hta
 unfold vDf
 clear hO hd hs hl hv hN hb1 hs1 hal hta
 go_enter Try.func62, Try.ntmps62
 go_wp2_with (refine make_rows elB rfl rfl _ _ rfl rfl rfl rfl rfl (by omega) (Nat.le_refl _) ?_; intro w2 ho2 hb2)
 have HO2 : Hid (w2.ownsRow W1.heap.size 4 1 (.slice (some ⟨W1.heap.size, 0, none⟩) N N) N (bvs (lonJ d S 0))) := Lib.hid (by rw [lonJ_zero, HN.out, bvs_replicate]; exact ho2)
 have HB2 := Lib.hid hb2
 clear ho2 hb2 c1 c2 c3 c4
 go_wp2_with (fail)
 go_loopw [6] (fun c W => ∃ i : Nat, i ≤ al ∧ c = .int .i64 (i : Int) ∧ W.ownsRow W1.heap.size 4 1 (.slice (some ⟨W1.heap.size, 0, none⟩) N N) N (bvs (lonJ d S i)) ∧ Below W1.heap.size W1 W) (fun c _ => al - (intOf c).toNat)
 case atStart => exact ⟨0, Nat.zero_le _, rfl, HO2.out, HB2.out⟩
 case round =>
  clear HO2 HB2
  obtain ⟨i, hi, rfl, ho, hb⟩ := hrel
  obtain ⟨⟨c1, c2, c3, c4⟩, hdr, hbw⟩ := HO.out wr (by rw [← HS1.out]; exact hb)
  rw [HTA.out] at c4
  have hlen : (lonJ d S i).length = N := by rw [lonJ_len]; have := HN.out; omega
  rcases Nat.lt_or_ge i al with hlt | hge
  ·have t1 : decide (i < al) = true := decide_eq_true hlt
   obtain ⟨F, l, T, hX, hF, hT⟩ : ∃ F l T : Nat, g3 d.arcs i = ⟨F, l, T⟩ ∧ F < N ∧ T < N := by
    have h1 := HV.out.arc (x := g3 d.arcs i) (g3_mem _ _ (by rw [HAL.out]; exact hlt))
    have h2 := HN.out
    obtain ⟨⟨x, y, z⟩, hx⟩ : ∃ x, g3 d.arcs i = x := ⟨_, rfl⟩
    rw [hx] at h1 ⊢
    simp only at h1
    exact ⟨x.toNat, y.toNat, z.toNat, by rw [Int.toNat_of_nonneg (by omega), Int.toNat_of_nonneg (by omega), Int.toNat_of_nonneg (by omega)], by omega, by omega⟩
   obtain ⟨ba, oa, haa, hac⟩ := hdr.2.fix (by rw [HTA.out]; omega)
   obtain ⟨x1, x2, x3⟩ := hac wr (Below.refl _ _) i (by rw [HTA.out]; exact hlt)
   rw [hX] at x1 x2 x3
   simp only at x1 x2 x3
   rw [haa] at c4
   obtain ⟨bs, os, hsa, hsc⟩ := HSS.out.fix (by have := HLL.out; have := HN.out; omega)
   have k1 := hsc wr hbw T (by have := HLL.out; have := HN.out; omega)
   have d1 : T < ls := by have := HLL.out; have := HN.out; omega
   obtain ⟨f1, f2⟩ := bown_cell ho hF hlen
   have HJ := Lib.hid (lonJ_succ (d := d) S (j := i) (by rw [HAL.out]; exact hlt))
   have HX := Lib.hid hX
   have HOO := Lib.hid ho
   have HB := Lib.hid hb
   have HST := Lib.hid (bown_store ho F true)
   have HLT := Lib.hid hlt
   subst hsa
   clear hX haa hac hsc ho hb hdr hbw x2 hlen hi
   cases hS : gb S T with
   | false =>
    rw [hS] at k1
    have HE : Hid (lonJ d S (i + 1) = lonJ d S i) := Lib.hid (by rw [HJ.out, HX.out]; unfold lonStep; simp only [Int.toNat_natCast]; rw [hS]; simp)
    clear hS
    go_wp2_with (fail)
    go_roundw
    case rel => exact ⟨i + 1, HLT.out, by go_num, by rw [HE.out]; exact HOO.out, HB.out⟩
    case measure => simp [intOf]; omega
   | true =>
    rw [hS] at k1
    have HE : Hid (lonJ d S (i + 1) = (lonJ d S i).set F true) := Lib.hid (by rw [HJ.out, HX.out]; unfold lonStep; simp only [Int.toNat_natCast]; rw [hS]; simp)
    clear hS
    go_wp2_with (fail)
    go_roundw
    case rel => exact ⟨i + 1, HLT.out, by go_num, by rw [HE.out]; exact HST.out, HB.out.setCell (Nat.le_refl _) _⟩
    case measure => simp [intOf]; omega
  ·obtain rfl : i = al := by omega
   have t1 : decide (i < i) = false := decide_eq_false (by omega)
   have HOO := Lib.hid ho
   have HBW := Lib.hid hbw
   clear ho hb hdr hbw hge hi hlen
   go_wp2_with (fail)
   go_ret
   exact ⟨⟨some ⟨W1.heap.size, 0, none⟩, N, rfl, by rw [← HS1.out]; exact HOO.out⟩, HBW.out⟩
end Go.Proofs.Ytpcbmhfnefhenaa

set_option linter.unusedSimpArgs false
set_option linter.unusedVariables false
namespace Go.Proofs.Ytpcbmhfnefhenaa
open Go.RowKit

theorem withL_mem {l : List Int} (h : Asc l) {n z : Int} : z ∈ withL l n ↔ z ∈ l ∨ z = n := by
 rw [withL_asc n l h, List.mem_append, List.mem_cons, List.mem_filter, List.mem_filter]
 simp only [decide_eq_true_eq]
 constructor
 ·rintro (⟨h1, _⟩ | h1 | ⟨h1, _⟩)
  ·exact .inl h1
  ·exact .inr h1
  ·exact .inl h1
 ·rintro (h1 | h1)
  ·rcases Int.lt_trichotomy z n with h2 | h2 | h2
   ·exact .inl ⟨h1, h2⟩
   ·exact .inr (.inl h2)
   ·exact .inr (.inr ⟨h1, h2⟩)
  ·exact .inr (.inl h1)
theorem withL_isAsc {l : List Int} (h : Asc l) (n : Int) : Asc (withL l n) := by
 rw [withL_asc n l h]
 unfold Asc at h ⊢
 rw [List.pairwise_append, List.pairwise_cons]
 refine ⟨h.filter _, ⟨fun z hz => ?_, h.filter _⟩, fun x hx y hy => ?_⟩
 ·have := (List.mem_filter.1 hz).2; simpa using this
 ·have h1 : x < n := by have := (List.mem_filter.1 hx).2; simpa using this
  rcases List.mem_cons.1 hy with rfl | hy
  ·exact h1
  ·have h2 : n < y := by have := (List.mem_filter.1 hy).2; simpa using this
   omega
theorem withL_old {l : List Int} (h : Asc l) {n : Int} (hn : n ∈ l) : withL l n = l := asc_ext (withL_isAsc h n) h fun z => by
 rw [withL_mem h]
 exact ⟨fun e => e.elim id fun e => e ▸ hn, .inl⟩
theorem asc_nodup {l : List Int} (h : Asc l) : l.Nodup := by
 unfold Asc at h
 exact h.imp fun hh e => by omega
theorem withL_new {l : List Int} (h : Asc l) {n : Int} (hn : n ∉ l) : (withL l n).length = l.length + 1 := by
 have h1 : (withL l n).Perm (n :: l) := by
  rw [List.perm_ext_iff_of_nodup (asc_nodup (withL_isAsc h n)) (List.nodup_cons.2 ⟨hn, asc_nodup h⟩)]
  intro z
  rw [withL_mem h, List.mem_cons]
  exact Or.comm
 rw [h1.length_eq, List.length_cons]
def stepU (l : List Int) (x : A3) : List Int := if x.t ∈ l then withL l x.f else l
def roundU (es : List A3) (l : List Int) : List Int := es.foldl stepU l
theorem roundU_succ (es : List A3) (l : List Int) {j : Nat} (hj : j < es.length) : roundU (es.take (j + 1)) l = stepU (roundU (es.take j) l) (g3 es j) := by
 unfold roundU
 rw [take_succ_g3 _ _ hj, List.foldl_append]
 rfl
def UseI (d : Dfa) (l : List Int) : Prop := Asc l ∧ (∀ z ∈ l, (0 ≤ z ∧ z < d.n) ∧ ∃ w, accQ d z w = true) ∧ ∀ i : Nat, (i : Int) < d.n → gb d.fin i = true → (i : Int) ∈ l
theorem stepU_keep {d : Dfa} (hv : ValidD d) {l : List Int} (h : UseI d l) {x : A3} (hx : x ∈ d.arcs) : UseI d (stepU l x) := by
 unfold stepU
 split
 ·rename_i ht
  obtain ⟨h1, h2, h3⟩ := h
  refine ⟨withL_isAsc h1 _, fun z hz => ?_, fun i hi hf => (withL_mem h1).2 (.inl (h3 i hi hf))⟩
  rcases (withL_mem h1).1 hz with hz | rfl
  ·exact h2 z hz
  ·refine ⟨(hv.arc hx).1.1, ?_⟩
   obtain ⟨w, hw⟩ := (h2 _ ht).2
   have hn := (nxtD_iff hv.sorted).2 ⟨hx, rfl, rfl⟩
   exact ⟨x.l :: w, by rw [accQ_some hn]; exact hw⟩
 ·exact h
theorem stepU_len {l : List Int} (h : Asc l) (x : A3) : l.length ≤ (stepU l x).length ∧ ((stepU l x).length = l.length → stepU l x = l ∧ (x.t ∈ l → x.f ∈ l)) := by
 unfold stepU
 split
 ·rename_i ht
  by_cases hf : x.f ∈ l
  ·rw [withL_old h hf]; exact ⟨Nat.le_refl _, fun _ => ⟨rfl, fun _ => hf⟩⟩
  ·rw [withL_new h hf]; exact ⟨by omega, fun e => by omega⟩
 ·rename_i ht
  exact ⟨Nat.le_refl _, fun _ => ⟨rfl, fun e => absurd e ht⟩⟩
theorem roundU_keep {d : Dfa} (hv : ValidD d) : ∀ (es : List A3) (l : List Int), (∀ x ∈ es, x ∈ d.arcs) → UseI d l → UseI d (roundU es l)
 | [], l, _, h => h
 | x :: es, l, he, h => roundU_keep hv es _ (fun y hy => he y (List.mem_cons_of_mem _ hy)) (stepU_keep hv h (he x (List.mem_cons_self ..)))
theorem roundU_len {d : Dfa} (hv : ValidD d) : ∀ (es : List A3) (l : List Int), (∀ x ∈ es, x ∈ d.arcs) → UseI d l → l.length ≤ (roundU es l).length ∧ ((roundU es l).length = l.length → roundU es l = l ∧ ∀ x ∈ es, x.t ∈ l → x.f ∈ l)
 | [], l, _, h => ⟨Nat.le_refl _, fun _ => ⟨rfl, fun x hx => by cases hx⟩⟩
 | x :: es, l, he, h => by
  have h1 := stepU_len h.1 x
  have h2 := roundU_len hv es (stepU l x) (fun y hy => he y (List.mem_cons_of_mem _ hy)) (stepU_keep hv h (he x (List.mem_cons_self ..)))
  have e : roundU (x :: es) l = roundU es (stepU l x) := rfl
  rw [e]
  refine ⟨Nat.le_trans h1.1 h2.1, fun hl => ?_⟩
  have h3 := h1.2 (by omega)
  rw [h3.1] at h2 ⊢
  have h4 := h2.2 (by rw [h3.1] at hl; exact hl)
  refine ⟨h4.1, fun y hy => ?_⟩
  rcases List.mem_cons.1 hy with rfl | hy
  ·exact h3.2
  ·exact h4.2 y hy
noncomputable def useL (d : Dfa) : List Int := (lets d.n.toNat).filter fun z => gb (keepU d) z.toNat
theorem useL_mem (d : Dfa) {T : Nat} (h : (T : Int) < d.n) : decide ((T : Int) ∈ useL d) = gb (keepU d) T := by
 have e : ((T : Int) ∈ useL d) ↔ gb (keepU d) T = true := by
  unfold useL
  rw [List.mem_filter, lets_mem, Int.toNat_natCast]
  exact ⟨fun h => h.2, fun h2 => ⟨⟨by omega, by omega⟩, h2⟩⟩
 cases hg : gb (keepU d) T with
 | true => exact decide_eq_true (e.2 hg)
 | false => exact decide_eq_false fun h2 => by rw [e.1 h2] at hg; cases hg
theorem use_fin {d : Dfa} (hv : ValidD d) {l : List Int} (h : UseI d l) (hc : ∀ x ∈ d.arcs, x.t ∈ l → x.f ∈ l) : l = useL d := by
 have hn := hv.1
 have key : ((List.range d.n.toNat).map fun (i : Nat) => decide ((i : Int) ∈ l)) = keepU d := by
  have at' : ∀ i : Nat, (i : Int) < d.n → gb ((List.range d.n.toNat).map fun (i : Nat) => decide ((i : Int) ∈ l)) i = decide ((i : Int) ∈ l) := fun i hi => by
   rw [gb_eq _ _ (by simp; omega)]
   simp
  refine keepU_eq hv (by simp; omega) (fun i hi hf => ?_) (fun x hx ht => ?_) (fun i hi ht => ?_)
  ·rw [at' i hi]; exact decide_eq_true (h.2.2 i hi hf)
  ·have hx1 := (hv.arc hx).1
   have e1 : ((x.t.toNat : Nat) : Int) = x.t := Int.toNat_of_nonneg hx1.2.1
   have e2 : ((x.f.toNat : Nat) : Int) = x.f := Int.toNat_of_nonneg hx1.1.1
   rw [at' _ (by omega), e1] at ht
   rw [at' _ (by omega), e2]
   exact decide_eq_true (hc x hx (of_decide_eq_true ht))
  ·rw [at' i hi] at ht
   exact (h.2.1 _ (of_decide_eq_true ht)).2
 refine asc_ext h.1 ((lets_asc _).filter _) fun z => ?_
 unfold useL
 rw [List.mem_filter, lets_mem, ← key]
 constructor
 ·intro hz
  have h1 := (h.2.1 z hz).1
  refine ⟨⟨h1.1, by omega⟩, ?_⟩
  rw [gb_eq _ _ (by simp; omega)]
  simp [Int.toNat_of_nonneg h1.1, hz]
 ·rintro ⟨⟨h1, h2⟩, h3⟩
  rw [gb_eq _ _ (by simp; omega)] at h3
  simpa [Int.toNat_of_nonneg h1] using h3
theorem use_full {d : Dfa} (hv : ValidD d) {l : List Int} (h : UseI d l) (hl : d.n ≤ (l.length : Int)) : l = useL d := by
 have hn := hv.1
 have hall : ∀ z : Int, 0 ≤ z → z < d.n → z ∈ l := by
  intro z h0 h1
  refine Classical.byContradiction fun hz => ?_
  have h2 := ints_le (q := z :: l) (n := d.n) (List.nodup_cons.2 ⟨hz, asc_nodup h.1⟩) (fun x hx => by
   rcases List.mem_cons.1 hx with rfl | hx
   ·exact ⟨h0, h1⟩
   ·exact (h.2.1 x hx).1)
  rw [List.length_cons] at h2
  omega
 exact use_fin hv h fun x hx _ => hall _ (hv.arc hx).1.1.1 (hv.arc hx).1.1.2
end Go.Proofs.Ytpcbmhfnefhenaa
