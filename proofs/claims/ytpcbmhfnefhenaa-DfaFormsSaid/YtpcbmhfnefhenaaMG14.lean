import Derived.Test.YtpcbmhfnefhenaaMG5
import Derived.Test.YtpcbmhfnefhenaaMG11
import Derived.Test.YtpcbmhfnefhenaaMG13
/-
  DfaUs, DfaCo
-/
set_option linter.unusedSimpArgs false
set_option linter.unusedVariables false
namespace Go.Proofs.Ytpcbmhfnefhenaa
open Go.RowKit

theorem withL_mem {l : List Int} (h : Asc l) {n z : Int} : z ∈ withL l n ↔ z ∈ l ∨ z = n := by
  rw [withL_asc n l h, List.mem_append, List.mem_cons, List.mem_filter, List.mem_filter]
  simp only [decide_eq_true_eq]
  constructor
  · rintro (⟨h1, _⟩ | h1 | ⟨h1, _⟩)
    · exact .inl h1
    · exact .inr h1
    · exact .inl h1
  · rintro (h1 | h1)
    · rcases Int.lt_trichotomy z n with h2 | h2 | h2
      · exact .inl ⟨h1, h2⟩
      · exact .inr (.inl h2)
      · exact .inr (.inr ⟨h1, h2⟩)
    · exact .inr (.inl h1)
theorem withL_isAsc {l : List Int} (h : Asc l) (n : Int) : Asc (withL l n) := by
  rw [withL_asc n l h]
  unfold Asc at h ⊢
  rw [List.pairwise_append, List.pairwise_cons]
  refine ⟨h.filter _, ⟨fun z hz => ?_, h.filter _⟩, fun x hx y hy => ?_⟩
  · have := (List.mem_filter.1 hz).2; simpa using this
  · have h1 : x < n := by have := (List.mem_filter.1 hx).2; simpa using this
    rcases List.mem_cons.1 hy with rfl | hy
    · exact h1
    · have h2 : n < y := by have := (List.mem_filter.1 hy).2; simpa using this
      omega
theorem withL_old {l : List Int} (h : Asc l) {n : Int} (hn : n ∈ l) : withL l n = l := asc_ext (withL_isAsc h n) h fun z => by
  rw [withL_mem h]
  exact ⟨fun e => e.elim id fun e => e ▸ hn, .inl⟩
theorem asc_nodup {l : List Int} (h : Asc l) : l.Nodup := by
  unfold Asc at h
  exact h.imp fun hh e => by omega
theorem withL_new {l : List Int} (h : Asc l) {n : Int} (hn : n ∉ l) : (withL l n).length = l.length + 1 := by
  have h1 : (withL l n).Perm (n :: l) := by
    rw [List.perm_ext_iff_of_nodup (asc_nodup (withL_isAsc h n)) (List.nodup_cons.2 ⟨hn, asc_nodup h⟩)]
    intro z
    rw [withL_mem h, List.mem_cons]
    exact Or.comm
  rw [h1.length_eq, List.length_cons]
def stepU (l : List Int) (x : A3) : List Int := if x.t ∈ l then withL l x.f else l
def roundU (es : List A3) (l : List Int) : List Int := es.foldl stepU l
theorem roundU_succ (es : List A3) (l : List Int) {j : Nat} (hj : j < es.length) : roundU (es.take (j + 1)) l = stepU (roundU (es.take j) l) (g3 es j) := by
  unfold roundU
  rw [take_succ_g3 _ _ hj, List.foldl_append]
  rfl
def UseI (d : Dfa) (l : List Int) : Prop := Asc l ∧ (∀ z ∈ l, (0 ≤ z ∧ z < d.n) ∧ ∃ w, accQ d z w = true) ∧ ∀ i : Nat, (i : Int) < d.n → gb d.fin i = true → (i : Int) ∈ l
theorem stepU_keep {d : Dfa} (hv : ValidD d) {l : List Int} (h : UseI d l) {x : A3} (hx : x ∈ d.arcs) : UseI d (stepU l x) := by
  unfold stepU
  split
  · rename_i ht
    obtain ⟨h1, h2, h3⟩ := h
    refine ⟨withL_isAsc h1 _, fun z hz => ?_, fun i hi hf => (withL_mem h1).2 (.inl (h3 i hi hf))⟩
    rcases (withL_mem h1).1 hz with hz | rfl
    · exact h2 z hz
    · refine ⟨(hv.arc hx).1.1, ?_⟩
      obtain ⟨w, hw⟩ := (h2 _ ht).2
      have hn := (nxtD_iff hv.sorted).2 ⟨hx, rfl, rfl⟩
      exact ⟨x.l :: w, by rw [accQ_some hn]; exact hw⟩
  · exact h
theorem stepU_len {l : List Int} (h : Asc l) (x : A3) : l.length ≤ (stepU l x).length ∧ ((stepU l x).length = l.length → stepU l x = l ∧ (x.t ∈ l → x.f ∈ l)) := by
  unfold stepU
  split
  · rename_i ht
    by_cases hf : x.f ∈ l
    · rw [withL_old h hf]; exact ⟨Nat.le_refl _, fun _ => ⟨rfl, fun _ => hf⟩⟩
    · rw [withL_new h hf]; exact ⟨by omega, fun e => by omega⟩
  · rename_i ht
    exact ⟨Nat.le_refl _, fun _ => ⟨rfl, fun e => absurd e ht⟩⟩
theorem roundU_keep {d : Dfa} (hv : ValidD d) : ∀ (es : List A3) (l : List Int), (∀ x ∈ es, x ∈ d.arcs) → UseI d l → UseI d (roundU es l)
  | [], l, _, h => h
  | x :: es, l, he, h => roundU_keep hv es _ (fun y hy => he y (List.mem_cons_of_mem _ hy)) (stepU_keep hv h (he x (List.mem_cons_self ..)))
theorem roundU_len {d : Dfa} (hv : ValidD d) : ∀ (es : List A3) (l : List Int), (∀ x ∈ es, x ∈ d.arcs) → UseI d l → l.length ≤ (roundU es l).length ∧ ((roundU es l).length = l.length → roundU es l = l ∧ ∀ x ∈ es, x.t ∈ l → x.f ∈ l)
  | [], l, _, h => ⟨Nat.le_refl _, fun _ => ⟨rfl, fun x hx => by cases hx⟩⟩
  | x :: es, l, he, h => by
    have h1 := stepU_len h.1 x
    have h2 := roundU_len hv es (stepU l x) (fun y hy => he y (List.mem_cons_of_mem _ hy)) (stepU_keep hv h (he x (List.mem_cons_self ..)))
    have e : roundU (x :: es) l = roundU es (stepU l x) := rfl
    rw [e]
    refine ⟨Nat.le_trans h1.1 h2.1, fun hl => ?_⟩
    have h3 := h1.2 (by omega)
    rw [h3.1] at h2 ⊢
    have h4 := h2.2 (by rw [h3.1] at hl; exact hl)
    refine ⟨h4.1, fun y hy => ?_⟩
    rcases List.mem_cons.1 hy with rfl | hy
    · exact h3.2
    · exact h4.2 y hy
noncomputable def useL (d : Dfa) : List Int := (lets d.n.toNat).filter fun z => gb (keepU d) z.toNat
theorem useL_mem (d : Dfa) {T : Nat} (h : (T : Int) < d.n) : decide ((T : Int) ∈ useL d) = gb (keepU d) T := by
  have e : ((T : Int) ∈ useL d) ↔ gb (keepU d) T = true := by
    unfold useL
    rw [List.mem_filter, lets_mem, Int.toNat_natCast]
    exact ⟨fun h => h.2, fun h2 => ⟨⟨by omega, by omega⟩, h2⟩⟩
  cases hg : gb (keepU d) T with
  | true => exact decide_eq_true (e.2 hg)
  | false => exact decide_eq_false fun h2 => by rw [e.1 h2] at hg; cases hg
theorem use_fin {d : Dfa} (hv : ValidD d) {l : List Int} (h : UseI d l) (hc : ∀ x ∈ d.arcs, x.t ∈ l → x.f ∈ l) : l = useL d := by
  have hn := hv.1
  have key : ((List.range d.n.toNat).map fun (i : Nat) => decide ((i : Int) ∈ l)) = keepU d := by
    have at' : ∀ i : Nat, (i : Int) < d.n → gb ((List.range d.n.toNat).map fun (i : Nat) => decide ((i : Int) ∈ l)) i = decide ((i : Int) ∈ l) := fun i hi => by
      rw [gb_eq _ _ (by simp; omega)]
      simp
    refine keepU_eq hv (by simp; omega) (fun i hi hf => ?_) (fun x hx ht => ?_) (fun i hi ht => ?_)
    · rw [at' i hi]; exact decide_eq_true (h.2.2 i hi hf)
    · have hx1 := (hv.arc hx).1
      have e1 : ((x.t.toNat : Nat) : Int) = x.t := Int.toNat_of_nonneg hx1.2.1
      have e2 : ((x.f.toNat : Nat) : Int) = x.f := Int.toNat_of_nonneg hx1.1.1
      rw [at' _ (by omega), e1] at ht
      rw [at' _ (by omega), e2]
      exact decide_eq_true (hc x hx (of_decide_eq_true ht))
    · rw [at' i hi] at ht
      exact (h.2.1 _ (of_decide_eq_true ht)).2
  refine asc_ext h.1 ((lets_asc _).filter _) fun z => ?_
  unfold useL
  rw [List.mem_filter, lets_mem, ← key]
  constructor
  · intro hz
    have h1 := (h.2.1 z hz).1
    refine ⟨⟨h1.1, by omega⟩, ?_⟩
    rw [gb_eq _ _ (by simp; omega)]
    simp [Int.toNat_of_nonneg h1.1, hz]
  · rintro ⟨⟨h1, h2⟩, h3⟩
    rw [gb_eq _ _ (by simp; omega)] at h3
    simpa [Int.toNat_of_nonneg h1] using h3
theorem use_full {d : Dfa} (hv : ValidD d) {l : List Int} (h : UseI d l) (hl : d.n ≤ (l.length : Int)) : l = useL d := by
  have hn := hv.1
  have hall : ∀ z : Int, 0 ≤ z → z < d.n → z ∈ l := by
    intro z h0 h1
    refine Classical.byContradiction fun hz => ?_
    have h2 := ints_le (q := z :: l) (n := d.n) (List.nodup_cons.2 ⟨hz, asc_nodup h.1⟩) (fun x hx => by
      rcases List.mem_cons.1 hx with rfl | hx
      · exact ⟨h0, h1⟩
      · exact (h.2.1 x hx).1)
    rw [List.length_cons] at h2
    omega
  exact use_fin hv h fun x hx _ => hall _ (hv.arc hx).1.1.1 (hv.arc hx).1.1.2
end Go.Proofs.Ytpcbmhfnefhenaa

set_option linter.unusedSimpArgs false
set_option linter.unusedVariables false
namespace Go.Proofs.Ytpcbmhfnefhenaa
open Go.RowKit
attribute [local go_sem] Oper.semAt_some

set_option maxRecDepth 20000 in
theorem out_in (d : Dfa) (h : DH) (q : Int) (w : World) (hd : IsDfa w h d) (hS : SortedA d.arcs) (hL : ∀ x ∈ d.arcs, 1 ≤ x.l) (hl : d.arcs.length ≤ 20000) (hq : 0 ≤ q ∧ q < 1000000) :
    Calls Try.prog 45 #[vDf d h, .int .i64 q] w fun e w' => (∃ a' c', e = .returned (.slice a' (outsD d.arcs q).length c') ∧ ∀ W0, IsDfa W0 h d → IsArcs W0 a' (outsD d.arcs q).length c' (outsD d.arcs q)) ∧ Below w.heap.size w w' := by
  obtain ⟨n, s, fin, es⟩ := d
  obtain ⟨fa, fl, fc, aa, al, ac⟩ := h
  obtain ⟨-, he⟩ := hd
  simp only at he hS hl hL ⊢
  have hlen := he.length
  have hcap := he.capLe
  unfold maxLen at hcap
  rw [hlen] at hl
  obtain ⟨hb1, hs1, hO⟩ := boxD n s fa fl fc aa al ac w
  obtain ⟨W1, hW1⟩ : ∃ W1, w.alloc (.cells #[.int .i64 n, .int .i64 s, .slice fa fl fc, .slice aa al ac] 30) = W1 := ⟨_, rfl⟩
  rw [hW1] at hb1 hs1 hO
  obtain ⟨-, -, -, co⟩ := hO W1 (Below.refl _ _)
  have hcall := fun W (hb : Below w.heap.size w W) (c : Int) => search_any _ al ac es c 0 W (he.later hb) hS (by omega)
  obtain ⟨hik, hpart⟩ := outsD_part hS hL q
  have hk := loP_le es ⟨q + 1, 0, 0⟩
  rw [hlen] at hk
  have hc0 := hcall W1 hb1 q
  have hc1 := fun W hb => hcall W hb (q + 1)
  obtain ⟨i, hi⟩ : ∃ i, loP es ⟨q, 0, 0⟩ = i := ⟨_, rfl⟩
  obtain ⟨k, hk'⟩ : ∃ k, loP es ⟨q + 1, 0, 0⟩ = k := ⟨_, rfl⟩
  rw [hi] at hc0 hik hpart
  rw [hk'] at hc1 hik hpart hk
  simp only [vA] at hc0 hc1
  have HC := Lib.hid hc1
  have hol : (outsD es q).length = k - i := by rw [← hpart, List.length_take, List.length_drop]; omega
  have HP := Lib.hid hpart
  have HE := Lib.hid he
  unfold vDf
  rw [hol]
  clear hcall hi hk' hpart hc1 he hol
  have hi64 : ((i : Int) ≤ k) := by omega
  have hk64 : ((k : Int) ≤ ac) := by omega
  go_enter Try.func45, Try.ntmps45
  go_wp2_with (first | (go_at_call 70; with_reducible refine hc0.mono ?_; rintro e w2 ⟨⟨u, rfl, hu⟩, hb2⟩; have HB2 : Hid (Below w.heap.size w w2) := Lib.hid (hb1.trans (hb2.mono hb1.size)); obtain ⟨-, -, -, co2⟩ := hO w2 (hb2.mono (by omega)); have hc2 := HC.out w2 HB2.out) | (go_at_call 70; with_reducible refine hc2.mono ?_; rintro e w3 ⟨⟨u3, rfl, hu3⟩, hb3⟩; obtain ⟨-, -, -, co3⟩ := hO w3 ((hb2.trans (hb3.mono hb2.size)).mono (by omega))))
  all_goals (
    have hB3 : Below w.heap.size w w3 := HB2.out.trans (hb3.mono HB2.out.size)
    rw [← HP.out])
  · go_ret
    have h0 : k - i = 0 := by omega
    exact ⟨⟨aa, 0, by rw [h0]; rfl, fun W0 _ => .inl ⟨h0, rfl, by rw [h0]; rfl⟩⟩, hB3⟩
  · rcases HE.out with ⟨h1, h2, h3⟩ | ⟨b, off, rfl, h4⟩
    · go_ret
      have h0 : k - i = 0 := by omega
      exact ⟨⟨_, ac - i, by rw [h0]; rfl, fun W0 _ => .inl ⟨h0, by omega, by rw [h0]; rfl⟩⟩, hB3⟩
    · go_ret
      exact ⟨⟨some ⟨b, off + i * 3, none⟩, ac - i, by rw [← addr_add]; rfl, fun W0 hW0 => IsArcs.part hW0.arcs hik hk (by omega) (by unfold maxLen; omega)⟩, hB3⟩
end Go.Proofs.Ytpcbmhfnefhenaa
