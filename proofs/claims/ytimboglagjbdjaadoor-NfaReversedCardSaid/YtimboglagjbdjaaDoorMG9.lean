import Derived.Test.YtimboglagjbdjaaDoorMG7
import Derived.Test.YtimboglagjbdjaaDoorMG8
/-
  NfaCl, NfaRv
-/
set_option linter.unusedVariables false
namespace Go.Proofs.YtimboglagjbdjaaDoor

structure WithLaw (wl : List Int → Int → List Int) : Prop where
 asc : ∀ l n, l.Pairwise (· < ·) → (wl l n).Pairwise (· < ·)
 mem : ∀ l n z, l.Pairwise (· < ·) → (z ∈ wl l n ↔ z ∈ l ∨ z = n)
section
variable {wl : List Int → Int → List Int} (H : WithLaw wl)
include H
theorem WithLaw.new {l : List Int} (h : l.Pairwise (· < ·)) {n : Int} (hn : n ∉ l) : (wl l n).length = l.length + 1 := by
 have h1 : (wl l n).Perm (n :: l) := by
  rw [List.perm_ext_iff_of_nodup (pw_nodup (H.asc l n h)) (List.nodup_cons.2 ⟨hn, pw_nodup h⟩)]
  intro z
  rw [H.mem l n z h, List.mem_cons]
  exact Or.comm
 rw [h1.length_eq, List.length_cons]
end
def sortW (wl : List Int → Int → List Int) (l : List Int) : List Int := l.foldl wl []
theorem sortW_facts {wl : List Int → Int → List Int} (H : WithLaw wl) (l : List Int) : (sortW wl l).Pairwise (· < ·) ∧ ∀ z, z ∈ sortW wl l ↔ z ∈ l := by
 obtain ⟨T, hT⟩ : ∃ T, l.reverse = T := ⟨_, rfl⟩
 obtain rfl : T.reverse = l := by rw [← hT, List.reverse_reverse]
 clear hT
 induction T with
 | nil => exact ⟨List.Pairwise.nil, fun z => by simp [sortW]⟩
 | cons x T ih =>
  have e : sortW wl ((x :: T).reverse) = wl (sortW wl T.reverse) x := by unfold sortW; simp only [List.reverse_cons, List.foldl_append, List.foldl_cons, List.foldl_nil]
  rw [e]
  refine ⟨H.asc _ _ ih.1, fun z => ?_⟩
  rw [H.mem _ _ z ih.1, ih.2]
  simp
def CloI (ar : List A3) (l out : List Int) : Prop := out.Pairwise (· < ·) ∧ (∀ z ∈ l, z ∈ out) ∧ ∀ z ∈ out, Clo ar l z
section
variable {wl : List Int → Int → List Int} (H : WithLaw wl) {ar : List A3} {l : List Int} {n : Int}
include H
theorem CloI.start (l : List Int) (ar : List A3) : CloI ar l (sortW wl l) :=
 ⟨(sortW_facts H l).1, fun z hz => ((sortW_facts H l).2 z).2 hz, fun z hz => .of_mem (((sortW_facts H l).2 z).1 hz)⟩
end
section
variable {ar : List A3} {l out : List Int} {n : Int}
theorem CloI.bd (ha : ArcsIn n ar) (hl : Bd n l) (h : CloI ar l out) : Bd n out := fun z hz => clo_bd ha hl (h.2.2 z hz)
theorem CloI.closed (ha : ArcsIn n ar) (hl : Bd n l) (h : CloI ar l out) (hc : ∀ x ∈ ar, x.l = 0 → x.f ∈ out → x.t ∈ out) : out = cloL ar l :=
 cloL_uniq ha hl h.1 fun z => ⟨h.2.2 z, fun hz => hz.least (P := fun z => z ∈ out) h.2.1 hc⟩
end
/-! The program's queue: the states that are in, as Booleans and as a list. -/
def tdN (os : List Bool) (td : List Int) (n : Nat) : List Int := if gb os n = true then td else td ++ [(n : Int)]
theorem gb_set' {os : List Bool} {n : Nat} (hn : n < os.length) (v : Bool) (i : Nat) : gb (os.set n v) i = if i = n then v else gb os i := by
 by_cases e : i = n
 ·subst e; rw [if_pos rfl]; simp [gb, List.getD, hn]
 ·rw [if_neg e]; simp [gb, List.getD, List.getElem?_set_ne (Ne.symm e)]
structure VisI (ar : List A3) (l : List Int) (n : Int) (os : List Bool) (td : List Int) : Prop where
 len : (os.length : Int) = n
 nd : td.Nodup
 iff : ∀ i : Nat, (i : Int) < n → (gb os i = true ↔ (i : Int) ∈ td)
 rng : ∀ z ∈ td, 0 ≤ z ∧ z < n
 use : ∀ z ∈ td, Clo ar l z
section
variable {ar : List A3} {l : List Int} {n : Int} {os : List Bool} {td : List Int}
theorem VisI.start (h0 : 0 ≤ n) : VisI ar l n (List.replicate n.toNat false) [] := by
 refine ⟨by rw [List.length_replicate]; omega, List.nodup_nil, fun i hi => ?_, fun z hz => by simp at hz, fun z hz => by simp at hz⟩
 have : gb (List.replicate n.toNat false) i = false := by simp [gb, List.getD, show i < n.toNat by omega]
 rw [this]
 simp
theorem VisI.tlen (h : VisI ar l n os td) : td.length ≤ n.toNat := by
 have := h.nd.length_le_of_subset (l₂ := (List.range n.toNat).map Int.ofNat) fun x hx => by
  have := h.rng x hx
  exact List.mem_map.2 ⟨x.toNat, List.mem_range.2 (by omega), by show ((x.toNat : Nat) : Int) = x; omega⟩
 simpa using this
theorem VisI.visit (h : VisI ar l n os td) {m : Nat} (hm : (m : Int) < n) (hu : Clo ar l m) : VisI ar l n (os.set m true) (tdN os td m) := by
 have hl := h.len
 unfold tdN
 by_cases hg : gb os m = true
 ·rw [if_pos hg]
  have e : os.set m true = os := by
   apply List.ext_getElem?
   intro j
   by_cases e : j = m
   ·subst e
    have hj : j < os.length := by omega
    rw [List.getElem?_set_self hj, List.getElem?_eq_getElem hj]
    have : gb os j = os[j] := by simp [gb, List.getD, hj]
    rw [← this, hg]
   ·rw [List.getElem?_set_ne (Ne.symm e)]
  rw [e]; exact h
 ·have hno : (m : Int) ∉ td := fun hh => hg ((h.iff m hm).2 hh)
  rw [if_neg hg]
  refine ⟨by rw [List.length_set]; exact hl, ?_, fun i hi => ?_, fun z hz => ?_, fun z hz => ?_⟩
  ·rw [List.nodup_append]
   refine ⟨h.nd, by simp, fun a ha b hb => ?_⟩
   rw [List.mem_singleton.1 hb]
   rintro rfl
   exact hno ha
  ·rw [gb_set' (by omega), List.mem_append, List.mem_singleton, ← h.iff i hi]
   by_cases e : i = m
   ·subst e; simp
   ·rw [if_neg e]
    exact ⟨.inl, fun h => h.elim id fun e' => absurd (by omega) e⟩
  ·rcases List.mem_append.1 hz with hz | hz
   ·exact h.rng z hz
   ·rw [List.mem_singleton.1 hz]; omega
  ·rcases List.mem_append.1 hz with hz | hz
   ·exact h.use z hz
   ·rw [List.mem_singleton.1 hz]; exact hu
theorem tdN_pre (os : List Bool) (td : List Int) (m : Nat) : td <+: tdN os td m := by
 unfold tdN
 split
 ·exact List.prefix_refl _
 ·exact List.prefix_append _ _
theorem tdN_mem (h : VisI ar l n os td) {m : Nat} (hm : (m : Int) < n) : (m : Int) ∈ tdN os td m := by
 unfold tdN
 split
 ·rename_i hg; exact (h.iff m hm).1 hg
 ·simp
theorem VisI.done (h : VisI ar l n os td) (ha : ArcsIn n ar) (hl : Bd n l) (h0 : ∀ z ∈ l, z ∈ td) (hc : ∀ z ∈ td, ∀ x ∈ ar, x.l = 0 → x.f = z → x.t ∈ td) (z : Int) : z ∈ td ↔ z ∈ cloL ar l := by
 rw [mem_cloL ha hl]
 exact ⟨h.use z, fun hz => hz.least (P := fun z => z ∈ td) h0 fun x hx h1 h2 => hc _ h2 x hx h1 rfl⟩
end
end Go.Proofs.YtimboglagjbdjaaDoor

set_option linter.unusedVariables false
namespace Go.Proofs.YtimboglagjbdjaaDoor

def swA (x : A3) : A3 := ⟨x.t, x.l, x.f⟩
theorem swA_swA (x : A3) : swA (swA x) = x := rfl
def insA : List A3 → A3 → List A3
 | [], x => [x]
 | y :: l, x => if LtN y x then y :: insA l x else if y = x then y :: l else x :: y :: l
theorem mem_insA {x z : A3} : ∀ {l : List A3}, z ∈ insA l x ↔ z ∈ l ∨ z = x
 | [] => by simp [insA]
 | y :: l => by
  unfold insA
  split
  ·rw [List.mem_cons, mem_insA, List.mem_cons, or_assoc]
  ·split
   ·rename_i h1 h2
    subst h2
    simp only [List.mem_cons]
    exact ⟨fun h => .inl h, fun h => h.elim id .inl⟩
   ·simp only [List.mem_cons]
    exact ⟨fun h => h.elim .inr .inl, fun h => h.elim .inr .inl⟩
theorem LtN.tri (x y : A3) : LtN x y ∨ x = y ∨ LtN y x := by
 obtain ⟨a, b, c⟩ := x
 obtain ⟨d, e, f⟩ := y
 unfold LtN
 simp only [A3.mk.injEq]
 omega
theorem insA_sorted {x : A3} : ∀ {l : List A3}, SortedN l → SortedN (insA l x)
 | [], _ => List.pairwise_singleton _ _
 | y :: l, h => by
  have h' := List.pairwise_cons.1 h
  unfold insA
  split
  ·rename_i h1
   refine List.pairwise_cons.2 ⟨fun z hz => ?_, insA_sorted h'.2⟩
   rcases mem_insA.1 hz with hz | rfl
   ·exact h'.1 z hz
   ·exact h1
  ·split
   ·exact h
   ·rename_i h1 h2
    have h3 : LtN x y := by rcases LtN.tri x y with h4 | h4 | h4
                            ·exact h4
                            ·exact absurd h4.symm h2
                            ·exact absurd h4 h1
    refine List.pairwise_cons.2 ⟨fun z hz => ?_, h⟩
    rcases List.mem_cons.1 hz with rfl | hz
    ·exact h3
    ·exact h3.trans (h'.1 z hz)
theorem sortedN_ext : ∀ {xs ys : List A3}, SortedN xs → SortedN ys → (∀ z, z ∈ xs ↔ z ∈ ys) → xs = ys
 | [], [], _, _, _ => rfl
 | [], y :: ys, _, _, h => absurd ((h y).2 List.mem_cons_self) List.not_mem_nil
 | x :: xs, [], _, _, h => absurd ((h x).1 List.mem_cons_self) List.not_mem_nil
 | x :: xs, y :: ys, hx, hy, h => by
  have hx' := List.pairwise_cons.1 hx
  have hy' := List.pairwise_cons.1 hy
  have e : x = y := by
   rcases List.mem_cons.1 ((h x).1 List.mem_cons_self) with h1 | h1
   ·exact h1
   ·rcases List.mem_cons.1 ((h y).2 List.mem_cons_self) with h2 | h2
    ·exact h2.symm
    ·exact absurd ((hy'.1 x h1).trans (hx'.1 y h2)) LtN.irrefl
  subst e
  rw [sortedN_ext hx'.2 hy'.2 fun z => ?_]
  have := h z
  rw [List.mem_cons, List.mem_cons] at this
  constructor
  ·intro hz
   rcases this.1 (.inr hz) with rfl | h1
   ·exact absurd (hx'.1 z hz) LtN.irrefl
   ·exact h1
  ·intro hz
   rcases this.2 (.inr hz) with rfl | h1
   ·exact absurd (hy'.1 z hz) LtN.irrefl
   ·exact h1
def revA (ar : List A3) : List A3 := (ar.map swA).foldl insA []
theorem revA_snoc (ar : List A3) (x : A3) : revA (ar ++ [x]) = insA (revA ar) (swA x) := by unfold revA; simp only [List.map_append, List.map_cons, List.map_nil, List.foldl_append, List.foldl_cons, List.foldl_nil]
theorem revA_facts (ar : List A3) : SortedN (revA ar) ∧ ∀ z, z ∈ revA ar ↔ swA z ∈ ar := by
 obtain ⟨T, hT⟩ : ∃ T, ar.reverse = T := ⟨_, rfl⟩
 obtain rfl : T.reverse = ar := by rw [← hT, List.reverse_reverse]
 clear hT
 induction T with
 | nil => exact ⟨List.Pairwise.nil, fun z => by simp [revA]⟩
 | cons x T ih =>
  rw [List.reverse_cons, revA_snoc]
  refine ⟨insA_sorted ih.1, fun z => ?_⟩
  rw [mem_insA, ih.2, List.mem_append, List.mem_singleton]
  constructor
  ·rintro (h | rfl)
   ·exact .inl h
   ·exact .inr rfl
  ·rintro (h | h)
   ·exact .inl h
   ·exact .inr (by rw [← h]; rfl)
theorem revA_len {ar : List A3} (h : SortedN ar) : (revA ar).length = ar.length := by
 have hn : ∀ {l : List A3}, SortedN l → l.Nodup := fun h => List.Pairwise.imp (fun h e => by subst e; exact LtN.irrefl h) h
 have h1 : (revA ar).Perm (ar.map swA) := by
  refine (List.perm_ext_iff_of_nodup (hn (revA_facts ar).1) ?_).2 fun z => ?_
  ·unfold List.Nodup
   rw [List.pairwise_map]
   exact (hn h).imp fun {x y} h e => h (by rw [← swA_swA x, ← swA_swA y, e])
  ·rw [(revA_facts ar).2, List.mem_map]
   exact ⟨fun h => ⟨swA z, h, rfl⟩, fun ⟨x, hx, e⟩ => by rw [← e]; exact hx⟩
 rw [h1.length_eq, List.length_map]
def finsL (fin : List Bool) (N : Nat) : List Int := ((List.range N).filter fun i => gb fin i).map fun i : Nat => (i : Int)
theorem mem_finsL {fin : List Bool} {N : Nat} {z : Int} : z ∈ finsL fin N ↔ (0 ≤ z ∧ z < N) ∧ gb fin z.toNat = true := by
 unfold finsL
 rw [List.mem_map]
 constructor
 ·rintro ⟨i, hi, rfl⟩
  rw [List.mem_filter, List.mem_range] at hi
  exact ⟨⟨by omega, by omega⟩, hi.2⟩
 ·rintro ⟨⟨h1, h2⟩, h3⟩
  exact ⟨z.toNat, List.mem_filter.2 ⟨List.mem_range.2 (by omega), h3⟩, by omega⟩
theorem finsL_asc (fin : List Bool) (N : Nat) : (finsL fin N).Pairwise (· < ·) := by
 unfold finsL
 rw [List.pairwise_map]
 exact (List.pairwise_lt_range.filter _).imp fun h => by omega
def boolsL (s : List Int) (N : Nat) : List Bool := (List.range N).map fun i : Nat => decide ((i : Int) ∈ s)
theorem boolsL_len (s : List Int) (N : Nat) : (boolsL s N).length = N := by simp [boolsL]
theorem gb_boolsL {s : List Int} {N i : Nat} (hi : i < N) : gb (boolsL s N) i = decide ((i : Int) ∈ s) := by simp [gb, boolsL, List.getD, hi]
def revN (a : Nfa) : Nfa := ⟨a.n, finsL a.fin a.n.toNat, boolsL a.s a.n.toNat, revA a.arcs⟩
theorem pw_steps {l : List Int} (h : l.Pairwise (· < ·)) {i : Nat} (h0 : 0 < i) (hi : i < l.length) : gi l (i - 1) < gi l i := by
 have e : ∀ j (hj : j < l.length), gi l j = l[j] := fun j hj => by simp [gi, List.getD, hj]
 rw [e _ (by omega), e _ hi]
 exact List.pairwise_iff_getElem.1 h _ _ (by omega) hi (by omega)
theorem pw_of_steps {l : List Int} (h : ∀ i, 0 < i → i < l.length → gi l (i - 1) < gi l i) : l.Pairwise (· < ·) := by
 have e : ∀ j (hj : j < l.length), gi l j = l[j] := fun j hj => by simp [gi, List.getD, hj]
 have up : ∀ d i, i + (d + 1) < l.length → gi l i < gi l (i + (d + 1)) := by
  intro d
  induction d with
  | zero => intro i hi; have := h (i + 1) (by omega) hi; simpa using this
  | succ d ih =>
   intro i hi
   have h1 := ih i (by omega)
   have h2 := h (i + (d + 1) + 1) (by omega) hi
   rw [show i + (d + 1) + 1 - 1 = i + (d + 1) by omega] at h2
   rw [show i + (d + 1 + 1) = i + (d + 1) + 1 by omega]
   omega
 refine List.pairwise_iff_getElem.2 fun i j hi hj hij => ?_
 have := up (j - i - 1) i (by omega)
 rw [show i + (j - i - 1 + 1) = j by omega, e i hi, e j hj] at this
 exact this
theorem ValidN.startAsc {a : Nfa} (h : ValidN a) : a.s.Pairwise (· < ·) := pw_of_steps fun i h0 hi => (h.2.2.2.1 i hi).2 h0
theorem gi_mem' {l : List Int} {i : Nat} (hi : i < l.length) : gi l i ∈ l := by
 have : gi l i = l[i] := by simp [gi, List.getD, hi]
 rw [this]; exact List.getElem_mem hi
theorem SortedN.step {ar : List A3} (h : SortedN ar) {i : Nat} (h0 : 0 < i) (hi : i < ar.length) : LtN (g3 ar (i - 1)) (g3 ar i) := h.lt (by omega) hi
theorem revN_valid {a : Nfa} (hv : ValidN a) : ValidN (revN a) := by
 have hn := hv.1
 have hr := revA_facts a.arcs
 refine ⟨hn, ?_, ?_, fun i hi => ?_, fun i hi => ?_⟩
 ·show ((boolsL a.s a.n.toNat).length : Int) = a.n
  rw [boolsL_len]; omega
 ·show (revA a.arcs).length ≤ 2000
  rw [revA_len hv.sorted]; exact hv.2.2.1
 ·have hi : i < (finsL a.fin a.n.toNat).length := hi
  have := mem_finsL.1 (gi_mem' hi)
  exact ⟨⟨this.1.1, by show gi (finsL a.fin a.n.toNat) i < a.n; omega⟩, fun h0 => pw_steps (finsL_asc _ _) h0 hi⟩
 ·have hi : i < (revA a.arcs).length := hi
  have h1 := (hr.2 _).1 (g3_mem _ i hi)
  have h2 := hv.arc h1
  exact ⟨⟨h2.1.2, h2.1.1⟩, h2.2, fun h0 => hr.1.step h0 hi⟩
theorem gb_ext' {xs ys : List Bool} (hl : xs.length = ys.length) (h : ∀ i, i < xs.length → gb xs i = gb ys i) : xs = ys := by
 apply List.ext_getElem hl
 intro i h1 h2
 have := h i h1
 simpa [gb, List.getD, h1, h2] using this
theorem revN_revN {a : Nfa} (hv : ValidN a) : revN (revN a) = a := by
 have hn := hv.1
 have hfl := hv.2.1
 have e1 : finsL (boolsL a.s a.n.toNat) a.n.toNat = a.s := pairwise_ext (finsL_asc _ _) hv.startAsc fun z => by
  rw [mem_finsL]
  constructor
  ·rintro ⟨⟨h1, h2⟩, h3⟩
   rw [gb_boolsL (by omega), decide_eq_true_iff, Int.toNat_of_nonneg h1] at h3
   exact h3
  ·intro hz
   have := hv.start hz
   refine ⟨⟨this.1, by omega⟩, ?_⟩
   rw [gb_boolsL (by omega), decide_eq_true_iff, Int.toNat_of_nonneg this.1]
   exact hz
 have e2 : boolsL (finsL a.fin a.n.toNat) a.n.toNat = a.fin := by
  refine gb_ext' (by rw [boolsL_len]; omega) fun i hi => ?_
  rw [boolsL_len] at hi
  rw [gb_boolsL hi, Bool.eq_iff_iff, decide_eq_true_iff, mem_finsL, Int.toNat_natCast]
  exact ⟨fun h => h.2, fun h => ⟨⟨by omega, by omega⟩, h⟩⟩
 have e3 : revA (revA a.arcs) = a.arcs := sortedN_ext (revA_facts _).1 hv.sorted fun z => by
  rw [(revA_facts _).2, (revA_facts _).2, swA_swA]
 obtain ⟨n, s, fin, ar⟩ := a
 show Nfa.mk n (finsL (boolsL s n.toNat) n.toNat) (boolsL (finsL fin n.toNat) n.toNat) (revA (revA ar)) = ⟨n, s, fin, ar⟩
 simp only at e1 e2 e3
 rw [e1, e2, e3]
theorem rd_rev {ar : List A3} {x y : Int} {w : List Int} (h : Rd ar x w y) : Rd (revA ar) y w.reverse x := by
 have one : ∀ {z : A3}, z ∈ ar → z.l = 0 → Rd (revA ar) z.t [] z.f := fun {z} hz h0 =>
  Rd.eps (x := swA z) (((revA_facts ar).2 _).2 (by rw [swA_swA]; exact hz)) h0 (.nil _)
 have two : ∀ {z : A3}, z ∈ ar → 0 < z.l → Rd (revA ar) z.t [z.l] z.f := fun {z} hz h0 =>
  Rd.arc (x := swA z) (((revA_facts ar).2 _).2 (by rw [swA_swA]; exact hz)) h0 (.nil _)
 induction h with
 | nil q => exact .nil q
 | eps hz h0 _ ih =>
  have := ih.trans (one hz h0)
  rwa [List.append_nil] at this
 | arc hz h0 _ ih =>
  rw [List.reverse_cons]
  exact ih.trans (two hz h0)
theorem rd_in {a : Nfa} (hv : ValidN a) {q z : Int} {w : List Int} (h : Rd a.arcs q w z) (hq : 0 ≤ q ∧ q < a.n) : 0 ≤ z ∧ z < a.n := by
 induction h with
 | nil => exact hq
 | eps hx _ _ ih => exact ih (hv.arc hx).1.2
 | arc hx _ _ ih => exact ih (hv.arc hx).1.2
theorem acN_rev {a : Nfa} (hv : ValidN a) (w : List Int) : acN (revN a) w.reverse = acN a w := by
 have hn := hv.1
 have half : ∀ {a : Nfa} (hv : ValidN a) (w : List Int), acN a w = true → acN (revN a) w.reverse = true := fun {a} hv w h => by
  have hn := hv.1
  obtain ⟨y, hy, z, hr, hf⟩ := (acN_iff hv).1 h
  have hyb := hv.start hy
  have hz := rd_in hv hr hyb
  refine (acN_iff (revN_valid hv)).2 ⟨z, mem_finsL.2 ⟨⟨hz.1, by omega⟩, hf⟩, y, rd_rev hr, ?_⟩
  show gb (boolsL a.s a.n.toNat) y.toNat = true
  rw [gb_boolsL (by omega), decide_eq_true_iff, Int.toNat_of_nonneg hyb.1]
  exact hy
 rw [Bool.eq_iff_iff]
 refine ⟨fun h => ?_, half hv w⟩
 have := half (revN_valid hv) w.reverse h
 rwa [revN_revN hv, List.reverse_reverse] at this
end Go.Proofs.YtimboglagjbdjaaDoor
