import Derived.Test.YtofaifeadhimjaaGreatDoorMG7
import Derived.Test.YtofaifeadhimjaaGreatDoorMG8
/-
  NfaCl, NfaRv
-/
set_option linter.unusedVariables false
namespace Go.Proofs.YtofaifeadhimjaaGreatDoor

structure WithLaw (wl : List Int → Int → List Int) : Prop where
 asc : ∀ l n, l.Pairwise (· < ·) → (wl l n).Pairwise (· < ·)
 mem : ∀ l n z, l.Pairwise (· < ·) → (z ∈ wl l n ↔ z ∈ l ∨ z = n)
section
variable {wl : List Int → Int → List Int} (H : WithLaw wl)
include H
theorem WithLaw.old {l : List Int} (h : l.Pairwise (· < ·)) {n : Int} (hn : n ∈ l) : wl l n = l := pairwise_ext (H.asc l n h) h fun z => by
 rw [H.mem l n z h]
 exact ⟨fun e => e.elim id fun e => e ▸ hn, .inl⟩
theorem WithLaw.new {l : List Int} (h : l.Pairwise (· < ·)) {n : Int} (hn : n ∉ l) : (wl l n).length = l.length + 1 := by
 have h1 : (wl l n).Perm (n :: l) := by
  rw [List.perm_ext_iff_of_nodup (pw_nodup (H.asc l n h)) (List.nodup_cons.2 ⟨hn, pw_nodup h⟩)]
  intro z
  rw [H.mem l n z h, List.mem_cons]
  exact Or.comm
 rw [h1.length_eq, List.length_cons]
end
def sortW (wl : List Int → Int → List Int) (l : List Int) : List Int := l.foldl wl []
theorem sortW_facts {wl : List Int → Int → List Int} (H : WithLaw wl) (l : List Int) : (sortW wl l).Pairwise (· < ·) ∧ ∀ z, z ∈ sortW wl l ↔ z ∈ l := by
 obtain ⟨T, hT⟩ : ∃ T, l.reverse = T := ⟨_, rfl⟩
 obtain rfl : T.reverse = l := by rw [← hT, List.reverse_reverse]
 clear hT
 induction T with
 | nil => exact ⟨List.Pairwise.nil, fun z => by simp [sortW]⟩
 | cons x T ih =>
  have e : sortW wl ((x :: T).reverse) = wl (sortW wl T.reverse) x := by unfold sortW; simp only [List.reverse_cons, List.foldl_append, List.foldl_cons, List.foldl_nil]
  rw [e]
  refine ⟨H.asc _ _ ih.1, fun z => ?_⟩
  rw [H.mem _ _ z ih.1, ih.2]
  simp
def stepE (wl : List Int → Int → List Int) (l : List Int) (x : A3) : List Int := if x.l = 0 ∧ x.f ∈ l then wl l x.t else l
def roundE (wl : List Int → Int → List Int) (es : List A3) (l : List Int) : List Int := es.foldl (stepE wl) l
theorem roundE_succ (wl : List Int → Int → List Int) (es : List A3) (l : List Int) {j : Nat} (hj : j < es.length) : roundE wl (es.take (j + 1)) l = stepE wl (roundE wl (es.take j) l) (g3 es j) := by
 unfold roundE
 rw [take_succ_g3 _ _ hj, List.foldl_append]
 rfl
def CloI (ar : List A3) (l out : List Int) : Prop := out.Pairwise (· < ·) ∧ (∀ z ∈ l, z ∈ out) ∧ ∀ z ∈ out, Clo ar l z
section
variable {wl : List Int → Int → List Int} (H : WithLaw wl) {ar : List A3} {l : List Int} {n : Int}
include H
theorem CloI.start (l : List Int) (ar : List A3) : CloI ar l (sortW wl l) :=
 ⟨(sortW_facts H l).1, fun z hz => ((sortW_facts H l).2 z).2 hz, fun z hz => .of_mem (((sortW_facts H l).2 z).1 hz)⟩
theorem stepE_keep {out : List Int} (h : CloI ar l out) {x : A3} (hx : x ∈ ar) : CloI ar l (stepE wl out x) := by
 unfold stepE
 split
 ·rename_i hc
  refine ⟨H.asc _ _ h.1, fun z hz => (H.mem _ _ z h.1).2 (.inl (h.2.1 z hz)), fun z hz => ?_⟩
  rcases (H.mem _ _ z h.1).1 hz with hz | rfl
  ·exact h.2.2 z hz
  ·exact (h.2.2 _ hc.2).arc hx hc.1
 ·exact h
theorem stepE_len {out : List Int} (h : out.Pairwise (· < ·)) (x : A3) : out.length ≤ (stepE wl out x).length ∧ ((stepE wl out x).length = out.length → stepE wl out x = out ∧ (x.l = 0 → x.f ∈ out → x.t ∈ out)) := by
 unfold stepE
 split
 ·rename_i hc
  by_cases ht : x.t ∈ out
  ·rw [H.old h ht]; exact ⟨Nat.le_refl _, fun _ => ⟨rfl, fun _ _ => ht⟩⟩
  ·rw [H.new h ht]; exact ⟨by omega, fun e => by omega⟩
 ·rename_i hc
  exact ⟨Nat.le_refl _, fun _ => ⟨rfl, fun h0 h1 => absurd ⟨h0, h1⟩ hc⟩⟩
theorem roundE_keep : ∀ (es : List A3) {out : List Int}, (∀ x ∈ es, x ∈ ar) → CloI ar l out → CloI ar l (roundE wl es out)
 | [], _, _, h => h
 | x :: es, _, he, h => roundE_keep es (fun y hy => he y (List.mem_cons_of_mem _ hy)) (stepE_keep H h (he x List.mem_cons_self))
theorem roundE_len : ∀ (es : List A3) {out : List Int}, (∀ x ∈ es, x ∈ ar) → CloI ar l out → out.length ≤ (roundE wl es out).length ∧ ((roundE wl es out).length = out.length → roundE wl es out = out ∧ ∀ x ∈ es, x.l = 0 → x.f ∈ out → x.t ∈ out)
 | [], _, _, h => ⟨Nat.le_refl _, fun _ => ⟨rfl, fun x hx => by cases hx⟩⟩
 | x :: es, out, he, h => by
  have h1 := stepE_len H h.1 x
  have h2 := roundE_len es (out := stepE wl out x) (fun y hy => he y (List.mem_cons_of_mem _ hy)) (stepE_keep H h (he x List.mem_cons_self))
  have e : roundE wl (x :: es) out = roundE wl es (stepE wl out x) := rfl
  rw [e]
  refine ⟨Nat.le_trans h1.1 h2.1, fun hl => ?_⟩
  have h3 := h1.2 (by omega)
  rw [h3.1] at h2 ⊢
  have h4 := h2.2 (by rw [h3.1] at hl; exact hl)
  refine ⟨h4.1, fun y hy => ?_⟩
  rcases List.mem_cons.1 hy with rfl | hy
  ·exact h3.2
  ·exact h4.2 y hy
end
section
variable {ar : List A3} {l out : List Int} {n : Int}
theorem CloI.bd (ha : ArcsIn n ar) (hl : Bd n l) (h : CloI ar l out) : Bd n out := fun z hz => clo_bd ha hl (h.2.2 z hz)
theorem CloI.closed (ha : ArcsIn n ar) (hl : Bd n l) (h : CloI ar l out) (hc : ∀ x ∈ ar, x.l = 0 → x.f ∈ out → x.t ∈ out) : out = cloL ar l :=
 cloL_uniq ha hl h.1 fun z => ⟨h.2.2 z, fun hz => hz.least (P := fun z => z ∈ out) h.2.1 hc⟩
theorem CloI.full (ha : ArcsIn n ar) (hl : Bd n l) (h : CloI ar l out) (hf : n ≤ (out.length : Int)) : out = cloL ar l := by
 refine h.closed ha hl fun x hx _ _ => ?_
 have hall : ∀ z : Int, 0 ≤ z → z < n → z ∈ out := by
  intro z h0 h1
  refine Classical.byContradiction fun hz => ?_
  have h2 := (List.nodup_cons.2 ⟨hz, pw_nodup h.1⟩).length_le_of_subset (l₂ := (List.range n.toNat).map Int.ofNat) fun x hx => by
   have : 0 ≤ x ∧ x < n := by
    rcases List.mem_cons.1 hx with rfl | hx
    ·exact ⟨h0, h1⟩
    ·exact h.bd ha hl x hx
   exact List.mem_map.2 ⟨x.toNat, List.mem_range.2 (by omega), by show ((x.toNat : Nat) : Int) = x; omega⟩
  simp only [List.length_cons, List.length_map, List.length_range] at h2
  omega
 exact hall _ (ha.2 x hx).2.1 (ha.2 x hx).2.2
end
/-! The program's queue: the states that are in, as Booleans and as a list. -/
def tdN (os : List Bool) (td : List Int) (n : Nat) : List Int := if gb os n = true then td else td ++ [(n : Int)]
theorem gb_set' {os : List Bool} {n : Nat} (hn : n < os.length) (v : Bool) (i : Nat) : gb (os.set n v) i = if i = n then v else gb os i := by
 by_cases e : i = n
 ·subst e; rw [if_pos rfl]; simp [gb, List.getD, hn]
 ·rw [if_neg e]; simp [gb, List.getD, List.getElem?_set_ne (Ne.symm e)]
structure VisI (ar : List A3) (l : List Int) (n : Int) (os : List Bool) (td : List Int) : Prop where
 len : (os.length : Int) = n
 nd : td.Nodup
 iff : ∀ i : Nat, (i : Int) < n → (gb os i = true ↔ (i : Int) ∈ td)
 rng : ∀ z ∈ td, 0 ≤ z ∧ z < n
 use : ∀ z ∈ td, Clo ar l z
section
variable {ar : List A3} {l : List Int} {n : Int} {os : List Bool} {td : List Int}
theorem VisI.start (h0 : 0 ≤ n) : VisI ar l n (List.replicate n.toNat false) [] := by
 refine ⟨by rw [List.length_replicate]; omega, List.nodup_nil, fun i hi => ?_, fun z hz => by simp at hz, fun z hz => by simp at hz⟩
 have : gb (List.replicate n.toNat false) i = false := by simp [gb, List.getD, show i < n.toNat by omega]
 rw [this]
 simp
theorem VisI.tlen (h : VisI ar l n os td) : td.length ≤ n.toNat := by
 have := h.nd.length_le_of_subset (l₂ := (List.range n.toNat).map Int.ofNat) fun x hx => by
  have := h.rng x hx
  exact List.mem_map.2 ⟨x.toNat, List.mem_range.2 (by omega), by show ((x.toNat : Nat) : Int) = x; omega⟩
 simpa using this
theorem VisI.visit (h : VisI ar l n os td) {m : Nat} (hm : (m : Int) < n) (hu : Clo ar l m) : VisI ar l n (os.set m true) (tdN os td m) := by
 have hl := h.len
 unfold tdN
 by_cases hg : gb os m = true
 ·rw [if_pos hg]
  have e : os.set m true = os := by
   apply List.ext_getElem?
   intro j
   by_cases e : j = m
   ·subst e
    have hj : j < os.length := by omega
    rw [List.getElem?_set_self hj, List.getElem?_eq_getElem hj]
    have : gb os j = os[j] := by simp [gb, List.getD, hj]
    rw [← this, hg]
   ·rw [List.getElem?_set_ne (Ne.symm e)]
  rw [e]; exact h
 ·have hno : (m : Int) ∉ td := fun hh => hg ((h.iff m hm).2 hh)
  rw [if_neg hg]
  refine ⟨by rw [List.length_set]; exact hl, ?_, fun i hi => ?_, fun z hz => ?_, fun z hz => ?_⟩
  ·rw [List.nodup_append]
   refine ⟨h.nd, by simp, fun a ha b hb => ?_⟩
   rw [List.mem_singleton.1 hb]
   rintro rfl
   exact hno ha
  ·rw [gb_set' (by omega), List.mem_append, List.mem_singleton, ← h.iff i hi]
   by_cases e : i = m
   ·subst e; simp
   ·rw [if_neg e]
    exact ⟨.inl, fun h => h.elim id fun e' => absurd (by omega) e⟩
  ·rcases List.mem_append.1 hz with hz | hz
   ·exact h.rng z hz
   ·rw [List.mem_singleton.1 hz]; omega
  ·rcases List.mem_append.1 hz with hz | hz
   ·exact h.use z hz
   ·rw [List.mem_singleton.1 hz]; exact hu
theorem tdN_pre (os : List Bool) (td : List Int) (m : Nat) : td <+: tdN os td m := by
 unfold tdN
 split
 ·exact List.prefix_refl _
 ·exact List.prefix_append _ _
theorem tdN_mem (h : VisI ar l n os td) {m : Nat} (hm : (m : Int) < n) : (m : Int) ∈ tdN os td m := by
 unfold tdN
 split
 ·rename_i hg; exact (h.iff m hm).1 hg
 ·simp
theorem VisI.done (h : VisI ar l n os td) (ha : ArcsIn n ar) (hl : Bd n l) (h0 : ∀ z ∈ l, z ∈ td) (hc : ∀ z ∈ td, ∀ x ∈ ar, x.l = 0 → x.f = z → x.t ∈ td) (z : Int) : z ∈ td ↔ z ∈ cloL ar l := by
 rw [mem_cloL ha hl]
 exact ⟨h.use z, fun hz => hz.least (P := fun z => z ∈ td) h0 fun x hx h1 h2 => hc _ h2 x hx h1 rfl⟩
end
end Go.Proofs.YtofaifeadhimjaaGreatDoor

set_option linter.unusedVariables false
namespace Go.Proofs.YtofaifeadhimjaaGreatDoor

def swA (x : A3) : A3 := ⟨x.t, x.l, x.f⟩
theorem swA_swA (x : A3) : swA (swA x) = x := rfl
def insA : List A3 → A3 → List A3
 | [], x => [x]
 | y :: l, x => if LtN y x then y :: insA l x else if y = x then y :: l else x :: y :: l
theorem mem_insA {x z : A3} : ∀ {l : List A3}, z ∈ insA l x ↔ z ∈ l ∨ z = x
 | [] => by simp [insA]
 | y :: l => by
  unfold insA
  split
  ·rw [List.mem_cons, mem_insA, List.mem_cons, or_assoc]
  ·split
   ·rename_i h1 h2
    subst h2
    simp only [List.mem_cons]
    exact ⟨fun h => .inl h, fun h => h.elim id .inl⟩
   ·simp only [List.mem_cons]
    exact ⟨fun h => h.elim .inr .inl, fun h => h.elim .inr .inl⟩
theorem LtN.tri (x y : A3) : LtN x y ∨ x = y ∨ LtN y x := by
 obtain ⟨a, b, c⟩ := x
 obtain ⟨d, e, f⟩ := y
 unfold LtN
 simp only [A3.mk.injEq]
 omega
theorem insA_sorted {x : A3} : ∀ {l : List A3}, SortedN l → SortedN (insA l x)
 | [], _ => List.pairwise_singleton _ _
 | y :: l, h => by
  have h' := List.pairwise_cons.1 h
  unfold insA
  split
  ·rename_i h1
   refine List.pairwise_cons.2 ⟨fun z hz => ?_, insA_sorted h'.2⟩
   rcases mem_insA.1 hz with hz | rfl
   ·exact h'.1 z hz
   ·exact h1
  ·split
   ·exact h
   ·rename_i h1 h2
    have h3 : LtN x y := by rcases LtN.tri x y with h4 | h4 | h4
                            ·exact h4
                            ·exact absurd h4.symm h2
                            ·exact absurd h4 h1
    refine List.pairwise_cons.2 ⟨fun z hz => ?_, h⟩
    rcases List.mem_cons.1 hz with rfl | hz
    ·exact h3
    ·exact h3.trans (h'.1 z hz)
theorem sortedN_ext : ∀ {xs ys : List A3}, SortedN xs → SortedN ys → (∀ z, z ∈ xs ↔ z ∈ ys) → xs = ys
 | [], [], _, _, _ => rfl
 | [], y :: ys, _, _, h => absurd ((h y).2 List.mem_cons_self) List.not_mem_nil
 | x :: xs, [], _, _, h => absurd ((h x).1 List.mem_cons_self) List.not_mem_nil
 | x :: xs, y :: ys, hx, hy, h => by
  have hx' := List.pairwise_cons.1 hx
  have hy' := List.pairwise_cons.1 hy
  have e : x = y := by
   rcases List.mem_cons.1 ((h x).1 List.mem_cons_self) with h1 | h1
   ·exact h1
   ·rcases List.mem_cons.1 ((h y).2 List.mem_cons_self) with h2 | h2
    ·exact h2.symm
    ·exact absurd ((hy'.1 x h1).trans (hx'.1 y h2)) LtN.irrefl
  subst e
  rw [sortedN_ext hx'.2 hy'.2 fun z => ?_]
  have := h z
  rw [List.mem_cons, List.mem_cons] at this
  constructor
  ·intro hz
   rcases this.1 (.inr hz) with rfl | h1
   ·exact absurd (hx'.1 z hz) LtN.irrefl
   ·exact h1
  ·intro hz
   rcases this.2 (.inr hz) with rfl | h1
   ·exact absurd (hy'.1 z hz) LtN.irrefl
   ·exact h1
def revA (ar : List A3) : List A3 := (ar.map swA).foldl insA []
theorem revA_snoc (ar : List A3) (x : A3) : revA (ar ++ [x]) = insA (revA ar) (swA x) := by unfold revA; simp only [List.map_append, List.map_cons, List.map_nil, List.foldl_append, List.foldl_cons, List.foldl_nil]
theorem revA_facts (ar : List A3) : SortedN (revA ar) ∧ ∀ z, z ∈ revA ar ↔ swA z ∈ ar := by
 obtain ⟨T, hT⟩ : ∃ T, ar.reverse = T := ⟨_, rfl⟩
 obtain rfl : T.reverse = ar := by rw [← hT, List.reverse_reverse]
 clear hT
 induction T with
 | nil => exact ⟨List.Pairwise.nil, fun z => by simp [revA]⟩
 | cons x T ih =>
  rw [List.reverse_cons, revA_snoc]
  refine ⟨insA_sorted ih.1, fun z => ?_⟩
  rw [mem_insA, ih.2, List.mem_append, List.mem_singleton]
  constructor
  ·rintro (h | rfl)
   ·exact .inl h
   ·exact .inr rfl
  ·rintro (h | h)
   ·exact .inl h
   ·exact .inr (by rw [← h]; rfl)
theorem revA_len {ar : List A3} (h : SortedN ar) : (revA ar).length = ar.length := by
 have hn : ∀ {l : List A3}, SortedN l → l.Nodup := fun h => List.Pairwise.imp (fun h e => by subst e; exact LtN.irrefl h) h
 have h1 : (revA ar).Perm (ar.map swA) := by
  refine (List.perm_ext_iff_of_nodup (hn (revA_facts ar).1) ?_).2 fun z => ?_
  ·unfold List.Nodup
   rw [List.pairwise_map]
   exact (hn h).imp fun {x y} h e => h (by rw [← swA_swA x, ← swA_swA y, e])
  ·rw [(revA_facts ar).2, List.mem_map]
   exact ⟨fun h => ⟨swA z, h, rfl⟩, fun ⟨x, hx, e⟩ => by rw [← e]; exact hx⟩
 rw [h1.length_eq, List.length_map]
def finsL (fin : List Bool) (N : Nat) : List Int := ((List.range N).filter fun i => gb fin i).map fun i : Nat => (i : Int)
def boolsL (s : List Int) (N : Nat) : List Bool := (List.range N).map fun i : Nat => decide ((i : Int) ∈ s)
theorem boolsL_len (s : List Int) (N : Nat) : (boolsL s N).length = N := by simp [boolsL]
theorem gb_boolsL {s : List Int} {N i : Nat} (hi : i < N) : gb (boolsL s N) i = decide ((i : Int) ∈ s) := by simp [gb, boolsL, List.getD, hi]
def revN (a : Nfa) : Nfa := ⟨a.n, finsL a.fin a.n.toNat, boolsL a.s a.n.toNat, revA a.arcs⟩
theorem pw_of_steps {l : List Int} (h : ∀ i, 0 < i → i < l.length → gi l (i - 1) < gi l i) : l.Pairwise (· < ·) := by
 have e : ∀ j (hj : j < l.length), gi l j = l[j] := fun j hj => by simp [gi, List.getD, hj]
 have up : ∀ d i, i + (d + 1) < l.length → gi l i < gi l (i + (d + 1)) := by
  intro d
  induction d with
  | zero => intro i hi; have := h (i + 1) (by omega) hi; simpa using this
  | succ d ih =>
   intro i hi
   have h1 := ih i (by omega)
   have h2 := h (i + (d + 1) + 1) (by omega) hi
   rw [show i + (d + 1) + 1 - 1 = i + (d + 1) by omega] at h2
   rw [show i + (d + 1 + 1) = i + (d + 1) + 1 by omega]
   omega
 refine List.pairwise_iff_getElem.2 fun i j hi hj hij => ?_
 have := up (j - i - 1) i (by omega)
 rw [show i + (j - i - 1 + 1) = j by omega, e i hi, e j hj] at this
 exact this
theorem ValidN.startAsc {a : Nfa} (h : ValidN a) : a.s.Pairwise (· < ·) := pw_of_steps fun i h0 hi => (h.2.2.2.1 i hi).2 h0
theorem gi_mem' {l : List Int} {i : Nat} (hi : i < l.length) : gi l i ∈ l := by
 have : gi l i = l[i] := by simp [gi, List.getD, hi]
 rw [this]; exact List.getElem_mem hi
theorem SortedN.step {ar : List A3} (h : SortedN ar) {i : Nat} (h0 : 0 < i) (hi : i < ar.length) : LtN (g3 ar (i - 1)) (g3 ar i) := h.lt (by omega) hi
theorem gb_ext' {xs ys : List Bool} (hl : xs.length = ys.length) (h : ∀ i, i < xs.length → gb xs i = gb ys i) : xs = ys := by
 apply List.ext_getElem hl
 intro i h1 h2
 have := h i h1
 simpa [gb, List.getD, h1, h2] using this
end Go.Proofs.YtofaifeadhimjaaGreatDoor
