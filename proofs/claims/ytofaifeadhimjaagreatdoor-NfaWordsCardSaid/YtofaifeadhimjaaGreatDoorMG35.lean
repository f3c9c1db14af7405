import Derived.Test.YtofaifeadhimjaaGreatDoorMG17
import Derived.Test.YtofaifeadhimjaaGreatDoorMG20
import Derived.Test.YtofaifeadhimjaaGreatDoorMG34
/-
  NfaRc, NfaRp
-/
set_option linter.unusedSimpArgs false
set_option linter.unusedVariables false
namespace Go.Proofs.YtofaifeadhimjaaGreatDoor
open Go.RowKit
attribute [local go_sem] Oper.semAt_some

theorem with_law : WithLaw Bt.withL where
 asc := fun l n h => by
  rw [Bt.withL_asc n l h]
  refine List.pairwise_append.2 ⟨h.filter _, List.pairwise_cons.2 ⟨fun x hx => ?_, h.filter _⟩, fun x hx y hy => ?_⟩
  ·have := (List.mem_filter.1 hx).2; simpa using this
  ·have h1 : x < n := by have := (List.mem_filter.1 hx).2; simpa using this
   rcases List.mem_cons.1 hy with e | hy
   ·rw [e]; exact h1
   ·have h2 : n < y := by have := (List.mem_filter.1 hy).2; simpa using this
    omega
 mem := fun l n z h => by
  rw [Bt.withL_asc n l h, List.mem_append, List.mem_cons, List.mem_filter, List.mem_filter]
  simp only [decide_eq_true_eq]
  constructor
  ·rintro (h1 | h1 | h1)
   ·exact .inl h1.1
   ·exact .inr h1
   ·exact .inl h1.1
  ·rintro (h1 | h1)
   ·rcases Int.lt_trichotomy z n with h2 | h2 | h2
    ·exact .inl ⟨h1, h2⟩
    ·exact .inr (.inl h2)
    ·exact .inr (.inr ⟨h1, h2⟩)
   ·exact .inr (.inl h1)
def GivesI (l : List Int) (w : World) (e : Ending) (w' : World) : Prop := (∃ a c, e = .returned (.slice a l.length c) ∧ IsInts .i64 w' a l.length c l) ∧ Below w.heap.size w w'
theorem with_any {a : Option Addr} {len cap : Nat} {xs : List Int} (n : Int) {w : World} (hs : IsInts .i64 w a len cap xs) (hl : len ≤ 1000000) : Calls Tryz.prog 52 #[.slice a len cap, .int .i64 n] w (GivesI (Bt.withL xs n) w) := by
 refine (Bt.refWith_any a len cap xs n w hs hl).mono ?_
 rintro e w' ⟨a3, n3, c3, rfl, ho, hb⟩
 have h1 := (IsInts.of_owns ho).1
 have h2 : (Bt.withL xs n).length = n3 := h1.length
 subst h2
 exact ⟨⟨a3, c3, rfl, h1⟩, hb⟩
theorem sortW_take {l : List Int} {k : Nat} (hk : k < l.length) : sortW Bt.withL (l.take (k + 1)) = Bt.withL (sortW Bt.withL (l.take k)) (gi l k) := by
 unfold sortW
 rw [List.take_add_one, List.getElem?_eq_getElem hk, Option.toList_some, List.foldl_append, gi_eq _ _ hk]
 rfl
theorem sortW_len (l : List Int) (k : Nat) (hk : k ≤ l.length) : (sortW Bt.withL (l.take k)).length ≤ k := by
 induction k with
 | zero => simp [sortW]
 | succ k ih =>
  rw [sortW_take (by omega)]
  have h1 := ih (by omega)
  have h2 := Bt.withL_len (sortW Bt.withL (l.take k)) (gi l k)
  omega
end Go.Proofs.YtofaifeadhimjaaGreatDoor

set_option linter.unusedSimpArgs false
set_option linter.unusedVariables false
namespace Go.Proofs.YtofaifeadhimjaaGreatDoor
open Go.RowKit
attribute [local go_sem] Oper.semAt_some

def stO1 (S : List Int) (c : Int) (o : List Int) (x : A3) : List Int := if 0 < c ∧ x.l = c ∧ x.f ∈ S then Bt.withL o x.t else o
def stO (S : List Int) (c : Int) (es : List A3) : List Int := es.foldl (stO1 S c) []
theorem stO_take {S : List Int} {c : Int} {es : List A3} {k : Nat} (hk : k < es.length) : stO S c (es.take (k + 1)) = stO1 S c (stO S c (es.take k)) (g3 es k) := by
 unfold stO
 rw [List.take_add_one, List.getElem?_eq_getElem hk, Option.toList_some, List.foldl_append, g3_eq _ _ hk]
 rfl
theorem stO_facts (S : List Int) (c : Int) (es : List A3) : ∀ k, k ≤ es.length → (stO S c (es.take k)).Pairwise (· < ·) ∧ (∀ z, z ∈ stO S c (es.take k) ↔ z ∈ tgtL (es.take k) S c) ∧ (stO S c (es.take k)).length ≤ k
 | 0, _ => ⟨by simp [stO], fun z => by simp [stO, tgtL], by simp [stO]⟩
 | k + 1, hk => by
  obtain ⟨h1, h2, h3⟩ := stO_facts S c es k (by omega)
  have hlt : k < es.length := by omega
  have ht : ∀ z, z ∈ tgtL (es.take (k + 1)) S c ↔ z ∈ tgtL (es.take k) S c ∨ ((0 < c ∧ (g3 es k).l = c ∧ (g3 es k).f ∈ S) ∧ (g3 es k).t = z) := fun z => by
   rw [mem_tgtL, mem_tgtL, List.take_add_one, List.getElem?_eq_getElem hlt, Option.toList_some, ← g3_eq _ _ hlt]
   constructor
   ·rintro ⟨hc, x, hx, e1, e2, e3⟩
    rcases List.mem_append.1 hx with hx | hx
    ·exact .inl ⟨hc, x, hx, e1, e2, e3⟩
    ·rw [List.mem_singleton.1 hx] at e1 e2 e3
     exact .inr ⟨⟨hc, e1, e2⟩, e3⟩
   ·rintro (⟨hc, x, hx, e⟩ | ⟨⟨hc, e1, e2⟩, e3⟩)
    ·exact ⟨hc, x, List.mem_append_left _ hx, e⟩
    ·exact ⟨hc, _, List.mem_append_right _ (List.mem_singleton.2 rfl), e1, e2, e3⟩
  rw [stO_take hlt]
  unfold stO1
  by_cases hc : 0 < c ∧ (g3 es k).l = c ∧ (g3 es k).f ∈ S
  ·rw [if_pos hc]
   refine ⟨with_law.asc _ _ h1, fun z => ?_, ?_⟩
   ·rw [with_law.mem _ _ _ h1, h2, ht]
    constructor
    ·rintro (h | h)
     ·exact .inl h
     ·exact .inr ⟨hc, h.symm⟩
    ·rintro (h | h)
     ·exact .inl h
     ·exact .inr h.2.symm
   ·have := Bt.withL_len (stO S c (es.take k)) (g3 es k).t
    omega
  ·rw [if_neg hc]
   refine ⟨h1, fun z => ?_, by omega⟩
   rw [h2, ht]
   constructor
   ·exact .inl
   ·rintro (h | h)
    ·exact h
    ·exact absurd h.1 hc
theorem stO_clo {n : Int} {es : List A3} (ha : ArcsIn n es) (S : List Int) (c : Int) : cloL es (stO S c es) = movL es S c ∧ Bd n (stO S c es) := by
 have h := stO_facts S c es es.length (Nat.le_refl _)
 rw [List.take_length] at h
 exact ⟨by unfold movL; exact cloL_mems h.2.1, fun z hz => tgtL_bd ha S c z ((h.2.1 z).1 hz)⟩
end Go.Proofs.YtofaifeadhimjaaGreatDoor
