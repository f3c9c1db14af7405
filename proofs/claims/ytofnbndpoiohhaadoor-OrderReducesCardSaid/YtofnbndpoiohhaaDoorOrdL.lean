/-
  Linear extensions step by step: beginnings are cuts, neighbours exchanged. No walk.
-/
import Derived.Test.YtofnbndpoiohhaaDoorOrderStrictW
set_option linter.unusedVariables false
namespace Go.Proofs.YtofnbndpoiohhaaDoor
open Go.RowKit Go.Shelf

variable {n : Int} {es : List (Int × Int)}

def OkS (n : Int) (es : List (Int × Int)) (p : List Int) (x : Int) : Prop := InRng n p x ∧ PreIn es p x.toNat
def Steps (n : Int) (es : List (Int × Int)) : List Int → List Int → Prop
  | _, [] => True
  | p, x :: R => OkS n es p x ∧ Steps n es (p ++ [x]) R
theorem OkS.congr {p q : List Int} (h : ∀ z, z ∈ p ↔ z ∈ q) {x : Int} : OkS n es p x → OkS n es q x :=
  fun ⟨⟨h1, h2⟩, h3⟩ => ⟨⟨h1, fun hm => h2 ((h _).2 hm)⟩, fun a pa => (h _).1 (h3 a pa)⟩
theorem Steps.congr : ∀ (R p q : List Int), (∀ z, z ∈ p ↔ z ∈ q) → Steps n es p R → Steps n es q R
  | [], _, _, _, _ => trivial
  | x :: R, p, q, h, ⟨h1, h2⟩ => ⟨h1.congr h, Steps.congr R _ _ (fun z => by rw [List.mem_append, List.mem_append, h z]) h2⟩
theorem steps_append : ∀ (A p B : List Int), Steps n es p (A ++ B) ↔ Steps n es p A ∧ Steps n es (p ++ A) B
  | [], p, B => by rw [List.nil_append, List.append_nil]; exact ⟨fun h => ⟨trivial, h⟩, fun h => h.2⟩
  | x :: A, p, B => by
    show OkS n es p x ∧ Steps n es (p ++ [x]) (A ++ B) ↔ (OkS n es p x ∧ Steps n es (p ++ [x]) A) ∧ Steps n es (p ++ (x :: A)) B
    rw [steps_append A, show p ++ [x] ++ A = p ++ (x :: A) by simp, and_assoc]
theorem steps_iff : ∀ (R p : List Int), Steps n es p R ↔ ∀ k, k < R.length → OkS n es (p ++ R.take k) (gi R k)
  | [], p => ⟨fun _ k h => absurd h (Nat.not_lt_zero _), fun _ => trivial⟩
  | x :: R, p => by
    show OkS n es p x ∧ Steps n es (p ++ [x]) R ↔ _
    rw [steps_iff R]
    have e : ∀ k, p ++ [x] ++ R.take k = p ++ (x :: R).take (k + 1) := fun k => by simp
    constructor
    · rintro ⟨h1, h2⟩ k hk
      cases k with
      | zero => rw [List.take_zero, List.append_nil]; exact h1
      | succ k =>
        have := h2 k (by simpa using hk)
        rw [e] at this
        exact this
    · intro h
      refine ⟨?_, fun k hk => ?_⟩
      · have := h 0 (Nat.succ_pos _)
        rw [List.take_zero, List.append_nil] at this
        exact this
      · rw [e]
        exact h (k + 1) (by simpa using hk)
theorem linP_iff {l : List Int} : LinP n es l ↔ ValidO n es ∧ (l.length : Int) = n ∧ Steps n es [] l := by
  unfold LinP
  rw [steps_iff]
  simp only [List.nil_append]
  exact Iff.rfl
theorem mem_ofNat {l : List Nat} {x : Nat} : (x : Int) ∈ l.map Int.ofNat ↔ x ∈ l := by
  constructor
  · intro h
    obtain ⟨y, hy, e⟩ := List.mem_map.1 h
    have : y = x := Int.ofNat_inj.1 e
    rw [← this]; exact hy
  · exact fun h => List.mem_map.2 ⟨x, h, rfl⟩
theorem kl_steps {N : Nat} {ls : List Nat} (h : KL (Ed es) N ls) : Steps N es [] (ls.map Int.ofNat) := by
  induction h with
  | nil => trivial
  | @snoc l x hk h1 h2 h3 h4 ih =>
    rw [List.map_append, steps_append]
    refine ⟨ih, ⟨⟨⟨?_, ?_⟩, fun a pa => ?_⟩, trivial⟩⟩
    · show 0 ≤ (x : Int) ∧ (x : Int) < N
      omega
    · rw [List.nil_append]
      exact fun hm => h1 (mem_ofNat.1 hm)
    · rw [List.nil_append]
      refine mem_ofNat.2 ?_
      rcases Path.last (c := x) pa with e | ⟨b, p, e⟩
      · exact h3 a e
      · exact (hk.topo.path p (h3 b e)).1
theorem kl_lin {N : Nat} {ls : List Nat} (hv : ValidO N es) (h : KL (Ed es) N ls) (hl : ls.length = N) : linB N es (ls.map Int.ofNat) = true :=
  linB_yes (linP_iff.2 ⟨hv, by rw [List.length_map, hl], kl_steps h⟩)
theorem steps_cut {l : List Int} (hv : ValidO n es) (h : Steps n es [] l) (i : Nat) : cutB n es (l.take i) = true := by
  have hs := (steps_iff l []).1 h
  simp only [List.nil_append] at hs
  refine cutB_yes ⟨hv, fun k hk => ?_, fun k hk => ?_⟩
  · have hk' : k < i ∧ k < l.length := by rw [List.length_take] at hk; omega
    rw [List.take_take, Nat.min_eq_left (by omega), gi_take _ _ _ hk'.1]
    exact (hs k hk'.2).1
  · have hk' : k < i ∧ k < l.length := by rw [List.length_take] at hk; omega
    rw [gi_take _ _ _ hk'.1]
    intro a pa
    have := (hs k hk'.2).2 a pa
    rw [show l.take k = (l.take i).take k by rw [List.take_take, Nat.min_eq_left (by omega)]] at this
    exact List.mem_of_mem_take this
theorem gi_mem_take (l : List Int) {k i : Nat} (h : k < i) (hi : k < l.length) : gi l k ∈ l.take i := by
  have := gi_mem (l.take i) k (by rw [List.length_take]; omega)
  rwa [gi_take _ _ _ h] at this
theorem steps_ne {l : List Int} (h : Steps n es [] l) {k i : Nat} (hk : k < i) (hi : i < l.length) : gi l i ≠ gi l k ∧ beforeB n es (gi l i) (gi l k) = false := by
  have hs := (steps_iff l []).1 h
  simp only [List.nil_append] at hs
  have h1 := hs i hi
  have h2 := hs k (by omega)
  refine ⟨fun e => h1.1.2 (by rw [e]; exact gi_mem_take l hk (by omega)), Bool.eq_false_iff.2 fun hb => ?_⟩
  have := h2.2 _ (before_path hb)
  rw [Int.toNat_of_nonneg h1.1.1.1] at this
  refine h1.1.2 ?_
  rw [show l.take k = (l.take i).take k by rw [List.take_take, Nat.min_eq_left (by omega)]] at this
  exact List.mem_of_mem_take this
theorem swap_split {l : List Int} {i : Nat} (hi : i + 1 < l.length) : l = l.take i ++ gi l i :: gi l (i + 1) :: l.drop (i + 2) ∧
    (l.set i (gi l (i + 1))).set (i + 1) (gi l i) = l.take i ++ gi l (i + 1) :: gi l i :: l.drop (i + 2) := by
  have h1 : l = l.take i ++ gi l i :: gi l (i + 1) :: l.drop (i + 2) := by
    conv => lhs; rw [← List.take_append_drop i l, drop_gi l i (by omega), drop_gi l (i + 1) (by omega)]
  refine ⟨h1, ?_⟩
  obtain ⟨P, hP⟩ : ∃ P, l.take i = P := ⟨_, rfl⟩
  obtain ⟨x, hx⟩ : ∃ x, gi l i = x := ⟨_, rfl⟩
  obtain ⟨y, hy⟩ : ∃ y, gi l (i + 1) = y := ⟨_, rfl⟩
  obtain ⟨R, hR⟩ : ∃ R, l.drop (i + 2) = R := ⟨_, rfl⟩
  have hl : P.length = i := by rw [← hP, List.length_take]; omega
  rw [hP, hx, hy, hR] at h1
  rw [hP, hx, hy, hR, h1, ← hl]
  rw [List.set_append_right _ _ (Nat.le_refl _), Nat.sub_self, List.set_cons_zero, List.set_append_right _ _ (by omega), show P.length + 1 - P.length = 1 by omega, List.set_cons_succ, List.set_cons_zero]
open Classical in
theorem swap_lin {l : List Int} (hv : ValidO n es) (h : Steps n es [] l) (hl : (l.length : Int) = n) {i : Nat} (hi : i + 1 < l.length) :
    linB n es ((l.set i (gi l (i + 1))).set (i + 1) (gi l i)) = !beforeB n es (gi l i) (gi l (i + 1)) := by
  obtain ⟨e1, e2⟩ := swap_split hi
  have hlen : ((l.set i (gi l (i + 1))).set (i + 1) (gi l i)).length = l.length := by simp
  rw [e2] at hlen ⊢
  rw [e1] at h
  generalize l.take i = P at *
  generalize gi l i = x at *
  generalize gi l (i + 1) = y at *
  generalize l.drop (i + 2) = R at *
  rw [steps_append, List.nil_append] at h
  obtain ⟨s1, oa, ob, sR⟩ := h
  cases hb : beforeB n es x y with
  | true =>
    rw [linB_no]
    · rfl
    intro hL
    have h2 := (linP_iff.1 hL).2.2
    rw [steps_append, List.nil_append] at h2
    have h3 := h2.2.1.2 _ (before_path hb)
    rw [Int.toNat_of_nonneg oa.1.1.1] at h3
    exact oa.1.2 h3
  | false =>
    have hnp : ¬ Path (Ed es) x.toNat y.toNat := fun p => by
      have : beforeB n es x y = true := by
        unfold beforeB
        exact decide_eq_true ⟨hv, ⟨oa.1.1, ob.1.1⟩, p⟩
      rw [hb] at this
      cases this
    have hyx : y ∉ P ∧ y ≠ x := by
      have := ob.1.2
      rw [List.mem_append, List.mem_singleton] at this
      exact ⟨fun h => this (.inl h), fun h => this (.inr h)⟩
    rw [linB_yes]
    · rfl
    refine linP_iff.2 ⟨hv, by rw [hlen]; exact hl, ?_⟩
    rw [steps_append, List.nil_append]
    refine ⟨s1, ⟨⟨ob.1.1, hyx.1⟩, fun a pa => ?_⟩, ⟨⟨oa.1.1, ?_⟩, fun a pa => List.mem_append_left _ (oa.2 a pa)⟩, Steps.congr R _ _ (fun z => ?_) sR⟩
    · rcases List.mem_append.1 (ob.2 a pa) with hm | hm
      · exact hm
      · exfalso
        rw [List.mem_singleton] at hm
        refine hnp ?_
        rw [← hm, Int.toNat_natCast]
        exact pa
    · rw [List.mem_append, List.mem_singleton]
      exact fun hh => hh.elim oa.1.2 fun e => hyx.2 e.symm
    · simp only [List.mem_append, List.mem_singleton]
      constructor
      · rintro ((h | h) | h)
        · exact .inl (.inl h)
        · exact .inr h
        · exact .inl (.inr h)
      · rintro ((h | h) | h)
        · exact .inl (.inl h)
        · exact .inr h
        · exact .inl (.inr h)
end Go.Proofs.YtofnbndpoiohhaaDoor
