/-
  Topological orders and cycles; the condensed graph has none. No walk.
-/
import Derived.Test.YtlogmgkjikamaaaGraCe
import Derived.Test.YtlogmgkjikamaaaGraOr
import Derived.Test.YtlogmgkjikamaaaGraSt
set_option linter.unusedVariables false
namespace Go.Proofs.Ytlogmgkjikamaaa

variable {g : List (List Int)} {N : Nat}
theorem OrdB.topo {out : List Nat} (hE : ∀ a b, GE g a b → a < N ∧ b < N) (h : OrdB g N out) : Topo (GE g) N out := by
  induction h with
  | nil => exact .nil
  | @snoc out i h1 h2 h3 h4 ih => exact .snoc ih h3.1 h2 fun a e => h3.2 a (hE _ _ e).1 e
theorem least_free {out : List Nat} : ∀ n, (∃ i, i < n ∧ Free g N out i) → ∃ i, i < n ∧ Free g N out i ∧ ∀ j, j < i → ¬ Free g N out j
  | 0, h => by obtain ⟨i, hi, -⟩ := h; exact absurd hi (Nat.not_lt_zero _)
  | n + 1, h => by
    by_cases h1 : ∃ i, i < n ∧ Free g N out i
    · obtain ⟨i, h2, h3⟩ := least_free n h1
      exact ⟨i, by omega, h3⟩
    · obtain ⟨i, hi, hf⟩ := h
      have : i = n := by
        rcases Nat.lt_or_ge i n with h2 | h2
        · exact absurd ⟨i, h2, hf⟩ h1
        · omega
      subst this
      exact ⟨i, hi, hf, fun j hj hfj => h1 ⟨j, hj, hfj⟩⟩
theorem OrdB.grow (hE : ∀ a b, GE g a b → a < N ∧ b < N) (ha : ∀ a, ¬ Path (GE g) a a) : ∀ n, n ≤ N → ∃ out, OrdB g N out ∧ out.length = n
  | 0, _ => ⟨[], .nil, rfl⟩
  | n + 1, hn => by
    obtain ⟨out, h1, h2⟩ := OrdB.grow hE ha n (by omega)
    obtain ⟨i, hi, hm, he⟩ := (h1.topo hE).next (by omega) hE ha
    obtain ⟨k, hk, hf, hl⟩ := least_free N ⟨i, hi, hm, fun a _ e => he a e⟩
    exact ⟨out ++ [k], .snoc h1 hk hf hl, by rw [List.length_append, h2]; rfl⟩
theorem ord_ok (hv : ValidG g) (ha : ∀ a, ¬ Path (GE g) a a) : orE g = 0 := by
  obtain ⟨out, h1, h2⟩ := OrdB.grow (GE.both hv) ha g.length (Nat.le_refl _)
  unfold orE
  rw [validGB_yes hv, if_pos rfl, orA_of (.inl ⟨out, rfl, h1, h2⟩)]
theorem ord_bad (hv : ValidG g) (ha : ¬ ∀ a, ¬ Path (GE g) a a) (hx : OrdAns g g.length (orA g)) : orE g = 6 := by
  rcases hx with ⟨o, e, h1, h2⟩ | ⟨e, -⟩
  · exact absurd ((h1.topo (GE.both hv)).acyclic h2 (GE.both hv)) ha
  · unfold orE
    rw [validGB_yes hv, if_pos rfl, e]
theorem Path.rch {E : Nat → Nat → Prop} {a b : Nat} (h : Path E a b) : Rch E a b := by
  induction h with
  | one e => exact .one e
  | cons e _ ih => exact .cons e ih
theorem Rch.path {E : Nat → Nat → Prop} {a b c : Nat} (h : Rch E b c) (e : E a b) : Path E a c := by
  have key : ∀ {n b c}, RchN E n b c → ∀ {a}, E a b → Path E a c := by
    intro n b c h
    induction h with
    | zero => intro a e; exact .one e
    | cons e' _ ih => intro a e; exact .cons e (ih e')
  obtain ⟨n, hn⟩ := h.num
  exact key hn e
/-- An edge between components. -/
theorem cond_edge (hv : ValidG g) {A Y : Nat} (h : GE (condG g) A Y) : ∃ x y, x < g.length ∧ y < g.length ∧ GE g x y ∧ ix (both (GE g)) x = A ∧ ix (both (GE g)) y = Y ∧ A ≠ Y := by
  have h := (graphE_edge.1 h).2.2
  obtain ⟨r, hr, z, hz, hne, e⟩ := mem_ceTo.1 (prB_iff.1 h)
  have hb := (hv.2 _ (gr_mem hr)).2 z hz
  injection e with e1 e2
  have e1 : A = ix (both (GE g)) r := by omega
  have e2 : Y = ix (both (GE g)) z.toNat := by omega
  refine ⟨r, z.toNat, hr, by omega, ?_, e1.symm, e2.symm, by rw [e1, e2]; exact hne⟩
  unfold GE
  rwa [show ((z.toNat : Nat) : Int) = z by omega]
theorem cond_path (hv : ValidG g) {A B : Nat} (h : Path (GE (condG g)) A B) : ∀ x y, x < g.length → y < g.length → ix (both (GE g)) x = A → ix (both (GE g)) y = B → Rch (GE g) x y := by
  have hq := eqv_both (GE g)
  induction h with
  | one e =>
    intro x y hx hy ex ey
    obtain ⟨x', y', hx', hy', e', h1, h2, -⟩ := cond_edge hv e
    have b1 := (both_iff.1 (ix_inj hq (i := x) (j := x') (by rw [ex, h1]))).1
    have b2 := (both_iff.1 (ix_inj hq (i := y') (j := y) (by rw [ey, h2]))).1
    exact b1.trans (.cons e' b2)
  | @cons a b c e _ ih =>
    intro x y hx hy ex ey
    obtain ⟨x', y', hx', hy', e', h1, h2, -⟩ := cond_edge hv e
    have b1 := (both_iff.1 (ix_inj hq (i := x) (j := x') (by rw [ex, h1]))).1
    exact b1.trans (.cons e' (ih y' y hy' hy h2 ey))
theorem cond_acyclic (hv : ValidG g) : ∀ A, ¬ Path (GE (condG g)) A A := fun A h => by
  have hq := eqv_both (GE g)
  have key : ∃ Y, GE (condG g) A Y ∧ (Y = A ∨ Path (GE (condG g)) Y A) := by
    cases h with
    | one e => exact ⟨A, e, .inl rfl⟩
    | cons e p => exact ⟨_, e, .inr p⟩
  obtain ⟨Y, e, hY⟩ := key
  obtain ⟨x, y, hx, hy, exy, h1, h2, hne⟩ := cond_edge hv e
  rcases hY with rfl | hp
  · exact hne rfl
  · have hr := cond_path hv hp y x hy hx h2 h1
    exact hne (by rw [← h1, ← h2]; exact ix_same hq (both_iff.2 ⟨.one exy, hr⟩))
theorem condG_valid (hv : ValidG g) : ValidG (condG g) := graphE_valid (by have := compG_le g; have := hv.1; omega) _
/-- Every component is one node, and no node is its own successor. -/
def SingleG (g : List (List Int)) : Prop := (∀ i, i < (compG g).length → (gr (compG g) i).length = 1) ∧ ∀ i, i < g.length → (i : Int) ∉ gr g i
theorem single_of (hv : ValidG g) (h : SingleG g) : ∀ a, ¬ Path (GE g) a a := fun a hp => by
  have key : ∃ b, GE g a b ∧ Rch (GE g) b a := by
    cases hp with
    | one e => exact ⟨a, e, .refl a⟩
    | cons e p => exact ⟨_, e, p.rch⟩
  obtain ⟨b, e, hr⟩ := key
  have hl := e.lt hv
  by_cases hab : a = b
  · subst hab; exact h.2 a hl.1 e
  · have hq := eqv_both (GE g)
    have hi := ix_lt hq hl.1
    rw [← compG_length] at hi
    have m1 := (comp_mem hi hl.1).2 rfl
    have m2 := (comp_mem hi hl.2).2 (ix_same hq (both_iff.2 ⟨hr, .one e⟩))
    have h1 := h.1 _ hi
    obtain ⟨z, hz⟩ := List.length_eq_one_iff.1 h1
    rw [hz, List.mem_singleton] at m1 m2
    omega
theorem of_single (hv : ValidG g) (h : ∀ a, ¬ Path (GE g) a a) : SingleG g := by
  have hq := eqv_both (GE g)
  refine ⟨fun i hi => ?_, fun i hi hm => h i (.one hm)⟩
  have hi' : i < (rts (both (GE g)) g.length).length := by rw [← compG_length]; exact hi
  have hr := mem_rts.1 (List.getElem_mem hi')
  have hrow := comp_row hi'
  have hin : (((rts (both (GE g)) g.length)[i] : Nat) : Int) ∈ gr (compG g) i := by rw [hrow]; exact mem_memb.2 ⟨_, hr.1, hq.rf _, rfl⟩
  have hnd : (gr (compG g) i).Nodup := by rw [hrow]; exact (memb_asc _ _ _).nodup
  have hall : ∀ z ∈ gr (compG g) i, z = (((rts (both (GE g)) g.length)[i] : Nat) : Int) := fun z hz => by
    rw [hrow] at hz
    obtain ⟨y, hy, hs, rfl⟩ := mem_memb.1 hz
    obtain ⟨b1, b2⟩ := both_iff.1 hs
    rcases b1.first with e | ⟨c, e1, e2⟩
    · rw [e]
    · exact absurd ((e2.trans b2).path e1) (h _)
  cases hl : gr (compG g) i with
  | nil => rw [hl] at hin; cases hin
  | cons z l =>
    cases l with
    | nil => rfl
    | cons z' l =>
      rw [hl] at hall hnd
      have h1 := hall z (by simp)
      have h2 := hall z' (by simp)
      have := List.nodup_cons.1 hnd
      exact absurd (by rw [h1, h2]; simp) this.1
theorem ord_single (hv : ValidG g) (hx : OrdAns g g.length (orA g)) (b : Bool) (hb : b = true ↔ SingleG g) : (orE g == 0) = b := by
  cases b with
  | true => rw [ord_ok hv (single_of hv (hb.1 rfl))]; rfl
  | false =>
    rw [ord_bad hv (fun h => by have := hb.2 (of_single hv h); cases this) hx]; rfl
/-- Path succeeds where the end is reachable. -/
theorem pt_zero (hv : ValidG g) {x y : Nat} (hx : x < g.length) (hy : y < g.length) : (ptE g (x : Int) (y : Int) = 0 ∧ Rch (GE g) x y) ∨ (ptE g (x : Int) (y : Int) = 8 ∧ ¬ Rch (GE g) x y) := by
  have hd := dsR_exists (checkV_one hv hx)
  have hiff := hd.2.reach_iff (GE.both hv) (fun s hs => by rw [List.mem_singleton] at hs; omega) hy
  by_cases h : 0 ≤ gi (dsR g [(x : Int)]) y
  · obtain ⟨m, hm⟩ := Int.eq_ofNat_of_zero_le h
    obtain ⟨s, hs, hr⟩ := hiff.1 h
    have : s = x := by rw [List.mem_singleton] at hs; omega
    rw [this] at hr
    exact .inl ⟨(pt_some hv hx hy hm).1, hr⟩
  · exact .inr ⟨(pt_none hv hx hy (by omega)).1, fun hr => h (hiff.2 ⟨x, by simp, hr⟩)⟩
/-- The numbers of the components while they are gone through: all else is -1. -/
def OfAll (f : Nat → Nat) (N : Nat) (l : List Int) (i j : Nat) (d : Nat → Int) : Prop := ∀ x : Nat, x < N → ((f x < i ∨ (f x = i ∧ (x : Int) ∈ l.take j)) → d x = (f x : Int)) ∧ (¬ (f x < i ∨ (f x = i ∧ (x : Int) ∈ l.take j)) → d x = -1)
theorem OfAll.start {f : Nat → Nat} {l : List Int} {d : Nat → Int} (h : ∀ x, x < N → d x = -1) : OfAll f N l 0 0 d := fun x hx => by
  refine ⟨fun hu => ?_, fun _ => h x hx⟩
  rcases hu with hu | ⟨-, hu⟩
  · exact absurd hu (Nat.not_lt_zero _)
  · rw [List.take_zero] at hu; cases hu
theorem OfAll.fresh {f : Nat → Nat} {l : List Int} {i j y : Nat} {d : Nat → Int} (h : OfAll f N l i j d) (hj : j < l.length) (ha : Asc l) (hy : gi l j = (y : Int)) (hyN : y < N) (hf : f y = i) : d y = -1 := (h y hyN).2 fun hu => by
  rcases hu with hu | ⟨-, hu⟩
  · omega
  · obtain ⟨k, hk, e⟩ := List.getElem_of_mem hu
    rw [List.length_take] at hk
    rw [List.getElem_take] at e
    have := List.pairwise_iff_getElem.1 ha k j (by omega) hj (by omega)
    rw [gi_eq _ j hj] at hy
    omega
theorem OfAll.step {f : Nat → Nat} {l : List Int} {i j y : Nat} {d d' : Nat → Int} (h : OfAll f N l i j d) (hj : j < l.length) (hy : gi l j = (y : Int)) (hf : f y = i) (hd : ∀ n, n < N → d' n = if n = y then (i : Int) else d n) : OfAll f N l i (j + 1) d' := fun x hx => by
  rw [hd x hx]
  have hm : (x : Int) ∈ l.take (j + 1) ↔ (x : Int) ∈ l.take j ∨ x = y := by
    rw [take_succ_gi l j hj, List.mem_append, List.mem_singleton, hy]
    exact or_congr_right (by omega)
  rw [hm]
  by_cases e : x = y
  · rw [if_pos e]
    refine ⟨fun _ => by rw [e, hf], fun h' => absurd (.inr ⟨by rw [e, hf], .inr e⟩) h'⟩
  · rw [if_neg e]
    exact ⟨fun hu => (h x hx).1 (hu.imp id fun hu => ⟨hu.1, hu.2.resolve_right e⟩), fun hu => (h x hx).2 fun hu' => hu (hu'.imp id fun h' => ⟨h'.1, .inl h'.2⟩)⟩
theorem OfAll.next {f : Nat → Nat} {l l' : List Int} {i j : Nat} {d : Nat → Int} (h : OfAll f N l i j d) (hj : l.length ≤ j) (hm : ∀ x : Nat, x < N → ((x : Int) ∈ l ↔ f x = i)) : OfAll f N l' (i + 1) 0 d := fun x hx => by
  have h1 := h x hx
  rw [List.take_of_length_le hj] at h1
  have e : (f x < i ∨ (f x = i ∧ (x : Int) ∈ l)) ↔ f x < i + 1 := by
    rw [hm x hx]; omega
  rw [e] at h1
  refine ⟨fun hu => h1.1 ?_, fun hu => h1.2 fun h' => hu (.inl h')⟩
  rcases hu with hu | ⟨-, hu⟩
  · exact hu
  · rw [List.take_zero] at hu; cases hu
end Go.Proofs.Ytlogmgkjikamaaa
