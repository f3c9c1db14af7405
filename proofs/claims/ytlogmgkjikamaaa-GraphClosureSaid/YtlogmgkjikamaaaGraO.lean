/-
  Components by a second search; their numbers; sets of nodes as lists. No walk.
-/
import Derived.Test.YtlogmgkjikamaaaGraN
set_option linter.unusedVariables false
namespace Go.Proofs.Ytlogmgkjikamaaa

structure Kos (E : Nat → Nat → Prop) (N : Nat) (out : List Nat) (p n : Nat) (cl : Nat → Int) : Prop where
  rng : ∀ x, x < N → -1 ≤ cl x ∧ cl x < n
  roots : ∀ j, p ≤ j → j < out.length → 0 ≤ cl (nq out j)
  pre : ∀ x y, E x y → 0 ≤ cl y → 0 ≤ cl x
  same : ∀ x y, x < N → y < N → 0 ≤ cl x → 0 ≤ cl y → (cl x = cl y ↔ Rch E x y ∧ Rch E y x)
  sur : ∀ c : Nat, c < n → ∃ x, x < N ∧ cl x = c
structure KosIn (E : Nat → Nat → Prop) (N n r : Nat) (cl0 : Nat → Int) (pend : Nat → Nat → Prop) (cl : Nat → Int) (todo : List Nat) : Prop where
  old : ∀ x, x < N → 0 ≤ cl0 x → cl x = cl0 x
  new : ∀ x, x < N → cl0 x < 0 → cl x = -1 ∨ (cl x = n ∧ Rch E x r)
  root : cl r = n
  tod : ∀ x, x ∈ todo → x < N ∧ cl x = n
  closed : ∀ y, y < N → cl y = n → y ∈ todo ∨ ∀ x, E x y → ¬ pend x y → 0 ≤ cl x

section
variable {E : Nat → Nat → Prop} {N n r p : Nat} {out : List Nat} {cl cl0 cl' : Nat → Int} {pend pend' : Nat → Nat → Prop} {todo : List Nat}
theorem Kos.start (E : Nat → Nat → Prop) {N : Nat} {out : List Nat} {cl : Nat → Int} (hE : ∀ a b, E a b → a < N ∧ b < N) (h : ∀ x, x < N → cl x = -1) : Kos E N out out.length 0 cl where
  rng x hx := by rw [h x hx]; omega
  roots j h1 h2 := by omega
  pre x y e hy := by rw [h y (hE _ _ e).2] at hy; omega
  same x y hx hy h1 h2 := by rw [h x hx] at h1; omega
  sur c hc := by omega
theorem Kos.skip (k : Kos E N out (p + 1) n cl) (h : 0 ≤ cl (nq out p)) : Kos E N out p n cl :=
  { k with roots := fun j h1 h2 => by
            by_cases e : j = p
            · rw [e]; exact h
            · exact k.roots j (by omega) h2 }
theorem KosIn.start (k : Kos E N out (p + 1) n cl0) (hr : r < N) (h : cl0 r < 0) (hcl : ∀ x, x < N → cl x = if x = r then (n : Int) else cl0 x) : KosIn E N n r cl0 (fun _ _ => False) cl [r] where
  old x hx h0 := by rw [hcl x hx, if_neg (fun e => by rw [e] at h0; omega)]
  new x hx h0 := by
    rw [hcl x hx]
    split
    · rename_i e; exact .inr ⟨rfl, by rw [e]; exact .refl _⟩
    · have := (k.rng x hx).1; exact .inl (by omega)
  root := by rw [hcl r hr, if_pos rfl]
  tod x hx := by rw [List.mem_singleton.1 hx]; exact ⟨hr, by rw [hcl r hr, if_pos rfl]⟩
  closed y hy h0 := by
    rw [hcl y hy] at h0
    split at h0
    · rename_i e; exact .inl (by rw [e]; exact List.mem_singleton.2 rfl)
    · have := (k.rng y hy).2; omega
theorem KosIn.pop {t : List Nat} {a : Nat} (b : KosIn E N n r cl0 (fun _ _ => False) cl (t ++ [a])) : KosIn E N n r cl0 (fun _ y => y = a) cl t :=
  { b with tod := fun x hx => b.tod x (List.mem_append_left _ hx)
           closed := fun y hy h0 => by
            rcases b.closed y hy h0 with h | h
            · rcases List.mem_append.1 h with h | h
              · exact .inl h
              · exact .inr fun x e hn => absurd (List.mem_singleton.1 h) hn
            · exact .inr fun x e _ => h x e (fun f => f) }
theorem KosIn.see_old (b : KosIn E N n r cl0 pend cl todo) {x0 : Nat} (h : 0 ≤ cl x0) (hp : ∀ x y, pend x y → pend' x y ∨ x = x0) : KosIn E N n r cl0 pend' cl todo :=
  { b with closed := fun y hy h0 => (b.closed y hy h0).imp id fun h1 x e hn => by
            by_cases hx : x = x0
            · rw [hx]; exact h
            · exact h1 x e fun hpd => (hp x y hpd).elim hn hx }
theorem KosIn.see_new (b : KosIn E N n r cl0 pend cl todo) {x0 a : Nat} (hx0 : x0 < N) (ha : cl a = n) (haN : a < N) (hn0 : ∀ x, x < N → cl0 x < n) (he : E x0 a) (h : cl x0 < 0) (hcl : ∀ x, x < N → cl' x = if x = x0 then (n : Int) else cl x) (hE : ∀ a b, E a b → a < N ∧ b < N) (hp : ∀ x y, pend x y → pend' x y ∨ x = x0) : KosIn E N n r cl0 pend' cl' (todo ++ [x0]) := by
  have keep : ∀ x, x < N → 0 ≤ cl x → cl' x = cl x := fun x hx h1 => by rw [hcl x hx, if_neg (fun e => by rw [e] at h1; omega)]
  have hpos : ∀ x, x < N → 0 ≤ cl x → 0 ≤ cl' x := fun x hx h1 => by rw [keep x hx h1]; exact h1
  have h0x : cl0 x0 < 0 := by
    refine Int.lt_of_not_ge fun h1 => ?_
    have := b.old x0 hx0 h1; omega
  have har : Rch E a r := by
    by_cases h1 : 0 ≤ cl0 a
    · have := b.old a haN h1; have := hn0 a haN; omega
    · rcases b.new a haN (by omega) with h2 | h2
      · omega
      · exact h2.2
  have hroot : r < N ∨ ¬ r < N := by omega
  refine ⟨fun x hx h1 => ?_, fun x hx h1 => ?_, ?_, fun x hx => ?_, fun y hy h1 => ?_⟩
  · have := b.old x hx h1
    rw [keep x hx (by omega)]; exact this
  · rw [hcl x hx]
    split
    · rename_i e; exact .inr ⟨rfl, by rw [e]; exact .cons he har⟩
    · exact b.new x hx h1
  · by_cases hr : r < N
    · rw [keep r hr (by rw [b.root]; omega)]; exact b.root
    · exfalso
      rcases har.num with ⟨m, hm⟩
      cases hm with
      | zero => exact hr haN
      | cons e hm' =>
        have := hm'.rch
        cases this with
        | refl => exact hr (hE _ _ e).2
        | snoc _ e' => exact hr (hE _ _ e').2
  · rcases List.mem_append.1 hx with h1 | h1
    · have := b.tod x h1
      exact ⟨this.1, by rw [keep x this.1 (by omega)]; exact this.2⟩
    · rw [List.mem_singleton.1 h1]
      exact ⟨hx0, by rw [hcl x0 hx0, if_pos rfl]⟩
  · rw [hcl y hy] at h1
    split at h1
    · rename_i e; exact .inl (by rw [e]; exact List.mem_append_right _ (List.mem_singleton.2 rfl))
    · rcases b.closed y hy h1 with h2 | h2
      · exact .inl (List.mem_append_left _ h2)
      · refine .inr fun x e hn => ?_
        by_cases hx : x = x0
        · rw [hx, hcl x0 hx0, if_pos rfl]; omega
        · exact hpos x (hE _ _ e).1 (h2 x e fun hpd => (hp x y hpd).elim hn hx)
theorem KosIn.done (b : KosIn E N n r cl0 pend cl todo) (hp : ∀ x y, E x y → ¬ pend x y) : KosIn E N n r cl0 (fun _ _ => False) cl todo :=
  { b with closed := fun y hy h0 => (b.closed y hy h0).imp id fun h1 x e _ => h1 x e (hp x y e) }
theorem Kos.next (k : Kos E N out (p + 1) n cl0) (hE : ∀ a b, E a b → a < N ∧ b < N) (hF : FinP E out) (hnd : out.Nodup) (hmem : ∀ x, x ∈ out ↔ x < N) (hp : p < out.length) (h0 : cl0 (nq out p) < 0) (b : KosIn E N n (nq out p) cl0 (fun _ _ => False) cl []) : Kos E N out p (n + 1) cl := by
  have hrN : nq out p < N := (hmem _).1 (nq_mem hp)
  have cases3 : ∀ x, x < N → (0 ≤ cl0 x ∧ cl x = cl0 x ∧ cl x < n) ∨ (cl0 x < 0 ∧ cl x = -1) ∨ (cl0 x < 0 ∧ cl x = n ∧ Rch E x (nq out p)) := fun x hx => by
    by_cases h : 0 ≤ cl0 x
    · have e := b.old x hx h
      have := (k.rng x hx).2
      exact .inl ⟨h, e, by omega⟩
    · rcases b.new x hx (by omega) with h1 | h1
      · exact .inr (.inl ⟨by omega, h1⟩)
      · exact .inr (.inr ⟨by omega, h1⟩)
  have hcls : ∀ x y, E x y → cl y = n → 0 ≤ cl x := fun x y e hy => by
    rcases b.closed y (hE _ _ e).2 hy with h | h
    · cases h
    · exact h x e (fun f => f)
  have hback : ∀ x, x < N → cl x = n → Rch E (nq out p) x ∧ Rch E x (nq out p) := fun x hx e => by
    rcases cases3 x hx with h | h | h
    · omega
    · omega
    · refine ⟨?_, h.2.2⟩
      obtain ⟨m, hm⟩ := h.2.2.num
      refine kos (A := fun x => 0 ≤ cl0 x ∨ ¬ x < N) hF hnd hp (fun x => ?_) (fun j h1 h2 => .inl (k.roots j (by omega) h2)) (fun x y e hy => ?_) m x hm (fun hc => ?_)
      · by_cases hx : x < N
        · exact .inl ((hmem x).2 hx)
        · exact .inr (.inr hx)
      · rcases hy with hy | hy
        · exact .inl (k.pre x y e hy)
        · exact absurd (hE _ _ e).2 hy
      · rcases hc with hc | hc
        · omega
        · exact hc hx
  have pre0 : ∀ x y, Rch E x y → 0 ≤ cl0 y → 0 ≤ cl0 x := fun x y h hy => closed_rch (A := fun x => 0 ≤ cl0 x) k.pre h hy
  refine ⟨fun x hx => ?_, fun j h1 h2 => ?_, fun x y e hy => ?_, fun x y hx hy h1 h2 => ?_, fun c hc => ?_⟩
  · have := (k.rng x hx).1
    rcases cases3 x hx with h | h | h <;> omega
  · by_cases e : j = p
    · rw [e, b.root]; omega
    · have h3 := k.roots j (by omega) h2
      rw [b.old _ ((hmem _).1 (nq_mem h2)) h3]; exact h3
  · rcases cases3 y (hE _ _ e).2 with h | h | h
    · have := k.pre x y e h.1
      rw [b.old x (hE _ _ e).1 this]; exact this
    · omega
    · exact hcls x y e h.2.1
  · rcases cases3 x hx with hx' | hx' | hx'
    · rcases cases3 y hy with hy' | hy' | hy'
      · rw [hx'.2.1, hy'.2.1]; exact k.same x y hx hy hx'.1 hy'.1
      · omega
      · constructor
        · intro e; omega
        · rintro ⟨h3, h4⟩
          have := pre0 _ _ h4 hx'.1
          omega
    · omega
    · rcases cases3 y hy with hy' | hy' | hy'
      · constructor
        · intro e; omega
        · rintro ⟨h3, h4⟩
          have := pre0 _ _ h3 hy'.1
          omega
      · omega
      · have a1 := hback x hx hx'.2.1
        have a2 := hback y hy hy'.2.1
        rw [hx'.2.1, hy'.2.1]
        exact ⟨fun _ => ⟨a1.2.trans a2.1, a2.2.trans a1.1⟩, fun _ => rfl⟩
  · rcases Nat.lt_or_ge c n with h | h
    · obtain ⟨x, hx, e⟩ := k.sur c h
      exact ⟨x, hx, by rw [b.old x hx (by omega)]; exact e⟩
    · exact ⟨_, hrN, by rw [b.root]; omega⟩
end

/-- In one component. -/
def Both (E : Nat → Nat → Prop) (x y : Nat) : Prop := Rch E x y ∧ Rch E y x
open Classical in
noncomputable def both (E : Nat → Nat → Prop) (x y : Nat) : Bool := decide (Both E x y)
open Classical in
theorem both_iff {E : Nat → Nat → Prop} {x y : Nat} : both E x y = true ↔ Both E x y := by unfold both; exact decide_eq_true_iff
structure Eqv (sm : Nat → Nat → Bool) : Prop where
  rf : ∀ x, sm x x = true
  sy : ∀ x y, sm x y = true → sm y x = true
  tr : ∀ x y z, sm x y = true → sm y z = true → sm x z = true
theorem eqv_both (E : Nat → Nat → Prop) : Eqv (both E) where
  rf x := both_iff.2 ⟨.refl _, .refl _⟩
  sy x y h := both_iff.2 (both_iff.1 h).symm
  tr x y z h h' := both_iff.2 ⟨(both_iff.1 h).1.trans (both_iff.1 h').1, (both_iff.1 h').2.trans (both_iff.1 h).2⟩

/-- The nodes below k that are the least of their kind. -/
def rts (sm : Nat → Nat → Bool) (k : Nat) : List Nat := (List.range k).filter fun i => (List.range i).all fun j => !sm j i
def IsRt (sm : Nat → Nat → Bool) (i : Nat) : Prop := ∀ j, j < i → sm j i = false
theorem isRt_iff {sm : Nat → Nat → Bool} {i : Nat} : ((List.range i).all fun j => !sm j i) = true ↔ IsRt sm i := by
  simp [IsRt, List.all_eq_true]
theorem rts_yes {sm : Nat → Nat → Bool} {k : Nat} (h : IsRt sm k) : rts sm (k + 1) = rts sm k ++ [k] := by
  unfold rts
  rw [List.range_succ, List.filter_append, List.filter_cons, if_pos (isRt_iff.2 h), List.filter_nil]
theorem rts_no {sm : Nat → Nat → Bool} {k : Nat} (h : ¬ IsRt sm k) : rts sm (k + 1) = rts sm k := by
  unfold rts
  rw [List.range_succ, List.filter_append, List.filter_cons, if_neg (fun h1 => h (isRt_iff.1 h1)), List.filter_nil, List.append_nil]
theorem mem_rts {sm : Nat → Nat → Bool} {k i : Nat} : i ∈ rts sm k ↔ i < k ∧ IsRt sm i := by
  unfold rts
  rw [List.mem_filter, List.mem_range, isRt_iff]
theorem rts_len (sm : Nat → Nat → Bool) (k : Nat) : (rts sm k).length ≤ k := by
  have := List.length_filter_le (fun i => (List.range i).all fun j => !sm j i) (List.range k)
  rwa [List.length_range] at this
theorem rts_at {sm : Nat → Nat → Bool} {r : Nat} (h : IsRt sm r) : ∀ k, r < k → (rts sm k)[(rts sm r).length]? = some r
  | 0, hk => absurd hk (Nat.not_lt_zero _)
  | k + 1, hk => by
    by_cases hr : r = k
    · subst hr
      rw [rts_yes h]
      simp
    · have ih := rts_at h k (by omega)
      by_cases hk' : IsRt sm k
      · rw [rts_yes hk', List.getElem?_append_left (by exact (List.getElem?_eq_some_iff.1 ih).1)]
        exact ih
      · rw [rts_no hk']; exact ih
/-- The least of a node's kind. -/
def rt (sm : Nat → Nat → Bool) (i : Nat) : Nat := ((List.range (i + 1)).find? fun j => sm j i).getD 0
theorem rt_spec {sm : Nat → Nat → Bool} (h : Eqv sm) (i : Nat) : rt sm i ≤ i ∧ sm (rt sm i) i = true ∧ IsRt sm (rt sm i) := by
  have : ∃ r, (List.range (i + 1)).find? (fun j => sm j i) = some r := by
    cases hf : (List.range (i + 1)).find? (fun j => sm j i) with
    | some r => exact ⟨r, rfl⟩
    | none =>
      have := List.find?_eq_none.1 hf i (List.mem_range.2 (by omega))
      rw [h.rf] at this
      exact absurd rfl this
  obtain ⟨r, hr⟩ := this
  have e : rt sm i = r := by unfold rt; rw [hr]; rfl
  rw [e]
  have h1 := List.find?_some hr
  have h2 := List.mem_range.1 (List.mem_of_find?_eq_some hr)
  refine ⟨by omega, h1, fun j hj => ?_⟩
  obtain ⟨-, az, bs, h3, h4⟩ := List.find?_eq_some_iff_append.1 hr
  refine Bool.eq_false_iff.2 fun hc => ?_
  have hja : j ∈ az := by
    have hp : (List.range (i + 1)).Pairwise (· < ·) := List.pairwise_lt_range
    have hj : j ∈ List.range (i + 1) := List.mem_range.2 (by omega)
    rw [h3] at hp hj
    rcases List.mem_append.1 hj with h5 | h5
    · exact h5
    · rcases List.mem_cons.1 h5 with h5 | h5
      · omega
      · have := (List.pairwise_cons.1 (List.pairwise_append.1 hp).2.1).1 j h5
        omega
  have := h4 j hja
  rw [h.tr _ _ _ hc h1] at this
  simp at this
theorem rt_eq {sm : Nat → Nat → Bool} (h : Eqv sm) {i r : Nat} (h1 : sm r i = true) (h2 : IsRt sm r) : rt sm i = r := by
  obtain ⟨-, h3, h4⟩ := rt_spec h i
  have e1 : sm (rt sm i) r = true := h.tr _ _ _ h3 (h.sy _ _ h1)
  rcases Nat.lt_trichotomy (rt sm i) r with h5 | h5 | h5
  · have := h2 _ h5; rw [e1] at this; cases this
  · exact h5
  · have := h4 _ h5; rw [h.sy _ _ e1] at this; cases this
theorem rt_same {sm : Nat → Nat → Bool} (h : Eqv sm) {i j : Nat} (hij : sm i j = true) : rt sm i = rt sm j :=
  (rt_eq h (h.tr _ _ _ (rt_spec h i).2.1 hij) (rt_spec h i).2.2).symm
theorem rt_self {sm : Nat → Nat → Bool} (h : Eqv sm) {i : Nat} (hi : IsRt sm i) : rt sm i = i := rt_eq h (h.rf i) hi
theorem rt_lt {sm : Nat → Nat → Bool} (h : Eqv sm) {i : Nat} (hi : ¬ IsRt sm i) : rt sm i < i := by
  have h1 := rt_spec h i
  refine Nat.lt_of_le_of_ne h1.1 fun e => hi ?_
  rw [e] at h1
  exact h1.2.2
/-- The number of a node's component. -/
def ix (sm : Nat → Nat → Bool) (i : Nat) : Nat := (rts sm (rt sm i)).length
theorem ix_same {sm : Nat → Nat → Bool} (h : Eqv sm) {i j : Nat} (hij : sm i j = true) : ix sm i = ix sm j := by unfold ix; rw [rt_same h hij]
theorem ix_at {sm : Nat → Nat → Bool} (h : Eqv sm) {i k : Nat} (hk : i < k) : (rts sm k)[ix sm i]? = some (rt sm i) := rts_at (rt_spec h i).2.2 k (by have := (rt_spec h i).1; omega)
theorem ix_lt {sm : Nat → Nat → Bool} (h : Eqv sm) {i k : Nat} (hk : i < k) : ix sm i < (rts sm k).length := (List.getElem?_eq_some_iff.1 (ix_at h hk)).1
theorem ix_inj {sm : Nat → Nat → Bool} (h : Eqv sm) {i j : Nat} (e : ix sm i = ix sm j) : sm i j = true := by
  have h1 := ix_at h (i := i) (k := max i j + 1) (by omega)
  have h2 := ix_at h (i := j) (k := max i j + 1) (by omega)
  rw [e, h2] at h1
  have : rt sm j = rt sm i := Option.some.inj h1
  have a := (rt_spec h i).2.1
  have b := (rt_spec h j).2.1
  rw [this] at b
  exact h.tr _ _ _ (h.sy _ _ a) b
theorem ix_new {sm : Nat → Nat → Bool} (h : Eqv sm) {k : Nat} (hk : IsRt sm k) : ix sm k = (rts sm k).length := by unfold ix; rw [rt_self h hk]

/-- The members below m, as numbers. -/
def memb (sm : Nat → Nat → Bool) (m r : Nat) : List Int := ((List.range m).filter (sm r)).map Int.ofNat
/-- The components whose least nodes are below k, with their nodes below m. -/
def cmps (sm : Nat → Nat → Bool) (m k : Nat) : List (List Int) := (rts sm k).map (memb sm m)
theorem memb_succ (sm : Nat → Nat → Bool) (m r : Nat) : memb sm (m + 1) r = memb sm m r ++ if sm r m = true then [(m : Int)] else [] := by
  unfold memb
  rw [List.range_succ, List.filter_append, List.map_append]
  by_cases h : sm r m = true <;> simp [h]
theorem cmps_length (sm : Nat → Nat → Bool) (m k : Nat) : (cmps sm m k).length = (rts sm k).length := by simp [cmps]
theorem memb_asc (sm : Nat → Nat → Bool) (m r : Nat) : Asc (memb sm m r) := by
  unfold memb Asc
  rw [List.pairwise_map]
  refine (List.Pairwise.filter _ List.pairwise_lt_range).imp ?_
  intro a b h
  show (a : Int) < b
  omega
theorem mem_memb {sm : Nat → Nat → Bool} {m r : Nat} {z : Int} : z ∈ memb sm m r ↔ ∃ i, i < m ∧ sm r i = true ∧ z = (i : Int) := by
  unfold memb
  rw [List.mem_map]
  constructor
  · rintro ⟨i, hi, rfl⟩
    rw [List.mem_filter, List.mem_range] at hi
    exact ⟨i, hi.1, hi.2, rfl⟩
  · rintro ⟨i, h1, h2, rfl⟩
    exact ⟨i, List.mem_filter.2 ⟨List.mem_range.2 h1, h2⟩, rfl⟩
theorem memb_len (sm : Nat → Nat → Bool) (m r : Nat) : (memb sm m r).length ≤ m := by
  unfold memb
  rw [List.length_map]
  have := List.length_filter_le (sm r) (List.range m)
  rwa [List.length_range] at this
/-- One node more: the row of its component gets it. -/
theorem cmps_row {sm : Nat → Nat → Bool} (h : Eqv sm) {k : Nat} (i : Nat) (hi : i < (rts sm (k + 1)).length) : gr (cmps sm (k + 1) (k + 1)) i = (if i < (rts sm k).length then gr (cmps sm k k) i else []) ++ if i = ix sm k then [(k : Int)] else [] := by
  have e1 : gr (cmps sm (k + 1) (k + 1)) i = memb sm (k + 1) ((rts sm (k + 1))[i]) := by
    rw [gr_eq _ _ (by rw [cmps_length]; exact hi)]
    simp [cmps]
  have hx := List.getElem?_eq_some_iff.1 (ix_at h (i := k) (k := k + 1) (by omega))
  obtain ⟨hx1, hx2⟩ := hx
  have hroot := (mem_rts.1 (List.getElem_mem hi)).2
  have cond : sm ((rts sm (k + 1))[i]) k = true ↔ i = ix sm k := by
    constructor
    · intro hs
      have h2 := rt_eq h hs hroot
      have h3 := rts_at hroot (k + 1) (mem_rts.1 (List.getElem_mem hi)).1
      have hnd : (rts sm (k + 1)).Nodup := (List.nodup_range).filter _
      have h4 := List.getElem?_eq_some_iff.1 h3
      obtain ⟨h5, h6⟩ := h4
      have : i = (rts sm ((rts sm (k + 1))[i])).length := by
        have a1 := hnd.idxOf_getElem i hi
        have a2 := hnd.idxOf_getElem _ h5
        rw [h6] at a2
        omega
      rw [this]
      unfold ix
      rw [h2]
    · rintro rfl
      rw [hx2]
      exact (rt_spec h k).2.1
  rw [e1, memb_succ]
  congr 1
  · by_cases hik : i < (rts sm k).length
    · rw [if_pos hik, gr_eq _ _ (by rw [cmps_length]; exact hik)]
      simp only [cmps, List.getElem_map]
      congr 1
      by_cases hk : IsRt sm k
      · simp only [rts_yes hk]
        rw [List.getElem_append_left hik]
      · simp only [rts_no hk]
    · rw [if_neg hik]
      have hk : IsRt sm k := Classical.byContradiction fun hk => by rw [rts_no hk] at hi; exact hik hi
      have hlen : (rts sm (k + 1)).length = (rts sm k).length + 1 := by rw [rts_yes hk]; simp
      have hi2 : i = (rts sm k).length := by omega
      subst hi2
      have : (rts sm (k + 1))[(rts sm k).length] = k := by simp only [rts_yes hk]; simp
      rw [this]
      refine List.eq_nil_iff_forall_not_mem.2 fun z hz => ?_
      obtain ⟨j, h1, h2, -⟩ := mem_memb.1 hz
      have := hk j h1
      rw [h.sy _ _ h2] at this
      cases this
  · by_cases hc : i = ix sm k
    · rw [if_pos hc, if_pos (cond.2 hc)]
    · rw [if_neg hc, if_neg (fun h1 => hc (cond.1 h1))]
end Go.Proofs.Ytlogmgkjikamaaa
