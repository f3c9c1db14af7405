/-
  The least topological order. No walk.
-/
import Derived.Test.YtlogmgkjikamaaaGraM
set_option linter.unusedVariables false
namespace Go.Proofs.Ytlogmgkjikamaaa

/-- All that lead to a node are out. -/
def Free (g : List (List Int)) (N : Nat) (out : List Nat) (i : Nat) : Prop := i ∉ out ∧ ∀ m, m < N → GE g m i → m ∈ out
/-- A beginning of the least topological order. -/
inductive OrdB (g : List (List Int)) (N : Nat) : List Nat → Prop
  | nil : OrdB g N []
  | snoc {out : List Nat} {i : Nat} : OrdB g N out → i < N → Free g N out i → (∀ j, j < i → ¬ Free g N out j) → OrdB g N (out ++ [i])
/-- No node is free, though not all are out. -/
def OrdStop (g : List (List Int)) (N : Nat) (out : List Nat) : Prop := out.length < N ∧ ∀ i, i < N → ¬ Free g N out i
theorem OrdB.mem {g : List (List Int)} {N : Nat} {out : List Nat} (h : OrdB g N out) : out.Nodup ∧ ∀ i, i ∈ out → i < N := by
  induction h with
  | nil => exact ⟨List.nodup_nil, fun i h => by cases h⟩
  | @snoc out i h1 h2 h3 h4 ih =>
    refine ⟨List.nodup_append.2 ⟨ih.1, List.pairwise_singleton _ _, fun a ha b hb e => ?_⟩, fun x hx => ?_⟩
    · rw [List.mem_singleton.1 hb] at e
      exact h3.1 (e ▸ ha)
    · rcases List.mem_append.1 hx with h | h
      · exact ih.2 x h
      · rw [List.mem_singleton.1 h]; exact h2
/-- Two beginnings of one length are alike. -/
theorem OrdB.uniq {g : List (List Int)} {N : Nat} : ∀ (n : Nat) {a b : List Nat}, OrdB g N a → OrdB g N b → a.length = n → b.length = n → a = b
  | 0, a, b, _, _, h1, h2 => by rw [List.eq_nil_of_length_eq_zero h1, List.eq_nil_of_length_eq_zero h2]
  | n + 1, _, _, .nil, _, h1, _ => by cases h1
  | n + 1, _, _, .snoc _ _ _ _, .nil, _, h2 => by cases h2
  | n + 1, _, _, .snoc (out := x) (i := i) p1 p2 p3 p4, .snoc (out := y) (i := k) q1 q2 q3 q4, h1, h2 => by
    rw [List.length_append, List.length_singleton] at h1 h2
    have e := OrdB.uniq n p1 q1 (by omega) (by omega)
    subst e
    have : i = k := by
      rcases Nat.lt_trichotomy i k with h | h | h
      · exact absurd p3 (q4 i h)
      · exact h
      · exact absurd q3 (p4 k h)
    rw [this]

/-- How many numbers below N have a property. -/
def cntP (p : Nat → Bool) : Nat → Nat
  | 0 => 0
  | N + 1 => cntP p N + if p N = true then 1 else 0
theorem cntP_congr {p q : Nat → Bool} : ∀ N, (∀ m, m < N → p m = q m) → cntP p N = cntP q N
  | 0, _ => rfl
  | N + 1, h => by
    unfold cntP
    rw [cntP_congr N (fun m hm => h m (by omega)), h N (Nat.lt_succ_self N)]
theorem cntP_drop {p q : Nat → Bool} {i : Nat} (hp : p i = true) (hq : q i = false) : ∀ N, i < N → (∀ m, m < N → m ≠ i → p m = q m) → cntP p N = cntP q N + 1
  | 0, hi, _ => absurd hi (Nat.not_lt_zero _)
  | N + 1, hi, h => by
    unfold cntP
    by_cases e : i = N
    · subst e
      rw [cntP_congr i (fun m hm => h m (by omega) (by omega)), hp, hq]
      simp
    · rw [cntP_drop hp hq N (by omega) (fun m hm => h m (by omega)), h N (Nat.lt_succ_self N) (fun e2 => e e2.symm)]
      omega
theorem cntP_zero {p : Nat → Bool} : ∀ N, cntP p N = 0 ↔ ∀ m, m < N → p m = false
  | 0 => ⟨fun _ m hm => absurd hm (Nat.not_lt_zero _), fun _ => rfl⟩
  | N + 1 => by
    unfold cntP
    constructor
    · intro h m hm
      rcases Nat.lt_or_ge m N with h1 | h1
      · exact (cntP_zero N).1 (by omega) m h1
      · obtain rfl : m = N := by omega
        by_cases e : p m = true
        · rw [if_pos e] at h; omega
        · exact Bool.eq_false_iff.2 e
    · intro h
      rw [(cntP_zero N).2 (fun m hm => h m (by omega)), h N (Nat.lt_succ_self N)]
      simp
theorem cntP_le (p : Nat → Bool) : ∀ N, cntP p N ≤ N
  | 0 => Nat.le_refl _
  | N + 1 => by
    unfold cntP
    have := cntP_le p N
    split <;> omega
open Classical in
/-- The nodes that lead to a node and are not out. -/
noncomputable def ahd (g : List (List Int)) (out : List Nat) (n m : Nat) : Bool := decide (m ∉ out ∧ GE g m n)
open Classical in
theorem ahd_iff {g : List (List Int)} {out : List Nat} {n m : Nat} : ahd g out n m = true ↔ m ∉ out ∧ GE g m n := by unfold ahd; exact decide_eq_true_iff
theorem free_iff {g : List (List Int)} {N : Nat} {out : List Nat} {i : Nat} : Free g N out i ↔ i ∉ out ∧ cntP (ahd g out i) N = 0 := by
  rw [cntP_zero]
  unfold Free
  refine and_congr_right fun _ => ⟨fun h m hm => Bool.eq_false_iff.2 fun e => ?_, fun h m hm e => Classical.byContradiction fun hn => ?_⟩
  · have := ahd_iff.1 e
    exact this.1 (h m hm this.2)
  · have := h m hm
    rw [ahd_iff.2 ⟨hn, e⟩] at this
    cases this

theorem ahd_other {g : List (List Int)} {out : List Nat} {i n m : Nat} (h : m ≠ i ∨ ¬ GE g i n) : ahd g (out ++ [i]) n m = ahd g out n m := by
  rw [Bool.eq_iff_iff, ahd_iff, ahd_iff, List.mem_append, List.mem_singleton]
  constructor
  · rintro ⟨h1, h2⟩
    exact ⟨fun h3 => h1 (.inl h3), h2⟩
  · rintro ⟨h1, h2⟩
    refine ⟨fun h3 => h3.elim h1 fun e => ?_, h2⟩
    rcases h with h | h
    · exact h e
    · rw [e] at h2; exact h h2
/-- One node goes out: the counts of its successors fall. -/
theorem cnt_yes {g : List (List Int)} {N : Nat} {out : List Nat} {i n : Nat} (hi : i < N) (ho : i ∉ out) (h : GE g i n) : cntP (ahd g out n) N = cntP (ahd g (out ++ [i]) n) N + 1 :=
  cntP_drop (ahd_iff.2 ⟨ho, h⟩) (Bool.eq_false_iff.2 fun e => (ahd_iff.1 e).1 (List.mem_append_right _ (List.mem_singleton.2 rfl))) N hi fun m _ hm => (ahd_other (.inl hm)).symm
theorem cnt_no {g : List (List Int)} {N : Nat} {out : List Nat} {i n : Nat} (h : ¬ GE g i n) : cntP (ahd g (out ++ [i]) n) N = cntP (ahd g out n) N :=
  cntP_congr N fun m _ => ahd_other (.inr h)
theorem OrdB.len {g : List (List Int)} {N : Nat} {out : List Nat} (h : OrdB g N out) : out.length ≤ N := by
  have := nodup_sub_length out (List.range N) h.mem.1 fun x hx => List.mem_range.2 (h.mem.2 x hx)
  rwa [List.length_range] at this
theorem OrdB.all {g : List (List Int)} {N : Nat} {out : List Nat} (h : OrdB g N out) (hl : out.length = N) : ∀ i, i < N → i ∈ out := by
  intro i hi
  refine Classical.byContradiction fun hn => ?_
  have := nodup_sub_length (i :: out) (List.range N) (List.nodup_cons.2 ⟨hn, h.mem.1⟩) fun x hx => List.mem_range.2 (by
    rcases List.mem_cons.1 hx with e | e
    · rw [e]; exact hi
    · exact h.mem.2 x e)
  rw [List.length_range, List.length_cons] at this
  omega
/-- A beginning is told by its length: an order that goes on passes through the one that stopped. -/
theorem OrdB.pre {g : List (List Int)} {N : Nat} {out : List Nat} (h : OrdB g N out) : ∀ m, m < out.length → ∃ p i, p.length = m ∧ OrdB g N p ∧ i < N ∧ Free g N p i := by
  induction h with
  | nil => intro m hm; exact absurd hm (Nat.not_lt_zero _)
  | @snoc out i h1 h2 h3 h4 ih =>
    intro m hm
    rw [List.length_append, List.length_singleton] at hm
    rcases Nat.lt_or_ge m out.length with h | h
    · exact ih m h
    · exact ⟨out, i, by omega, h1, h2, h3⟩
theorem OrdB.stop_len {g : List (List Int)} {N : Nat} {out out' : List Nat} (h : OrdB g N out) (h' : OrdB g N out') (hs : OrdStop g N out') : out.length ≤ out'.length := by
  refine Nat.le_of_not_lt fun hlt => ?_
  obtain ⟨p, i, h1, h2, h3, h4⟩ := h.pre _ hlt
  have := OrdB.uniq _ h2 h' h1 rfl
  subst this
  exact hs.2 i h3 h4
/-- What an order comes to: the least topological order, or none. -/
def OrdAns (g : List (List Int)) (N : Nat) (r : Option (List Nat)) : Prop := (∃ out, r = some out ∧ OrdB g N out ∧ out.length = N) ∨ (r = none ∧ ∃ out, OrdB g N out ∧ OrdStop g N out)
theorem OrdAns.uniq {g : List (List Int)} {N : Nat} {r r' : Option (List Nat)} (h : OrdAns g N r) (h' : OrdAns g N r') : r = r' := by
  rcases h with ⟨o, rfl, h1, h2⟩ | ⟨rfl, o, h1, h2⟩ <;> rcases h' with ⟨o', rfl, h1', h2'⟩ | ⟨rfl, o', h1', h2'⟩
  · rw [OrdB.uniq _ h1 h1' h2 h2']
  · have := h1.stop_len h1' h2'
    have := h2'.1
    omega
  · have := h1'.stop_len h1 h2
    have := h2.1
    omega
  · rfl
/-! The counts as numbers. -/
/-- The numbers that Order keeps: -1 for what is out, else how many are ahead. -/
def AheadIs (g : List (List Int)) (N : Nat) (out : List Nat) (d : Nat → Int) : Prop := ∀ n, n < N → (n ∈ out → d n = -1) ∧ (n ∉ out → d n = (cntP (ahd g out n) N : Int))
theorem AheadIs.free {g : List (List Int)} {N : Nat} {out : List Nat} {d : Nat → Int} (h : AheadIs g N out d) {n : Nat} (hn : n < N) : d n = 0 ↔ Free g N out n := by
  rw [free_iff]
  constructor
  · intro e
    refine ⟨fun hm => ?_, ?_⟩
    · have := (h n hn).1 hm
      omega
    · by_cases hm : n ∈ out
      · have := (h n hn).1 hm; omega
      · have := (h n hn).2 hm; omega
  · rintro ⟨h1, h2⟩
    rw [(h n hn).2 h1, h2]; rfl
open Classical in
/-- The first counts, row by row. -/
noncomputable def ptsTo (g : List (List Int)) (n m : Nat) : Bool := decide (GE g m n)
open Classical in
theorem ptsTo_iff {g : List (List Int)} {n m : Nat} : ptsTo g n m = true ↔ GE g m n := by unfold ptsTo; exact decide_eq_true_iff
theorem AheadIs.start {g : List (List Int)} {N : Nat} {d : Nat → Int} (h : ∀ n, n < N → d n = (cntP (ptsTo g n) N : Int)) : AheadIs g N [] d := fun n hn => by
  refine ⟨fun h => (by cases h), fun _ => ?_⟩
  rw [h n hn]
  have := cntP_congr (p := ptsTo g n) (q := ahd g [] n) N fun m _ => by
    rw [Bool.eq_iff_iff, ptsTo_iff, ahd_iff]
    exact ⟨fun h => ⟨by simp, h⟩, fun h => h.2⟩
  rw [this]
theorem not_take {g : List (List Int)} {i j x : Nat} (hj : j < (gr g i).length) (ha : Asc (gr g i)) (hx : gi (gr g i) j = (x : Int)) : (x : Int) ∉ (gr g i).take j := fun hm => by
  obtain ⟨k, hk, e⟩ := List.getElem_of_mem hm
  rw [List.length_take] at hk
  rw [List.getElem_take] at e
  have := List.pairwise_iff_getElem.1 ha k j (by omega) hj (by omega)
  rw [gi_eq _ j hj] at hx
  omega
theorem take_more {g : List (List Int)} {i j x : Nat} (hj : j < (gr g i).length) (hx : gi (gr g i) j = (x : Int)) (n : Nat) : (n : Int) ∈ (gr g i).take (j + 1) ↔ (n : Int) ∈ (gr g i).take j ∨ n = x := by
  rw [take_succ_gi _ j hj, List.mem_append, List.mem_singleton, hx]
  exact or_congr_right (by omega)
/-- While the row of node i is gone through: the first j of it are counted. -/
def CntAt (g : List (List Int)) (N i j : Nat) (d : Nat → Int) : Prop := ∀ n, n < N → ((n : Int) ∈ (gr g i).take j → d n = (cntP (ptsTo g n) i : Int) + 1) ∧ ((n : Int) ∉ (gr g i).take j → d n = (cntP (ptsTo g n) i : Int))
theorem CntAt.zero {g : List (List Int)} {N i : Nat} {d : Nat → Int} (h : ∀ n, n < N → d n = (cntP (ptsTo g n) i : Int)) : CntAt g N i 0 d := fun n hn =>
  ⟨fun h => (by rw [List.take_zero] at h; cases h), fun _ => h n hn⟩
theorem CntAt.step {g : List (List Int)} {N i j x : Nat} {d d' : Nat → Int} (h : CntAt g N i j d) (hj : j < (gr g i).length) (ha : Asc (gr g i)) (hx : gi (gr g i) j = (x : Int)) (hd : ∀ n, n < N → d' n = if n = x then d x + 1 else d n) (hxN : x < N) : CntAt g N i (j + 1) d' := fun n hn => by
  rw [hd n hn, take_more hj hx]
  by_cases e : n = x
  · subst e
    rw [if_pos rfl, (h n hn).2 (not_take hj ha hx)]
    exact ⟨fun _ => rfl, fun h => absurd (.inr rfl) h⟩
  · rw [if_neg e]
    exact ⟨fun h' => (h n hn).1 (h'.resolve_right e), fun h' => (h n hn).2 fun hm => h' (.inl hm)⟩
theorem CntAt.next {g : List (List Int)} {N i j : Nat} {d : Nat → Int} (h : CntAt g N i j d) (hj : (gr g i).length ≤ j) : ∀ n, n < N → d n = (cntP (ptsTo g n) (i + 1) : Int) := fun n hn => by
  have h1 := h n hn
  rw [List.take_of_length_le hj] at h1
  have : cntP (ptsTo g n) (i + 1) = cntP (ptsTo g n) i + if ptsTo g n i = true then 1 else 0 := rfl
  rw [this]
  by_cases e : GE g i n
  · rw [h1.1 e, if_pos (ptsTo_iff.2 e)]; omega
  · rw [h1.2 e, if_neg (fun h => e (ptsTo_iff.1 h))]; omega
theorem CntAt.bound {g : List (List Int)} {N i j : Nat} {d : Nat → Int} (h : CntAt g N i j d) : ∀ n, n < N → 0 ≤ d n ∧ d n ≤ (i : Int) + 1 := fun n hn => by
  have hc := cntP_le (ptsTo g n) i
  by_cases e : (n : Int) ∈ (gr g i).take j
  · rw [(h n hn).1 e]; omega
  · rw [(h n hn).2 e]; omega
/-- While node i goes out: the first j of its successors are counted down. -/
def OutAt (g : List (List Int)) (N : Nat) (out : List Nat) (i j : Nat) (d : Nat → Int) : Prop := ∀ n, n < N → (n ∈ out ++ [i] → d n = -1) ∧ (n ∉ out ++ [i] → ((n : Int) ∈ (gr g i).take j → d n = (cntP (ahd g out n) N : Int) - 1) ∧ ((n : Int) ∉ (gr g i).take j → d n = (cntP (ahd g out n) N : Int)))
theorem OutAt.start {g : List (List Int)} {N : Nat} {out : List Nat} {i : Nat} {d d' : Nat → Int} (h : AheadIs g N out d) (hi : i < N) (hd : ∀ n, n < N → d' n = if n = i then -1 else d n) : OutAt g N out i 0 d' := fun n hn => by
  rw [hd n hn, List.mem_append, List.mem_singleton, List.take_zero]
  by_cases e : n = i
  · rw [if_pos e]; exact ⟨fun _ => rfl, fun h => absurd (.inr e) h⟩
  · rw [if_neg e]
    exact ⟨fun h' => (h n hn).1 (h'.resolve_right e), fun h' => ⟨fun h => (by cases h), fun _ => (h n hn).2 fun hm => h' (.inl hm)⟩⟩
theorem Free.clear {g : List (List Int)} {N : Nat} {out : List Nat} (hb : OrdB g N out) {i : Nat} (hi : i < N) (hf : Free g N out i) {x : Nat} (h : GE g i x) : x ∉ out ++ [i] := by
  rw [List.mem_append, List.mem_singleton]
  rintro (hm | rfl)
  · -- what is out has all that lead to it out
    have : ∀ {o : List Nat}, OrdB g N o → ∀ y, y ∈ o → ∀ m, m < N → GE g m y → m ∈ o := by
      intro o ho
      induction ho with
      | nil => intro y hy; cases hy
      | @snoc o k _ _ h3 _ ih =>
        intro y hy m hm e
        rcases List.mem_append.1 hy with h | h
        · exact List.mem_append_left _ (ih y h m hm e)
        · rw [List.mem_singleton.1 h] at e
          exact List.mem_append_left _ (h3.2 m hm e)
    exact hf.1 (this hb x hm i hi h)
  · exact hf.1 (hf.2 x hi h)
theorem OutAt.step {g : List (List Int)} {N : Nat} {out : List Nat} {i j x : Nat} {d d' : Nat → Int} (h : OutAt g N out i j d) (hb : OrdB g N out) (hi : i < N) (hf : Free g N out i) (hj : j < (gr g i).length) (ha : Asc (gr g i)) (hx : gi (gr g i) j = (x : Int)) (hd : ∀ n, n < N → d' n = if n = x then d x - 1 else d n) (hxN : x < N) : OutAt g N out i (j + 1) d' := fun n hn => by
  have hxo := Free.clear hb hi hf (show GE g i x by unfold GE; rw [← hx]; exact gi_mem _ _ hj)
  rw [hd n hn, take_more hj hx]
  by_cases e : n = x
  · subst e
    rw [if_pos rfl, ((h n hn).2 hxo).2 (not_take hj ha hx)]
    exact ⟨fun h => absurd h hxo, fun _ => ⟨fun _ => rfl, fun h => absurd (.inr rfl) h⟩⟩
  · rw [if_neg e]
    exact ⟨(h n hn).1, fun h1 => ⟨fun h' => ((h n hn).2 h1).1 (h'.resolve_right e), fun h' => ((h n hn).2 h1).2 fun hm => h' (.inl hm)⟩⟩
theorem OutAt.bound {g : List (List Int)} {N : Nat} {out : List Nat} {i j : Nat} {d : Nat → Int} (h : OutAt g N out i j d) : ∀ n, n < N → -1 ≤ d n ∧ d n ≤ (N : Int) := fun n hn => by
  have hc := cntP_le (ahd g out n) N
  by_cases hm : n ∈ out ++ [i]
  · rw [(h n hn).1 hm]; omega
  · by_cases e : (n : Int) ∈ (gr g i).take j
    · rw [((h n hn).2 hm).1 e]; omega
    · rw [((h n hn).2 hm).2 e]; omega
theorem OutAt.next {g : List (List Int)} {N : Nat} {out : List Nat} {i j : Nat} {d : Nat → Int} (h : OutAt g N out i j d) (hi : i < N) (ho : i ∉ out) (hj : (gr g i).length ≤ j) : AheadIs g N (out ++ [i]) d := fun n hn => by
  refine ⟨(h n hn).1, fun hm => ?_⟩
  have h1 := (h n hn).2 hm
  rw [List.take_of_length_le hj] at h1
  by_cases e : GE g i n
  · rw [h1.1 e, cnt_yes hi ho e]; omega
  · rw [h1.2 e, ← cnt_no e]
end Go.Proofs.Ytlogmgkjikamaaa
