import Derived.Test.YtehdkcjoaogbeaaMG9
/-
  DfaPd, CmpL
-/
set_option linter.unusedVariables false
set_option linter.unusedSectionVars false
namespace Go.Proofs.Ytehdkcjoaogbeaa

section
variable {α : Type} [DecidableEq α] {o : α → List (Int × α)} {s : α} {N : Nat}
theorem hG_at {Q : List α} {i : Nat} (hi : i < Q.length) : headArcs o Q i = (o Q[i]).map fun x => ⟨i, x.1, (Q.idxOf x.2 : Nat)⟩ := by
  unfold headArcs
  rw [List.getElem?_eq_getElem hi]
theorem hG_f {Q : List α} {i : Nat} {x : A3} (h : x ∈ headArcs o Q i) : x.f = i ∧ i < Q.length := by
  rcases Nat.lt_or_ge i Q.length with hi | hi
  · rw [hG_at hi] at h
    obtain ⟨y, _, rfl⟩ := List.mem_map.1 h
    exact ⟨rfl, hi⟩
  · unfold headArcs at h
    rw [List.getElem?_eq_none hi] at h
    simp at h
theorem lastG_mem (hl : (bq o s N).q.length ≤ N) {x : A3} : x ∈ (bq o s N).a ↔ ∃ i, ∃ hi : i < (bq o s N).q.length, x.f = i ∧ ∃ y ∈ o (bq o s N).q[i], x.l = y.1 ∧ x.t = ((bq o s N).q.idxOf y.2 : Nat) := by
  rw [bq_arcs, List.mem_flatMap]
  constructor
  · rintro ⟨i, _, hx⟩
    have hf := hG_f hx
    rw [hG_at hf.2] at hx
    obtain ⟨z, hz, rfl⟩ := List.mem_map.1 hx
    exact ⟨i, hf.2, rfl, z, hz, rfl, rfl⟩
  · rintro ⟨i, hi, h1, y, hy, h4, h5⟩
    refine ⟨i, List.mem_range.2 (by omega), ?_⟩
    rw [hG_at hi]
    exact List.mem_map.2 ⟨y, hy, by rw [← h1, ← h4, ← h5]⟩
theorem lastG_sorted (ha : ∀ q, (o q).Pairwise fun x y => x.1 < y.1) : SortedA (bq o s N).a := by
  unfold SortedA
  rw [bq_arcs, List.pairwise_flatMap]
  refine ⟨fun i _ => ?_, ?_⟩
  · rcases Nat.lt_or_ge i (bq o s N).q.length with hi | hi
    · rw [hG_at hi, List.pairwise_map]
      exact List.Pairwise.imp (fun h => .inr ⟨rfl, h⟩) (ha _)
    · unfold headArcs
      rw [List.getElem?_eq_none hi]
      exact List.Pairwise.nil
  · refine List.Pairwise.imp ?_ (List.pairwise_lt_range)
    intro i j hij x hx y hy
    have h1 := (hG_f hx).1
    have h2 := (hG_f hy).1
    exact .inl (by omega)
theorem lastG_closed (hl : (bq o s N).q.length ≤ N) {i : Nat} (hi : i < (bq o s N).q.length) : ∀ x ∈ o (bq o s N).q[i], x.2 ∈ (bq o s N).q :=
  bq_closed o s N i (by omega) _ (List.getElem?_eq_getElem hi)
theorem lastG_pos : 0 < (bq o s N).q.length := by
  have := (bq_pre o s (Nat.zero_le N)).length_le
  exact Nat.lt_of_lt_of_le (by show 0 < [s].length; simp) this
theorem lastG_start : (bq o s N).q[0]'lastG_pos = s := by
  have h := bq_pre o s (Nat.zero_le N)
  obtain ⟨h', hg⟩ := get_pre h (show 0 < (bq o s 0).q.length by show 0 < [s].length; simp)
  rw [hg]
  rfl
theorem bqG_alen {M : Nat} (hM : ∀ q, (o q).length ≤ M) : ∀ k, (bq o s k).a.length ≤ k * M
  | 0 => Nat.zero_le _
  | k + 1 => by
    have ih := bqG_alen hM k
    show (bqh o k (bq o s k)).a.length ≤ _
    generalize bq o s k = st at ih ⊢
    unfold bqh
    split
    · rename_i y _
      have h3 := hM y
      rw [bqs_alen, Nat.succ_mul]
      omega
    · rw [Nat.succ_mul]
      omega
theorem nxtG (hl : (bq o s N).q.length ≤ N) (ha : ∀ q, (o q).Pairwise fun x y => x.1 < y.1) {i : Nat} (hi : i < (bq o s N).q.length) {y : Int × α} (hy : y ∈ o (bq o s N).q[i]) : nxtD (bq o s N).a i y.1 = some ⟨i, y.1, ((bq o s N).q.idxOf y.2 : Nat)⟩ :=
  (nxtD_iff (lastG_sorted ha)).2 ⟨(lastG_mem hl).2 ⟨i, hi, rfl, y, hy, rfl, rfl⟩, rfl, rfl⟩
theorem nxtG_no (hl : (bq o s N).q.length ≤ N) {i : Nat} (hi : i < (bq o s N).q.length) {c : Int} (h : ∀ y ∈ o (bq o s N).q[i], y.1 ≠ c) : nxtD (bq o s N).a i c = none := by
  rw [nxtD_none_iff]
  intro x hx h1 h2
  obtain ⟨j, hj, e1, y, hy, e2, e3⟩ := (lastG_mem hl).1 hx
  obtain rfl : j = i := by omega
  exact h y hy (e2.symm.trans h2)
end
@[ext] structure P2 where
  a : Int
  b : Int
deriving DecidableEq
theorem pairs_le {q : List P2} {n m : Int} (hn : q.Nodup) (hq : ∀ x ∈ q, (0 ≤ x.a ∧ x.a < n) ∧ (0 ≤ x.b ∧ x.b < m)) : q.length ≤ n.toNat * m.toNat := by
  have := hn.length_le_of_subset (l₂ := (List.range n.toNat).flatMap fun (i : Nat) => (List.range m.toNat).map fun (j : Nat) => (⟨(i : Int), (j : Int)⟩ : P2)) fun x hx => by
    have := hq x hx
    refine List.mem_flatMap.2 ⟨x.a.toNat, List.mem_range.2 (by omega), List.mem_map.2 ⟨x.b.toNat, List.mem_range.2 (by omega), ?_⟩⟩
    apply P2.ext
    · show ((x.a.toNat : Nat) : Int) = x.a; omega
    · show ((x.b.toNat : Nat) : Int) = x.b; omega
  refine Nat.le_trans this (Nat.le_of_eq ?_)
  rw [List.length_flatMap]
  simp only [List.length_map, List.length_range, List.map_const', List.sum_replicate_nat]
def kp (b : Dfa) (q2 : Int) (l : List A3) : List (Int × P2) := l.filterMap fun x => (nxtD b.arcs q2 x.l).map fun y => (x.l, ⟨x.t, y.t⟩)
theorem kp_nil (b : Dfa) (q2 : Int) : kp b q2 [] = [] := rfl
theorem kp_take (b : Dfa) (q2 : Int) (l : List A3) {j : Nat} (hj : j < l.length) : kp b q2 (l.take (j + 1)) = kp b q2 (l.take j) ++ (match nxtD b.arcs q2 (g3 l j).l with | some y => [((g3 l j).l, ⟨(g3 l j).t, y.t⟩)] | none => []) := by
  rw [take_succ_g3 l j hj]
  unfold kp
  rw [List.filterMap_append]
  congr 1
  cases h : nxtD b.arcs q2 (g3 l j).l with
  | none => simp [h]
  | some y => simp [h]
theorem kp_len (b : Dfa) (q2 : Int) (l : List A3) : (kp b q2 l).length ≤ l.length := List.length_filterMap_le _ _
def oP (a b : Dfa) (q : P2) : List (Int × P2) := kp b q.b (outsD a.arcs q.a)
theorem oP_iff {a b : Dfa} {q : P2} {x : Int × P2} : x ∈ oP a b q ↔ ∃ y ∈ a.arcs, y.f = q.a ∧ ∃ z, nxtD b.arcs q.b y.l = some z ∧ x = (y.l, ⟨y.t, z.t⟩) := by
  unfold oP kp
  rw [List.mem_filterMap]
  constructor
  · rintro ⟨y, hy, h⟩
    obtain ⟨h1, h2⟩ := outsD_mem.1 hy
    rw [Option.map_eq_some_iff] at h
    obtain ⟨z, hz, e⟩ := h
    exact ⟨y, h1, h2, z, hz, e.symm⟩
  · rintro ⟨y, h1, h2, z, hz, e⟩
    exact ⟨y, outsD_mem.2 ⟨h1, h2⟩, by rw [hz, e]; rfl⟩
def InP (a b : Dfa) (q : P2) : Prop := InD a q.a ∧ InD b q.b
def resP (a b : Dfa) (st : Bq P2) : Dfa := ⟨st.q.length, 0, st.q.map fun q => gb a.fin q.a.toNat && gb b.fin q.b.toNat, st.a⟩
def nP (a b : Dfa) : Nat := a.n.toNat * b.n.toNat
def lastP (a b : Dfa) : Bq P2 := bq (oP a b) ⟨a.s, b.s⟩ (nP a b)
def prodD (a b : Dfa) : Dfa := resP a b (lastP a b)
section
variable {a b : Dfa}
theorem oP_asc (ha : ValidD a) (q : P2) : (oP a b q).Pairwise fun x y => x.1 < y.1 := by
  unfold oP kp
  rw [List.pairwise_filterMap]
  refine List.Pairwise.imp ?_ (outsD_asc ha.sorted q.a)
  intro x y h u hu v hv
  rw [Option.map_eq_some_iff] at hu hv
  obtain ⟨_, _, rfl⟩ := hu
  obtain ⟨_, _, rfl⟩ := hv
  exact h
theorem oP_in (ha : ValidD a) (hb : ValidD b) : ∀ y, InP a b y → ∀ x ∈ oP a b y, InP a b x.2 := fun y _ x hx => by
  obtain ⟨u, hu, _, z, hz, rfl⟩ := oP_iff.1 hx
  exact ⟨(ha.arc hu).1.2, (hb.arc (nxtD_mem hz).1).1.2⟩
theorem bqP_in (ha : ValidD a) (hb : ValidD b) (k : Nat) : ∀ y ∈ (bq (oP a b) ⟨a.s, b.s⟩ k).q, InP a b y := bq_all (P := InP a b) (show InP a b ⟨a.s, b.s⟩ from ⟨ha.2.1, hb.2.1⟩) (oP_in ha hb) k
theorem bqP_len (ha : ValidD a) (hb : ValidD b) (k : Nat) : (bq (oP a b) ⟨a.s, b.s⟩ k).q.length ≤ nP a b := pairs_le (bq_nodup _ _ k) (bqP_in ha hb k)
theorem bqP_fin (ha : ValidD a) (hb : ValidD b) {k : Nat} (h : (bq (oP a b) ⟨a.s, b.s⟩ k).q.length ≤ k) : bq (oP a b) ⟨a.s, b.s⟩ k = lastP a b := bq_fin _ _ h (bqP_len ha hb _)
theorem oP_len (q : P2) : (oP a b q).length ≤ a.arcs.length := Nat.le_trans (kp_len _ _ _) (outsD_len _ _)
theorem prodD_valid (ha : ValidD a) (hb : ValidD b) (hn : nP a b ≤ 1000) (hm : nP a b * a.arcs.length ≤ 20000) : ValidD (prodD a b) := by
  have hl := bqP_len ha hb (nP a b)
  have hp := lastG_pos (o := oP a b) (s := (⟨a.s, b.s⟩ : P2)) (N := nP a b)
  have hal := bqG_alen (s := (⟨a.s, b.s⟩ : P2)) (oP_len (a := a) (b := b)) (nP a b)
  have hs := lastG_sorted (s := (⟨a.s, b.s⟩ : P2)) (N := nP a b) (oP_asc (b := b) ha)
  refine ⟨⟨?_, ?_⟩, ⟨?_, ?_⟩, ?_, ?_, ?_⟩
  · show (1 : Int) ≤ ((bq (oP a b) ⟨a.s, b.s⟩ (nP a b)).q.length : Nat); omega
  · show (((bq (oP a b) ⟨a.s, b.s⟩ (nP a b)).q.length : Nat) : Int) ≤ 1000; omega
  · exact Int.le_refl 0
  · show (0 : Int) < ((bq (oP a b) ⟨a.s, b.s⟩ (nP a b)).q.length : Nat); omega
  · show (((lastP a b).q.map fun q => gb a.fin q.a.toNat && gb b.fin q.b.toNat).length : Int) = _
    rw [List.length_map]
    rfl
  · show (bq (oP a b) ⟨a.s, b.s⟩ (nP a b)).a.length ≤ 20000; omega
  · show ∀ i, i < (lastP a b).a.length → ArcOk ((lastP a b).q.length : Nat) (lastP a b).a i
    intro i hi
    obtain ⟨j, hj, e1, y, hy, e2, e3⟩ := (lastG_mem hl).1 (g3_mem _ i hi)
    have hc := lastG_closed hl hj y hy
    have hx := List.idxOf_lt_length_of_mem hc
    obtain ⟨u, hu, _, z, hz, rfl⟩ := oP_iff.1 hy
    have hya := ha.arc hu
    refine ⟨⟨⟨by unfold lastP; omega, by unfold lastP; omega⟩, by unfold lastP; rw [e3]; omega, by unfold lastP; rw [e3]; exact Int.ofNat_lt.2 hx⟩, ⟨by unfold lastP; omega, by unfold lastP; omega⟩, fun h0 => hs.lt (by omega) hi⟩
theorem prodD_acc (ha : ValidD a) (hb : ValidD b) : ∀ (w : List Int) (i : Nat) (hi : i < (lastP a b).q.length), accQ (prodD a b) i w = (accQ a ((lastP a b).q[i]).a w && accQ b ((lastP a b).q[i]).b w)
  | [], i, hi => by
    rw [accQ_nil, accQ_nil, accQ_nil]
    show gb ((lastP a b).q.map fun q => gb a.fin q.a.toNat && gb b.fin q.b.toNat) _ = _
    rw [gb_eq _ _ (by rw [List.length_map]; simpa using hi)]
    simp
  | c :: w, i, hi => by
    have hl := bqP_len ha hb (nP a b)
    have hno : (∀ y ∈ oP a b (lastP a b).q[i], y.1 ≠ c) → accQ (prodD a b) i (c :: w) = false := fun h => accQ_none (d := prodD a b) (nxtG_no hl hi h) w
    cases h : nxtD a.arcs ((lastP a b).q[i]).a c with
    | none =>
      rw [accQ_none h, Bool.false_and]
      refine hno fun y hy e => ?_
      obtain ⟨u, hu, h1, z, hz, rfl⟩ := oP_iff.1 hy
      exact nxtD_none_iff.1 h u hu h1 e
    | some x =>
      cases h' : nxtD b.arcs ((lastP a b).q[i]).b c with
      | none =>
        rw [accQ_none h', Bool.and_false]
        refine hno fun y hy e => ?_
        obtain ⟨u, hu, h1, z, hz, rfl⟩ := oP_iff.1 hy
        rw [show u.l = c from e, h'] at hz
        cases hz
      | some z =>
        obtain ⟨hx1, hx2, hx3⟩ := nxtD_mem h
        have hy : (c, ⟨x.t, z.t⟩) ∈ oP a b (lastP a b).q[i] := oP_iff.2 ⟨x, hx1, hx2, z, by rw [hx3]; exact h', by rw [hx3]⟩
        have hm : (⟨x.t, z.t⟩ : P2) ∈ (lastP a b).q := lastG_closed hl hi _ hy
        have hlt := List.idxOf_lt_length_of_mem hm
        rw [accQ_some h, accQ_some h', accQ_some (d := prodD a b) (nxtG hl (oP_asc ha) hi hy)]
        show accQ (prodD a b) (((lastP a b).q.idxOf (⟨x.t, z.t⟩ : P2) : Nat) : Int) w = _
        rw [prodD_acc ha hb w _ hlt, List.getElem_idxOf]
theorem prodD_lang (ha : ValidD a) (hb : ValidD b) (w : List Int) : accQ (prodD a b) 0 w = (accQ a a.s w && accQ b b.s w) := by
  have := prodD_acc ha hb w 0 lastG_pos
  have hs : (lastP a b).q[0]'lastG_pos = (⟨a.s, b.s⟩ : P2) := lastG_start
  rw [hs] at this
  exact this
end
end Go.Proofs.Ytehdkcjoaogbeaa

set_option linter.unusedVariables false
namespace Go.Proofs.Ytehdkcjoaogbeaa

def cmpL : List Int → List Int → Int
  | [], [] => 0
  | [], _ :: _ => -1
  | _ :: _, [] => 1
  | x :: xs, y :: ys => if x < y then -1 else if y < x then 1 else cmpL xs ys

theorem cmpL_cons (x y : Int) (xs ys : List Int) : cmpL (x :: xs) (y :: ys) = if x < y then -1 else if y < x then 1 else cmpL xs ys := rfl
theorem cmpL_range : ∀ xs ys : List Int, cmpL xs ys = -1 ∨ cmpL xs ys = 0 ∨ cmpL xs ys = 1
  | [], [] => .inr (.inl rfl)
  | [], _ :: _ => .inl rfl
  | _ :: _, [] => .inr (.inr rfl)
  | x :: xs, y :: ys => by
    have := cmpL_range xs ys
    rw [cmpL_cons]
    split
    · exact .inl rfl
    · split
      · exact .inr (.inr rfl)
      · exact this
theorem cmpL_anti : ∀ xs ys : List Int, cmpL ys xs = -cmpL xs ys
  | [], [] => rfl
  | [], _ :: _ => rfl
  | _ :: _, [] => rfl
  | x :: xs, y :: ys => by
    have := cmpL_anti xs ys
    rw [cmpL_cons, cmpL_cons]
    rcases Int.lt_trichotomy x y with h | h | h
    · rw [if_neg (by omega : ¬ y < x), if_pos h, if_pos h]; rfl
    · rw [if_neg (by omega : ¬ y < x), if_neg (by omega : ¬ x < y), if_neg (by omega : ¬ x < y), if_neg (by omega : ¬ y < x)]; exact this
    · rw [if_pos h, if_neg (by omega : ¬ x < y), if_pos h]
theorem cmpL_zero : ∀ xs ys : List Int, cmpL xs ys = 0 ↔ xs = ys
  | [], [] => by simp [cmpL]
  | [], _ :: _ => by simp [cmpL]
  | _ :: _, [] => by simp [cmpL]
  | x :: xs, y :: ys => by
    have := cmpL_zero xs ys
    rw [cmpL_cons]
    split
    · rename_i h
      constructor
      · intro h0; cases h0
      · intro e; injection e; omega
    · split
      · constructor
        · intro h0; cases h0
        · intro e; injection e; omega
      · rw [this, List.cons.injEq]
        constructor
        · intro e; exact ⟨by omega, e⟩
        · intro e; exact e.2
theorem cmpL_trans : ∀ xs ys zs : List Int, cmpL xs ys ≤ 0 → cmpL ys zs ≤ 0 → cmpL xs zs ≤ 0
  | [], _, [], _, _ => by decide
  | [], _, _ :: _, _, _ => by show (-1 : Int) ≤ 0; decide
  | x :: xs, [], _, h, _ => by exact absurd h (by show ¬ (1 : Int) ≤ 0; decide)
  | x :: xs, y :: ys, [], _, h => by exact absurd h (by show ¬ (1 : Int) ≤ 0; decide)
  | x :: xs, y :: ys, z :: zs, h1, h2 => by
    have ih := cmpL_trans xs ys zs
    rw [cmpL_cons] at h1 h2 ⊢
    split
    · decide
    · rename_i ha
      split
      · rename_i hb
        split at h1
        · split at h2
          · omega
          · split at h2
            · omega
            · omega
        · split at h1
          · omega
          · split at h2
            · omega
            · split at h2
              · omega
              · omega
      · rename_i hb
        split at h1
        · split at h2
          · omega
          · split at h2
            · omega
            · omega
        · split at h1
          · omega
          · split at h2
            · omega
            · split at h2
              · omega
              · exact ih h1 h2
theorem cmpL_nil (ys : List Int) : cmpL [] ys ≤ 0 := by
  cases ys
  · decide
  · show (-1 : Int) ≤ 0; decide
theorem cmpL_snoc (c d : Int) : ∀ xs ys : List Int, xs.length = ys.length → cmpL (xs ++ [c]) (ys ++ [d]) = if cmpL xs ys = 0 then cmpL [c] [d] else cmpL xs ys
  | [], [], _ => by rw [if_pos (by rfl)]; rfl
  | [], _ :: _, h => by simp at h
  | _ :: _, [], h => by simp at h
  | x :: xs, y :: ys, h => by
    have ih := cmpL_snoc c d xs ys (by simpa using h)
    rw [List.cons_append, List.cons_append, cmpL_cons, cmpL_cons]
    split
    · rw [if_neg (by decide)]
    · split
      · rw [if_neg (by decide)]
      · exact ih
def SL (u v : List Int) : Prop := u.length < v.length ∨ (u.length = v.length ∧ cmpL u v < 0)
def SLe (u v : List Int) : Prop := u.length < v.length ∨ (u.length = v.length ∧ cmpL u v ≤ 0)
theorem SL.le {u v : List Int} (h : SL u v) : SLe u v := by unfold SL at h; unfold SLe; omega
theorem SLe.refl (u : List Int) : SLe u u := .inr ⟨rfl, by rw [(cmpL_zero u u).2 rfl]; exact Int.le_refl 0⟩
theorem cmpL_lt_trans {x y z : List Int} (h1 : cmpL x y < 0) (h2 : cmpL y z ≤ 0) : cmpL x z < 0 := by
  have h := cmpL_trans x y z (by omega) h2
  rcases Int.lt_or_eq_of_le h with h | h
  · exact h
  · have e := (cmpL_zero x z).1 h
    subst e
    have := cmpL_anti x y
    omega
theorem SL.trans_le {x y z : List Int} (h1 : SL x y) (h2 : SLe y z) : SL x z := by
  unfold SL SLe at *
  rcases h1 with h1 | ⟨h1, h3⟩
  · rcases h2 with h2 | ⟨h2, _⟩
    · exact .inl (by omega)
    · exact .inl (by omega)
  · rcases h2 with h2 | ⟨h2, h4⟩
    · exact .inl (by omega)
    · exact .inr ⟨by omega, cmpL_lt_trans h3 h4⟩
theorem SL.trans {x y z : List Int} (h1 : SL x y) (h2 : SL y z) : SL x z := h1.trans_le h2.le
theorem SLe.trans {x y z : List Int} (h1 : SLe x y) (h2 : SLe y z) : SLe x z := by
  unfold SLe at *
  rcases h1 with h1 | ⟨h1, h3⟩
  · rcases h2 with h2 | ⟨h2, _⟩
    · exact .inl (by omega)
    · exact .inl (by omega)
  · rcases h2 with h2 | ⟨h2, h4⟩
    · exact .inl (by omega)
    · exact .inr ⟨by omega, cmpL_trans _ _ _ h3 h4⟩
theorem SL.irrefl {x : List Int} : ¬ SL x x := by
  rintro (h | ⟨_, h⟩)
  · exact absurd h (Nat.lt_irrefl _)
  · rw [(cmpL_zero x x).2 rfl] at h; exact absurd h (Int.lt_irrefl 0)
theorem SL.snoc {u v : List Int} (h : SL u v) (c d : Int) : SL (u ++ [c]) (v ++ [d]) := by
  unfold SL at *
  simp only [List.length_append, List.length_singleton]
  rcases h with h | ⟨h, h'⟩
  · exact .inl (by omega)
  · refine .inr ⟨by omega, ?_⟩
    rw [cmpL_snoc _ _ _ _ h, if_neg (by omega)]
    exact h'
theorem SL.last {u : List Int} {c d : Int} (h : c < d) : SL (u ++ [c]) (u ++ [d]) := by
  refine .inr ⟨by simp, ?_⟩
  rw [cmpL_snoc _ _ _ _ rfl, if_pos ((cmpL_zero u u).2 rfl), cmpL_cons, if_pos h]
  decide
theorem SLe.snoc {u v : List Int} (h : SLe u v) (c : Int) : SLe (u ++ [c]) (v ++ [c]) := by
  rcases h with h | ⟨h, h'⟩
  · exact (SL.snoc (.inl h) c c).le
  · rcases Int.lt_or_eq_of_le h' with h' | h'
    · exact (SL.snoc (.inr ⟨h, h'⟩) c c).le
    · have e := (cmpL_zero u v).1 h'
      subst e
      exact SLe.refl _
theorem SL.of_len {u v : List Int} (h : u.length < v.length) : SL u v := .inl h
end Go.Proofs.Ytehdkcjoaogbeaa
