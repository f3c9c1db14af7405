import Derived.Test.YtbjdglopkpigbaaGreatDoorMG22
/-
  DfaP, DfaPa, DfaQ
-/
set_option linter.unusedVariables false
namespace Go.Proofs.YtbjdglopkpigbaaGreatDoor
def runD (ar : List A3) : Int → List Int → Option Int
 | q, [] => some q
 | q, c :: w => match nxtD ar q c with
  | some x => runD ar x.t w
  | none => none
def accQ (d : Dfa) (q : Int) (w : List Int) : Bool := match runD d.arcs q w with
 | some p => gb d.fin p.toNat
 | none => false
theorem accQ_nil (d : Dfa) (q : Int) : accQ d q [] = gb d.fin q.toNat := rfl
theorem accQ_some {d : Dfa} {q c : Int} {x : A3} (h : nxtD d.arcs q c = some x) (w : List Int) : accQ d q (c :: w) = accQ d x.t w := by
 unfold accQ
 rw [runD, h]
theorem accQ_none {d : Dfa} {q c : Int} (h : nxtD d.arcs q c = none) (w : List Int) : accQ d q (c :: w) = false := by
 unfold accQ
 rw [runD, h]
open Classical in
noncomputable def accD (d : Dfa) (w : List Int) : Bool := vD d && accQ d d.s w
theorem nxtD_mem {ar : List A3} {q c : Int} {x : A3} (h : nxtD ar q c = some x) : x ∈ ar ∧ x.f = q ∧ x.l = c := by
 unfold nxtD at h
 have h1 := List.mem_of_find?_eq_some h
 have h2 := List.find?_some h
 simp at h2
 exact ⟨h1, h2⟩
theorem nxtD_unique {ar : List A3} (hS : SortedA ar) {x : A3} (hx : x ∈ ar) : nxtD ar x.f x.l = some x := by
 cases h : nxtD ar x.f x.l with
 | none =>
  unfold nxtD at h
  have := List.find?_eq_none.1 h x hx
  simp at this
 | some y =>
  obtain ⟨hy, h1, h2⟩ := nxtD_mem h
  obtain ⟨i, hi, ei⟩ := List.getElem_of_mem hx
  obtain ⟨j, hj, ej⟩ := List.getElem_of_mem hy
  rcases Nat.lt_trichotomy i j with h3 | h3 | h3
  ·have := hS.lt h3 hj
   rw [g3_eq _ _ hi, g3_eq _ _ hj, ei, ej] at this
   unfold LtA at this
   omega
  ·subst h3; rw [← ei, ← ej]
  ·have := hS.lt h3 hi
   rw [g3_eq _ _ hi, g3_eq _ _ hj, ei, ej] at this
   unfold LtA at this
   omega
end Go.Proofs.YtbjdglopkpigbaaGreatDoor
namespace Go.Proofs.YtbjdglopkpigbaaGreatDoor
def idxI (zs : List Int) (z : Int) : Int := if z ∈ zs then ((zs.idxOf z : Nat) : Int) else -1
end Go.Proofs.YtbjdglopkpigbaaGreatDoor
namespace Go.Proofs.YtbjdglopkpigbaaGreatDoor
def kd (keep : List Bool) (l : List A3) : List (Int × Int) := (l.filter fun x => gb keep x.t.toNat).map fun x => (x.l, x.t)
theorem kd_take (keep : List Bool) (l : List A3) {j : Nat} (hj : j < l.length) : kd keep (l.take (j + 1)) = kd keep (l.take j) ++ (if gb keep (g3 l j).t.toNat = true then [((g3 l j).l, (g3 l j).t)] else []) := by
 rw [take_succ_g3 l j hj]
 unfold kd
 rw [List.filter_append, List.map_append]
 congr 1
 by_cases h : gb keep (g3 l j).t.toNat = true
 ·rw [if_pos h]; simp [h]
 ·rw [if_neg h]; simp [h]
def oD (d : Dfa) (keep : List Bool) (q : Int) : List (Int × Int) := kd keep (outsD d.arcs q)
theorem oD_mem {d : Dfa} {keep : List Bool} {q : Int} {x : Int × Int} (h : x ∈ oD d keep q) : ∃ y ∈ d.arcs, y.f = q ∧ y.l = x.1 ∧ y.t = x.2 ∧ gb keep y.t.toNat = true := by
 unfold oD kd at h
 obtain ⟨y, hy, rfl⟩ := List.mem_map.1 h
 obtain ⟨h1, h2⟩ := List.mem_filter.1 hy
 unfold outsD at h1
 obtain ⟨h3, h4⟩ := List.mem_filter.1 h1
 exact ⟨y, h3, by simpa using h4, rfl, rfl, h2⟩
def resB (st : Bq Int) (fin : List Bool) : Dfa := ⟨st.q.length, 0, st.q.map fun q => gb fin q.toNat, st.a⟩
def numD (d : Dfa) (keep : List Bool) : Dfa := resB (bq (oD d keep) d.s d.n.toNat) d.fin
def canD (d : Dfa) (keep : List Bool) : Dfa := if gb keep d.s.toNat = true then numD d keep else ⟨1, 0, [false], []⟩
def InD (d : Dfa) (q : Int) : Prop := 0 ≤ q ∧ q < d.n
theorem oD_in {d : Dfa} (hv : ValidD d) (keep : List Bool) : ∀ y, InD d y → ∀ x ∈ oD d keep y, InD d x.2 := fun y _ x hx => by
 obtain ⟨z, hz, _, _, e, _⟩ := oD_mem hx
 have := (hv.arc hz).1.2
 rw [e] at this
 exact this
theorem ints_le {q : List Int} {n : Int} (hn : q.Nodup) (hq : ∀ x ∈ q, 0 ≤ x ∧ x < n) : q.length ≤ n.toNat := by
 have := hn.length_le_of_subset (l₂ := (List.range n.toNat).map Int.ofNat) fun x hx => by
  have := hq x hx
  refine List.mem_map.2 ⟨x.toNat, List.mem_range.2 (by omega), by show ((x.toNat : Nat) : Int) = x; omega⟩
 simpa using this
theorem bqD_in {d : Dfa} (hv : ValidD d) (keep : List Bool) (k : Nat) : ∀ y ∈ (bq (oD d keep) d.s k).q, InD d y := bq_all (P := InD d) hv.2.1 (oD_in hv keep) k
theorem bqD_len {d : Dfa} (hv : ValidD d) (keep : List Bool) (k : Nat) : (bq (oD d keep) d.s k).q.length ≤ d.n.toNat := ints_le (bq_nodup _ _ k) (bqD_in hv keep k)
theorem bqD_fin {d : Dfa} (hv : ValidD d) (keep : List Bool) {k : Nat} (h : (bq (oD d keep) d.s k).q.length ≤ k) : bq (oD d keep) d.s k = bq (oD d keep) d.s d.n.toNat := bq_fin _ _ h (bqD_len hv keep _)
theorem bqs_alen (h : Nat) {α : Type} [DecidableEq α] (l : List (Int × α)) (st : Bq α) : (bqs h st l).a.length = st.a.length + l.length := by rw [bqs_arcs, List.length_append, List.length_map]
theorem kd_len (keep : List Bool) (l : List A3) : (kd keep l).length ≤ l.length := by unfold kd; rw [List.length_map]; exact List.length_filter_le _ _
theorem outsD_len (ar : List A3) (q : Int) : (outsD ar q).length ≤ ar.length := List.length_filter_le _ _
theorem bqD_alen {d : Dfa} {M : Nat} (hl : d.arcs.length ≤ M) (keep : List Bool) : ∀ k, (bq (oD d keep) d.s k).a.length ≤ k * M
 | 0 => Nat.zero_le _
 | k + 1 => by
  have ih := bqD_alen hl keep k
  show (bqh (oD d keep) k (bq (oD d keep) d.s k)).a.length ≤ _
  generalize bq (oD d keep) d.s k = st at ih ⊢
  unfold bqh
  split
  ·rename_i y _
   have h1 := kd_len keep (outsD d.arcs y)
   have h2 := outsD_len d.arcs y
   have h3 : (oD d keep y).length = (kd keep (outsD d.arcs y)).length := rfl
   rw [bqs_alen, Nat.succ_mul, h3]
   omega
  ·rw [Nat.succ_mul]
   omega
def numL (q : List Int) (N : Nat) : List Int := (List.range N).map fun (x : Nat) => idxI q (x : Int)
theorem numL_len (q : List Int) (N : Nat) : (numL q N).length = N := by simp [numL]
theorem gi_numL (q : List Int) {N x : Nat} (h : x < N) : gi (numL q N) x = idxI q x := by
 rw [gi_eq _ _ (by rw [numL_len]; exact h)]
 simp [numL]
theorem idxI_yes {q : List Int} {x : Int} (h : x ∈ q) : idxI q x = ((q.idxOf x : Nat) : Int) := by unfold idxI; rw [if_pos h]
theorem idxI_no {q : List Int} {x : Int} (h : x ∉ q) : idxI q x = -1 := by unfold idxI; rw [if_neg h]
theorem idxI_neg {q : List Int} {x : Int} : idxI q x < 0 ↔ x ∉ q := by
 by_cases h : x ∈ q
 ·rw [idxI_yes h]
  exact ⟨fun h' => by omega, fun h' => absurd h h'⟩
 ·rw [idxI_no h]
  exact ⟨fun _ => h, fun _ => by omega⟩
theorem numL_push {q : List Int} {N x : Nat} (hx : (x : Int) ∉ q) (hN : x < N) : numL (q ++ [(x : Int)]) N = (numL q N).set x q.length := by
 apply gi_ext
 ·rw [List.length_set, numL_len, numL_len]
 ·intro i hi
  rw [numL_len] at hi
  rw [gi_numL _ hi]
  have hs : gi ((numL q N).set x q.length) i = if i = x then ((q.length : Nat) : Int) else gi (numL q N) i := by
   by_cases e : i = x
   ·subst e; rw [if_pos rfl, gi_eq _ _ (by rw [List.length_set, numL_len]; exact hi)]; simp
   ·rw [if_neg e, gi_eq _ _ (by rw [List.length_set, numL_len]; exact hi), gi_eq _ _ (by rw [numL_len]; exact hi), List.getElem_set_ne (Ne.symm e)]
  rw [hs]
  by_cases e : i = x
  ·subst e
   rw [if_pos rfl, idxI_yes (by simp), List.idxOf_append, if_neg hx]
   simp
  ·rw [if_neg e, gi_numL _ hi]
   have e' : (i : Int) ≠ (x : Int) := by omega
   by_cases hm : (i : Int) ∈ q
   ·rw [idxI_yes hm, idxI_yes (List.mem_append_left _ hm), List.idxOf_append, if_pos hm]
   ·rw [idxI_no hm, idxI_no]
    intro h
    rcases List.mem_append.1 h with h | h
    ·exact hm h
    ·exact e' (List.mem_singleton.1 h)
theorem numL_one {N s : Nat} (hs : s < N) : numL [(s : Int)] N = (List.replicate N (-1 : Int)).set s 0 := by
 have e : numL [] N = List.replicate N (-1) := by
  apply List.ext_getElem
  ·rw [numL_len, List.length_replicate]
  ·intro i h1 h2
   simp [numL, idxI]
 have := numL_push (q := []) (N := N) (x := s) (by simp) hs
 rw [e] at this
 exact this
theorem bq1_old {h : Nat} {st : Bq Int} {l x : Int} (hx : x ∈ st.q) : bq1 h st (l, x) = ⟨st.q, st.w, st.a ++ [⟨h, l, idxI st.q x⟩]⟩ := by
 unfold bq1
 simp only [if_pos hx, idxI_yes hx]
theorem bq1_new {h : Nat} {st : Bq Int} {l x : Int} (hx : x ∉ st.q) : (bq1 h st (l, x)).q = st.q ++ [x] ∧ (bq1 h st (l, x)).a = st.a ++ [⟨h, l, (st.q.length : Nat)⟩] := by
 unfold bq1
 simp only [if_neg hx]
 exact ⟨trivial, by rw [List.idxOf_eq_length hx]⟩
theorem bq1_a (h : Nat) (st : Bq Int) (l x : Int) : (bq1 h st (l, x)).a = st.a ++ [⟨h, l, idxI (bq1 h st (l, x)).q x⟩] := by
 have e := bq1_mem h st (l, x)
 by_cases hx : x ∈ st.q
 ·have := bq1_old (h := h) (l := l) hx
  rw [this]
 ·obtain ⟨h1, h2⟩ := bq1_new (h := h) (l := l) hx
  rw [h2, h1, idxI_yes (by simp), List.idxOf_append, if_neg hx]
  simp
end Go.Proofs.YtbjdglopkpigbaaGreatDoor
