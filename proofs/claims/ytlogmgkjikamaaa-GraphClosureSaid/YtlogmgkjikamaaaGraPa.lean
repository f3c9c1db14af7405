/-
  The least shortest path: step by step to the least successor that is nearer to the end. No walk.
-/
import Derived.Test.YtlogmgkjikamaaaGraLx
set_option linter.unusedVariables false
namespace Go.Proofs.Ytlogmgkjikamaaa

variable {g : List (List Int)}
/-- A number whose distance is m. -/
def nearP (zs : List Int) (m : Nat) : Int → Bool := fun z => decide (gi zs z.toNat = (m : Int))
def nxt (g : List (List Int)) (zs : List Int) (m u : Nat) : Nat := (((gr g u).find? (nearP zs m)).getD 0).toNat
/-- The path of m steps from a node. -/
def pth (g : List (List Int)) (zs : List Int) : Nat → Nat → List Nat
  | 0, u => [u]
  | m + 1, u => u :: pth g zs m (nxt g zs m u)
theorem pth_length (g : List (List Int)) (zs : List Int) : ∀ m u, (pth g zs m u).length = m + 1
  | 0, _ => rfl
  | m + 1, u => by rw [pth, List.length_cons, pth_length g zs m]
/-- The first that fits is the next. -/
theorem nxt_first {zs : List Int} {m u i : Nat} (hi : i < (gr g u).length) (hp : nearP zs m (gi (gr g u) i) = true) (hn : ∀ k, k < i → nearP zs m (gi (gr g u) k) = false) : nxt g zs m u = (gi (gr g u) i).toNat := by
  unfold nxt
  have key : ∀ (l : List Int) (i : Nat), i < l.length → nearP zs m (gi l i) = true → (∀ k, k < i → nearP zs m (gi l k) = false) → l.find? (nearP zs m) = some (gi l i) := by
    intro l
    induction l with
    | nil => intro i hi; cases hi
    | cons x l ih =>
      intro i hi hp hn
      cases i with
      | zero => rw [List.find?_cons_of_pos (by exact hp)]; rfl
      | succ i =>
        have h0 : nearP zs m x = false := hn 0 (Nat.succ_pos _)
        rw [List.find?_cons_of_neg (by rw [h0]; decide)]
        exact ih i (by simpa using hi) hp fun k hk => hn (k + 1) (by omega)
  rw [key _ i hi hp hn, Option.getD_some]
/-- The end of a path is told by the reversed graph's distances. -/
structure ToEnd (g : List (List Int)) (t : Nat) (zs : List Int) : Prop where
  hv : ValidG g
  lt : t < g.length
  d : DistL (backG g) [(t : Int)] zs
theorem ToEnd.len {t : Nat} {zs : List Int} (h : ToEnd g t zs) : zs.length = g.length := by rw [h.d.1, backG_length]
theorem ToEnd.zero {t : Nat} {zs : List Int} (h : ToEnd g t zs) {u : Nat} (hu : u < g.length) : gi zs u = 0 ↔ u = t := by
  rw [h.d.2.src u (by rw [backG_length]; exact hu), List.mem_singleton]
  exact ⟨fun h => by omega, fun h => by omega⟩
theorem ToEnd.lo {t : Nat} {zs : List Int} (h : ToEnd g t zs) {u : Nat} (hu : u < g.length) : -1 ≤ gi zs u := h.d.2.lo u (by rw [backG_length]; exact hu)
theorem ToEnd.hi {t : Nat} {zs : List Int} (h : ToEnd g t zs) {u : Nat} (hu : u < g.length) : gi zs u < (g.length : Int) := by
  have := pred_bound h.d.2.pred (v := u) (by rw [backG_length]; exact hu)
  rwa [backG_length] at this
theorem ToEnd.some {t : Nat} {zs : List Int} (h : ToEnd g t zs) {u m : Nat} (hu : u < g.length) (hm : gi zs u = (m : Int) + 1) : ∃ i, i < (gr g u).length ∧ nearP zs m (gi (gr g u) i) = true ∧ ∀ k, k < i → nearP zs m (gi (gr g u) k) = false := by
  obtain ⟨v, hv, he, hd⟩ := h.d.2.pred u (by rw [backG_length]; exact hu) m hm
  have hg := (backG_edge h.hv).1 he
  obtain ⟨j, hj, ej⟩ := List.getElem_of_mem hg
  have hp : nearP zs m (gi (gr g u) j) = true := by
    rw [gi_eq _ j hj, ej]
    exact decide_eq_true (by rw [show ((v : Int)).toNat = v by omega]; exact hd)
  have key : ∀ n, n ≤ (gr g u).length → (∀ k, k < n → nearP zs m (gi (gr g u) k) = false) ∨ ∃ i, i < n ∧ nearP zs m (gi (gr g u) i) = true ∧ ∀ k, k < i → nearP zs m (gi (gr g u) k) = false := by
    intro n
    induction n with
    | zero => intro _; exact .inl fun k hk => absurd hk (Nat.not_lt_zero _)
    | succ n ih =>
      intro hn
      rcases ih (by omega) with h1 | ⟨i, h1, h2, h3⟩
      · cases e : nearP zs m (gi (gr g u) n) with
        | true => exact .inr ⟨n, Nat.lt_succ_self n, e, h1⟩
        | false => 
          refine .inl fun k hk => ?_
          rcases Nat.lt_or_ge k n with h2 | h2
          · exact h1 k h2
          · obtain rfl : k = n := by omega
            exact e
      · exact .inr ⟨i, by omega, h2, h3⟩
  rcases key _ (Nat.le_refl _) with h1 | ⟨i, h1, h2, h3⟩
  · rw [h1 j hj] at hp; cases hp
  · exact ⟨i, h1, h2, h3⟩
/-- The next node: a successor, nearer by one. -/
theorem ToEnd.next {t : Nat} {zs : List Int} (h : ToEnd g t zs) {u m : Nat} (hu : u < g.length) (hm : gi zs u = (m : Int) + 1) : GE g u (nxt g zs m u) ∧ nxt g zs m u < g.length ∧ gi zs (nxt g zs m u) = (m : Int) := by
  obtain ⟨i, hi, hp, hn⟩ := h.some hu hm
  have hmem := gi_mem _ i hi
  have hr := (h.hv.2 _ (gr_mem hu)).2 _ hmem
  rw [nxt_first hi hp hn]
  refine ⟨?_, by omega, of_decide_eq_true hp⟩
  unfold GE
  rwa [show ((gi (gr g u) i).toNat : Int) = gi (gr g u) i by omega]
/-- What a path of the right number of steps is. -/
theorem ToEnd.path {t : Nat} {zs : List Int} (h : ToEnd g t zs) : ∀ (m u : Nat), u < g.length → gi zs u = (m : Int) →
    nq (pth g zs m u) 0 = u ∧ nq (pth g zs m u) m = t ∧ (∀ i, i ≤ m → nq (pth g zs m u) i < g.length) ∧ ∀ i, i < m → GE g (nq (pth g zs m u) i) (nq (pth g zs m u) (i + 1))
  | 0, u, hu, hm => by
    have : u = t := (h.zero hu).1 hm
    refine ⟨rfl, this, fun i hi => ?_, fun i hi => absurd hi (Nat.not_lt_zero _)⟩
    obtain rfl : i = 0 := by omega
    exact hu
  | m + 1, u, hu, hm => by
    obtain ⟨h1, h2, h3⟩ := h.next hu hm
    obtain ⟨p1, p2, p3, p4⟩ := h.path m _ h2 h3
    have e : ∀ i, nq (pth g zs (m + 1) u) (i + 1) = nq (pth g zs m (nxt g zs m u)) i := fun i => by rw [pth]; rfl
    refine ⟨rfl, by rw [e]; exact p2, fun i hi => ?_, fun i hi => ?_⟩
    · cases i with
      | zero => exact hu
      | succ i => rw [e]; exact p3 i (by omega)
    · cases i with
      | zero =>
        rw [e, p1]
        exact h1
      | succ i => rw [e, e]; exact p4 i (by omega)
/-- While the path is built. -/
def OnPath (g : List (List Int)) (zs : List Int) (t : Nat) (P : List Nat) (o : List Nat) (u m : Nat) : Prop := ToEnd g t zs ∧ u < g.length ∧ gi zs u = (m : Int) ∧ P = o ++ pth g zs m u
theorem OnPath.step {zs : List Int} {t : Nat} {P o : List Nat} {u m : Nat} (h : OnPath g zs t P o u (m + 1)) : OnPath g zs t P (o ++ [u]) (nxt g zs m u) m := by
  obtain ⟨h1, h2, h3, h4⟩ := h
  obtain ⟨e1, e2, e3⟩ := h1.next h2 h3
  exact ⟨h1, e2, e3, by rw [h4, pth, List.append_assoc]; rfl⟩
theorem OnPath.stop {zs : List Int} {t : Nat} {P o : List Nat} {u : Nat} (h : OnPath g zs t P o u 0) : u = t ∧ P = o ++ [u] := ⟨(h.1.zero h.2.1).1 h.2.2.1, h.2.2.2⟩
theorem OnPath.len {zs : List Int} {t : Nat} {P o : List Nat} {u m : Nat} (h : OnPath g zs t P o u m) : P.length = o.length + (m + 1) := by rw [h.2.2.2, List.length_append, pth_length]
theorem OnPath.go {zs : List Int} {t : Nat} {P o : List Nat} {u m : Nat} (h : OnPath g zs t P o u (m + 1)) : u ≠ t := fun e => by
  have := (h.1.zero h.2.1).2 e
  have := h.2.2.1
  omega
/-- The numbers that Path returns. -/
noncomputable def ptE (g : List (List Int)) (f t : Int) : Int := if checkV g [f, t] = 0 then (if gi (dsR (backG g) [t]) f.toNat < 0 then 8 else 0) else checkV g [f, t]
noncomputable def ptR (g : List (List Int)) (f t : Int) : List Int := if checkV g [f, t] = 0 ∧ 0 ≤ gi (dsR (backG g) [t]) f.toNat then (pth g (dsR (backG g) [t]) (gi (dsR (backG g) [t]) f.toNat).toNat f.toNat).map Int.ofNat else []
theorem checkV_two {f t : Int} : checkV g [f, t] = 0 ↔ ValidG g ∧ ∃ F T : Nat, f = (F : Int) ∧ t = (T : Int) ∧ F < g.length ∧ T < g.length := by
  rw [checkV_zero]
  refine and_congr_right fun hv => ?_
  constructor
  · intro h
    have h1 := h f (by simp)
    have h2 := h t (by simp)
    exact ⟨f.toNat, t.toNat, by omega, by omega, by omega, by omega⟩
  · rintro ⟨F, T, rfl, rfl, h1, h2⟩ z hz
    rcases List.mem_cons.1 hz with rfl | hz
    · omega
    · rw [List.mem_singleton.1 hz]; omega
/-- The distances from one node are there. -/
theorem dsR_is {l zs : List Int} (hv : ValidG g) (hok : NodesOk g.length l) (h : DistL g l zs) : dsR g l = zs := dsR_of (checkV_zero.2 ⟨hv, hok⟩) h
end Go.Proofs.Ytlogmgkjikamaaa
