/-
  Distances forward and back; the nodes with a nearer predecessor. No walk.
-/
import Derived.Test.YtlogmgkjikamaaaGraPa
import Derived.Test.YtlogmgkjikamaaaGraN
import Derived.Test.YtlogmgkjikamaaaGraP
import Derived.Deep.LoopGhost
set_option linter.unusedVariables false
namespace Go.Proofs.Ytlogmgkjikamaaa

theorem LocD.rchN {E : Nat → Nat → Prop} {S : Nat → Prop} {N : Nat} {d : Nat → Int} (h : LocD E S N d) : ∀ (k n : Nat), n < N → d n = k → ∃ s, S s ∧ RchN E k s n
  | 0, n, hn, e => ⟨n, (h.src n hn).1 (by simpa using e), .zero n⟩
  | k + 1, n, hn, e => by
    obtain ⟨u, hu, he, hk⟩ := h.pred n hn k (by omega)
    obtain ⟨s, hs, hr⟩ := h.rchN k u hu hk
    exact ⟨s, hs, hr.snoc he⟩
/-- A walk bounds the distance, wherever it begins. -/
theorem LocD.walk {E : Nat → Nat → Prop} {S : Nat → Prop} {N : Nat} {d : Nat → Int} (h : LocD E S N d) (hE : ∀ a b, E a b → a < N ∧ b < N) {k s n : Nat} (hr : RchN E k s n) (hs : s < N) : 0 ≤ d s → 0 ≤ d n ∧ d n ≤ d s + k := by
  induction hr with
  | zero => intro h0; omega
  | @cons k a b c e _ ih =>
    intro h0
    have h1 := h.step a b hs h0 e
    have h2 := ih (hE _ _ e).2 h1.1
    omega
theorem RchN.rev {E : Nat → Nat → Prop} {n a b : Nat} (h : RchN E n a b) : RchN (fun x y => E y x) n b a := by
  induction h with
  | zero => exact .zero _
  | cons e _ ih => exact ih.snoc e
theorem RchN.mono {E E' : Nat → Nat → Prop} (hE : ∀ a b, E a b → E' a b) {n a b : Nat} (h : RchN E n a b) : RchN E' n a b := by
  induction h with
  | zero => exact .zero _
  | cons e _ ih => exact .cons (hE _ _ e) ih
variable {g : List (List Int)}
/-- The distance from x to y is the distance from y to x backwards. -/
theorem dist_sym (hv : ValidG g) {x y : Nat} (hx : x < g.length) (hy : y < g.length) {zs zt : List Int} (h : DistL g [(x : Int)] zs) (h' : DistL (backG g) [(y : Int)] zt) : gi zs y = gi zt x := by
  have hl := h.2
  have hl' := h'.2
  rw [backG_length] at hl'
  have one : ∀ (z s : Nat), (s : Int) ∈ [(z : Int)] ↔ s = z := fun z s => by rw [List.mem_singleton]; omega
  have hEb : ∀ a b, GE (backG g) a b → a < g.length ∧ b < g.length := fun a b e => by have := ((backG_edge hv).1 e).lt hv; exact ⟨this.2, this.1⟩
  have l1 := hl.lo y hy
  have l2 := hl'.lo x hx
  have d0 : gi zs x = 0 := (hl.src x hx).2 ((one x x).2 rfl)
  have d0' : gi zt y = 0 := (hl'.src y hy).2 ((one y y).2 rfl)
  have a1 : ∀ k : Nat, gi zs y = (k : Int) → 0 ≤ gi zt x ∧ gi zt x ≤ (k : Int) := fun k hk => by
    obtain ⟨s, hs, hr⟩ := hl.rchN k y hy hk
    rw [(one x s).1 hs] at hr
    have hr' : RchN (GE (backG g)) k y x := hr.rev.mono fun a b e => (backG_edge hv).2 e
    have := hl'.walk hEb hr' hy (by omega)
    omega
  have a2 : ∀ k : Nat, gi zt x = (k : Int) → 0 ≤ gi zs y ∧ gi zs y ≤ (k : Int) := fun k hk => by
    obtain ⟨s, hs, hr⟩ := hl'.rchN k x hx hk
    rw [(one y s).1 hs] at hr
    have hr' : RchN (GE g) k x y := hr.rev.mono fun a b e => (backG_edge hv).1 e
    have := hl.walk (GE.both hv) hr' hx (by omega)
    omega
  by_cases h0 : 0 ≤ gi zs y
  · obtain ⟨k, hk⟩ := Int.eq_ofNat_of_zero_le h0
    have b1 := a1 k hk
    obtain ⟨k', hk'⟩ := Int.eq_ofNat_of_zero_le b1.1
    have b2 := a2 k' hk'
    omega
  · by_cases h0' : 0 ≤ gi zt x
    · obtain ⟨k', hk'⟩ := Int.eq_ofNat_of_zero_le h0'
      have b2 := a2 k' hk'
      omega
    · omega
/-- Who has a nearer predecessor, as far as the edges are gone through. -/
def NearTo (g : List (List Int)) (d : Nat → Int) (i j : Nat) (nb : Nat → Bool) : Prop := ∀ u v : Nat, (u < i ∨ (u = i ∧ (v : Int) ∈ (gr g i).take j)) → GE g u v → 0 ≤ d u → d v = d u + 1 → nb v = true
theorem NearTo.start (g : List (List Int)) (d : Nat → Int) (nb : Nat → Bool) : NearTo g d 0 0 nb := fun u v h => by
  rcases h with h | ⟨-, h⟩
  · exact absurd h (Nat.not_lt_zero _)
  · rw [List.take_zero] at h; cases h
theorem NearTo.step {d : Nat → Int} {i j x : Nat} {nb nb' : Nat → Bool} (h : NearTo g d i j nb) (hj : j < (gr g i).length) (hx : gi (gr g i) j = (x : Int)) (hk : ∀ v, nb v = true → nb' v = true) (hn : 0 ≤ d i → d x = d i + 1 → nb' x = true) : NearTo g d i (j + 1) nb' := fun u v hu e h0 h1 => by
  rcases hu with hu | ⟨hu, hv⟩
  · exact hk v (h u v (.inl hu) e h0 h1)
  · rw [take_succ_gi _ j hj, List.mem_append, List.mem_singleton, hx] at hv
    rcases hv with hv | hv
    · exact hk v (h u v (.inr ⟨hu, hv⟩) e h0 h1)
    · have : v = x := by omega
      subst this; subst hu
      exact hn h0 h1
theorem NearTo.next {d : Nat → Int} {i j : Nat} {nb : Nat → Bool} (h : NearTo g d i j nb) (hj : (gr g i).length ≤ j) : NearTo g d (i + 1) 0 nb := fun u v hu e h0 h1 => by
  rcases hu with hu | ⟨-, hu⟩
  · refine h u v ?_ e h0 h1
    rcases Nat.lt_or_ge u i with h2 | h2
    · exact .inl h2
    · have : u = i := by omega
      subst this
      exact .inr ⟨rfl, by rw [List.take_of_length_le hj]; exact e⟩
  · rw [List.take_zero] at hu; cases hu
/-- A node behind another one has a nearer predecessor. -/
theorem NearTo.has {l zs : List Int} {nb : Nat → Bool} (h : NearTo g (gi zs) g.length 0 nb) (hd : DistL g l zs) {v : Nat} (hv : v < g.length) (h0 : 0 < gi zs v) : nb v = true := by
  obtain ⟨k, hk⟩ := Int.eq_ofNat_of_zero_le (show 0 ≤ gi zs v - 1 by omega)
  obtain ⟨u, hu, he, e⟩ := hd.2.pred v hv k (by omega)
  exact h u v (.inl hu) he (by omega) (by omega)
theorem RchN.last {E : Nat → Nat → Prop} {n a c : Nat} (h : RchN E (n + 1) a c) : ∃ b, RchN E n a b ∧ E b c := by
  generalize hm : n + 1 = m at h
  induction h generalizing n with
  | zero => omega
  | @cons k a b c e h ih =>
    cases k with
    | zero => 
      cases h
      exact ⟨a, by rw [show n = 0 by omega]; exact .zero _, e⟩
    | succ k =>
      obtain ⟨d, h1, h2⟩ := ih (n := k) rfl
      exact ⟨d, by rw [show n = k + 1 by omega]; exact .cons e h1, h2⟩
open Classical in
/-- The distance as the length of the shortest walk. -/
noncomputable def wd (E : Nat → Nat → Prop) (S : Nat → Prop) (n : Nat) : Int := if ∃ k s, S s ∧ RchN E k s n then (leastOf fun k => ∃ s, S s ∧ RchN E k s n : Nat) else -1
theorem wd_pos {E : Nat → Nat → Prop} {S : Nat → Prop} {n : Nat} (h : ∃ k s, S s ∧ RchN E k s n) : ∃ k : Nat, wd E S n = (k : Int) ∧ (∃ s, S s ∧ RchN E k s n) ∧ ∀ m, (∃ s, S s ∧ RchN E m s n) → k ≤ m := by
  unfold wd
  rw [if_pos h]
  have := leastOf_spec (p := fun k => ∃ s, S s ∧ RchN E k s n) h
  exact ⟨_, rfl, this.1, this.2⟩
theorem wd_neg {E : Nat → Nat → Prop} {S : Nat → Prop} {n : Nat} (h : ¬ ∃ k s, S s ∧ RchN E k s n) : wd E S n = -1 := by unfold wd; rw [if_neg h]
theorem wd_locD {E : Nat → Nat → Prop} {S : Nat → Prop} {N : Nat} (hE : ∀ a b, E a b → a < N ∧ b < N) : LocD E S N (wd E S) where
  lo n _ := by
    by_cases h : ∃ k s, S s ∧ RchN E k s n
    · obtain ⟨k, e, -⟩ := wd_pos h
      omega
    · rw [wd_neg h]; omega
  src n _ := by
    constructor
    · intro e
      by_cases h : ∃ k s, S s ∧ RchN E k s n
      · obtain ⟨k, e', ⟨s, hs, hr⟩, -⟩ := wd_pos h
        obtain rfl : k = 0 := by omega
        cases hr
        exact hs
      · rw [wd_neg h] at e; omega
    · intro hs
      obtain ⟨k, e, -, hm⟩ := wd_pos (E := E) (S := S) (n := n) ⟨0, n, hs, .zero n⟩
      have := hm 0 ⟨n, hs, .zero n⟩
      omega
  step u v _ h0 e := by
    have h : ∃ k s, S s ∧ RchN E k s u := Classical.byContradiction fun h => by rw [wd_neg h] at h0; omega
    obtain ⟨k, e1, ⟨s, hs, hr⟩, -⟩ := wd_pos h
    obtain ⟨m, e2, -, hm⟩ := wd_pos (E := E) (S := S) (n := v) ⟨k + 1, s, hs, hr.snoc e⟩
    have := hm (k + 1) ⟨s, hs, hr.snoc e⟩
    omega
  pred v _ k e := by
    have h : ∃ k s, S s ∧ RchN E k s v := Classical.byContradiction fun h => by rw [wd_neg h] at e; omega
    obtain ⟨m, e1, ⟨s, hs, hr⟩, hl⟩ := wd_pos h
    obtain rfl : m = k + 1 := by omega
    obtain ⟨u, h1, h2⟩ := hr.last
    obtain ⟨j, e2, ⟨s', hs', hr'⟩, hj⟩ := wd_pos (E := E) (S := S) (n := u) ⟨k, s, hs, h1⟩
    have a1 := hj k ⟨s, hs, h1⟩
    have a2 := hl (j + 1) ⟨s', hs', hr'.snoc h2⟩
    exact ⟨u, (hE _ _ h2).1, h2, by omega⟩
theorem LocD.ext {E : Nat → Nat → Prop} {S : Nat → Prop} {N : Nat} {d d' : Nat → Int} (h : LocD E S N d) (hE : ∀ a b, E a b → a < N ∧ b < N) (e : ∀ n, n < N → d' n = d n) : LocD E S N d' where
  lo n hn := by rw [e n hn]; exact h.lo n hn
  src n hn := by rw [e n hn]; exact h.src n hn
  step u v hu h0 he := by rw [e u hu] at h0 ⊢; rw [e v (hE _ _ he).2]; exact h.step u v hu h0 he
  pred v hv k ek := by
    rw [e v hv] at ek
    obtain ⟨u, h1, h2, h3⟩ := h.pred v hv k ek
    exact ⟨u, h1, h2, by rw [e u h1]; exact h3⟩
/-- Distances are there. -/
theorem dsR_exists {l : List Int} (hc : checkV g l = 0) : DistL g l (dsR g l) := by
  have hv := (checkV_zero.1 hc).1
  have hx : DistL g l ((List.range g.length).map (wd (GE g) fun n => (n : Int) ∈ l)) := by
    refine ⟨by simp, (wd_locD (GE.both hv)).ext (GE.both hv) fun n hn => ?_⟩
    rw [gi_eq _ n (by simpa using hn)]
    simp
  rw [dsR_of hc hx]
  exact hx
/-- What Path comes to, told by the distances from its beginning. -/
theorem pt_none (hv : ValidG g) {x y : Nat} (hx : x < g.length) (hy : y < g.length) (h : gi (dsR g [(x : Int)]) y < 0) : ptE g (x : Int) (y : Int) = 8 ∧ ptR g (x : Int) (y : Int) = [] := by
  have hs := dist_sym hv hx hy (dsR_exists (checkV_one hv hx)) (dsR_exists (checkV_one (backG_valid hv) (by rw [backG_length]; exact hy)))
  have hc : checkV g [(x : Int), (y : Int)] = 0 := checkV_two.2 ⟨hv, x, y, rfl, rfl, hx, hy⟩
  have e : ((x : Int)).toNat = x := by omega
  unfold ptE ptR
  rw [if_pos hc, e, ← hs, if_pos h, if_neg (fun h' => by omega)]
  exact ⟨rfl, rfl⟩
theorem pt_some (hv : ValidG g) {x y m : Nat} (hx : x < g.length) (hy : y < g.length) (h : gi (dsR g [(x : Int)]) y = (m : Int)) : ptE g (x : Int) (y : Int) = 0 ∧ ∃ p : List Nat, ptR g (x : Int) (y : Int) = p.map Int.ofNat ∧ p.length = m + 1 ∧ nq p 0 = x ∧ nq p m = y ∧ (∀ i, i ≤ m → nq p i < g.length) ∧ ∀ i, i < m → GE g (nq p i) (nq p (i + 1)) := by
  have hd := dsR_exists (checkV_one (backG_valid hv) (by rw [backG_length]; exact hy))
  have hs := dist_sym hv hx hy (dsR_exists (checkV_one hv hx)) hd
  have hc : checkV g [(x : Int), (y : Int)] = 0 := checkV_two.2 ⟨hv, x, y, rfl, rfl, hx, hy⟩
  have e : ((x : Int)).toNat = x := by omega
  have ht : ToEnd g y (dsR (backG g) [(y : Int)]) := ⟨hv, hy, hd⟩
  rw [hs] at h
  unfold ptE ptR
  rw [if_pos hc, e, h, if_neg (by omega), if_pos ⟨hc, by omega⟩, show ((m : Int)).toNat = m by omega]
  exact ⟨rfl, _, rfl, pth_length _ _ _ _, ht.path m x hx h⟩
/-- Path succeeds where the end is reachable. -/
theorem pt_zero (hv : ValidG g) {x y : Nat} (hx : x < g.length) (hy : y < g.length) : (ptE g (x : Int) (y : Int) = 0 ∧ Rch (GE g) x y) ∨ (ptE g (x : Int) (y : Int) = 8 ∧ ¬ Rch (GE g) x y) := by
  have hd := dsR_exists (checkV_one hv hx)
  have hiff := hd.2.reach_iff (GE.both hv) (fun s hs => by rw [List.mem_singleton] at hs; omega) hy
  by_cases h : 0 ≤ gi (dsR g [(x : Int)]) y
  · obtain ⟨m, hm⟩ := Int.eq_ofNat_of_zero_le h
    obtain ⟨s, hs, hr⟩ := hiff.1 h
    have : s = x := by rw [List.mem_singleton] at hs; omega
    rw [this] at hr
    exact .inl ⟨(pt_some hv hx hy hm).1, hr⟩
  · exact .inr ⟨(pt_none hv hx hy (by omega)).1, fun hr => h (hiff.2 ⟨x, by simp, hr⟩)⟩
end Go.Proofs.Ytlogmgkjikamaaa
