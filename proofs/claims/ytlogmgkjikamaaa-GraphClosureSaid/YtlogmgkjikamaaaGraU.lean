/-
  Renumbering the components by their least nodes. No walk.
-/
import Derived.Test.YtlogmgkjikamaaaGraO
set_option linter.unusedVariables false
namespace Go.Proofs.Ytlogmgkjikamaaa

/-- The numbers while the nodes are gone through. -/
structure Ren (sm : Nat → Nat → Bool) (N m k : Nat) (zs nb zc : Nat → Int) : Prop where
  cls : ∀ x, x < k → zc x = (ix sm x : Int)
  rest : ∀ x, k ≤ x → x < N → zc x = zs x
  num : ∀ x, x < k → ∀ c : Nat, zs x = c → nb c = (ix sm x : Int)
  free : ∀ c : Nat, c < m → nb c = -1 ∨ ∃ x, x < k ∧ zs x = c
section
variable {sm : Nat → Nat → Bool} {N m k c : Nat} {zs nb zc nb' zc' : Nat → Int}
theorem Ren.start (sm : Nat → Nat → Bool) (N m : Nat) {zs nb : Nat → Int} (h : ∀ c, c < m → nb c = -1) : Ren sm N m 0 zs nb zs where
  cls x hx := absurd hx (Nat.not_lt_zero _)
  rest x _ _ := rfl
  num x hx := absurd hx (Nat.not_lt_zero _)
  free c hc := .inl (h c hc)
theorem Ren.new (r : Ren sm N m k zs nb zc) (hs : ∀ x y, x < N → y < N → (zs x = zs y ↔ sm x y = true)) (hk : k < N) (hc : zs k = c) (h : nb c < 0) : IsRt sm k := fun j hj => by
  refine Bool.eq_false_iff.2 fun e => ?_
  have h1 := (hs j k (by omega) hk).2 e
  have h2 := r.num j hj c (by rw [h1, hc])
  omega
theorem Ren.old (r : Ren sm N m k zs nb zc) (hq : Eqv sm) (hs : ∀ x y, x < N → y < N → (zs x = zs y ↔ sm x y = true)) (hk : k < N) (hcm : c < m) (hc : zs k = c) (h : ¬ nb c < 0) : nb c = (ix sm k : Int) ∧ ¬ IsRt sm k := by
  rcases r.free c hcm with h1 | ⟨x, hx, e⟩
  · omega
  · have h2 := (hs x k (by omega) hk).1 (by rw [e, hc])
    refine ⟨by rw [r.num x hx c e, ix_same hq h2], fun hr => ?_⟩
    have := hr x hx
    rw [h2] at this
    cases this
theorem Ren.step (r : Ren sm N m k zs nb zc) (hq : Eqv sm) (hs : ∀ x y, x < N → y < N → (zs x = zs y ↔ sm x y = true)) (hk : k < N) (hc : zs k = c) (hn : nb' c = (ix sm k : Int)) (ho : ∀ d : Nat, d < m → d ≠ c → nb' d = nb d) (hr : ∀ x, x < N → ∃ d : Nat, d < m ∧ zs x = d) (hz : ∀ x, x < N → zc' x = if x = k then (ix sm k : Int) else zc x) : Ren sm N m (k + 1) zs nb' zc' where
  cls x hx := by
    rw [hz x (by omega)]
    split
    · rename_i e; rw [e]
    · exact r.cls x (by omega)
  rest x h1 h2 := by
    rw [hz x h2, if_neg (by omega)]
    exact r.rest x (by omega) h2
  num x hx d hd := by
    by_cases e : d = c
    · rw [e, hn]
      rw [e] at hd
      rw [ix_same hq ((hs x k (by omega) hk).1 (by rw [hd, hc]))]
    · obtain ⟨d', h1, h2⟩ := hr x (by omega)
      have : d = d' := Int.ofNat.inj (hd.symm.trans h2)
      rw [ho d (by omega) e]
      refine r.num x (Nat.lt_of_le_of_ne (by omega) fun e2 => e ?_) d hd
      rw [e2, hc] at hd
      exact (Int.ofNat.inj hd).symm
  free d hd := by
    by_cases e : d = c
    · exact .inr ⟨k, by omega, by rw [hc, e]⟩
    · rcases r.free d hd with h | ⟨x, h1, h2⟩
      · exact .inl (by rw [ho d hd e]; exact h)
      · exact .inr ⟨x, by omega, h2⟩
theorem Ren.fin (r : Ren sm N m N zs nb zc) : ∀ x, x < N → zc x = (ix sm x : Int) := r.cls
end
end Go.Proofs.Ytlogmgkjikamaaa
