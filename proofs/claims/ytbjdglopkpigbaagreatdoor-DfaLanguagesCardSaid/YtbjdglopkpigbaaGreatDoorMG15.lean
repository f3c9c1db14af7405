import Derived.Test.YtbjdglopkpigbaaGreatDoorMG14
/-
  BtO, BtP
-/
set_option linter.unusedSimpArgs false
set_option linter.unusedVariables false
namespace Go.Proofs.YtbjdglopkpigbaaGreatDoor.Bt
open Go.RowKit
def Asc (l : List Int) : Prop := l.Pairwise (· < ·)
theorem asc_ext : ∀ {xs ys : List Int}, Asc xs → Asc ys → (∀ z, z ∈ xs ↔ z ∈ ys) → xs = ys
 | [], [], _, _, _ => rfl
 | [], y :: ys, _, _, h => absurd ((h y).2 List.mem_cons_self) (by simp)
 | x :: xs, [], _, _, h => absurd ((h x).1 List.mem_cons_self) (by simp)
 | x :: xs, y :: ys, hx, hy, h => by
  have hx' := List.pairwise_cons.1 hx
  have hy' := List.pairwise_cons.1 hy
  have e : x = y := by
   rcases List.mem_cons.1 ((h x).1 List.mem_cons_self) with e | e
   ·exact e
   ·rcases List.mem_cons.1 ((h y).2 List.mem_cons_self) with e2 | e2
    ·exact e2.symm
    ·have h1 := hy'.1 x e
     have h2 := hx'.1 y e2
     omega
  subst e
  congr 1
  refine asc_ext hx'.2 hy'.2 fun z => ⟨fun hz => ?_, fun hz => ?_⟩
  ·rcases List.mem_cons.1 ((h z).1 (List.mem_cons_of_mem _ hz)) with e | e
   ·have := hx'.1 z hz; omega
   ·exact e
  ·rcases List.mem_cons.1 ((h z).2 (List.mem_cons_of_mem _ hz)) with e | e
   ·have := hy'.1 z hz; omega
   ·exact e
def setL (p : Nat → Bool) : List Int := ((List.range 4096).filter p).map fun n : Nat => (n : Int)
theorem mem_setL {p : Nat → Bool} {z : Int} : z ∈ setL p ↔ ∃ n : Nat, n < 4096 ∧ p n = true ∧ z = n := by
 unfold setL
 constructor
 ·intro h
  obtain ⟨n, hn, rfl⟩ := List.mem_map.1 h
  have := List.mem_filter.1 hn
  exact ⟨n, List.mem_range.1 this.1, this.2, rfl⟩
 ·rintro ⟨n, h1, h2, rfl⟩
  exact List.mem_map.2 ⟨n, List.mem_filter.2 ⟨List.mem_range.2 h1, h2⟩, rfl⟩
theorem asc_setL (p : Nat → Bool) : Asc (setL p) := by
 unfold Asc setL
 rw [List.pairwise_map]
 refine List.Pairwise.filter _ ?_
 refine List.Pairwise.imp ?_ List.pairwise_lt_range
 intro a b h; omega
theorem setL_bd {p : Nat → Bool} : ∀ z ∈ setL p, 0 ≤ z ∧ z < 4096 := by
 intro z hz
 obtain ⟨n, h1, _, rfl⟩ := mem_setL.1 hz
 omega
theorem setL_len (p : Nat → Bool) : (setL p).length ≤ 4096 := by
 unfold setL
 rw [List.length_map]
 exact Nat.le_trans (List.length_filter_le _ _) (by rw [List.length_range]; exact Nat.le_refl _)
theorem setL_congr {p q : Nat → Bool} (h : ∀ n, n < 4096 → p n = q n) : setL p = setL q := by
 unfold setL
 rw [List.filter_congr fun n hn => h n (List.mem_range.1 hn)]
end Go.Proofs.YtbjdglopkpigbaaGreatDoor.Bt
namespace Go.Proofs.YtbjdglopkpigbaaGreatDoor.Bt
open Go.RowKit
theorem mem_setL_nat {q : Nat → Bool} {n : Nat} (hn : n < 4096) : (n : Int) ∈ setL q ↔ q n = true := by
 rw [mem_setL]
 constructor
 ·rintro ⟨m, _, h, e⟩
  rw [show n = m by omega]; exact h
 ·intro h; exact ⟨n, hn, h, rfl⟩
theorem elsTo_setL {ws : List Int} {len : Nat} (hw : W64 ws) (hl : ws.length = len) : elsTo ws (64 * min len 64) = setL (bt ws) := by
 have asc : Asc (elsTo ws (64 * min len 64)) := by
  unfold Asc elsTo
  rw [List.pairwise_map]
  refine List.Pairwise.filter _ ?_
  refine List.Pairwise.imp ?_ List.pairwise_lt_range
  intro a b h; omega
 refine asc_ext asc (asc_setL _) fun z => ?_
 rw [mem_setL]
 unfold elsTo
 rw [List.mem_map]
 constructor
 ·rintro ⟨n, hn, rfl⟩
  obtain ⟨h1, h2⟩ := List.mem_filter.1 hn
  have h1 := List.mem_range.1 h1
  refine ⟨n, by omega, ?_, rfl⟩
  unfold bt wd
  rw [if_pos (by omega), ← bitI_tb (hw.gi _).1 (hw.gi _).2]
  exact h2
 ·rintro ⟨n, h1, h2, rfl⟩
  refine ⟨n, List.mem_filter.2 ⟨List.mem_range.2 ?_, ?_⟩, rfl⟩
  ·by_cases h : n < 64 * min len 64
   ·exact h
   ·exfalso
    unfold bt wd at h2
    rw [if_pos (by omega), gi_over (by omega)] at h2
    simp [tb] at h2
  ·unfold bt wd at h2
   rw [if_pos (by omega), ← bitI_tb (hw.gi _).1 (hw.gi _).2] at h2
   exact h2
end Go.Proofs.YtbjdglopkpigbaaGreatDoor.Bt
