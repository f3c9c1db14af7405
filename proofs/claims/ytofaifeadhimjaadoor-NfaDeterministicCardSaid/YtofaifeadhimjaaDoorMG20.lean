import Derived.Test.YtofaifeadhimjaaDoorMG19
/-
  BtO, BtP
-/
set_option linter.unusedSimpArgs false
set_option linter.unusedVariables false
namespace Go.Proofs.YtofaifeadhimjaaDoor.Bt
open Go.RowKit

def Asc (l : List Int) : Prop := l.Pairwise (· < ·)

theorem asc_ext : ∀ {xs ys : List Int}, Asc xs → Asc ys → (∀ z, z ∈ xs ↔ z ∈ ys) → xs = ys
 | [], [], _, _, _ => rfl
 | [], y :: ys, _, _, h => absurd ((h y).2 List.mem_cons_self) (by simp)
 | x :: xs, [], _, _, h => absurd ((h x).1 List.mem_cons_self) (by simp)
 | x :: xs, y :: ys, hx, hy, h => by
  have hx' := List.pairwise_cons.1 hx
  have hy' := List.pairwise_cons.1 hy
  have e : x = y := by
   rcases List.mem_cons.1 ((h x).1 List.mem_cons_self) with e | e
   ·exact e
   ·rcases List.mem_cons.1 ((h y).2 List.mem_cons_self) with e2 | e2
    ·exact e2.symm
    ·have h1 := hy'.1 x e
     have h2 := hx'.1 y e2
     omega
  subst e
  congr 1
  refine asc_ext hx'.2 hy'.2 fun z => ⟨fun hz => ?_, fun hz => ?_⟩
  ·rcases List.mem_cons.1 ((h z).1 (List.mem_cons_of_mem _ hz)) with e | e
   ·have := hx'.1 z hz; omega
   ·exact e
  ·rcases List.mem_cons.1 ((h z).2 (List.mem_cons_of_mem _ hz)) with e | e
   ·have := hy'.1 z hz; omega
   ·exact e

def setL (p : Nat → Bool) : List Int := ((List.range 4096).filter p).map fun n : Nat => (n : Int)
theorem mem_setL {p : Nat → Bool} {z : Int} : z ∈ setL p ↔ ∃ n : Nat, n < 4096 ∧ p n = true ∧ z = n := by
 unfold setL
 constructor
 ·intro h
  obtain ⟨n, hn, rfl⟩ := List.mem_map.1 h
  have := List.mem_filter.1 hn
  exact ⟨n, List.mem_range.1 this.1, this.2, rfl⟩
 ·rintro ⟨n, h1, h2, rfl⟩
  exact List.mem_map.2 ⟨n, List.mem_filter.2 ⟨List.mem_range.2 h1, h2⟩, rfl⟩
theorem asc_setL (p : Nat → Bool) : Asc (setL p) := by
 unfold Asc setL
 rw [List.pairwise_map]
 refine List.Pairwise.filter _ ?_
 refine List.Pairwise.imp ?_ List.pairwise_lt_range
 intro a b h; omega
theorem setL_bd {p : Nat → Bool} : ∀ z ∈ setL p, 0 ≤ z ∧ z < 4096 := by
 intro z hz
 obtain ⟨n, h1, _, rfl⟩ := mem_setL.1 hz
 omega
theorem setL_len (p : Nat → Bool) : (setL p).length ≤ 4096 := by
 unfold setL
 rw [List.length_map]
 exact Nat.le_trans (List.length_filter_le _ _) (by rw [List.length_range]; exact Nat.le_refl _)
theorem setL_congr {p q : Nat → Bool} (h : ∀ n, n < 4096 → p n = q n) : setL p = setL q := by
 unfold setL
 rw [List.filter_congr fun n hn => h n (List.mem_range.1 hn)]
theorem setL_inj {p q : Nat → Bool} (h : setL p = setL q) : ∀ n, n < 4096 → p n = q n := by
 intro n hn
 rw [Bool.eq_iff_iff]
 constructor
 ·intro hp
  obtain ⟨m, _, h2, e⟩ := mem_setL.1 (show ((n : Nat) : Int) ∈ setL q by rw [← h]; exact mem_setL.2 ⟨n, hn, hp, rfl⟩)
  rw [show n = m by omega]; exact h2
 ·intro hp
  obtain ⟨m, _, h2, e⟩ := mem_setL.1 (show ((n : Nat) : Int) ∈ setL p by rw [h]; exact mem_setL.2 ⟨n, hn, hp, rfl⟩)
  rw [show n = m by omega]; exact h2
theorem setL_filter (p : Nat → Bool) (q : Int → Bool) : (setL p).filter q = setL fun n => p n && q n := by
 refine asc_ext ((asc_setL p).filter _) (asc_setL _) fun z => ?_
 rw [List.mem_filter, mem_setL, mem_setL]
 constructor
 ·rintro ⟨⟨n, h1, h2, rfl⟩, h3⟩
  exact ⟨n, h1, by simp [h2, h3], rfl⟩
 ·rintro ⟨n, h1, h2, rfl⟩
  simp at h2
  exact ⟨⟨n, h1, h2.1, rfl⟩, h2.2⟩

theorem withStep_gt {n x : Int} (acc : List Int) (h : n < x) : withStep n (acc, false) x = (acc ++ [n] ++ [x], true) := by
 unfold withStep; rw [if_pos ⟨rfl, by omega⟩, if_pos h]
theorem withStep_eq {n x : Int} (acc : List Int) (h1 : n ≤ x) (h : ¬ n < x) : withStep n (acc, false) x = (acc ++ [x], true) := by
 unfold withStep; rw [if_pos ⟨rfl, h1⟩, if_neg h]
theorem withStep_lt {n x : Int} (acc : List Int) (h : ¬ n ≤ x) : withStep n (acc, false) x = (acc ++ [x], false) := by
 unfold withStep; rw [if_neg (fun e => h e.2)]
theorem withStep_done (n x : Int) (acc : List Int) : withStep n (acc, true) x = (acc ++ [x], true) := by
 unfold withStep; rw [if_neg (by simp)]
theorem withF_done (n : Int) : ∀ (l acc : List Int), l.foldl (withStep n) (acc, true) = (acc ++ l, true)
 | [], acc => by simp
 | x :: l, acc => by
  rw [List.foldl_cons, withStep_done, withF_done n l]
  simp
theorem withF_asc (n : Int) : ∀ (l acc : List Int), Asc l → (if (l.foldl (withStep n) (acc, false)).2 = true then (l.foldl (withStep n) (acc, false)).1 else (l.foldl (withStep n) (acc, false)).1 ++ [n]) = acc ++ (l.filter (fun x => decide (x < n)) ++ n :: l.filter (fun x => decide (n < x)))
 | [], acc, _ => by simp
 | x :: l, acc, h => by
  have h' := List.pairwise_cons.1 h
  rw [List.foldl_cons]
  by_cases h1 : n ≤ x
  ·have hz : ∀ y ∈ l, n < y := fun y hy => by have := h'.1 y hy; omega
   have e1 : l.filter (fun x => decide (x < n)) = [] := List.filter_eq_nil_iff.2 fun y hy => by have := hz y hy; simp; omega
   have e2 : l.filter (fun x => decide (n < x)) = l := List.filter_eq_self.2 fun y hy => by simpa using hz y hy
   by_cases h2 : n < x
   ·rw [withStep_gt _ h2, withF_done]
    simp [List.filter_cons, e1, e2, h2, show ¬ x < n by omega]
   ·have : x = n := by omega
    subst this
    rw [withStep_eq _ h1 h2, withF_done]
    simp [List.filter_cons, e1, e2]
  ·rw [withStep_lt _ h1, withF_asc n l _ h'.2, List.filter_cons, List.filter_cons, if_pos (by simp; omega), if_neg (by simp; omega)]
   simp
theorem withL_asc (n : Int) (l : List Int) (h : Asc l) : withL l n = l.filter (fun x => decide (x < n)) ++ n :: l.filter (fun x => decide (n < x)) := by
 have := withF_asc n l [] h
 rw [List.nil_append] at this
 exact this
theorem withL_setL (p : Nat → Bool) (n : Nat) (hn : n < 4096) : withL (setL p) n = setL fun m => p m || m == n := by
 rw [withL_asc _ _ (asc_setL p)]
 refine asc_ext ?_ (asc_setL _) fun z => ?_
 ·refine List.pairwise_append.2 ⟨(asc_setL p).filter _, List.pairwise_cons.2 ⟨fun y hy => by have := List.mem_filter.1 hy; simpa using this.2, (asc_setL p).filter _⟩, fun a ha b hb => ?_⟩
  have h1 : a < n := by simpa using (List.mem_filter.1 ha).2
  rcases List.mem_cons.1 hb with e | e
  ·omega
  ·have h2 : (n : Int) < b := by simpa using (List.mem_filter.1 e).2
   omega
 ·rw [List.mem_append, List.mem_cons, List.mem_filter, List.mem_filter, mem_setL, mem_setL]
  constructor
  ·rintro (⟨⟨m, h1, h2, rfl⟩, _⟩ | rfl | ⟨⟨m, h1, h2, rfl⟩, _⟩)
   ·exact ⟨m, h1, by simp [h2], rfl⟩
   ·exact ⟨n, hn, by simp, rfl⟩
   ·exact ⟨m, h1, by simp [h2], rfl⟩
  ·rintro ⟨m, h1, h2, rfl⟩
   rcases Nat.lt_trichotomy m n with h | h | h
   ·exact .inl ⟨⟨m, h1, by simpa [show ¬ m = n by omega] using h2, rfl⟩, by simp; omega⟩
   ·exact .inr (.inl (by omega))
   ·exact .inr (.inr ⟨⟨m, h1, by simpa [show ¬ m = n by omega] using h2, rfl⟩, by simp; omega⟩)
end Go.Proofs.YtofaifeadhimjaaDoor.Bt

set_option linter.unusedSimpArgs false
set_option linter.unusedVariables false
namespace Go.Proofs.YtofaifeadhimjaaDoor.Bt
open Go.RowKit

theorem unionL_nil (xs : List Int) : unionL xs [] = xs := rfl
theorem unionL_cons (xs : List Int) (y : Int) (ys : List Int) : unionL xs (y :: ys) = unionL (withL xs y) ys := rfl
theorem unionL_list : ∀ (ys : List Int) (p : Nat → Bool), (∀ y ∈ ys, 0 ≤ y ∧ y < 4096) → unionL (setL p) ys = setL fun n => p n || decide ((n : Int) ∈ ys)
 | [], p, _ => by
  rw [unionL_nil]
  exact setL_congr fun n _ => by simp
 | y :: ys, p, h => by
  have hy := h y List.mem_cons_self
  obtain ⟨m, rfl⟩ := Int.eq_ofNat_of_zero_le hy.1
  rw [unionL_cons, withL_setL p m (by omega), unionL_list ys _ fun z hz => h z (List.mem_cons_of_mem _ hz)]
  refine setL_congr fun n _ => ?_
  rw [Bool.eq_iff_iff]
  simp only [Bool.or_eq_true, beq_iff_eq, decide_eq_true_eq, List.mem_cons]
  constructor
  ·rintro ((h | h) | h)
   ·exact .inl h
   ·exact .inr (.inl (by omega))
   ·exact .inr (.inr h)
  ·rintro (h | h | h)
   ·exact .inl (.inl h)
   ·exact .inl (.inr (by omega))
   ·exact .inr h
theorem mem_setL_nat {q : Nat → Bool} {n : Nat} (hn : n < 4096) : (n : Int) ∈ setL q ↔ q n = true := by
 rw [mem_setL]
 constructor
 ·rintro ⟨m, _, h, e⟩
  rw [show n = m by omega]; exact h
 ·intro h; exact ⟨n, hn, h, rfl⟩
theorem unionL_setL (p q : Nat → Bool) : unionL (setL p) (setL q) = setL fun n => p n || q n := by
 rw [unionL_list _ _ setL_bd]
 refine setL_congr fun n hn => ?_
 rw [Bool.eq_iff_iff]
 simp [mem_setL_nat hn]
theorem interL_setL (p q : Nat → Bool) : (setL p).filter (fun x => decide (x ∈ setL q)) = setL fun n => p n && q n := by
 rw [setL_filter]
 refine setL_congr fun n hn => ?_
 rw [Bool.eq_iff_iff]
 simp [mem_setL_nat hn]
theorem minusL_setL (p q : Nat → Bool) : (setL p).filter (fun x => !decide (x ∈ setL q)) = setL fun n => p n && !q n := by
 rw [setL_filter]
 refine setL_congr fun n hn => ?_
 have : decide ((n : Int) ∈ setL q) = q n := by rw [Bool.eq_iff_iff]; simp [mem_setL_nat hn]
 simp only [this]
theorem withoutL_setL (p : Nat → Bool) (k : Nat) : (setL p).filter (fun x => x != (k : Int)) = setL fun n => p n && n != k := by
 rw [setL_filter]
 refine setL_congr fun n hn => ?_
 congr 1
 rw [Bool.eq_iff_iff]
 simp; omega

theorem elsTo_setL {ws : List Int} {len : Nat} (hw : W64 ws) (hl : ws.length = len) : elsTo ws (64 * min len 64) = setL (bt ws) := by
 have asc : Asc (elsTo ws (64 * min len 64)) := by
  unfold Asc elsTo
  rw [List.pairwise_map]
  refine List.Pairwise.filter _ ?_
  refine List.Pairwise.imp ?_ List.pairwise_lt_range
  intro a b h; omega
 refine asc_ext asc (asc_setL _) fun z => ?_
 rw [mem_setL]
 unfold elsTo
 rw [List.mem_map]
 constructor
 ·rintro ⟨n, hn, rfl⟩
  obtain ⟨h1, h2⟩ := List.mem_filter.1 hn
  have h1 := List.mem_range.1 h1
  refine ⟨n, by omega, ?_, rfl⟩
  unfold bt wd
  rw [if_pos (by omega), ← bitI_tb (hw.gi _).1 (hw.gi _).2]
  exact h2
 ·rintro ⟨n, h1, h2, rfl⟩
  refine ⟨n, List.mem_filter.2 ⟨List.mem_range.2 ?_, ?_⟩, rfl⟩
  ·by_cases h : n < 64 * min len 64
   ·exact h
   ·exfalso
    unfold bt wd at h2
    rw [if_pos (by omega), gi_over (by omega)] at h2
    simp [tb] at h2
  ·unfold bt wd at h2
   rw [if_pos (by omega), ← bitI_tb (hw.gi _).1 (hw.gi _).2] at h2
   exact h2
end Go.Proofs.YtofaifeadhimjaaDoor.Bt
