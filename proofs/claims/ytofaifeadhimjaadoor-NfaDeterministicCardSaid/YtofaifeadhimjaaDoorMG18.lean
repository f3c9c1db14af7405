import Derived.Test.YtofaifeadhimjaaDoorMG17
/-
  BtJ, BtK
-/
set_option linter.unusedSimpArgs false
set_option linter.unusedVariables false
namespace Go.Proofs.YtofaifeadhimjaaDoor.Bt
open Go.RowKit Go.Shelf

theorem cmpL_end {xs ys : List Int} {k len len' : Nat} (hx : xs.length = len) (hy : ys.length = len') (hk : k ≤ len) (hk' : k ≤ len') (hn : ¬ (k < len ∧ k < len')) :
  cmpL (xs.drop k) (ys.drop k) = if len < len' then -1 else if len' < len then 1 else 0 := by
 have h1 : (xs.drop k).length = len - k := by rw [List.length_drop, hx]
 have h2 : (ys.drop k).length = len' - k := by rw [List.length_drop, hy]
 generalize xs.drop k = X at *
 generalize ys.drop k = Y at *
 match X, Y with
 | [], [] => simp at h1 h2; rw [if_neg (by omega), if_neg (by omega)]; rfl
 | [], _ :: _ => simp at h1 h2; rw [if_pos (by omega)]; rfl
 | _ :: _, [] => simp at h1 h2; rw [if_neg (by omega), if_pos (by omega)]; rfl
 | _ :: _, _ :: _ => simp at h1 h2; omega

theorem cast_beq (n : Nat) : ((n : Int) == 0) = (n == 0) := by
 rw [Bool.eq_iff_iff]; simp

def elsTo (ws : List Int) (N : Nat) : List Int := ((List.range N).filter fun n : Nat => bitI (gi ws (n / 64)) (n % 64)).map fun n : Nat => (n : Int)
theorem elsTo_succ (ws : List Int) (N : Nat) : elsTo ws (N + 1) = elsTo ws N ++ if bitI (gi ws (N / 64)) (N % 64) then [(N : Int)] else [] := by
 unfold elsTo
 rw [List.range_succ, List.filter_append, List.map_append]
 congr 1
 by_cases h : bitI (gi ws (N / 64)) (N % 64) = true <;> simp [h]
theorem elsTo_yes {ws : List Int} {i k : Nat} (hk : k < 64) (h : bitI (gi ws i) k = true) : elsTo ws (64 * i + k + 1) = elsTo ws (64 * i + k) ++ [64 * (i : Int) + (k : Int)] := by
 rw [elsTo_succ, show (64 * i + k) / 64 = i by omega, show (64 * i + k) % 64 = k by omega, if_pos h]
 rw [Int.natCast_add, Int.natCast_mul]; rfl
theorem elsTo_no {ws : List Int} {i k : Nat} (hk : k < 64) (h : bitI (gi ws i) k = false) : elsTo ws (64 * i + k + 1) = elsTo ws (64 * i + k) := by
 rw [elsTo_succ, show (64 * i + k) / 64 = i by omega, show (64 * i + k) % 64 = k by omega, h]
 simp

end Go.Proofs.YtofaifeadhimjaaDoor.Bt

set_option linter.unusedSimpArgs false
set_option linter.unusedVariables false
namespace Go.Proofs.YtofaifeadhimjaaDoor.Bt
open Go.RowKit Go.Shelf

def longer (ws : List Int) (q : Nat) : List Int := ws ++ List.replicate (q + 1 - ws.length) 0
def wordsStep (ws : List Int) (n : Int) : List Int :=
 if 0 ≤ n ∧ n < 4096 then (longer ws (n / 64).toNat).set (n / 64).toNat (bits .or .u64 (gi (longer ws (n / 64).toNat) (n / 64).toNat) (IntKind.u64.wrap (2 ^ (n % 64).toNat))) else ws
def wordsL (l : List Int) : List Int := l.foldl wordsStep []
theorem wordsL_snoc (l : List Int) (k : Nat) (h : k < l.length) : wordsL (l.take (k + 1)) = wordsStep (wordsL (l.take k)) (gi l k) := by
 rw [take_succ_gi l k h, wordsL, List.foldl_append]; rfl
theorem longer_length (ws : List Int) (q : Nat) : (longer ws q).length = max ws.length (q + 1) := by simp [longer]; omega
theorem wordsL_length (l : List Int) : (wordsL l).length ≤ 64 := by
 unfold wordsL
 suffices H : ∀ ws : List Int, ws.length ≤ 64 → (l.foldl wordsStep ws).length ≤ 64 from H [] (by simp)
 induction l with
 | nil => intro ws h; exact h
 | cons n l ih =>
  intro ws h
  rw [List.foldl_cons]
  refine ih _ ?_
  unfold wordsStep
  split
  ·rw [List.length_set, longer_length]; omega
  ·exact h
theorem elU64s : Elem Tryd.prog 48 93 (.int .u64 0) 1 8 := ⟨Tryd.underlying48, by kernel_rfl, rfl, by decide⟩
def sLen : Value → Nat
 | .slice _ n _ => n
 | _ => 0

end Go.Proofs.YtofaifeadhimjaaDoor.Bt
