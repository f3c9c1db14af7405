import Derived.Outline
import Derived.Test.YtbjdglopkpigbaaGreatDoorMG0
import Derived.Test.YtbjdglopkpigbaaGreatDoorMG8
/-
  BtB, BtC
-/
set_option linter.unusedSimpArgs false
set_option linter.unusedVariables false
namespace Go.Proofs.YtbjdglopkpigbaaGreatDoor.Bt
open Go.RowKit Go.Shelf
def trimN (F : Nat → Int) : Nat → Nat
 | 0 => 0
 | n + 1 => if F n = 0 then trimN F n else n + 1
def bw (F : Nat → Int) (m : Nat) : List Int := (List.range (trimN F m)).map F
theorem elU64 : Elem Tryz.prog 68 104 (.int .u64 0) 1 8 := ⟨Tryz.underlying68, by kernel_rfl, rfl, by decide⟩
theorem trimN_succ_zero {F : Nat → Int} {n : Nat} (h : F n = 0) : trimN F (n + 1) = trimN F n := if_pos h
theorem trimN_succ {F : Nat → Int} {n : Nat} (h : ¬ F n = 0) : trimN F (n + 1) = n + 1 := if_neg h
theorem trimN_le (F : Nat → Int) : ∀ m, trimN F m ≤ m
 | 0 => Nat.le_refl _
 | m + 1 => by
  unfold trimN
  split
  ·exact Nat.le_succ_of_le (trimN_le F m)
  ·exact Nat.le_refl _
def fillTo (F : Nat → Int) (m k : Nat) : List Int := (List.range m).map fun j => if j < k then F j else 0
theorem fillTo_length (F : Nat → Int) (m k : Nat) : (fillTo F m k).length = m := by simp [fillTo]
theorem fillTo_zero (F : Nat → Int) (m : Nat) : fillTo F m 0 = List.replicate m 0 := by
 apply List.ext_getElem <;> simp [fillTo]
theorem fillTo_succ (F : Nat → Int) (m k : Nat) : (fillTo F m k).set k (F k) = fillTo F m (k + 1) := by
 apply List.ext_getElem
 ·simp [fillTo]
 ·intro i h1 h2
  simp only [fillTo, List.getElem_set, List.getElem_map, List.getElem_range]
  by_cases h : k = i
  ·subst h; simp
  ·rw [if_neg h]
   by_cases h3 : i < k
   ·rw [if_pos h3, if_pos (by omega)]
   ·rw [if_neg h3, if_neg (by omega)]
theorem fillTo_full (F : Nat → Int) (m j : Nat) (h : j < m) : gi (fillTo F m m) j = F j := by
 rw [gi_eq _ _ (by rw [fillTo_length]; exact h)]
 simp [fillTo, h]
theorem fillTo_take (F : Nat → Int) (m : Nat) : (fillTo F m m).take (trimN F m) = bw F m := by
 have := trimN_le F m
 apply List.ext_getElem
 ·simp [fillTo, bw]; omega
 ·intro i h1 h2
  simp [bw] at h2
  simp [fillTo, bw]
  intro h3; omega
set_option maxRecDepth 20000 in
theorem build_any (g : Nat) (C : Array Value) (A : Nat → Array Value) (hA : ∀ i : Nat, #[.int .i64 (i : Int)] ++ C = A i) (F : Nat → Int) (n : Nat) (w : World) (eg : Enters Tryz.prog g) (hn : n < 140737488355328)
  (hF : ∀ (i : Nat) (W : World), i < 64 → Below w.heap.size w W → Calls Tryz.prog g (A i) W fun e W' => e = .returned (.int .u64 (F i)) ∧ Below W.heap.size W W') :
  Calls Tryz.prog 65 #[.int .i64 (n : Int), .func (.func g) #[] C] w fun e w' => ∃ gg t, e = .returned (.slice (some ⟨gg, 0, none⟩) t t) ∧ PartOf .u64 104 w' w.heap.size gg t (bw F (min n 64)) ∧ Below w.heap.size w w' := by
 obtain ⟨m, hm, hm64, hme⟩ : ∃ m : Nat, (if 64 < (n : Int) then 64 else (n : Int)) = (m : Int) ∧ m ≤ 64 ∧ min n 64 = m := by
  refine ⟨min n 64, ?_, by omega, rfl⟩
  split <;> omega
 rw [hme]
 clear hme
 simp only [← hA] at hF
 have HF := Lib.hid hF
 clear hA
 clear hF
 have eg' : ∀ (args : Array Value) (w : World), (callFunc g args).run Tryz.prog w = .ok (.enter g args) w := eg
 go_enter Tryz.func65, Tryz.ntmps65
 go_wp2_with (at_make; refine make_ints (k := .u64) (n := m) (B := w.heap.size) elU64 rfl _ _ rfl rfl rfl rfl rfl (by omega) (Nat.le_refl _) ?_; intro w1 ho1 hb1 hz1; rw [← fillTo_zero F m] at ho1)
 go_loopw [13] (fun c W => ∃ k : Nat, k ≤ m ∧ c = .int .i64 (k : Int) ∧ W.ownsRow w.heap.size 104 1 (.slice (some ⟨w.heap.size, 0, none⟩) m m) m (ivs .u64 (fillTo F m k)) ∧ Below w.heap.size w W) (fun c _ => m - (intOf c).toNat)
 case atStart => exact ⟨0, Nat.zero_le _, rfl, ho1, hb1⟩
 case round =>
  obtain ⟨k, hk, rfl, ho, hb⟩ := hrel
  go_wp2_with (go_at_fn g; refine (HF.out k wr (by omega) hb).mono ?_; rintro e w2 ⟨rfl, hb2⟩; have ho2 := ho.kept_below hb2; obtain ⟨hc2, hf2⟩ := own_cell ho2 k (by omega) (fillTo_length _ _ _))
  ·have hlt : k < m := by omega
   go_roundw
   case rel =>
    refine ⟨k + 1, hlt, by go_num, ?_, (hb.trans (hb2.mono hb.size)).setCell (Nat.le_refl _) _⟩
    rw [← fillTo_succ]
    exact own_store ho2 k (F k)
   case measure => simp [intOf]; omega
  ·have hkm : k = m := by omega
   subst hkm
   clear hb1 ho1 hz1
   go_loop [0] (fun c => ∃ j : Nat, j ≤ k ∧ c = .int .i64 (j : Int) ∧ trimN F j = trimN F k) (fun c => (intOf c).toNat)
   case atStart => exact ⟨k, Nat.le_refl _, rfl, rfl⟩
   case round =>
    obtain ⟨j, hj, rfl, ht⟩ := hrel
    cases j with
    | zero =>
     go_wp2
     go_ret
     refine ⟨w.heap.size, 0, rfl, ⟨k, fillTo F k k, by omega, fillTo_length _ _ _, ?_, ho⟩, hb⟩
     rw [← fillTo_take, ← ht]; rfl
    | succ i =>
     obtain ⟨hc2, hf2⟩ := own_cell ho i (by omega) (fillTo_length _ _ _)
     rw [fillTo_full _ _ _ (by omega)] at hc2
     clear hf2
     by_cases h0 : F i = 0
     ·have hq : (F i == 0) = true := by simpa using h0
      go_wp2
      go_round
      case rel => exact ⟨i, by omega, by go_num, by rw [← ht, trimN_succ_zero h0]⟩
      case measure => simp [intOf]
     ·have hq : (F i == 0) = false := by simpa using h0
      go_wp2
      go_ret
      refine ⟨w.heap.size, i + 1, rfl, ⟨k, fillTo F k k, by omega, fillTo_length _ _ _, ?_, ho⟩, hb⟩
      rw [← fillTo_take, ← ht, trimN_succ h0]
end Go.Proofs.YtbjdglopkpigbaaGreatDoor.Bt
namespace Go.Proofs.YtbjdglopkpigbaaGreatDoor.Bt
open Go.RowKit Go.Shelf
end Go.Proofs.YtbjdglopkpigbaaGreatDoor.Bt
