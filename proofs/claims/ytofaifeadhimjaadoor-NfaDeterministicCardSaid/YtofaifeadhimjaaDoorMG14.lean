import Derived.Outline
import Derived.Test.YtofaifeadhimjaaDoorMG1
import Derived.Test.YtofaifeadhimjaaDoorMG13
/-
  BtB, BtC
-/
set_option linter.unusedSimpArgs false
set_option linter.unusedVariables false
namespace Go.Proofs.YtofaifeadhimjaaDoor.Bt
open Go.RowKit Go.Shelf

def trimN (F : Nat → Int) : Nat → Nat
 | 0 => 0
 | n + 1 => if F n = 0 then trimN F n else n + 1
def bw (F : Nat → Int) (m : Nat) : List Int := (List.range (trimN F m)).map F

theorem elU64 : Elem Tryd.prog 49 93 (.int .u64 0) 1 8 := ⟨Tryd.underlying49, by kernel_rfl, rfl, by decide⟩

theorem trimN_succ_zero {F : Nat → Int} {n : Nat} (h : F n = 0) : trimN F (n + 1) = trimN F n := if_pos h
theorem trimN_succ {F : Nat → Int} {n : Nat} (h : ¬ F n = 0) : trimN F (n + 1) = n + 1 := if_neg h
theorem trimN_le (F : Nat → Int) : ∀ m, trimN F m ≤ m
 | 0 => Nat.le_refl _
 | m + 1 => by
  unfold trimN
  split
  ·exact Nat.le_succ_of_le (trimN_le F m)
  ·exact Nat.le_refl _

def fillTo (F : Nat → Int) (m k : Nat) : List Int := (List.range m).map fun j => if j < k then F j else 0
theorem fillTo_length (F : Nat → Int) (m k : Nat) : (fillTo F m k).length = m := by simp [fillTo]
theorem fillTo_zero (F : Nat → Int) (m : Nat) : fillTo F m 0 = List.replicate m 0 := by
 apply List.ext_getElem <;> simp [fillTo]
theorem fillTo_succ (F : Nat → Int) (m k : Nat) : (fillTo F m k).set k (F k) = fillTo F m (k + 1) := by
 apply List.ext_getElem
 ·simp [fillTo]
 ·intro i h1 h2
  simp only [fillTo, List.getElem_set, List.getElem_map, List.getElem_range]
  by_cases h : k = i
  ·subst h; simp
  ·rw [if_neg h]
   by_cases h3 : i < k
   ·rw [if_pos h3, if_pos (by omega)]
   ·rw [if_neg h3, if_neg (by omega)]
theorem fillTo_full (F : Nat → Int) (m j : Nat) (h : j < m) : gi (fillTo F m m) j = F j := by
 rw [gi_eq _ _ (by rw [fillTo_length]; exact h)]
 simp [fillTo, h]

theorem fillTo_take (F : Nat → Int) (m : Nat) : (fillTo F m m).take (trimN F m) = bw F m := by
 have := trimN_le F m
 apply List.ext_getElem
 ·simp [fillTo, bw]; omega
 ·intro i h1 h2
  simp [bw] at h2
  simp [fillTo, bw]
  intro h3; omega

set_option maxRecDepth 20000 in
theorem build_any (g : Nat) (C : Array Value) (A : Nat → Array Value) (hA : ∀ i : Nat, #[.int .i64 (i : Int)] ++ C = A i) (F : Nat → Int) (n : Nat) (w : World) (eg : Enters Tryd.prog g) (hn : n < 140737488355328)
  (hF : ∀ (i : Nat) (W : World), i < 64 → Below w.heap.size w W → Calls Tryd.prog g (A i) W fun e W' => e = .returned (.int .u64 (F i)) ∧ Below W.heap.size W W') :
  Calls Tryd.prog 55 #[.int .i64 (n : Int), .func (.func g) #[] C] w fun e w' => ∃ gg t, e = .returned (.slice (some ⟨gg, 0, none⟩) t t) ∧ PartOf .u64 93 w' w.heap.size gg t (bw F (min n 64)) ∧ Below w.heap.size w w' := by
 obtain ⟨m, hm, hm64, hme⟩ : ∃ m : Nat, (if 64 < (n : Int) then 64 else (n : Int)) = (m : Int) ∧ m ≤ 64 ∧ min n 64 = m := by
  refine ⟨min n 64, ?_, by omega, rfl⟩
  split <;> omega
 rw [hme]
 clear hme
 simp only [← hA] at hF
 have HF := Lib.hid hF
 clear hA
 clear hF
 have eg' : ∀ (args : Array Value) (w : World), (callFunc g args).run Tryd.prog w = .ok (.enter g args) w := eg
 go_enter Tryd.func55, Tryd.ntmps55
 go_wp2_with (at_make; refine make_ints (k := .u64) (n := m) (B := w.heap.size) elU64 rfl _ _ rfl rfl rfl rfl rfl (by omega) (Nat.le_refl _) ?_; intro w1 ho1 hb1 hz1; rw [← fillTo_zero F m] at ho1)
 go_loopw [13] (fun c W => ∃ k : Nat, k ≤ m ∧ c = .int .i64 (k : Int) ∧ W.ownsRow w.heap.size 93 1 (.slice (some ⟨w.heap.size, 0, none⟩) m m) m (ivs .u64 (fillTo F m k)) ∧ Below w.heap.size w W) (fun c _ => m - (intOf c).toNat)
 case atStart => exact ⟨0, Nat.zero_le _, rfl, ho1, hb1⟩
 case round =>
  obtain ⟨k, hk, rfl, ho, hb⟩ := hrel
  go_wp2_with (go_at_fn g; refine (HF.out k wr (by omega) hb).mono ?_; rintro e w2 ⟨rfl, hb2⟩; have ho2 := ho.kept_below hb2; obtain ⟨hc2, hf2⟩ := own_cell ho2 k (by omega) (fillTo_length _ _ _))
  ·have hlt : k < m := by omega
   go_roundw
   case rel =>
    refine ⟨k + 1, hlt, by go_num, ?_, (hb.trans (hb2.mono hb.size)).setCell (Nat.le_refl _) _⟩
    rw [← fillTo_succ]
    exact own_store ho2 k (F k)
   case measure => simp [intOf]; omega
  ·have hkm : k = m := by omega
   subst hkm
   clear hb1 ho1 hz1
   go_loop [0] (fun c => ∃ j : Nat, j ≤ k ∧ c = .int .i64 (j : Int) ∧ trimN F j = trimN F k) (fun c => (intOf c).toNat)
   case atStart => exact ⟨k, Nat.le_refl _, rfl, rfl⟩
   case round =>
    obtain ⟨j, hj, rfl, ht⟩ := hrel
    cases j with
    | zero =>
     go_wp2
     go_ret
     refine ⟨w.heap.size, 0, rfl, ⟨k, fillTo F k k, by omega, fillTo_length _ _ _, ?_, ho⟩, hb⟩
     rw [← fillTo_take, ← ht]; rfl
    | succ i =>
     obtain ⟨hc2, hf2⟩ := own_cell ho i (by omega) (fillTo_length _ _ _)
     rw [fillTo_full _ _ _ (by omega)] at hc2
     clear hf2
     by_cases h0 : F i = 0
     ·have hq : (F i == 0) = true := by simpa using h0
      go_wp2
      go_round
      case rel => exact ⟨i, by omega, by go_num, by rw [← ht, trimN_succ_zero h0]⟩
      case measure => simp [intOf]
     ·have hq : (F i == 0) = false := by simpa using h0
      go_wp2
      go_ret
      refine ⟨w.heap.size, i + 1, rfl, ⟨k, fillTo F k k, by omega, fillTo_length _ _ _, ?_, ho⟩, hb⟩
      rw [← fillTo_take, ← ht, trimN_succ h0]
end Go.Proofs.YtofaifeadhimjaaDoor.Bt

set_option linter.unusedSimpArgs false
set_option linter.unusedVariables false
namespace Go.Proofs.YtofaifeadhimjaaDoor.Bt
open Go.RowKit Go.Shelf

def opW (op : BinOp) (xs ys : List Int) (i : Nat) : Int := bits op .u64 (wd xs i) (wd ys i)

set_option maxRecDepth 20000 in
theorem union1_any (a : Option Addr) (len cap : Nat) (xs : List Int) (a' : Option Addr) (len' cap' : Nat) (ys : List Int) (i x y : Nat) (w : World) (hi : i < 64) (hs : IsInts .u64 w a len cap xs) (hs' : IsInts .u64 w a' len' cap' ys)
  (hx : w.cell? ⟨x, 0, none⟩ = some (.slice a len cap)) (hy : w.cell? ⟨y, 0, none⟩ = some (.slice a' len' cap')) :
  Calls Tryd.prog 57 #[.int .i64 (i : Int), .pointer (some ⟨x, 0, none⟩), .pointer (some ⟨y, 0, none⟩)] w fun e w' => e = .returned (.int .u64 (opW .or xs ys i)) ∧ Below w.heap.size w w' := by
 have hx' := lt_of_cell hx
 have hy' := lt_of_cell hy
 go_enter Tryd.func57, Tryd.ntmps57
 go_wp2
 refine wp_region_grow mixed (by kernel_rfl) [[], [], [(0, 5), (1, 6)], [], [], [(3, 8), (4, 9), (2, 7)], [(2, 7), (5, 10)], [(6, 11), (5, 10), (0, 5), (1, 6), (2, 7), (3, 8), (4, 9), (5, 10), (6, 11)]] [(0, 5), (1, 6), (2, 7), (3, 8), (4, 9), (5, 10), (6, 11), (7, 4)] rfl rfl [Ex ?e0, Ex ?e1, Ex ?e2, Ex ?e3, Ex ?e4, Ex ?e5, Ex ?e6, Ex ?e7] ⟨stays_ex _, stays_ex _, stays_ex _, stays_ex _, stays_ex _, stays_ex _, stays_ex _, stays_ex _, trivial⟩ ?steps ?rest
 case steps =>
  refine ⟨fun f W hC hh => ?_, fun f W hC hh => ?_, fun f W hC hh => ?_, fun f W hC hh => ?_, fun f W hC hh => ?_, fun f W hC hh => ?_, fun f W hC hh => ?_, fun f W hC hh => ?_, trivial⟩
  ·
   refine tab_plain fun K Q hK => ?_
   simp only [puts, List.foldr_nil]
   have hc := (hC.cell (p := ⟨x, 0, none⟩) hx').trans hx
   go_step
   exact fam_e hK rfl rfl (Below.refl _ _) hC
  ·
   refine tab_plain fun K Q hK => ?_
   simp only [puts, List.foldr_nil]
   go_step
   exact fam_e hK rfl rfl (Below.refl _ _) hC
  ·
   obtain ⟨h0, h1, -⟩ := hh
   have g0 : f 0 = _ := h0
   have g1 : f 1 = _ := h1
   refine tab_plain fun K Q hK => ?_
   simp only [puts, List.foldr_cons, List.foldr_nil, List.setIfInBounds_toArray, List.set_cons_succ, List.set_cons_zero, g0, g1]
   go_step
   go_at_call 54
   refine (word_any a len cap xs i W (hs.later hC) (by omega)).mono ?_
   rintro e w' ⟨rfl, rfl⟩
   exact fam_e hK rfl rfl (Below.refl _ _) hC
  ·
   refine tab_plain fun K Q hK => ?_
   simp only [puts, List.foldr_nil]
   have hc := (hC.cell (p := ⟨y, 0, none⟩) hy').trans hy
   go_step
   exact fam_e hK rfl rfl (Below.refl _ _) hC
  ·
   refine tab_plain fun K Q hK => ?_
   simp only [puts, List.foldr_nil]
   go_step
   exact fam_e hK rfl rfl (Below.refl _ _) hC
  ·
   obtain ⟨h3, h4, h2, -⟩ := hh
   have g3 : f 3 = _ := h3
   have g4 : f 4 = _ := h4
   have g2 : f 2 = _ := h2
   refine tab_plain fun K Q hK => ?_
   simp only [puts, List.foldr_cons, List.foldr_nil, List.setIfInBounds_toArray, List.set_cons_succ, List.set_cons_zero, g3, g4, g2]
   go_step
   go_at_call 54
   refine (word_any a' len' cap' ys i W (hs'.later hC) (by omega)).mono ?_
   rintro e w' ⟨rfl, rfl⟩
   exact fam_e hK rfl rfl (Below.refl _ _) hC
  ·
   obtain ⟨h2, h5, -⟩ := hh
   have g2 : f 2 = _ := h2
   have g5 : f 5 = _ := h5
   refine tab_plain fun K Q hK => ?_
   simp only [puts, List.foldr_cons, List.foldr_nil, List.setIfInBounds_toArray, List.set_cons_succ, List.set_cons_zero, g2, g5]
   go_step
   exact fam_e hK rfl rfl (Below.refl _ _) hC
  ·
   obtain ⟨h6, h5, h0, h1, h2, h3, h4, _, _, -⟩ := hh
   have g6 : f 6 = _ := h6
   have g5 : f 5 = _ := h5
   have g0 : f 0 = _ := h0
   have g1 : f 1 = _ := h1
   have g2 : f 2 = _ := h2
   have g3 : f 3 = _ := h3
   have g4 : f 4 = _ := h4
   refine tab_plain fun K Q hK => ?_
   simp only [puts, List.foldr_cons, List.foldr_nil, List.setIfInBounds_toArray, List.set_cons_succ, List.set_cons_zero, g6, g5, g0, g1, g2, g3, g4]
   go_step
   exact fam_e hK rfl rfl (Below.refl _ _) hC
 case rest =>
  intro f W2 hC hh
  obtain ⟨h0, h1, h2, h3, h4, h5, h6, h7, -⟩ := hh
  have g0 : f 0 = _ := h0
  have g1 : f 1 = _ := h1
  have g2 : f 2 = _ := h2
  have g3 : f 3 = _ := h3
  have g4 : f 4 = _ := h4
  have g5 : f 5 = _ := h5
  have g6 : f 6 = _ := h6
  have g7 : f 7 = _ := h7
  simp only [puts, List.foldr_cons, List.foldr_nil, List.setIfInBounds_toArray, List.set_cons_succ, List.set_cons_zero, g0, g1, g2, g3, g4, g5, g6, g7]
  clear h0 h1 h2 h3 h4 h5 h6 h7 g0 g1 g2 g3 g4 g5 g6 g7
  go_wp2
  go_ret
  exact ⟨rfl, hC⟩

set_option maxRecDepth 20000 in
theorem union_any (a : Option Addr) (len cap : Nat) (xs : List Int) (a' : Option Addr) (len' cap' : Nat) (ys : List Int) (w : World) (hs : IsInts .u64 w a len cap xs) (hs' : IsInts .u64 w a' len' cap' ys) (hl : len ≤ 140737488351232) (hl' : len' ≤ 140737488351232) :
  Calls Tryd.prog 31 #[.slice a len cap, .slice a' len' cap'] w fun e w' => ∃ g t, e = .returned (.slice (some ⟨g, 0, none⟩) t t) ∧ PartOf .u64 93 w' w.heap.size g t (bw (opW .or xs ys) (min (max len len') 64)) ∧ Below w.heap.size w w' := by
 obtain ⟨W0, hW0⟩ : ∃ W0, (w.alloc (.cells #[.slice a len cap] 49)).alloc (.cells #[.slice a' len' cap'] 49) = W0 := ⟨_, rfl⟩
 obtain ⟨hz0, hb0, hcA, hcB⟩ := box2 _ _ _ _ _ _ hW0
 have hA0 := hcA 0
 have hB0 := hcB 0
 simp only [List.getElem?_toArray, List.getElem?_cons_zero, List.getElem?_cons_succ] at hA0 hB0
 clear hcA hcB
 have hs0 := hs.later hb0
 have hs0' := hs'.later hb0
 have hbd := fun (n : Nat) (hn : n < 140737488355328) => build_any 57 #[.pointer (some ⟨w.heap.size, 0, none⟩), .pointer (some ⟨w.heap.size + 1, 0, none⟩)] (fun i => #[.int .i64 (i : Int), .pointer (some ⟨w.heap.size, 0, none⟩), .pointer (some ⟨w.heap.size + 1, 0, none⟩)]) (fun i => rfl) (opW .or xs ys) n W0 (enters_of Tryd.func57 (by kernel_rfl) rfl) hn
  (fun i W hi hb => union1_any a len cap xs a' len' cap' ys i w.heap.size (w.heap.size + 1) W hi (hs0.later hb) (hs0'.later hb) ((hb.cell (p := ⟨w.heap.size, 0, none⟩) (show w.heap.size < _ by omega)).trans hA0) ((hb.cell (p := ⟨w.heap.size + 1, 0, none⟩) (show w.heap.size + 1 < _ by omega)).trans hB0))
 have hmf : ∀ (fn : Fn) (first cap : Array Value) (w : World), (Instr.makeFunc fn first cap).run Tryd.prog w = .ok (.func fn first cap) w := fun _ _ _ _ => rfl
 go_enter Tryd.func31, Tryd.ntmps31
 go_wp2_with (go_at_call 55; with_reducible refine (hbd _ (by omega)).mono ?_; rintro e w1 ⟨g, t, rfl, hp, hb1⟩)
 all_goals go_ret
 all_goals refine ⟨g, t, rfl, ?_, hb0.trans (hb1.mono hb0.size)⟩
 all_goals have hp' := hp.from_mono hb0.size
 all_goals first | exact hp' | (rw [show max len len' = len by omega]; exact hp') | (rw [show max len len' = len' by omega]; exact hp')

end Go.Proofs.YtofaifeadhimjaaDoor.Bt
