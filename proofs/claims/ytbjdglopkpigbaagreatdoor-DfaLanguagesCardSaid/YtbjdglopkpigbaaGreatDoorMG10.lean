import Derived.Test.YtbjdglopkpigbaaGreatDoorMG9
/-
  BtD, BtE
-/
set_option linter.unusedSimpArgs false
set_option linter.unusedVariables false
namespace Go.Proofs.YtbjdglopkpigbaaGreatDoor.Bt
open List (foldr_cons foldr_nil setIfInBounds_toArray set_cons_succ set_cons_zero)
open Go.RowKit Go.Shelf
def ArrIs (W : World) (B : Nat) (zs : List Int) : Prop := W.heap[B]? = some (.cells (ivs .u64 zs).toArray 108 (0, 0))
theorem ArrIs.cell {W : World} {B : Nat} {zs : List Int} (h : ArrIs W B zs) (j : Nat) (hj : j < zs.length) : W.cell? ⟨B, j, none⟩ = some (.int .u64 (gi zs j)) ∧ W.frozen? ⟨B, j, none⟩ = false := by
 refine ⟨?_, frozen_of_row W B j _ _ h⟩
 rw [cell_of_row W B j _ _ (0, 0) h, List.getElem?_toArray, ivs_get _ _ _ hj]
theorem ArrIs.kept {W W' : World} {B : Nat} {zs : List Int} (h : ArrIs W B zs) (hb : Below W.heap.size W W') : ArrIs W' B zs := by
 unfold ArrIs
 rw [hb.block B (Array.getElem?_eq_some_iff.1 h).1]; exact h
theorem ArrIs.store {W : World} {B : Nat} {zs : List Int} (h : ArrIs W B zs) (j : Nat) (v : Int) : ArrIs (W.setCell ⟨B, j, none⟩ (.int .u64 v)) B (zs.set j v) := by
 unfold ArrIs
 rw [heap_setCell_same W B j _ _ _ h, setIfInBounds_toArray, ivs_set]
def putBit (ws : List Int) (n : Int) : List Int := if 0 ≤ n ∧ n < 4096 then ws.set (n / 64).toNat (bits .or .u64 (gi ws (n / 64).toNat) (IntKind.u64.wrap (2 ^ (n % 64).toNat))) else ws
def mkW (l : List Int) : List Int := l.foldl putBit (List.replicate 64 0)
theorem mkW_snoc (l : List Int) (k : Nat) (h : k < l.length) : mkW (l.take (k + 1)) = putBit (mkW (l.take k)) (gi l k) := by
 rw [take_succ_gi l k h, mkW, List.foldl_append]; rfl
theorem putBit_length (ws : List Int) (n : Int) : (putBit ws n).length = ws.length := by
 unfold putBit; split <;> simp
theorem mkW_length (l : List Int) : (mkW l).length = 64 := by
 unfold mkW
 suffices H : ∀ ws : List Int, (l.foldl putBit ws).length = ws.length by rw [H]; simp
 induction l with
 | nil => intro ws; rfl
 | cons n l ih => intro ws; rw [List.foldl_cons, ih, putBit_length]
set_option maxRecDepth 20000 in
theorem make1_any (B : Nat) (zs : List Int) (i : Nat) (w : World) (hi : i < 64) (hz : zs.length = 64) (h : ArrIs w B zs) :
  Calls Tryz.prog 66 #[.int .i64 (i : Int), .pointer (some ⟨B, 0, none⟩)] w fun e w' => e = .returned (.int .u64 (gi zs i)) ∧ Below w.heap.size w w' := by
 have hc := (h.cell i (by omega)).1
 go_enter Tryz.func66, Tryz.ntmps66
 go_wp2
 go_ret
 exact ⟨rfl, Below.refl _ _⟩
set_option maxRecDepth 20000 in
set_option maxHeartbeats 600000 in
theorem make_any (a : Option Addr) (len cap : Nat) (l : List Int) (w : World) (hs : IsInts .i64 w a len cap l) (hw : ∀ n ∈ l, (Lit.int .i64 n).wf = true) :
  Calls Tryz.prog 46 #[.slice a len cap] w fun e w' => ∃ g t, e = .returned (.slice (some ⟨g, 0, none⟩) t t) ∧ PartOf .u64 104 w' w.heap.size g t (bw (gi (mkW l)) 64) ∧ Below w.heap.size w w' := by
 obtain ⟨W1, hW1⟩ : ∃ W1, w.alloc (.cells (ivs .u64 (List.replicate 64 0)).toArray 108) = W1 := ⟨_, rfl⟩
 have hA1 : ArrIs W1 w.heap.size (mkW (l.take 0)) := by rw [← hW1]; exact heap_alloc_new w _
 have hb1 : Below w.heap.size w W1 := by rw [← hW1]; exact (Below.refl _ _).alloc (Nat.le_refl _) _
 have hmf : ∀ (fn : Fn) (first cap : Array Value) (w : World), (Instr.makeFunc fn first cap).run Tryz.prog w = .ok (.func fn first cap) w := fun _ _ _ _ => rfl
 rw [show (ivs .u64 (List.replicate 64 0)).toArray = _ from rfl] at hW1
 simp only [ivs, List.replicate, List.map] at hW1
 have hl := hs.length
 have hcap := hs.cap
 unfold maxLen at hcap
 have hcell : ∀ W, Below w.heap.size w W → ∀ k, k < len → ∃ b off, a = some ⟨b, off, none⟩ ∧ W.cell? ⟨b, off + k, none⟩ = some (.int .i64 (gi l k)) := by
  intro W hb k hk
  rcases hs with ⟨_, h0, _⟩ | ⟨b, off, rfl, _, _, _, hc⟩
  ·omega
  ·exact ⟨b, off, rfl, by rw [hb.cell (p := ⟨b, off + k, none⟩) (lt_of_cell (hc k hk))]; exact hc k hk⟩
 go_enter Tryz.func46, Tryz.ntmps46
 go_wp2
 go_loopw [8] (fun c W => ∃ k : Nat, k ≤ len ∧ c = .int .i64 (k : Int) ∧ ArrIs W w.heap.size (mkW (l.take k)) ∧ Below w.heap.size w W) (fun c _ => len - (intOf c).toNat)
 case atStart => exact ⟨0, Nat.zero_le _, rfl, hA1, hb1⟩
 case round =>
  obtain ⟨k, hk, rfl, hA, hb⟩ := hrel
  rcases Nat.lt_or_ge k len with hlt | hge
  ·obtain ⟨b, off, rfl, hc⟩ := hcell wr hb k hlt
   have hwn := hw _ (gi_mem l k (by omega))
   by_cases hn : 0 ≤ gi l k ∧ gi l k < 4096
   ·have hd1 : decide (0 ≤ gi l k) = true := decide_eq_true hn.1
    have hd2 : decide (gi l k < 4096) = true := decide_eq_true hn.2
    obtain ⟨q, hq, hq64, hqe⟩ : ∃ q : Nat, (gi l k).tdiv 64 = q ∧ q < 64 ∧ (gi l k / 64).toNat = q := ⟨(gi l k / 64).toNat, by rw [Int.tdiv_eq_ediv_of_nonneg hn.1]; omega, by omega, rfl⟩
    obtain ⟨r, hr, hr64, hre⟩ : ∃ r : Nat, (gi l k).tmod 64 = r ∧ r < 64 ∧ (gi l k % 64).toNat = r := ⟨(gi l k % 64).toNat, by rw [Int.tmod_eq_emod_of_nonneg hn.1]; omega, by omega, rfl⟩
    obtain ⟨hcA, hfA⟩ := hA.cell q (by rw [mkW_length]; exact hq64)
    clear hcell hs hmf hA1 hb1 hW1 hwn
    go_wp2
    obtain ⟨S, hSd⟩ : ∃ S : (Nat → Bool) → (Nat → Value) → World → Prop, S = fun L f W => (Below w.heap.size w W ∧ (stage L f W (fun W => ArrIs W w.heap.size (mkW (l.take k))) [(9, fun _ W => ArrIs W w.heap.size (putBit (mkW (l.take k)) (gi l k)))])) := ⟨_, rfl⟩
    refine wp_region_st mixed (by kernel_rfl) [[], [(0, 18)], [(1, 19)], [(2, 20)], [], [(4, 22)], [(5, 23)], [(3, 21), (6, 24)], [(1, 19), (0, 18), (1, 19), (2, 20), (3, 21), (4, 22), (5, 23), (6, 24), (7, 25)], [(8, 26), (7, 25), (0, 18), (1, 19), (2, 20), (3, 21), (4, 22), (5, 23), (6, 24), (7, 25)]] [(0, 18), (1, 19), (2, 20), (3, 21), (4, 22), (5, 23), (6, 24), (7, 25), (8, 26)] rfl rfl [EV ?e0, EV ?e1, EV ?e2, EV ?e3, EV ?e4, EV ?e5, EV ?e6, EV ?e7, EV ?e8, fun _ => True] S ?start ?steps ?rest
    case start =>
     intro f
     rw [hSd]
     exact ⟨hb.drew, hA⟩
    case steps =>
     refine ⟨fun L f W hi hd hdn hh hS => ?_, fun L f W hi hd hdn hh hS => ?_, fun L f W hi hd hdn hh hS => ?_, fun L f W hi hd hdn hh hS => ?_, fun L f W hi hd hdn hh hS => ?_, fun L f W hi hd hdn hh hS => ?_, fun L f W hi hd hdn hh hS => ?_, fun L f W hi hd hdn hh hS => ?_, fun L f W hi hd hdn hh hS => ?_, fun L f W hi hd hdn hh hS => ?_, trivial⟩
     ·
      unfold stStep
      rw [if_pos (by simp [Region.wanted])]
      intro K Q hK
      simp only [puts, foldr_nil];go_step
      refine st_ex hK rfl rfl (by simp only [Act.put, setIfInBounds_toArray, set_cons_succ, set_cons_zero, Array.getD_eq_getD_getElem?, List.getElem?_toArray, List.getElem?_cons_succ, List.getElem?_cons_zero, Option.getD_some] <;> rfl) rfl (by rw [hSd] at hS ⊢; exact hS)
     ·
      obtain ⟨h0, -⟩ := hh;have g0 : f 0=_:=h0
      unfold stStep
      rw [if_pos (by simp [Region.wanted])]
      intro K Q hK
      simp only [puts, Za, Zb, Zc, Zd, Ze, g0];go_step
      refine st_ex hK rfl rfl (by simp only [Act.put, setIfInBounds_toArray, set_cons_succ, set_cons_zero, Array.getD_eq_getD_getElem?, List.getElem?_toArray, List.getElem?_cons_succ, List.getElem?_cons_zero, Option.getD_some] <;> rfl) rfl (by rw [hSd] at hS ⊢; exact hS)
     ·
      obtain ⟨h1, -⟩ := hh;have g1 : f 1=_:=h1
      unfold stStep
      rw [if_pos (by simp [Region.wanted])]
      intro K Q hK
      simp only [puts, Za, Zb, Zc, Zd, Ze, g1];go_step
      refine st_ex hK rfl rfl (by simp only [Act.put, setIfInBounds_toArray, set_cons_succ, set_cons_zero, Array.getD_eq_getD_getElem?, List.getElem?_toArray, List.getElem?_cons_succ, List.getElem?_cons_zero, Option.getD_some] <;> rfl) rfl (by rw [hSd] at hS ⊢; exact hS)
     ·
      obtain ⟨h2, -⟩ := hh;have g2 : f 2=_:=h2
      have l7 : L 7 = false := Bool.eq_false_iff.2 fun h => by have q := hdn 7 _ h rfl 3 (by decide); rw [show L 3 = false from hi] at q; cases q
      have l9 : L 9 = false := Bool.eq_false_iff.2 fun h => by have q := hdn 9 _ h rfl 7 (by decide); rw [show L 7 = false from l7] at q; cases q
      unfold stStep
      rw [if_pos (by simp [Region.wanted])]
      intro K Q hK
      simp only [puts, Za, Zb, Zc, Zd, Ze, g2]
      have hS' := hS
      rw [hSd] at hS'
      simp only [stage, l9, if_false, Bool.false_eq_true] at hS'
      have hc3 := (hS'.2.cell q (by rw [mkW_length]; exact hq64)).1
      go_step
      refine st_ex hK rfl rfl (by simp only [Act.put, setIfInBounds_toArray, set_cons_succ, set_cons_zero, Array.getD_eq_getD_getElem?, List.getElem?_toArray, List.getElem?_cons_succ, List.getElem?_cons_zero, Option.getD_some] <;> rfl) rfl (by rw [hSd] at hS ⊢; exact hS)
     ·
      unfold stStep
      rw [if_pos (by simp [Region.wanted])]
      intro K Q hK
      simp only [puts, foldr_nil];go_step
      refine st_ex hK rfl rfl (by simp only [Act.put, setIfInBounds_toArray, set_cons_succ, set_cons_zero, Array.getD_eq_getD_getElem?, List.getElem?_toArray, List.getElem?_cons_succ, List.getElem?_cons_zero, Option.getD_some] <;> rfl) rfl (by rw [hSd] at hS ⊢; exact hS)
     ·
      obtain ⟨h4, -⟩ := hh;have g4 : f 4=_:=h4
      unfold stStep
      rw [if_pos (by simp [Region.wanted])]
      intro K Q hK
      simp only [puts, Za, Zb, Zc, Zd, Ze, g4];go_step
      refine st_ex hK rfl rfl (by simp only [Act.put, setIfInBounds_toArray, set_cons_succ, set_cons_zero, Array.getD_eq_getD_getElem?, List.getElem?_toArray, List.getElem?_cons_succ, List.getElem?_cons_zero, Option.getD_some] <;> rfl) rfl (by rw [hSd] at hS ⊢; exact hS)
     ·
      obtain ⟨h5, -⟩ := hh;have g5 : f 5=_:=h5
      unfold stStep
      rw [if_pos (by simp [Region.wanted])]
      intro K Q hK
      simp only [puts, Za, Zb, Zc, Zd, Ze, g5];go_step
      refine st_ex hK rfl rfl (by simp only [Act.put, setIfInBounds_toArray, set_cons_succ, set_cons_zero, Array.getD_eq_getD_getElem?, List.getElem?_toArray, List.getElem?_cons_succ, List.getElem?_cons_zero, Option.getD_some] <;> rfl) rfl (by rw [hSd] at hS ⊢; exact hS)
     ·
      obtain ⟨h3, h6, -⟩ := hh;have g3 : f 3=_:=h3;have g6 : f 6=_:=h6
      unfold stStep
      rw [if_pos (by simp [Region.wanted])]
      intro K Q hK
      simp only [puts, Za, Zb, Zc, Zd, Ze, g3, g6];go_step
      refine st_ex hK rfl rfl (by simp only [Act.put, setIfInBounds_toArray, set_cons_succ, set_cons_zero, Array.getD_eq_getD_getElem?, List.getElem?_toArray, List.getElem?_cons_succ, List.getElem?_cons_zero, Option.getD_some] <;> rfl) rfl (by rw [hSd] at hS ⊢; exact hS)
     ·
      obtain ⟨h1, h0, _, h2, h3, h4, h5, h6, h7, -⟩ := hh;have g1 : f 1=_:=h1;have g0 : f 0=_:=h0;have g2 : f 2=_:=h2;have g3 : f 3=_:=h3;have g4 : f 4=_:=h4;have g5 : f 5=_:=h5;have g6 : f 6=_:=h6;have g7 : f 7=_:=h7
      unfold stStep
      rw [if_pos (by simp [Region.wanted])]
      intro K Q hK
      simp only [puts, Za, Zb, Zc, Zd, Ze, g1, g0, g2, g3, g4, g5, g6, g7];go_step
      refine st_ex hK rfl rfl (by simp only [Act.put, setIfInBounds_toArray, set_cons_succ, set_cons_zero, Array.getD_eq_getD_getElem?, List.getElem?_toArray, List.getElem?_cons_succ, List.getElem?_cons_zero, Option.getD_some] <;> rfl) rfl (by rw [hSd] at hS ⊢; exact hS)
     ·
      obtain ⟨h8, h7, h0, h1, h2, h3, h4, h5, h6, _, -⟩ := hh;have g8 : f 8=_:=h8;have g7 : f 7=_:=h7;have g0 : f 0=_:=h0;have g1 : f 1=_:=h1;have g2 : f 2=_:=h2;have g3 : f 3=_:=h3;have g4 : f 4=_:=h4;have g5 : f 5=_:=h5;have g6 : f 6=_:=h6
      unfold stStep
      rw [if_pos (by simp [Region.wanted])]
      intro K Q hK
      simp only [puts, Za, Zb, Zc, Zd, Ze, g8, g7, g0, g1, g2, g3, g4, g5, g6]
      rw [hSd] at hS hK
      have l9 : L 9 = false := hi
      try simp only [stage, l9, if_true, if_false, Bool.false_eq_true] at hS
      obtain ⟨hbW, hAW⟩ := hS
      obtain ⟨hc9, hf9⟩ := hAW.cell q (by rw [mkW_length]; exact hq64)
      go_step
      refine hK.out _ _ rfl trivial ?_
      refine ⟨hbW.setCell (Nat.le_refl _) _, ?_⟩
      have hst := hAW.store q (bits .or .u64 (gi (mkW (l.take k)) q) (IntKind.u64.wrap (2 ^ r)))
      unfold putBit
      rw [if_pos hn, hqe, hre]
      exact hst
    case rest =>
     intro L f W2 hL hh hS
     rw [hSd] at hS
     clear hSd
     have l9 : L 9 = true := hL 9 (by decide)
     simp only [stage, l9, if_true] at hS
     clear hL l9
     obtain ⟨h0, h1, h2, h3, h4, h5, h6, h7, h8, -⟩ := hh;have g0 : f 0=_:=h0;have g1 : f 1=_:=h1;have g2 : f 2=_:=h2;have g3 : f 3=_:=h3;have g4 : f 4=_:=h4;have g5 : f 5=_:=h5;have g6 : f 6=_:=h6;have g7 : f 7=_:=h7;have g8 : f 8=_:=h8;simp only [puts, Za, Zb, Zc, Zd, Ze, g0, g1, g2, g3, g4, g5, g6, g7, g8]
     clear h0 h1 h2 h3 h4 h5 h6 h7 h8 g0 g1 g2 g3 g4 g5 g6 g7 g8
     obtain ⟨hbW, hAW⟩ := hS
     go_wp2
     go_roundw
     case rel => exact ⟨k + 1, hlt, by go_num, by rw [mkW_snoc _ _ (by omega)]; exact hAW, hbW⟩
     case measure => simp [intOf]; omega
   ·have hp : putBit (mkW (l.take k)) (gi l k) = mkW (l.take k) := if_neg hn
    clear hcell hs hmf hA1 hb1 hW1 hwn
    by_cases h0 : 0 ≤ gi l k
    ·have hd1 : decide (0 ≤ gi l k) = true := decide_eq_true h0
     have hd2 : decide (gi l k < 4096) = false := decide_eq_false (fun h => hn ⟨h0, h⟩)
     clear hn
     go_wp2
     go_roundw
     case rel => exact ⟨k + 1, hlt, by go_num, by rw [mkW_snoc _ _ (by omega), hp]; exact hA, hb⟩
     case measure => simp [intOf]; omega
    ·have hd1 : decide (0 ≤ gi l k) = false := decide_eq_false h0
     clear hn
     go_wp2
     go_roundw
     case rel => exact ⟨k + 1, hlt, by go_num, by rw [mkW_snoc _ _ (by omega), hp]; exact hA, hb⟩
     case measure => simp [intOf]; omega
  ·have hkl : k = len := by omega
   subst hkl
   rw [List.take_of_length_le (by omega)] at hA
   have hlen64 := mkW_length l
   have hbd := build_any 66 #[.pointer (some ⟨w.heap.size, 0, none⟩)] (fun i => #[.int .i64 (i : Int), .pointer (some ⟨w.heap.size, 0, none⟩)]) (fun i => rfl) (gi (mkW l)) 64 wr (enters_of Tryz.func66 (by kernel_rfl) rfl) (by decide)
    (fun i W hi hbW => make1_any w.heap.size (mkW l) i W hi hlen64 (hA.kept hbW))
   rw [show ((64 : Nat) : Int) = 64 from rfl, show min 64 64 = 64 from rfl] at hbd
   clear hcell hs hA1 hb1 hW1 hA
   go_wp2_with (go_at_call 65; with_reducible refine hbd.mono ?_; rintro e w1 ⟨g, t, rfl, hp, hb1⟩)
   go_ret
   exact ⟨g, t, rfl, hp.from_mono hb.size, hb.trans (hb1.mono hb.size)⟩
end Go.Proofs.YtbjdglopkpigbaaGreatDoor.Bt
namespace Go.Proofs.YtbjdglopkpigbaaGreatDoor.Bt
open Go.RowKit Go.Shelf
end Go.Proofs.YtbjdglopkpigbaaGreatDoor.Bt
