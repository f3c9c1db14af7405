import Derived.Test.YtbjdglopkpigbaaGreatDoorMG25
import Derived.Test.YtbjdglopkpigbaaGreatDoorMG36
import Derived.Test.YtbjdglopkpigbaaGreatDoorMG48
/-
  DfaAw, DfaH
-/
set_option linter.unusedSimpArgs false
set_option linter.unusedVariables false
namespace Go.Proofs.YtbjdglopkpigbaaGreatDoor
open Go.RowKit
attribute [local go_sem] Oper.semAt_some
theorem IsArcs.of_block {w : World} {b : Nat} {T : TypeId} {es : List A3} {n : Nat} (h : w.heap[b]? = some (.cells (tvs es).toArray T (0, 0))) (hn : es.length = n) (hm : n ≤ maxLen) : IsArcs w (some ⟨b, 0, none⟩) n n es := by
 refine .inr ⟨b, 0, rfl, Nat.le_refl _, hm, hn, fun i hi => ?_⟩
 obtain ⟨h1, h2, h3⟩ := tvs_get es i (by omega)
 refine ⟨?_, ?_, ?_⟩
 ·rw [cell_of_row w b _ _ _ _ h]; simp only [Nat.zero_add, List.getElem?_toArray]; exact h1
 ·rw [cell_of_row w b _ _ _ _ h]; simp only [Nat.zero_add, List.getElem?_toArray]; exact h2
 ·rw [cell_of_row w b _ _ _ _ h]; simp only [Nat.zero_add, List.getElem?_toArray]; exact h3
theorem IsBools.of_block {w : World} {b : Nat} {T : TypeId} {ss : List Bool} {n : Nat} (h : w.heap[b]? = some (.cells (bvs ss).toArray T (0, 0))) (hn : ss.length = n) (hm : n ≤ maxLen) : IsBools w (some ⟨b, 0, none⟩) n n ss := by
 refine .inr ⟨b, 0, rfl, Nat.le_refl _, hm, hn, fun i hi => ?_⟩
 rw [cell_of_row w b _ _ _ _ h]
 simp [bvs, List.getElem?_eq_getElem (show i < ss.length by omega), gb_eq _ _ (show i < ss.length by omega)]
theorem ints_block {w : World} {b : Nat} {T : TypeId} {zs : List Int} {n : Nat} (h : w.heap[b]? = some (.cells (zs.map (Value.int .i64)).toArray T (0, 0))) (hn : zs.length = n) (hm : n ≤ maxLen) : IsInts .i64 w (some ⟨b, 0, none⟩) n n zs := by
 refine .inr ⟨b, 0, rfl, Nat.le_refl _, hm, hn, fun i hi => ?_⟩
 rw [cell_of_row w b _ _ _ _ h]
 simp [List.getElem?_eq_getElem (show i < zs.length by omega), gi_eq _ _ (show i < zs.length by omega)]
theorem heap_push {W : World} {b : Nat} {o : Obj} (h : W.heap[b]? = some o) (o' : Obj) : (W.alloc o').heap[b]? = some o := by
 rw [((Below.refl W.heap.size W).alloc (Nat.le_refl _) o').block b (Array.getElem?_eq_some_iff.1 h).1]
 exact h
theorem aw_start (w : World) (T : TypeId) : IsDfa (((w.alloc (.cells #[.bool false, .bool true, .bool true] 4)).alloc (.cells #[.int .i64 0, .int .i64 1, .int .i64 1, .int .i64 1, .int .i64 1, .int .i64 2, .int .i64 2, .int .i64 1, .int .i64 1] 49)).alloc (.cells #[.int .i64 3, .int .i64 0, .slice (some ⟨w.heap.size, 0, none⟩) 3 3, .slice (some ⟨w.heap.size + 1, 0, none⟩) 3 3] T)) ⟨some ⟨w.heap.size, 0, none⟩, 3, 3, some ⟨w.heap.size + 1, 0, none⟩, 3, 3⟩ awD := by
 refine ⟨IsBools.of_block (T := 4) (heap_push (heap_push (heap_alloc_new w _) _) _) rfl (by show (3:Nat) ≤ maxLen; decide), IsArcs.of_block (T := 49) (heap_push ?_ _) rfl (by show (3:Nat) ≤ maxLen; decide)⟩
 have h := heap_alloc_new (w.alloc (.cells #[.bool false, .bool true, .bool true] 4)) (.cells #[.int .i64 0, .int .i64 1, .int .i64 1, .int .i64 1, .int .i64 1, .int .i64 2, .int .i64 2, .int .i64 1, .int .i64 1] 49)
 rw [World.size_alloc] at h
 exact h
theorem below_three (w : World) (o1 o2 o3 : Obj) : Below w.heap.size w (((w.alloc o1).alloc o2).alloc o3) ∧ w.heap.size ≤ (((w.alloc o1).alloc o2).alloc o3).heap.size := by
 refine ⟨(((Below.refl _ _).alloc (Nat.le_refl _) o1).alloc (by simp) o2).alloc (by simp; omega) o3, by simp; omega⟩
theorem below_two (w : World) (o1 o2 : Obj) : Below w.heap.size w ((w.alloc o1).alloc o2) ∧ w.heap.size ≤ ((w.alloc o1).alloc o2).heap.size := by
 refine ⟨((Below.refl _ _).alloc (Nat.le_refl _) o1).alloc (by simp) o2, by simp; omega⟩
theorem awM_n : awM.n = 2 := rfl
set_option maxRecDepth 20000 in
set_option maxHeartbeats 4000000 in
theorem awake_any (w : World) : Calls Tryz.prog 4 #[] w fun e w' => e = .returned (.bool true) ∧ Below w.heap.size w w' := by
 go_enter Tryz.func4, Tryz.ntmps4
 go_wp2_with (fail)
 have hmi := minimize_any (aw_start w 37)
 rw [awD_min] at hmi
 unfold orZero orErr at hmi
 rw [if_pos awD_valid, if_pos awD_valid] at hmi
 refine hmi.mono ?_
 rintro e w1 ⟨⟨h1, rfl, hd1⟩, hb1⟩
 have hw1 : Below w.heap.size w w1 := (below_three w _ _ _).1.trans (hb1.mono (below_three w _ _ _).2)
 have hal1 := hd1.2.length
 have hal2 : (2 : Nat) = h1.al := hal1
 clear hmi hb1 hal1
 unfold vDf
 rw [← hal2, awM_n]
 have HD := Lib.hid hd1
 have HB := Lib.hid hw1
 have HA := Lib.hid hal2
 clear hd1 hw1 hal2
 go_wp2_with (fail)
 have h2 := below_two w1 (Obj.cells #[Value.int IntKind.i64 2, Value.int IntKind.i64 awM.s, Value.slice h1.fa h1.fl h1.fc, Value.slice h1.aa 2 h1.ac] 37) (Obj.cells #[Value.int IntKind.i64 1, Value.int IntKind.i64 1] 3)
 have hac := accepts_any (HD.out.later h2.1) (ints_block (w := ((w1.alloc (Obj.cells #[Value.int IntKind.i64 2, Value.int IntKind.i64 awM.s, Value.slice h1.fa h1.fl h1.fc, Value.slice h1.aa 2 h1.ac] 37)).alloc (Obj.cells #[Value.int IntKind.i64 1, Value.int IntKind.i64 1] 3))) (b := w1.heap.size + 1) (T := 3) (zs := [1, 1]) (n := 2) (by have h := heap_alloc_new (w1.alloc (Obj.cells #[Value.int IntKind.i64 2, Value.int IntKind.i64 awM.s, Value.slice h1.fa h1.fl h1.fc, Value.slice h1.aa 2 h1.ac] 37)) (Obj.cells #[Value.int IntKind.i64 1, Value.int IntKind.i64 1] 3); rw [World.size_alloc] at h; exact h) rfl (by decide)) (by omega)
 rw [accV_yes awM_valid, awM_one] at hac
 unfold vDf at hac
 rw [← HA.out, awM_n] at hac
 refine hac.mono ?_
 rintro e w2 ⟨rfl, hb2⟩
 have hw2 : Below w1.heap.size w1 w2 := h2.1.trans (hb2.mono h2.2)
 have hbx : w2.heap[w1.heap.size]? = some (Obj.cells #[Value.int IntKind.i64 2, Value.int IntKind.i64 awM.s, Value.slice h1.fa h1.fl h1.fc, Value.slice h1.aa 2 h1.ac] 37 (0, 0)) := by
  rw [hb2.block _ (by rw [World.size_alloc, World.size_alloc]; omega)]
  exact heap_push (heap_alloc_new w1 _) _
 have c1 : w2.cell? ⟨w1.heap.size, 0, none⟩ = some (.int .i64 2) := cell_of_row _ _ 0 _ _ _ hbx
 have c2 : w2.cell? ⟨w1.heap.size, 1, none⟩ = some (.int .i64 awM.s) := cell_of_row _ _ 1 _ _ _ hbx
 have c3 : w2.cell? ⟨w1.heap.size, 2, none⟩ = some (.slice h1.fa h1.fl h1.fc) := cell_of_row _ _ 2 _ _ _ hbx
 have c4 : w2.cell? ⟨w1.heap.size, 3, none⟩ = some (.slice h1.aa 2 h1.ac) := cell_of_row _ _ 3 _ _ _ hbx
 have hac2 := accepts_any (HD.out.later hw2) (zs := []) (aw := none) (lw := 0) (cw := 0) (.inl ⟨rfl, rfl, rfl, rfl⟩) (by omega)
 rw [accV_yes awM_valid, awM_nil] at hac2
 unfold vDf at hac2
 rw [← HA.out, awM_n] at hac2
 have hlt : w1.heap.size < w2.heap.size := (Array.getElem?_eq_some_iff.1 hbx).1
 have HLT := Lib.hid hlt
 clear hac h2 hb2 hbx hlt
 have HW2 := Lib.hid hw2
 clear hw2
 go_wp2_with (go_at_call 8; refine hac2.mono ?_; rintro e w3 ⟨rfl, hb3⟩; have k1 := (hb3.cell (p := ⟨w1.heap.size, 0, none⟩) HLT.out).trans c1; have k4 := (hb3.cell (p := ⟨w1.heap.size, 3, none⟩) HLT.out).trans c4)
 go_ret
 exact ⟨rfl, HB.out.trans (HW2.out.mono HB.out.size |>.trans (hb3.mono (Nat.le_trans HB.out.size HW2.out.size)))⟩
end Go.Proofs.YtbjdglopkpigbaaGreatDoor
namespace Go.Proofs.YtbjdglopkpigbaaGreatDoor
open Go.RowKit
attribute [local go_sem] Oper.semAt_some
variable {d : Dfa} {h : DH} {w : World}
theorem refValid_yes (hv : ValidD d) (hd : IsDfa w h d) : Calls Tryz.prog 6 #[vDf d h] w fun e w' => e = .returned (.bool true) ∧ Below w.heap.size w w' :=
 (refValid_any d h w hd).mono fun e w' ⟨h1, h2⟩ => ⟨by rw [h1, vD_yes hv], h2⟩
theorem refValid_no (hv : ¬ ValidD d) (hd : IsDfa w h d) : Calls Tryz.prog 6 #[vDf d h] w fun e w' => e = .returned (.bool false) ∧ Below w.heap.size w w' :=
 (refValid_any d h w hd).mono fun e w' ⟨h1, h2⟩ => ⟨by rw [h1, vD_no hv], h2⟩
end Go.Proofs.YtbjdglopkpigbaaGreatDoor
