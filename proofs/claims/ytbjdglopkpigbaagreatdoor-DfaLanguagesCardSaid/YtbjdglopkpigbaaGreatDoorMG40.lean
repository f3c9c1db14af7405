import Derived.Shelf.Strings.Builder1
import Derived.OwnWalk
import Derived.Test.YtbjdglopkpigbaaGreatDoorMG6
import Derived.Test.YtbjdglopkpigbaaGreatDoorMG7
import Derived.Test.YtbjdglopkpigbaaGreatDoorMG23
/-
  NaFu, NaBu, NaFn
-/
set_option linter.unusedSimpArgs false
set_option linter.unusedVariables false
namespace Go.Proofs.YtbjdglopkpigbaaGreatDoor.Na
open Go.RowKit
attribute [local go_sem] Oper.semAt_some
theorem pow2_36 (w : World) : Calls Tryz.prog 103 #[.int .i64 36] w fun e w' => e = .returned (.bool false) ∧ w' = w := by
 go_enter Tryz.func103, Tryz.ntmps103
 go_wp2
 go_ret
 exact ⟨rfl, rfl⟩
theorem bsOf_bytes (l : List UInt8) : bsOf (l.map fun b => (b.toNat : Int)) = ⟨l.toArray⟩ := by
 unfold bsOf
 rw [List.map_map]
 congr 1
 congr 1
 conv => rhs; rw [← List.map_id l]
 refine List.map_congr_left fun b _ => ?_
 simp
theorem dig_lit (r : Nat) (h : r < (ByteArray.mk #[48, 49, 50, 51, 52, 53, 54, 55, 56, 57, 97, 98, 99, 100, 101, 102, 103, 104, 105, 106, 107, 108, 109, 110, 111, 112, 113, 114, 115, 116, 117, 118, 119, 120, 121, 122]).size) : (((ByteArray.mk #[48, 49, 50, 51, 52, 53, 54, 55, 56, 57, 97, 98, 99, 100, 101, 102, 103, 104, 105, 106, 107, 108, 109, 110, 111, 112, 113, 114, 115, 116, 117, 118, 119, 120, 121, 122])[r]'h).toNat : Int) = ((dig36 r).toNat : Int) := by
 have hr : r < 36 := h
 have key : ∀ i : Fin 36, ((ByteArray.mk #[48, 49, 50, 51, 52, 53, 54, 55, 56, 57, 97, 98, 99, 100, 101, 102, 103, 104, 105, 106, 107, 108, 109, 110, 111, 112, 113, 114, 115, 116, 117, 118, 119, 120, 121, 122]).data[i.val]'(show i.val < 36 from i.isLt)).toNat = (dig36 i.val).toNat := by decide
 exact congrArg _ (key ⟨r, hr⟩)
theorem zero65 : Tryz.zeroCells158 = (ivs .u8 (List.replicate 65 0)).toArray := by kernel_rfl
theorem _root_.Go.Proofs.YtbjdglopkpigbaaGreatDoor.BlkAt.put8 {W : World} {b : Nat} {ds : List Int} (h : BlkAt W b (ivs .u8 ds).toArray) (p : Nat) (d : UInt8) : BlkAt (W.setCell ⟨b, p, none⟩ (.int .u8 (d.toNat : Int))) b (ivs .u8 (ds.set p (d.toNat : Int))).toArray := by
 obtain ⟨cs, e, h1⟩ := h.store p (.int .u8 (d.toNat : Int))
 rw [← ivs_set]
 rw [e] at h1
 have h2 := h1.1
 simpa using h2
set_option maxRecDepth 20000 in
set_option maxHeartbeats 2000000 in
theorem formatBits_any (u : Nat) (hu : u < 18446744073709551616) (w : World) :
  Calls Tryz.prog 91 #[.slice none 0 0, .int .u64 (u : Int), .int .i64 36, .bool false, .bool false] w fun e w' => e = .returned (.tuple #[.slice none 0 0, .string ⟨(n36 u).toArray⟩]) ∧ Below w.heap.size w w' := by
 go_enter Tryz.func91, Tryz.ntmps91
 go_wp2_with (go_at_call 103; refine (pow2_36 _).mono ?_; rintro e w3 ⟨rfl, rfl⟩)
 have hB0 := BlkAt.new w Tryz.zeroCells158 158
 have hb0 : Below w.heap.size w (w.alloc (.cells Tryz.zeroCells158 158)) := (Below.refl _ _).alloc (Nat.le_refl _) _
 obtain ⟨W0, hW0⟩ : ∃ W0, w.alloc (.cells Tryz.zeroCells158 158) = W0 := ⟨_, rfl⟩
 have hz : w.heap.size < W0.heap.size := by rw [← hW0]; simp
 rw [hW0] at hB0 hb0 ⊢
 rw [zero65] at hB0
 obtain ⟨b, hb⟩ : ∃ b, w.heap.size = b := ⟨_, rfl⟩
 rw [hb] at hB0
 have HBB := Lib.hid hb
 rw [hb]
 clear hW0 hb
 go_loopw [1, 13] (fun v c W => ∃ (k p x : Nat) (ds : List Int) (tl : List UInt8), v = .int .u64 (x : Int) ∧ c = .int .i64 (p : Int) ∧ p + k = 65 ∧ k ≤ 12 ∧ x < 18446744073709551616 ∧ Hid (tl.length = k ∧ x < 36 ^ (13 - k) ∧ n36 u = f36 (13 - k) x ++ tl ∧ ds.length = 65 ∧ ds.drop p = tl.map (fun b => (b.toNat : Int))) ∧ BlkAt W b (ivs .u8 ds).toArray ∧ Hid (Below w.heap.size w W)) (fun v _ _ => (intOf v).toNat)
 case atStart => exact ⟨0, 65, u, _, [], rfl, rfl, rfl, Nat.zero_le _, hu, Lib.hid ⟨rfl, Nat.lt_of_lt_of_le hu pow36, by simp [n36], by simp, by simp⟩, hB0, Lib.hid hb0⟩
 case round =>
  clear hB0 hb0 hz
  obtain ⟨k, p, x, ds, tl, rfl, rfl, hpk, hk, hx, HF, hB, HB⟩ := hrel
  obtain ⟨p, rfl⟩ : ∃ q, p = q + 1 := ⟨p - 1, by omega⟩
  have hpc : (((p + 1 : Nat) : Int)) - 1 = (p : Int) := by omega
  have hc := hB.cell p
  have hcv : (ivs .u8 ds).toArray[p]? = some (.int .u8 (gi ds p)) := by
   have h1 := HF.out.2.2.2.1
   rw [List.getElem?_toArray]
   exact ivs_get _ _ _ (by omega)
  rw [hcv] at hc
  obtain ⟨hc1, hc2⟩ := hc
  clear hcv
  by_cases h36 : 36 ≤ x
  ·have t1 : decide (36 ≤ (x : Int)) = true := decide_eq_true (by omega)
   obtain ⟨r, hr⟩ : ∃ r, x % 36 = r := ⟨_, rfl⟩
   have hr36 : r < 36 := by omega
   have hxr : (x : Int) - (x : Int) / 36 * 36 = (r : Int) := by omega
   have hxl : (x : Int) / 36 * 36 ≤ x := by omega
   go_wp2_with (fail)
   rw [dig_lit]
   have hS := hB.put8 p (dig36 r)
   go_roundw
   case rel =>
    refine ⟨k + 1, p, x / 36, ds.set p (dig36 r).toNat, dig36 r :: tl, by go_num, rfl, by omega, ?_, by omega, Lib.hid ?_, hS, Lib.hid ?_⟩
    ·have := HF.out.2.1
     refine Nat.le_of_not_lt fun hlt => ?_
     rw [show 13 - k = 1 by omega] at this
     omega
    ·obtain ⟨g1, g2, g3, g4, g5⟩ := HF.out
     have e13 : 13 - k = (13 - (k + 1)) + 1 := by
      have := HF.out.2.1
      omega
     refine ⟨by rw [List.length_cons, g1], ?_, ?_, by rw [List.length_set]; exact g4, ?_⟩
     ·rw [Nat.div_lt_iff_lt_mul (by omega), ← Nat.pow_succ, show (13 - (k + 1)).succ = 13 - k by omega]; exact g2
     ·rw [g3, e13, f36, if_neg (by omega), hr, List.append_assoc]; rfl
     ·rw [List.drop_eq_getElem_cons (by rw [List.length_set]; omega), List.getElem_set_self, List.drop_set_of_lt (by omega), g5]; rfl
    ·exact HB.out.setCell (by rw [HBB.out]; exact Nat.le_refl _) _
   case measure => simp [intOf]; omega
  ·have t1 : decide (36 ≤ (x : Int)) = false := decide_eq_false (by omega)
   have hp65 : (p : Int) ≤ 65 := by omega
   have hp65' : p ≤ 65 := by omega
   go_upto_region 30 with (fail)
   rw [dig_lit]
   have hS := hB.put8 p (dig36 x)
   have hbS : Below w.heap.size w (wr.setCell ⟨b, p, none⟩ (.int .u8 ((dig36 x).toNat : Int))) := HB.out.setCell (by rw [HBB.out]; exact Nat.le_refl _) _
   obtain ⟨W2, hW2⟩ : ∃ W2, wr.setCell ⟨b, p, none⟩ (.int .u8 ((dig36 x).toNat : Int)) = W2 := ⟨_, rfl⟩
   rw [hW2] at hS hbS ⊢
   obtain ⟨g1, g2, g3, g4, g5⟩ := HF.out
   have hdr : (ds.set p ((dig36 x).toNat : Int)).drop p = (n36 u).map fun b => (b.toNat : Int) := by
    have e13 : 13 - k = (13 - (k + 1)) + 1 := by
     omega
    rw [g3, e13, f36, if_pos (by omega), List.drop_eq_getElem_cons (by rw [List.length_set]; omega), List.getElem_set_self, List.drop_set_of_lt (by omega), g5]
    rfl
   have hin : IsInts .u8 W2 (some ⟨b, p, none⟩) (65 - p) (65 - p) ((n36 u).map fun b => (b.toNat : Int)) := by
    rw [← hdr]
    refine .inr ⟨b, p, rfl, Nat.le_refl _, by unfold maxLen; omega, by rw [List.length_drop, List.length_set, g4], fun i hi => ?_⟩
    rw [gi_drop]
    have h1 := (hS.cell (p + i)).1
    rw [h1, List.getElem?_toArray]
    exact ivs_get _ _ _ (by rw [List.length_set]; omega)
   have hcv := run_toString (P := Tryz.prog) W2 124 9 5 Tryz.underlying124 Tryz.underlying5 Tryz.underlying9 _ _ _ _ hin
   rw [bsOf_bytes] at hcv
   have HBS := Lib.hid hbS
   clear hin hdr hS hbS hW2 g1 g2 g3 g4 g5 HF hB hc1 hc2
   go_wp2_with (fail)
   go_ret2
   exact ⟨rfl, HBS.out⟩
theorem FormatUint_any (u : Nat) (hu : u < 18446744073709551616) (w : World) :
  Calls Tryz.prog 77 #[.int .u64 (u : Int), .int .i64 36] w fun e w' => e = .returned (.string ⟨(n36 u).toArray⟩) ∧ Below w.heap.size w w' := by
 have h1 : Calls Tryz.prog 85 #[.int .u64 (u : Int), .int .i64 36] w fun e w' => e = .returned (.string ⟨(n36 u).toArray⟩) ∧ Below w.heap.size w w' := by
  have h0 := formatBits_any u hu w
  go_enter Tryz.func85, Tryz.ntmps85
  go_wp2_with (go_at_call 91; refine h0.mono ?_; rintro e w3 ⟨rfl, hb3⟩)
  go_ret
  exact ⟨rfl, hb3⟩
 go_enter Tryz.func77, Tryz.ntmps77
 go_wp2_with (go_at_call 85; refine h1.mono ?_; rintro e w3 ⟨rfl, hb3⟩)
 go_ret
 exact ⟨rfl, hb3⟩
end Go.Proofs.YtbjdglopkpigbaaGreatDoor.Na
namespace Go.Proofs.YtbjdglopkpigbaaGreatDoor.Na
open Go.Shelf Go.RowKit
def buRen : Go.Shelf.Ren := ⟨fun | 169 => 79 | n => n, fun | 70 => 123 | 9 => 9 | 0 => 0 | 72 => 126 | 37 => 124 | 127 => 139 | 3 => 3 | 5 => 5 | n => n, fun | n => n⟩
theorem buLay : Go.Proofs.Lays.n169 Tryz.prog buRen := {
 mixed := by kernel_rfl
 f169 := Tryz.func79.trans (congrArg some (by kernel_rfl))
 t0 := Tryz.underlying0
 a0 := Tryz.isAgg0
 z0 := Tryz.sizeOf0
 v0 := Tryz.zeroValue0
 t3 := Tryz.underlying3
 a3 := Tryz.isAgg3
 z3 := Tryz.sizeOf3
 v3 := Tryz.zeroValue3
 t9 := Tryz.underlying9
 a9 := Tryz.isAgg9
 z9 := Tryz.sizeOf9
 v9 := Tryz.zeroValue9
 t37 := Tryz.underlying124
 a37 := Tryz.isAgg124
 z37 := Tryz.sizeOf124
 v37 := Tryz.zeroValue124
 t70 := Tryz.underlying123
 a70 := Tryz.isAgg123
 z70 := Tryz.sizeOf123
 v70 := Tryz.zeroValue123
 t72 := Tryz.underlying126
 a72 := Tryz.isAgg126
 z72 := Tryz.sizeOf126
 v72 := Tryz.zeroValue126
 t127 := Tryz.underlying139
 a127 := Tryz.isAgg139
 z127 := Tryz.sizeOf139
 v127 := Tryz.zeroValue139 }
theorem buExtra : Builder.Extra Tryz.prog buRen := {
 sizeBuilder := by kernel_rfl
 liesBuilder := by kernel_rfl
 t5 := Tryz.underlying5
 a5 := Tryz.isAgg5
 z5 := Tryz.sizeOf5
 v5 := Tryz.zeroValue5
 infoByte := by kernel_rfl
 cellsByte := by kernel_rfl
 sizeByte := by kernel_rfl
 neB5 := by decide }
open Go.RowKit in
theorem buString_any (B b : Nat) (l : List UInt8) (w : World) (h : Lib.IsBuilder 126 5 B b (Lib.byteCells l) w) (hBw : B ≤ w.heap.size) :
  Calls Tryz.prog 79 #[.pointer (some ⟨b, 0, none⟩)] w fun e w' => e = .returned (.string ⟨l.toArray⟩) ∧ Below B w w' := Any.Builder_String_any buLay buExtra B b l w h hBw
set_option maxRecDepth 20000 in
theorem copy_used (b : Nat) (w : World) (h0 : w.cell? ⟨b, 0, none⟩ = some (.pointer (some ⟨b, 0, none⟩))) :
  Calls Tryz.prog 84 #[.pointer (some ⟨b, 0, none⟩)] w fun e w' => e = .returned (.tuple #[]) ∧ w' = w := by
 obtain ⟨j, hj, _⟩ := Option.map_eq_some_iff.1 buExtra.sizeBuilder
 go_enter Tryz.func84, Tryz.ntmps84
 go_wp2
 rw [Lib.run_neq_ptr_same w _ Tryz.underlying123 hj]
 go_wp2
 exact ⟨rfl, _, results_none rfl _ _ _, rfl, rfl⟩
set_option maxRecDepth 20000 in
theorem copy_fresh (b : Nat) (w : World) (h0 : w.cell? ⟨b, 0, none⟩ = some (.pointer none)) (hsh : w.shape? b = some (126, 2)) (hfz : w.frozen? ⟨b, 0, none⟩ = false) :
  Calls Tryz.prog 84 #[.pointer (some ⟨b, 0, none⟩)] w fun e w' => e = .returned (.tuple #[]) ∧ w' = w.setCell ⟨b, 0, none⟩ (.pointer (some ⟨b, 0, none⟩)) := by
 obtain ⟨j, hj, hjs⟩ := Option.map_eq_some_iff.1 buExtra.sizeBuilder
 go_enter Tryz.func84, Tryz.ntmps84
 go_wp2
 rw [Lib.run_to_unsafe w ⟨b, 0, none⟩ Tryz.underlying123 Tryz.underlying142 hj (by rw [hjs]; decide) hsh (Nat.zero_lt_succ 1)]
 simp only [Result.andThen]
 rw [Oper.upon_value]
 go_wp2
 rw [run_callFunc_extern Tryz.func87 (by kernel_rfl) (by kernel_rfl) (by kernel_rfl) (e := Extern.AbiNoEscape.same) (by kernel_rfl)]
 rw [Lib.run_noEscape]
 simp only [Result.andThen]
 rw [Oper.upon_value]
 go_wp2
 rw [Lib.run_from_unsafe w ⟨b, 0, none⟩ Tryz.underlying142 Tryz.underlying123 hj hsh buExtra.liesBuilder]
 simp only [Result.andThen]
 rw [Oper.upon_value]
 go_wp2
 exact ⟨rfl, _, results_none rfl _ _ _, rfl, rfl⟩
theorem copy_any (B b : Nat) (bs : List Value) (w : World) (h : Lib.IsBuilder 126 5 B b bs w) :
  Calls Tryz.prog 84 #[.pointer (some ⟨b, 0, none⟩)] w fun e w' => e = .returned (.tuple #[]) ∧ (Lib.BuilderAt 126 5 B b (.pointer (some ⟨b, 0, none⟩)) bs w' ∧ Below B w w') := by
 rcases h with h | h
 ·refine (copy_fresh b w h.cell0 h.shape h.frozen0).mono ?_
  rintro e w' ⟨rfl, rfl⟩
  exact ⟨rfl, h.used _, (Below.refl B w).setCell (p := ⟨b, 0, none⟩) h.1 _⟩
 ·refine (copy_used b w h.cell0).mono ?_
  rintro e w' ⟨rfl, rfl⟩
  exact ⟨rfl, h, Below.refl B _⟩
set_option maxRecDepth 20000 in
set_option maxHeartbeats 2000000 in
theorem buWriteString (B b : Nat) (bs : List Value) (s : ByteArray) (w : World) (h : Lib.IsBuilder 126 5 B b bs w) (hlen : bs.length + s.size ≤ 140737488355328) (hBw : B ≤ w.heap.size) :
  Calls Tryz.prog 76 #[.pointer (some ⟨b, 0, none⟩), .string s] w fun e w' => e = .returned (.tuple #[.int .i64 s.size, .nilIface]) ∧ (Lib.BuilderAt 126 5 B b (.pointer (some ⟨b, 0, none⟩)) (bs ++ Lib.strCells s) w' ∧ Below B w w') := by
 obtain ⟨i0, hi, hz0, hz1, hz2⟩ := info_parts buExtra.infoByte
 go_enter Tryz.func76, Tryz.ntmps76
 go_wp2_with (go_at_call 84; refine (copy_any B b bs _ h).mono ?_; rintro e w1 ⟨rfl, h1, hb1⟩; refine Hid.out ?_)
 refine Lib.hid ?_
 obtain ⟨hB, v, hbk, hown, hne⟩ := h1
 have c0 : w1.cell? ⟨b, 0, none⟩ = some (.pointer (some ⟨b, 0, none⟩)) := by rw [Lib.cell_of_heap hbk]; rfl
 have c1 : w1.cell? ⟨b, 1, none⟩ = some v := by rw [Lib.cell_of_heap hbk]; rfl
 go_wp2_with (at_builtin; refine Lib.wpList_append_own_string _ rfl _ _ 124 9 rfl B 5 i0 Tryz.underlying124 Tryz.underlying9 hi hz0 hz1 hz2 _ _ _ rfl hown s rfl ?c3 ?c4 ?c5 ?_)
 case c3 => unfold maxLen; omega
 case c4 => omega
 case c5 => have := hb1.size; omega
 intro v' w2 hown' hgrow _
 have hlt : b < w1.heap.size := by
  rcases Nat.lt_or_ge b w1.heap.size with h' | h'
  ·exact h'
  ·simp [Array.getElem?_eq_none h'] at hbk
 have hb2 : w2.heap[b]? = some (.cells #[.pointer (some ⟨b, 0, none⟩), v] 126 (0, 0)) := by
  rw [hgrow.block b hlt (fun e => hne e.symm)]
  exact hbk
 have d0 : w2.cell? ⟨b, 0, none⟩ = some (.pointer (some ⟨b, 0, none⟩)) := by rw [Lib.cell_of_heap hb2]; rfl
 have d1 : w2.cell? ⟨b, 1, none⟩ = some v := by rw [Lib.cell_of_heap hb2]; rfl
 have f1 : w2.frozen? ⟨b, 1, none⟩ = false := Lib.frozen_of_heap hb2 1
 obtain ⟨ao, n', cap, rfl⟩ : ∃ ao n' cap, v' = .slice ao n' cap := by
  rcases hown'.2 with ⟨hv, _⟩ | ⟨g, cap, cur, hv, _⟩
  ·exact ⟨_, _, _, hv⟩
  ·exact ⟨_, _, _, hv⟩
 go_wp2
 go_ret2
 refine ⟨rfl, ?_, ?_⟩
 ·exact Lib.BuilderAt.put (T := 126) (e := 5) hB hb2 (bs' := bs ++ Lib.strCells s) (by simpa [Lib.strCells_length] using hown') buExtra.neB5
 ·exact (hb1.grown hgrow (by have := hb1.size; omega) (fun k hk => (hown.lt k hk).1)).setCell (p := ⟨b, 1, none⟩) hB _
set_option maxRecDepth 20000 in
set_option maxHeartbeats 2000000 in
theorem buWriteByte (B b : Nat) (bs : List Value) (c : Int) (w : World) (h : Lib.IsBuilder 126 5 B b bs w) (hlen : bs.length + 1 ≤ 140737488355328) (hBw : B ≤ w.heap.size) :
  Calls Tryz.prog 78 #[.pointer (some ⟨b, 0, none⟩), .int .u8 c] w fun e w' => e = .returned .nilIface ∧ (Lib.BuilderAt 126 5 B b (.pointer (some ⟨b, 0, none⟩)) (bs ++ [.int .u8 c]) w' ∧ Below B w w') := by
 obtain ⟨i0, hi, hz0, hz1, hz2⟩ := info_parts buExtra.infoByte
 go_enter Tryz.func78, Tryz.ntmps78
 go_wp2_with (go_at_call 84; refine (copy_any B b bs _ h).mono ?_; rintro e w1 ⟨rfl, h1, hb1⟩; refine Hid.out ?_)
 refine Lib.hid ?_
 obtain ⟨hB, v, hbk, hown, hne⟩ := h1
 have c0 : w1.cell? ⟨b, 0, none⟩ = some (.pointer (some ⟨b, 0, none⟩)) := by rw [Lib.cell_of_heap hbk]; rfl
 have c1 : w1.cell? ⟨b, 1, none⟩ = some v := by rw [Lib.cell_of_heap hbk]; rfl
 go_wp2_with (at_builtin; refine wpList_append_own _ rfl _ _ 124 rfl B 5 i0 (.int .u8 0) 1 1 Tryz.underlying124 hi hz0 hz1 hz2 rfl (by decide) _ _ _ rfl (hown.alloc _) ⟨w1.heap.size, 0, none⟩ 1 1 [.int .u8 c] rfl rfl ?c1 ?c2 ?c3 ?c4 ?c5 ?_)
 case c1 =>
  intro j u hj
  match j, hj with
  | 0, hj => simp at hj; subst hj; simp [Addr.add]
 case c2 => intro u hu; simp at hu; subst hu; rfl
 case c3 => unfold maxLen; omega
 case c4 => omega
 case c5 => have := hb1.size; simp; omega
 intro v' w2 hown' hgrow _
 have hlt : b < w1.heap.size := by
  rcases Nat.lt_or_ge b w1.heap.size with h' | h'
  ·exact h'
  ·simp [Array.getElem?_eq_none h'] at hbk
 have hb2 : w2.heap[b]? = some (.cells #[.pointer (some ⟨b, 0, none⟩), v] 126 (0, 0)) := by
  rw [hgrow.block b (by simp; omega) (fun e => hne e.symm), Lib.alloc_old w1 _ b hlt]
  exact hbk
 have d0 : w2.cell? ⟨b, 0, none⟩ = some (.pointer (some ⟨b, 0, none⟩)) := by rw [Lib.cell_of_heap hb2]; rfl
 have d1 : w2.cell? ⟨b, 1, none⟩ = some v := by rw [Lib.cell_of_heap hb2]; rfl
 have f1 : w2.frozen? ⟨b, 1, none⟩ = false := Lib.frozen_of_heap hb2 1
 obtain ⟨g, cap, rfl⟩ : ∃ g cap, v' = .slice (some ⟨g, 0, none⟩) (bs.length + 1) cap := by
  rcases hown'.2 with ⟨_, h0⟩ | ⟨g, cap, cur, hv, _⟩
  ·omega
  ·exact ⟨g, cap, hv⟩
 go_wp2
 go_ret
 refine ⟨rfl, ?_, ?_⟩
 ·exact Lib.BuilderAt.put (T := 126) (e := 5) hB hb2 (bs' := bs ++ [.int .u8 c]) (by simpa using hown') buExtra.neB5
 ·exact ((hb1.alloc (by have := hb1.size; omega) _).grown hgrow (by have := hb1.size; simp; omega) (fun k hk => (hown.lt k hk).1)).setCell (p := ⟨b, 1, none⟩) hB _
theorem builderAt_old {T e : TypeId} {B b : Nat} {p : Value} {bs : List Value} {w w' : World} (h : Lib.BuilderAt T e B b p bs w) (hb : Below w.heap.size w w') : Lib.BuilderAt T e B b p bs w' := by
 obtain ⟨hB, v, h1, h2, h3⟩ := h
 have hlt : b < w.heap.size := Lib.BuilderAt.lt ⟨hB, v, h1, h2, h3⟩
 exact ⟨hB, v, by rw [hb.block b hlt]; exact h1, h2.kept_below hb, h3⟩
theorem isBuilder_old {T e : TypeId} {B b : Nat} {bs : List Value} {w w' : World} (h : Lib.IsBuilder T e B b bs w) (hb : Below w.heap.size w w') : Lib.IsBuilder T e B b bs w' :=
 h.elim (fun h => .inl (builderAt_old h hb)) (fun h => .inr (builderAt_old h hb))
def keyS (zs : List Int) : ByteArray := ⟨(keyB zs).toArray⟩
theorem byteCells_app (l m : List UInt8) : Lib.byteCells (l ++ m) = Lib.byteCells l ++ Lib.byteCells m := by simp [Lib.byteCells]
theorem strCells_bytes (l : List UInt8) : Lib.strCells ⟨l.toArray⟩ = Lib.byteCells l := by simp [Lib.strCells, Lib.byteCells]
theorem keyB_take (zs : List Int) {k : Nat} (hk : k < zs.length) : keyB (zs.take (k + 1)) = keyB (zs.take k) ++ (n36 (gi zs k).toNat ++ [46]) := by rw [take_succ_gi zs k hk, keyB_snoc]
set_option maxRecDepth 20000 in
set_option maxHeartbeats 2000000 in
theorem key_any {a : Option Addr} {len cap : Nat} {zs : List Int} {w : World} (hs : IsInts .u64 w a len cap zs) (hz : ∀ z ∈ zs, 0 ≤ z ∧ z < 18446744073709551616) (hl : len ≤ 64) :
  Calls Tryz.prog 63 #[.slice a len cap] w fun e w' => e = .returned (.string (keyS zs)) ∧ Below w.heap.size w w' := by
 have hzl := hs.length
 have HZL := Lib.hid hzl
 have HS := Lib.hid hs
 have HZ := Lib.hid hz
 clear hs hz hzl
 go_enter Tryz.func63, Tryz.ntmps63
 go_wp2_with (fail)
 obtain ⟨W0, hW0⟩ : ∃ W0, w.alloc (.cells #[.pointer none, .slice none 0 0] 126) = W0 := ⟨_, rfl⟩
 have hI0 : Lib.IsBuilder 126 5 w.heap.size w.heap.size (Lib.byteCells (keyB (zs.take 0))) W0 := by
  rw [← hW0]
  exact Lib.fresh_isBuilder 126 5 w
 have hb0 : Below w.heap.size w W0 := by rw [← hW0]; exact (Below.refl _ _).alloc (Nat.le_refl _) _
 rw [hW0]
 clear hW0
 go_loopw [8] (fun c W => ∃ i : Nat, i ≤ len ∧ c = .int .i64 (i : Int) ∧ Lib.IsBuilder 126 5 w.heap.size w.heap.size (Lib.byteCells (keyB (zs.take i))) W ∧ Below w.heap.size w W) (fun c _ => len - (intOf c).toNat)
 case atStart => exact ⟨0, Nat.zero_le _, rfl, hI0, hb0⟩
 case round =>
  clear hI0 hb0
  obtain ⟨i, hi, rfl, hI, hb⟩ := hrel
  rcases Nat.lt_or_ge i len with hlt | hge
  ·have t1 : decide (i < len) = true := decide_eq_true hlt
   obtain ⟨bz, oz, rfl, hbl, hc⟩ := HS.out.at wr hb i hlt
   obtain ⟨z, hz⟩ : ∃ z, gi zs i = z := ⟨_, rfl⟩
   have hzb := HZ.out (gi zs i) (gi_mem' (by rw [HZL.out]; exact hlt))
   have HK := Lib.hid (keyB_take zs (k := i) (by rw [HZL.out]; exact hlt))
   rw [hz] at hc hzb HK
   obtain ⟨z, rfl⟩ := Int.eq_ofNat_of_zero_le hzb.1
   have hfu := FormatUint_any z (by omega) wr
   have hkl : (keyB (zs.take i)).length ≤ 1000 := by
    have := keyB_len (zs.take i)
    rw [List.length_take] at this
    omega
   have hnl : (n36 z).length ≤ 13 := f36_len 13 z
   have HI := Lib.hid hI
   have HB := Lib.hid hb
   clear hz hzb hI hb
   go_wp2_with (first
    | (go_at_call 77; refine hfu.mono ?_; rintro e w5 ⟨rfl, hb5⟩; have hw1 := buWriteString _ _ _ ⟨(n36 z).toArray⟩ w5 (isBuilder_old HI.out hb5) (by rw [Lib.byteCells_length]; show _ + (n36 z).toArray.size ≤ _; rw [List.size_toArray]; omega) (Nat.le_trans HB.out.size hb5.size); clear hfu; rw [strCells_bytes] at hw1)
    | (go_at_call 76; refine hw1.mono ?_; rintro e w6 ⟨rfl, h6, hb6⟩; have hw2 := buWriteByte _ _ _ 46 w6 (.inr h6) (by rw [List.length_append, Lib.byteCells_length, Lib.byteCells_length]; omega) (by have := HB.out.size; have := hb5.size; have := hb6.size; omega); clear hw1)
    | (go_at_call 78; refine hw2.mono ?_; rintro e w7 ⟨rfl, h7, hb7⟩; clear hw2))
   go_roundw
   case rel =>
    refine ⟨i + 1, hlt, by go_num, ?_, HB.out.trans ((hb5.mono HB.out.size).trans (hb6.trans hb7))⟩
    rw [HK.out, ← List.append_assoc, byteCells_app, byteCells_app]
    exact .inr h7
   case measure => simp [intOf]; omega
  ·obtain rfl : i = len := by omega
   have t1 : decide (i < i) = false := decide_eq_false (by omega)
   have hs := buString_any _ _ _ wr hI hb.size
   rw [List.take_of_length_le (by rw [HZL.out]; exact Nat.le_refl _)] at hs
   clear hI
   go_wp2_with (go_at_call 79; refine hs.mono ?_; rintro e w5 ⟨rfl, hb5⟩)
   go_ret
   exact ⟨rfl, hb.trans hb5⟩
end Go.Proofs.YtbjdglopkpigbaaGreatDoor.Na
namespace Go.Proofs.YtbjdglopkpigbaaGreatDoor.Na
open Go.RowKit Go.Shelf
attribute [local go_sem] Oper.semAt_some
theorem finIdx_any {a : Nfa} {h : NH} {w : World} {px : Nat} {aq : Option Addr} {lq cq : Nat} {l : List Int} {p : Int → Bool} (hq : IsInts .i64 w aq lq cq l)
  (hf : ∀ W, Below w.heap.size w W → ∀ z ∈ l, Calls Tryz.prog 49 #[.int .i64 z, .pointer (some ⟨px, 0, none⟩)] W fun e w' => e = .returned (.bool (p z)) ∧ Below W.heap.size W w') :
  Calls Tryz.prog 68 #[.slice aq lq cq, .func (.func 49) #[] #[.pointer (some ⟨px, 0, none⟩)]] w fun e w' => (∃ r : Int, e = .returned (.int .i64 r) ∧ decide (0 ≤ r) = l.any p) ∧ Below w.heap.size w w' := by
 have hlq := hq.length
 have HLQ := Lib.hid hlq
 have hcq := hq.cap
 unfold maxLen at hcq
 have HF := Lib.hid hf
 clear hf hlq
 go_enter Tryz.func68, Tryz.ntmps68
 go_wp2
 go_loopw [8] (fun c W => ∃ i : Nat, i ≤ lq ∧ c = .int .i64 (i : Int) ∧ Hid (∀ j, j < i → p (gi l j) = false) ∧ Below w.heap.size w W) (fun c _ => lq - (intOf c).toNat)
 case atStart => exact ⟨0, Nat.zero_le _, rfl, Lib.hid (fun j hj => by omega), Below.refl _ _⟩
 case round =>
  obtain ⟨i, hi, rfl, HA, hb⟩ := hrel
  rcases Nat.lt_or_ge i lq with hlt | hge
  ·have t1 : decide (i < lq) = true := decide_eq_true hlt
   obtain ⟨bq, oq, rfl, hbl, hc⟩ := hq.at wr hb i hlt
   have hv := HF.out wr hb (gi l i) (gi_mem_n (by rw [HLQ.out]; exact hlt))
   obtain ⟨b, hpb⟩ : ∃ b, p (gi l i) = b := ⟨_, rfl⟩
   rw [hpb] at hv
   have HPB := Lib.hid hpb
   obtain ⟨z, hz⟩ : ∃ z, gi l i = z := ⟨_, rfl⟩
   have HZ := Lib.hid hz
   rw [hz] at hc hv
   have HB := Lib.hid hb
   clear hz hpb hb
   cases b
   ·have HA2 : Hid (∀ j, j < i + 1 → p (gi l j) = false) := Lib.hid (fun j hj => by
     rcases Nat.lt_or_ge j i with h1 | h1
     ·exact HA.out j h1
     ·rw [show j = i by omega]; exact HPB.out)
    go_wp2_with (go_at_call 49; refine hv.mono ?_; rintro e w5 ⟨rfl, hb5⟩)
    go_roundw
    case rel => exact ⟨i + 1, hlt, by go_num, HA2, HB.out.trans (hb5.mono HB.out.size)⟩
    case measure => simp [intOf]; omega
   ·have HR : Hid (l.any p = true) := Lib.hid (List.any_eq_true.2 ⟨gi l i, gi_mem_n (by rw [HLQ.out]; exact hlt), HPB.out⟩)
    go_wp2_with (go_at_call 49; refine hv.mono ?_; rintro e w5 ⟨rfl, hb5⟩)
    go_ret
    exact ⟨⟨_, rfl, by rw [HR.out]; exact decide_eq_true (by omega)⟩, HB.out.trans (hb5.mono HB.out.size)⟩
  ·obtain rfl : i = lq := by omega
   have t1 : decide (i < i) = false := decide_eq_false (by omega)
   have HR : Hid (l.any p = false) := Lib.hid (by
    rw [List.any_eq_false]
    intro z hz
    obtain ⟨j, hj, e⟩ := List.getElem_of_mem hz
    have := HA.out j (by rw [HLQ.out] at hj; exact hj)
    rw [show gi l j = z by rw [← e]; simp [gi, List.getD, hj]] at this
    simp [this])
   go_wp2_with (fail)
   go_ret
   exact ⟨⟨_, rfl, by rw [HR.out]; rfl⟩, hb⟩
theorem finHas_any {a : Nfa} {h : NH} {w : World} {px : Nat} {aq : Option Addr} {lq cq : Nat} {l : List Int} {p : Int → Bool} (hq : IsInts .i64 w aq lq cq l)
  (hf : ∀ W, Below w.heap.size w W → ∀ z ∈ l, Calls Tryz.prog 49 #[.int .i64 z, .pointer (some ⟨px, 0, none⟩)] W fun e w' => e = .returned (.bool (p z)) ∧ Below W.heap.size W w') :
  Calls Tryz.prog 48 #[.slice aq lq cq, .func (.func 49) #[] #[.pointer (some ⟨px, 0, none⟩)]] w fun e w' => e = .returned (.bool (l.any p)) ∧ Below w.heap.size w w' := by
 have hi := finIdx_any (a := a) (h := h) hq hf
 clear hf hq
 go_enter Tryz.func48, Tryz.ntmps48
 go_wp2_with (go_at_call 68; refine hi.mono ?_; rintro e w5 ⟨⟨r, rfl, hr⟩, hb5⟩)
 go_ret
 exact ⟨by rw [← hr]; rfl, hb5⟩
theorem final1_any {px : Nat} {fa : Option Addr} {fl fc : Nat} {fin : List Bool} {z : Nat} {W : World} (c2 : W.cell? ⟨px, 2, none⟩ = some (.slice fa fl fc)) (hf : IsBools W fa fl fc fin) (hz : z < fl) :
  Calls Tryz.prog 49 #[.int .i64 (z : Int), .pointer (some ⟨px, 0, none⟩)] W fun e w' => e = .returned (.bool (gb fin z)) ∧ Below W.heap.size W w' := by
 obtain ⟨bf, of, rfl, hc⟩ := hf.fix (by omega)
 have cf := hc W (Below.refl _ _) z hz
 clear hc hf
 go_enter Tryz.func49, Tryz.ntmps49
 go_wp2_with (fail)
 go_ret
 exact ⟨rfl, Below.refl _ _⟩
theorem final_any {a : Nfa} {h : NH} {w : World} {aq : Option Addr} {lq cq : Nat} {zs S : List Int} (hv : ValidN a) (hd : IsNfa w h a) (hs : IsInts .u64 w aq lq cq zs) (hz : Bt.SetIs zs (inL S)) (hS : CS a S) (hT : TabW w) :
  Calls Tryz.prog 31 #[vNf a h, .slice aq lq cq] w fun e w' => e = .returned (.bool (finL a.fin S)) ∧ Below w.heap.size w w' := by
 obtain ⟨W1, hW1, hs1, hb1, hO⟩ := boxNW a h w hd
 have hls := list_S (hs.later hb1) hz hS.2.2 hS.1 (by have := hv.1; omega) (hT.later hb1)
 have HSS := Lib.hid hS
 have HV := Lib.hid hv
 have HO := Lib.hid hO
 have HS1 := Lib.hid hs1
 have HB1 := Lib.hid hb1
 have hmf : ∀ (fn : Fn) (first cap : Array Value) (w : World), (Instr.makeFunc fn first cap).run Tryz.prog w = .ok (.func fn first cap) w := fun _ _ _ _ => rfl
 unfold vNf
 clear hv hd hs hz hS hT hO hb1 hs1
 go_enter Tryz.func31, Tryz.ntmps31
 go_wp2_with (first | (go_at_call 47; refine hls.mono ?_; rintro e w3 ⟨⟨aS, cS, rfl, hiS⟩, hb3⟩; have hfh := finHas_any (a := a) (h := h) (px := w.heap.size) (p := fun z => gb a.fin z.toNat) hiS (fun W hB z hz => (by
   have hBw := HB1.out.trans ((hb3.trans (hB.mono hb3.size)).mono (by have := HS1.out; omega))
   obtain ⟨⟨k1, k2, k3, k4⟩, hdW, -⟩ := HO.out W (by rw [← HS1.out]; exact hb3.trans (hB.mono hb3.size))
   have hzb := HSS.out.1 z hz
   obtain ⟨z, rfl⟩ := Int.eq_ofNat_of_zero_le hzb.1
   rw [show ((z : Int)).toNat = z by omega]
   exact final1_any k3 hdW.fin (by have := hdW.fin.length; have := HV.out.2.1; omega)))) | (go_at_call 48; refine hfh.mono ?_; rintro e w5 ⟨rfl, hb5⟩))
 go_ret
 exact ⟨rfl, HB1.out.trans ((hb3.trans (hb5.mono hb3.size)).mono (by have := HS1.out; omega))⟩
end Go.Proofs.YtbjdglopkpigbaaGreatDoor.Na
