import Derived.DeepKeys4
import Derived.Maps.AppendAt
import Derived.Test.YtbjdglopkpigbaaGreatDoorMG23
import Derived.Test.YtbjdglopkpigbaaGreatDoorMG27
import Derived.Test.YtbjdglopkpigbaaGreatDoorMG32
/-
  DfaKb, DfaKc
-/
set_option linter.unusedSimpArgs false
set_option linter.unusedVariables false
namespace Go.Proofs.YtbjdglopkpigbaaGreatDoor
open Go.RowKit
theorem laid_ok : laidOutB Tryz.prog = true := by kernel_rfl
theorem types_pos : ∃ n, Tryz.prog.types.size + 1 = n + 2 := ⟨Tryz.prog.types.size - 1, by
 have h : Nat.ble 1 Tryz.prog.types.size = true := by kernel_rfl
 have := Nat.le_of_ble_eq_true h
 omega⟩
abbrev K3 := Int × Int × Int
def sigV (x : K3) : Value := .agg #[.int .i64 x.1, .int .i64 x.2.1, .int .i64 x.2.2]
def wfI (n : Int) : Prop := (Lit.int .i64 n).wf = true
set_option maxRecDepth 20000 in
theorem sig_reads (x : K3) (h : wfI x.1 ∧ wfI x.2.1 ∧ wfI x.2.2) : keyOf Tryz.prog 79 (sigV x) = some (.string (keyBytes [.int .i64 x.1, .int .i64 x.2.1, .int .i64 x.2.2])) := by
 obtain ⟨a, b, c⟩ := x
 obtain ⟨ha, hb, hc⟩ := h
 unfold wfI at ha hb hc
 have hu := Tryz.underlying79
 have hi := Tryz.underlying3
 have hkt : Tryz.prog.keyType 79 = true := by kernel_rfl
 have hc3 : Tryz.prog.cellsOf 79 = 3 := by kernel_rfl
 have hc1 : Tryz.prog.cellsOf 3 = 1 := by kernel_rfl
 obtain ⟨n, hn⟩ := types_pos
 unfold keyOf sigV
 rw [hu, hn]
 simp only [hkt, Value.formed, hu, hc3, Value.cells, Program.keyLits]
 simp [hi, hc1, Program.keyLits, ha, hb, hc]
set_option maxRecDepth 20000 in
theorem sig_law : Maps.Keyed Tryz.prog 79 := Maps.Keyed.of_law (deep_law_laid laid_ok (m := 5) (by omega) (by
 have h : Nat.ble (79 + 1) Tryz.prog.types.size = true := by kernel_rfl
 exact Nat.le_of_ble_eq_true h) (by kernel_rfl) (by kernel_rfl))
set_option maxRecDepth 20000 in
def keyS : KeyEnc Tryz.prog 79 K3 where
 law := sig_law
 enc := sigV
 ok := fun x => wfI x.1 ∧ wfI x.2.1 ∧ wfI x.2.2
 kl := fun x => .string (keyBytes [.int .i64 x.1, .int .i64 x.2.1, .int .i64 x.2.2])
 reads := sig_reads
 inj := fun a b _ _ h => by
  obtain ⟨a1, a2, a3⟩ := a
  obtain ⟨b1, b2, b3⟩ := b
  simp [sigV] at h
  obtain ⟨rfl, rfl, rfl⟩ := h
  rfl
end Go.Proofs.YtbjdglopkpigbaaGreatDoor
namespace Go.Proofs.YtbjdglopkpigbaaGreatDoor
open Go.RowKit
attribute [local go_sem] Oper.semAt_some
theorem IsMapK.later {P : Program} {k e : TypeId} {α : Type} [DecidableEq α] {E : KeyEnc P k α} {ks : List α} {val : α → Lit} {W W' : World} {b : Nat} (h : IsMapK E e ks val W b) (hb : Below W.heap.size W W') : IsMapK E e ks val W' b := by
 rw [isMapK_iff] at h ⊢
 obtain ⟨o, h1, h2⟩ := h
 exact ⟨o, by rw [hb.block _ (Array.getElem?_eq_some_iff.1 h1).1]; exact h1, h2⟩
theorem IsMapK.vals {P : Program} {k e : TypeId} {α : Type} [DecidableEq α] {E : KeyEnc P k α} {ks : List α} {val val' : α → Lit} {W : World} {b : Nat} (h : IsMapK E e ks val W b) (hv : ∀ a ∈ ks, val a = val' a) : IsMapK E e ks val' W b := by
 rw [isMapK_iff] at h ⊢
 obtain ⟨o, h1, h2⟩ := h
 exact ⟨o, h1, h2.vals hv⟩
theorem IsMapK.lt {P : Program} {k e : TypeId} {α : Type} [DecidableEq α] {E : KeyEnc P k α} {ks : List α} {val : α → Lit} {W : World} {b : Nat} (h : IsMapK E e ks val W b) : b < W.heap.size := by
 rw [isMapK_iff] at h
 obtain ⟨o, h1, h2⟩ := h
 exact (Array.getElem?_eq_some_iff.1 h1).1
theorem IsMapK.ne {P : Program} {k e : TypeId} {α : Type} [DecidableEq α] {E : KeyEnc P k α} {ks : List α} {val : α → Lit} {W : World} {b p j : Nat} {v : Value} (h : IsMapK E e ks val W b) (hc : W.cell? ⟨p, j, none⟩ = some v) : p ≠ b := by
 rintro rfl
 rw [isMapK_iff] at h
 obtain ⟨o, h1, es, clock, D, rfl, _⟩ := h
 simp [World.cell?, h1] at hc
theorem zeroInt (w : World) : (zeroValue 3).run Tryz.prog w = .ok (Lit.int .i64 0).value w := by kernel_rfl
theorem int_elem {n : Int} (h : wfI n) : plainElem (H := Unit) Tryz.prog 3 (Lit.int .i64 n).value = some (.lit (.int .i64 n), []) := plainElem_int Tryz.underlying3 h
theorem wfI0 : wfI 0 := by unfold wfI; decide
def ChM (N : Nat) (ks : List Ky) (W : World) (b : Nat) : Prop := IsMapK keyS 3 ks (fun y => .int .i64 (plK N ks y)) W b
def Stepped (N : Nat) (ks : List Ky) (x : Ky) (bm : Nat) (W W' : World) : Prop := ChM N (stp ks x) W' bm ∧ W.grownBy W' (some bm)
set_option maxRecDepth 20000 in
theorem step_any {W : World} {bm bd pc N : Nat} {ks : List Ky} {x : Ky} (hc : W.cell? ⟨pc, 0, none⟩ = some (.map (some bm))) (hm : ChM N ks W bm) (hd : W.cell? ⟨bd, 0, none⟩ = some (.int .i64 (N : Int))) (hok : keyS.ok x) (hN : N ≤ 100000) (hks : ks.length ≤ 100000000) :
  Calls Tryz.prog 36 #[sigV x, .pointer (some ⟨pc, 0, none⟩), .pointer (some ⟨bd, 0, none⟩)] W fun e W' => e = .returned (.int .i64 (plK N (stp ks x) x)) ∧ Stepped N ks x bm W W' := by
 have hlt := hm.lt
 have hpb := hm.ne hc
 have hdb := hm.ne hd
 obtain ⟨W1, hW1⟩ : ∃ W1, W.alloc (.cells #[.int .i64 x.1, .int .i64 x.2.1, .int .i64 x.2.2] 79) = W1 := ⟨_, rfl⟩
 have hb1 : Below W.heap.size W W1 := by rw [← hW1]; exact (Below.refl _ _).alloc (Nat.le_refl _) _
 have hx0 : W1.cell? ⟨W.heap.size, 0, none⟩ = some (.int .i64 x.1) := by rw [← hW1]; exact cell_of_row _ _ 0 _ _ _ (heap_alloc_new W _)
 have hx1 : W1.cell? ⟨W.heap.size, 1, none⟩ = some (.int .i64 x.2.1) := by rw [← hW1]; exact cell_of_row _ _ 1 _ _ _ (heap_alloc_new W _)
 have hx2 : W1.cell? ⟨W.heap.size, 2, none⟩ = some (.int .i64 x.2.2) := by rw [← hW1]; exact cell_of_row _ _ 2 _ _ _ (heap_alloc_new W _)
 have c1 := (hb1.cell (p := ⟨pc, 0, none⟩) (lt_of_cell hc)).trans hc
 have d1 := (hb1.cell (p := ⟨bd, 0, none⟩) (lt_of_cell hd)).trans hd
 have HM1 : Hid (ChM N ks W1 bm) := Lib.hid (hm.later hb1)
 have HG1 : Hid (W.grownBy W1 (some bm)) := Lib.hid (below_grows hb1 _)
 have HOK := Lib.hid hok
 by_cases hin : x ∈ ks
 ·have HS : Hid (stp ks x = ks) := Lib.hid (by unfold stp; rw [if_pos hin])
  have dk : decide (x ∈ ks) = true := decide_eq_true hin
  unfold sigV
  clear hc hd hm hb1 hok
  go_enter Tryz.func36, Tryz.ntmps36
  go_wp2_with (at_lookup; refine wpList_map_ok_yes rfl _ _ 77 rfl HM1.out (elemAt_i64 Tryz.underlying3) Tryz.underlying77 (.int .i64 0) (zeroInt _) (int_elem wfI0) rfl x rfl HOK.out hin rfl ?_)
  go_ret
  rw [HS.out]
  exact ⟨rfl, by unfold Stepped; rw [HS.out]; exact ⟨HM1.out, HG1.out⟩⟩
 ·have HS : Hid (stp ks x = ks ++ [x]) := Lib.hid (by unfold stp; rw [if_neg hin])
  have HP : Hid (plK N (ks ++ [x]) x = ((ks.length + N : Nat) : Int)) := Lib.hid (plK_new hin)
  have HW : Hid (wfI ((ks.length + N : Nat) : Int)) := Lib.hid (wf_small (by omega) (by omega))
  have e1 : ((ks.length : Int) + (N : Int)) = ((ks.length + N : Nat) : Int) := by omega
  have HE := Lib.hid e1
  have HV : Hid (∀ y ∈ ks ++ [x], (if y = x then Lit.int .i64 ((ks.length + N : Nat) : Int) else Lit.int .i64 (plK N ks y)) = Lit.int .i64 (plK N (ks ++ [x]) y)) := Lib.hid (fun y hy => by
   by_cases e : y = x
   ·subst e; rw [if_pos rfl, plK_new hin]
   ·rw [if_neg e, plK_pre (List.prefix_append ks [x])]
    rcases List.mem_append.1 hy with h | h
    ·exact h
    ·exact absurd (List.mem_singleton.1 h) e)
  have HIN := Lib.hid hin
  unfold sigV
  clear hc hd hm hb1 hok e1 hin
  go_enter Tryz.func36, Tryz.ntmps36
  go_wp2_with (first | (at_lookup; refine wpList_map_ok_no rfl _ _ 77 rfl HM1.out (elemAt_i64 Tryz.underlying3) Tryz.underlying77 (.int .i64 0) (zeroInt _) (int_elem wfI0) rfl x rfl HOK.out HIN.out rfl ?_) | (at_len; refine wpList_map_len rfl _ 77 rfl HM1.out Tryz.underlying77 rfl ?_) | (at_mapUpdate; refine wpList_map_store rfl _ _ _ 77 rfl HM1.out Tryz.underlying77 (by unfold maxLen; omega) rfl x rfl HOK.out HIN.out (.int .i64 ((ks.length + N : Nat) : Int)) (by first | rfl | (rw [← HE.out]; rfl)) (int_elem HW.out) ?_; intro W2 hm2 hg2))
  go_ret
  rw [HS.out, HP.out]
  refine ⟨by rw [← HE.out]; rfl, ?_, HG1.out.trans hg2⟩
  rw [HS.out]
  exact hm2.vals HV.out
end Go.Proofs.YtbjdglopkpigbaaGreatDoor
