import Derived.Test.YtbjdglopkpigbaaGreatDoorMG22
import Derived.Test.YtbjdglopkpigbaaGreatDoorMG32
import Derived.Test.YtbjdglopkpigbaaGreatDoorMG40
import Derived.Test.YtbjdglopkpigbaaGreatDoorMG42
import Derived.Test.YtbjdglopkpigbaaGreatDoorMG43
/-
  LgF, NaFo, NaAc
-/
set_option linter.unusedSimpArgs false
set_option linter.unusedVariables false
namespace Go.Proofs.YtbjdglopkpigbaaGreatDoor
open Go.RowKit
attribute [local go_sem] Oper.semAt_some
theorem boxSb (w : World) (x y z : Value) : ∃ W1, w.alloc (.cells #[x, y, z] 62) = W1 ∧ Below w.heap.size w W1 ∧ W1.cell? ⟨w.heap.size, 0, none⟩ = some x ∧ W1.cell? ⟨w.heap.size, 1, none⟩ = some y ∧ W1.cell? ⟨w.heap.size, 2, none⟩ = some z :=
 ⟨_, rfl, (Below.refl _ _).alloc (Nat.le_refl _) _, cell_of_row _ _ 0 _ _ _ (heap_alloc_new w _), cell_of_row _ _ 1 _ _ _ (heap_alloc_new w _), cell_of_row _ _ 2 _ _ _ (heap_alloc_new w _)⟩
set_option maxRecDepth 20000 in
set_option maxHeartbeats 4000000 in
theorem From_err {a : Na.Nfa} {h : Na.NH} {w : World} {L x : Int} {D : Bq (List Int)} (hdt : ∀ W h', Na.IsNfa W h' a → Na.TabW W → Calls Tryz.prog 26 #[Na.vNf a h', .int .i64 L] W (Na.GivesSub a D x W)) (hx : x ≠ 0) (hd : Na.IsNfa w h a) (hT : Na.TabW w) :
  Calls Tryz.prog 13 #[Na.vNf a h, .int .i64 L] w (GivesDE zeroD x w) := by
 obtain ⟨W1, hW1, hs1, hb1, hO⟩ := Na.boxNW a h w hd
 obtain ⟨W2, hW2, hb2, hs2, hZ2⟩ := box_ready hs1
 obtain ⟨⟨c1, c2, c3, c4⟩, hd2, hbw2⟩ := hO W2 (hb2.mono (by omega))
 have hdt2 := hdt W2 h hd2 (hT.later hbw2)
 have hbW : Below w.heap.size w W2 := hbw2
 have HS2 := Lib.hid hs2
 have HZ2 := Lib.hid hZ2
 obtain ⟨ql, hql⟩ : ∃ n, D.q.length = n := ⟨_, rfl⟩
 obtain ⟨al, hal⟩ : ∃ n, D.a.length = n := ⟨_, rfl⟩
 have e0 : (x != 0) = true := by simpa using hx
 unfold Na.vNf at hdt2 ⊢
 clear hdt hd hT hO hb2 hb1 hd2 hs2 hZ2 hbw2
 go_enter Tryz.func13, Tryz.ntmps13
 go_upto_region 2 with (go_at_call 26; refine hdt2.mono ?_; rintro e w3 ⟨⟨v, rfl, sv⟩, hb3⟩; obtain ⟨aS, cS, aF, cF, aA, cA, rfl, iS, iF, iA⟩ := sv)
 rw [hql] at iF
 try rw [hql]
 rw [hal] at iA
 try rw [hal]
 obtain ⟨W4, hW4, hb4, g0, g1, g2⟩ := boxSb w3 (.slice aS ql cS) (.slice aF ql cF) (.slice aA al cA)
 rw [hW4]
 have iF4 := iF.later hb4
 have iA4 := iA.later hb4
 have hZ4 : W4.heap[w.heap.size + 1]? = some (.cells #[.int .i64 0, .int .i64 0, .slice none 0 0, .slice none 0 0] 37 (0, 0)) := by rw [hb4.block _ (by have := hb3.size; rw [HS2.out] at this; omega), hb3.block _ (by rw [HS2.out]; omega)]; exact HZ2.out
 have hb24 := hb3.trans (hb4.mono hb3.size)
 have hbw4 := hbW.trans (hb24.mono hbW.size)
 have HZ4 := Lib.hid hZ4
 have HI := Lib.hid (And.intro iF4 iA4)
 have HB4 := Lib.hid hbw4
 clear hdt2 c1 c2 c3 c4 hb3 hb4 hW4 iS iF iA iF4 iA4 hZ4 hb24 hbw4 hbW hW1 hW2 hs1
 go_wp2_with (show wpList _ _ _ (⟨_, .store 37 _ _, _, _, _, _⟩ :: _) _ _; refine wpList_store_row rfl 37 _ _ rfl (w.heap.size + 1) #[.int .i64 0, .int .i64 0, .slice none 0 0, .slice none 0 0] rfl rfl _ _ HZ4.out dfa_i rfl (dfa_one _ _ _ _ _ _ _ _) ?_)
 refine bodyPost_ret (results_cell_row2 rfl _ _ (w.heap.size + 1) _ _ _ _ rfl rfl (setRow_heap _ _ _ _ _ _ HZ4.out) Tryz.underlying37 rfl dfa_i) rfl ?_
 exact ⟨⟨⟨none, 0, 0, none, 0, 0⟩, rfl, isDfa_zero _⟩, below_setRow HB4.out (by omega) _⟩
set_option maxRecDepth 20000 in
set_option maxHeartbeats 4000000 in
theorem From_big {a : Na.Nfa} {h : Na.NH} {w : World} {L x : Int} {D : Bq (List Int)} (hdt : ∀ W h', Na.IsNfa W h' a → Na.TabW W → Calls Tryz.prog 26 #[Na.vNf a h', .int .i64 L] W (Na.GivesSub a D x W)) (hx : x = 0) (hl : 20000 < D.a.length) (hd : Na.IsNfa w h a) (hT : Na.TabW w) :
  Calls Tryz.prog 13 #[Na.vNf a h, .int .i64 L] w (GivesDE zeroD 6 w) := by
 obtain ⟨W1, hW1, hs1, hb1, hO⟩ := Na.boxNW a h w hd
 obtain ⟨W2, hW2, hb2, hs2, hZ2⟩ := box_ready hs1
 obtain ⟨⟨c1, c2, c3, c4⟩, hd2, hbw2⟩ := hO W2 (hb2.mono (by omega))
 have hdt2 := hdt W2 h hd2 (hT.later hbw2)
 have hbW : Below w.heap.size w W2 := hbw2
 have HS2 := Lib.hid hs2
 have HZ2 := Lib.hid hZ2
 obtain ⟨ql, hql⟩ : ∃ n, D.q.length = n := ⟨_, rfl⟩
 obtain ⟨al, hal⟩ : ∃ n, D.a.length = n := ⟨_, rfl⟩
 have e0 : (x != 0) = false := by simpa using hx
 have d1 : decide ((20000 : Int) < (al : Int)) = true := decide_eq_true (by omega)
 unfold Na.vNf at hdt2 ⊢
 clear hdt hd hT hO hb2 hb1 hd2 hs2 hZ2 hbw2
 go_enter Tryz.func13, Tryz.ntmps13
 go_upto_region 2 with (go_at_call 26; refine hdt2.mono ?_; rintro e w3 ⟨⟨v, rfl, sv⟩, hb3⟩; obtain ⟨aS, cS, aF, cF, aA, cA, rfl, iS, iF, iA⟩ := sv)
 rw [hql] at iF
 try rw [hql]
 rw [hal] at iA
 try rw [hal]
 obtain ⟨W4, hW4, hb4, g0, g1, g2⟩ := boxSb w3 (.slice aS ql cS) (.slice aF ql cF) (.slice aA al cA)
 rw [hW4]
 have iF4 := iF.later hb4
 have iA4 := iA.later hb4
 have hZ4 : W4.heap[w.heap.size + 1]? = some (.cells #[.int .i64 0, .int .i64 0, .slice none 0 0, .slice none 0 0] 37 (0, 0)) := by rw [hb4.block _ (by have := hb3.size; rw [HS2.out] at this; omega), hb3.block _ (by rw [HS2.out]; omega)]; exact HZ2.out
 have hb24 := hb3.trans (hb4.mono hb3.size)
 have hbw4 := hbW.trans (hb24.mono hbW.size)
 have HZ4 := Lib.hid hZ4
 have HI := Lib.hid (And.intro iF4 iA4)
 have HB4 := Lib.hid hbw4
 clear hdt2 c1 c2 c3 c4 hb3 hb4 hW4 iS iF iA iF4 iA4 hZ4 hb24 hbw4 hbW hW1 hW2 hs1
 go_wp2_with (show wpList _ _ _ (⟨_, .store 37 _ _, _, _, _, _⟩ :: _) _ _; refine wpList_store_row rfl 37 _ _ rfl (w.heap.size + 1) #[.int .i64 0, .int .i64 0, .slice none 0 0, .slice none 0 0] rfl rfl _ _ HZ4.out dfa_i rfl (dfa_one _ _ _ _ _ _ _ _) ?_)
 refine bodyPost_ret (results_cell_row2 rfl _ _ (w.heap.size + 1) _ _ _ _ rfl rfl (setRow_heap _ _ _ _ _ _ HZ4.out) Tryz.underlying37 rfl dfa_i) rfl ?_
 exact ⟨⟨⟨none, 0, 0, none, 0, 0⟩, rfl, isDfa_zero _⟩, below_setRow HB4.out (by omega) _⟩
set_option maxRecDepth 20000 in
set_option maxHeartbeats 4000000 in
theorem From_ok {a : Na.Nfa} {h : Na.NH} {w : World} {L x : Int} {D : Bq (List Int)} (hdt : ∀ W h', Na.IsNfa W h' a → Na.TabW W → Calls Tryz.prog 26 #[Na.vNf a h', .int .i64 L] W (Na.GivesSub a D x W)) (hx : x = 0) (hl : D.a.length ≤ 20000) (hd : Na.IsNfa w h a) (hT : Na.TabW w) :
  Calls Tryz.prog 13 #[Na.vNf a h, .int .i64 L] w (GivesDE (fromB a D) 0 w) := by
 obtain ⟨W1, hW1, hs1, hb1, hO⟩ := Na.boxNW a h w hd
 obtain ⟨W2, hW2, hb2, hs2, hZ2⟩ := box_ready hs1
 obtain ⟨⟨c1, c2, c3, c4⟩, hd2, hbw2⟩ := hO W2 (hb2.mono (by omega))
 have hdt2 := hdt W2 h hd2 (hT.later hbw2)
 have hbW : Below w.heap.size w W2 := hbw2
 have HS2 := Lib.hid hs2
 have HZ2 := Lib.hid hZ2
 obtain ⟨ql, hql⟩ : ∃ n, D.q.length = n := ⟨_, rfl⟩
 obtain ⟨al, hal⟩ : ∃ n, D.a.length = n := ⟨_, rfl⟩
 have e0 : (x != 0) = false := by simpa using hx
 have d1 : decide ((20000 : Int) < (al : Int)) = false := decide_eq_false (by omega)
 unfold Na.vNf at hdt2 ⊢
 clear hdt hd hT hO hb2 hb1 hd2 hs2 hZ2 hbw2
 go_enter Tryz.func13, Tryz.ntmps13
 go_upto_region 2 with (go_at_call 26; refine hdt2.mono ?_; rintro e w3 ⟨⟨v, rfl, sv⟩, hb3⟩; obtain ⟨aS, cS, aF, cF, aA, cA, rfl, iS, iF, iA⟩ := sv)
 rw [hql] at iF
 try rw [hql]
 rw [hal] at iA
 try rw [hal]
 obtain ⟨W4, hW4, hb4, g0, g1, g2⟩ := boxSb w3 (.slice aS ql cS) (.slice aF ql cF) (.slice aA al cA)
 rw [hW4]
 have iF4 := iF.later hb4
 have iA4 := iA.later hb4
 have hZ4 : W4.heap[w.heap.size + 1]? = some (.cells #[.int .i64 0, .int .i64 0, .slice none 0 0, .slice none 0 0] 37 (0, 0)) := by rw [hb4.block _ (by have := hb3.size; rw [HS2.out] at this; omega), hb3.block _ (by rw [HS2.out]; omega)]; exact HZ2.out
 have hb24 := hb3.trans (hb4.mono hb3.size)
 have hbw4 := hbW.trans (hb24.mono hbW.size)
 have HZ4 := Lib.hid hZ4
 have HI := Lib.hid (And.intro iF4 iA4)
 have HB4 := Lib.hid hbw4
 clear hdt2 c1 c2 c3 c4 hb3 hb4 hW4 iS iF iA iF4 iA4 hZ4 hb24 hbw4 hbW hW1 hW2 hs1
 go_wp2_with (show wpList _ _ _ (⟨_, .store 37 _ _, _, _, _, _⟩ :: _) _ _; refine wpList_store_row rfl 37 _ _ rfl (w.heap.size + 1) #[.int .i64 ql, .int .i64 0, .slice aF ql cF, .slice aA al cA] rfl rfl _ _ HZ4.out dfa_i rfl (dfa_one _ _ _ _ _ _ _ _) ?_)
 refine bodyPost_ret (results_cell_row2 rfl _ _ (w.heap.size + 1) _ _ _ _ rfl rfl (setRow_heap _ _ _ _ _ _ HZ4.out) Tryz.underlying37 rfl dfa_i) rfl ?_
 subst hql hal
 exact ⟨⟨⟨aF, D.q.length, cF, aA, D.a.length, cA⟩, rfl, IsDfa.boxed (D := fromB a D) _ HZ4.out ⟨by have h1 := HI.out.1; exact h1, HI.out.2⟩⟩, below_setRow HB4.out (by omega) _⟩
end Go.Proofs.YtbjdglopkpigbaaGreatDoor
namespace Go.Proofs.YtbjdglopkpigbaaGreatDoor.Na
open Go.RowKit Go.Shelf
attribute [local go_sem] Oper.semAt_some
variable {a : Nfa} {h : NH} {w : World} {aq : Option Addr} {lq cq : Nat} {l : List Int}
noncomputable def accV (a : Nfa) (ws : List Int) : Value := .tuple #[.bool (accN a ws), .int .i64 (if vN a = true then 0 else 1)]
theorem accV_yes (hv : ValidN a) (ws : List Int) : accV a ws = .tuple #[.bool (acN a ws), .int .i64 0] := by unfold accV accN; rw [vN_yes hv]; rfl
theorem accV_no (hv : ¬ ValidN a) (ws : List Int) : accV a ws = .tuple #[.bool false, .int .i64 1] := by unfold accV accN; rw [vN_no hv]; rfl
end Go.Proofs.YtbjdglopkpigbaaGreatDoor.Na
namespace Go.Proofs.YtbjdglopkpigbaaGreatDoor.Na
open Go.RowKit Go.Shelf
attribute [local go_sem] Oper.semAt_some
variable {a : Nfa} {h : NH} {w : World} {aq : Option Addr} {lq cq : Nat} {l : List Int}
set_option maxRecDepth 20000 in
set_option maxHeartbeats 1000000 in
theorem accepts_any {ws : List Int} (hd : IsNfa w h a) (hq : IsInts .i64 w aq lq cq ws) (hT : TabW w) :
  Calls Tryz.prog 16 #[vNf a h, .slice aq lq cq] w fun e w' => e = .returned (accV a ws) ∧ Below w.heap.size w w' := by
 obtain ⟨W1, hW1, hs1, hb1, hO⟩ := boxNW a h w hd
 have hva := valid_any a h W1 (hd.later hb1)
 simp only [vNf] at hva
 have hlq := hq.length
 have HLQ := Lib.hid hlq
 have hcq := hq.cap
 unfold maxLen at hcq
 have HQ := Lib.hid hq
 have HT := Lib.hid hT
 have HO := Lib.hid hO
 have HS1 := Lib.hid hs1
 have HB1 := Lib.hid hb1
 obtain ⟨⟨c1, c2, c3, c4⟩, -, -⟩ := hO W1 (by rw [← hs1]; exact Below.refl _ _)
 unfold vNf
 by_cases hv : ValidN a
 ·rw [vN_yes hv] at hva
  have HV := Lib.hid hv
  have HLB : Hid (∀ W, Below W1.heap.size W1 W → Below w.heap.size w W) := Lib.hid (fun W hB => HB1.out.trans (hB.mono (by have := HS1.out; omega)))
  have hcl := fun W (hB : Below W1.heap.size W1 W) => closed_any (w := W) hv (HO.out W (by rw [← HS1.out]; exact hB)).2.1 (HO.out W (by rw [← HS1.out]; exact hB)).2.1.start hv.startIn
  have hmv := fun W (hB : Below W1.heap.size W1 W) (c : Int) (u : List Int) (g t : Nat) (zs : List Int) (hi : IsInts .u64 W (some ⟨g, 0, none⟩) t t zs) (hz : Bt.SetIs zs (inL (runL a.arcs a.s u))) => moved_any (w := W) (c := c) hv (HO.out W (by rw [← HS1.out]; exact hB)).2.1 hi hz ⟨runL_bd hv.arcsIn u hv.startIn, cloL_runL hv.arcsIn hv.startIn u, runL_asc _ _ _⟩ (HT.out.later (HLB.out W hB))
  have hfi := fun W (hB : Below W1.heap.size W1 W) (u : List Int) (g t : Nat) (zs : List Int) (hi : IsInts .u64 W (some ⟨g, 0, none⟩) t t zs) (hz : Bt.SetIs zs (inL (runL a.arcs a.s u))) => final_any (w := W) hv (HO.out W (by rw [← HS1.out]; exact hB)).2.1 hi hz ⟨runL_bd hv.arcsIn u hv.startIn, cloL_runL hv.arcsIn hv.startIn u, runL_asc _ _ _⟩ (HT.out.later (HLB.out W hB))
  simp only [vNf] at hcl hmv hfi
  have HCL := Lib.hid hcl
  have HMV := Lib.hid hmv
  have HFI := Lib.hid hfi
  rw [accV_yes hv]
  clear hd hq hT hO hb1 hs1 hv hcl hmv hfi hlq
  go_enter Tryz.func16, Tryz.ntmps16
  go_wp2_with (first | (go_at_call 28; refine hva.mono ?_; rintro e w3 ⟨rfl, hb3⟩; obtain ⟨⟨d1, d2, d3, d4⟩, -, -⟩ := HO.out w3 (by rw [← HS1.out]; exact hb3)) | (go_at_call 29; refine (HCL.out w3 hb3).mono ?_; rintro e w4 ⟨g, t, us, rfl, hpz, hzs, ht, hb4⟩; have hi4 := hpz.ints; have HI4 := Lib.hid hi4; clear hi4))
  have HB4 : Hid (Below W1.heap.size W1 w4) := Lib.hid (hb3.trans (hb4.mono hb3.size))
  have HZ4 : Hid (Bt.SetIs us (inL (runL a.arcs a.s (ws.take 0)))) := Lib.hid (by rw [List.take_zero, runL_nil]; exact hzs)
  clear d1 d2 d3 d4 c1 c2 c3 c4 hW1 hb3 hb4 hzs hpz
  go_loopw [6, 18] (fun v c W => ∃ (i g t : Nat) (zs : List Int), i ≤ lq ∧ c = .int .i64 (i : Int) ∧ v = .slice (some ⟨g, 0, none⟩) t t ∧ IsInts .u64 W (some ⟨g, 0, none⟩) t t zs ∧ Hid (Bt.SetIs zs (inL (runL a.arcs a.s (ws.take i)))) ∧ Below W1.heap.size W1 W) (fun _ c _ => lq - (intOf c).toNat)
  case atStart => exact ⟨0, _, _, us, Nat.zero_le _, rfl, rfl, HI4.out, HZ4, HB4.out⟩
  case round =>
   clear HI4 HZ4 HB4
   obtain ⟨i, g, t, zs, hi, rfl, rfl, hI, HZ, hb⟩ := hrel
   obtain ⟨⟨d1, d2, d3, d4⟩, -, -⟩ := HO.out wr (by rw [← HS1.out]; exact hb)
   rcases Nat.lt_or_ge i lq with hlt | hge
   ·have t1 : decide (i < lq) = true := decide_eq_true hlt
    obtain ⟨bq, oq, rfl, hbl, hc⟩ := HQ.out.at wr (HLB.out wr hb) i hlt
    obtain ⟨z, hz⟩ : ∃ z, gi ws i = z := ⟨_, rfl⟩
    rw [hz] at hc
    have hm := HMV.out wr hb z _ g t zs hI HZ.out
    rw [← runL_snoc, ← hz, ← take_succ_gi ws i (by rw [HLQ.out]; exact hlt), hz] at hm
    have HM := Lib.hid hm
    have HB := Lib.hid hb
    clear hz hm hb hI
    go_wp2_with (go_at_call 30; refine HM.out.mono ?_; rintro e w5 ⟨g5, t5, us5, rfl, hpz5, hzs5, ht5, hb5⟩; have HI5 := Lib.hid hpz5.ints; have HZ5 := Lib.hid hzs5; clear hpz5 hzs5)
    go_roundw
    case rel => exact ⟨i + 1, g5, t5, us5, hlt, by go_num, rfl, HI5.out, HZ5, HB.out.trans (hb5.mono HB.out.size)⟩
    case measure => simp [intOf]; omega
   ·obtain rfl : i = lq := by omega
    have t1 : decide (i < i) = false := decide_eq_false (by omega)
    have hf := HFI.out wr hb _ g t zs hI HZ.out
    rw [show finL a.fin (runL a.arcs a.s (ws.take i)) = acN a ws by rw [List.take_of_length_le (by rw [HLQ.out]; exact Nat.le_refl _)]; rfl] at hf
    have HB := Lib.hid hb
    clear hb hI
    go_wp2_with (go_at_call 31; refine hf.mono ?_; rintro e w5 ⟨rfl, hb5⟩)
    go_ret2
    exact ⟨rfl, HLB.out _ (HB.out.trans (hb5.mono HB.out.size))⟩
 ·rw [vN_no hv] at hva
  rw [accV_no hv]
  clear hd hq hO hb1 hs1 hv
  go_enter Tryz.func16, Tryz.ntmps16
  go_wp2_with (go_at_call 28; refine hva.mono ?_; rintro e w3 ⟨rfl, hb3⟩)
  go_ret2
  exact ⟨rfl, HB1.out.trans (hb3.mono (by have := HS1.out; omega))⟩
end Go.Proofs.YtbjdglopkpigbaaGreatDoor.Na
