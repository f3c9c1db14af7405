import Derived.Test.YtofaifeadhimjaaGreatDoorMG26
import Derived.Test.YtofaifeadhimjaaGreatDoorMG29
/-
  NfaFo, NfaAc
-/
set_option linter.unusedSimpArgs false
set_option linter.unusedVariables false
namespace Go.Proofs.YtofaifeadhimjaaGreatDoor
open Go.RowKit Go.Shelf
attribute [local go_sem] Oper.semAt_some

variable {a : Nfa} {h : NH} {w : World} {aq : Option Addr} {lq cq : Nat} {l : List Int}
noncomputable def accV (a : Nfa) (ws : List Int) : Value := .tuple #[.bool (accN a ws), .int .i64 (if vN a = true then 0 else 1)]
theorem accV_yes (hv : ValidN a) (ws : List Int) : accV a ws = .tuple #[.bool (acN a ws), .int .i64 0] := by unfold accV accN; rw [vN_yes hv]; rfl
theorem accV_no (hv : ¬ ValidN a) (ws : List Int) : accV a ws = .tuple #[.bool false, .int .i64 1] := by unfold accV accN; rw [vN_no hv]; rfl
end Go.Proofs.YtofaifeadhimjaaGreatDoor

set_option linter.unusedSimpArgs false
set_option linter.unusedVariables false
namespace Go.Proofs.YtofaifeadhimjaaGreatDoor
open Go.RowKit Go.Shelf
attribute [local go_sem] Oper.semAt_some

variable {a : Nfa} {h : NH} {w : World} {aq : Option Addr} {lq cq : Nat} {l : List Int}
set_option maxRecDepth 20000 in
set_option maxHeartbeats 1000000 in
theorem accepts_any {ws : List Int} (hd : IsNfa w h a) (hq : IsInts .i64 w aq lq cq ws) (hT : TabW w) :
  Calls Tryz.prog 7 #[vNf a h, .slice aq lq cq] w fun e w' => e = .returned (accV a ws) ∧ Below w.heap.size w w' := by
 obtain ⟨W1, hW1, hs1, hb1, hO⟩ := boxNW a h w hd
 have hva := valid_any a h W1 (hd.later hb1)
 simp only [vNf] at hva
 have hlq := hq.length
 have HLQ := Lib.hid hlq
 have hcq := hq.cap
 unfold maxLen at hcq
 have HQ := Lib.hid hq
 have HT := Lib.hid hT
 have HO := Lib.hid hO
 have HS1 := Lib.hid hs1
 have HB1 := Lib.hid hb1
 obtain ⟨⟨c1, c2, c3, c4⟩, -, -⟩ := hO W1 (by rw [← hs1]; exact Below.refl _ _)
 unfold vNf
 by_cases hv : ValidN a
 ·rw [vN_yes hv] at hva
  have HV := Lib.hid hv
  have HLB : Hid (∀ W, Below W1.heap.size W1 W → Below w.heap.size w W) := Lib.hid (fun W hB => HB1.out.trans (hB.mono (by have := HS1.out; omega)))
  have hcl := fun W (hB : Below W1.heap.size W1 W) => closed_any (w := W) hv (HO.out W (by rw [← HS1.out]; exact hB)).2.1 (HO.out W (by rw [← HS1.out]; exact hB)).2.1.start hv.startIn
  have hmv := fun W (hB : Below W1.heap.size W1 W) (c : Int) (u : List Int) (g t : Nat) (zs : List Int) (hi : IsInts .u64 W (some ⟨g, 0, none⟩) t t zs) (hz : Bt.SetIs zs (inL (runL a.arcs a.s u))) => moved_any (w := W) (c := c) hv (HO.out W (by rw [← HS1.out]; exact hB)).2.1 hi hz ⟨runL_bd hv.arcsIn u hv.startIn, cloL_runL hv.arcsIn hv.startIn u, runL_asc _ _ _⟩ (HT.out.later (HLB.out W hB))
  have hfi := fun W (hB : Below W1.heap.size W1 W) (u : List Int) (g t : Nat) (zs : List Int) (hi : IsInts .u64 W (some ⟨g, 0, none⟩) t t zs) (hz : Bt.SetIs zs (inL (runL a.arcs a.s u))) => final_any (w := W) hv (HO.out W (by rw [← HS1.out]; exact hB)).2.1 hi hz ⟨runL_bd hv.arcsIn u hv.startIn, cloL_runL hv.arcsIn hv.startIn u, runL_asc _ _ _⟩ (HT.out.later (HLB.out W hB))
  simp only [vNf] at hcl hmv hfi
  have HCL := Lib.hid hcl
  have HMV := Lib.hid hmv
  have HFI := Lib.hid hfi
  rw [accV_yes hv]
  clear hd hq hT hO hb1 hs1 hv hcl hmv hfi hlq
  go_enter Tryz.func7, Tryz.ntmps7
  go_wp2_with (first | (go_at_call 18; refine hva.mono ?_; rintro e w3 ⟨rfl, hb3⟩; obtain ⟨⟨d1, d2, d3, d4⟩, -, -⟩ := HO.out w3 (by rw [← HS1.out]; exact hb3)) | (go_at_call 19; refine (HCL.out w3 hb3).mono ?_; rintro e w4 ⟨g, t, us, rfl, hpz, hzs, ht, hb4⟩; have hi4 := hpz.ints; have HI4 := Lib.hid hi4; clear hi4))
  have HB4 : Hid (Below W1.heap.size W1 w4) := Lib.hid (hb3.trans (hb4.mono hb3.size))
  have HZ4 : Hid (Bt.SetIs us (inL (runL a.arcs a.s (ws.take 0)))) := Lib.hid (by rw [List.take_zero, runL_nil]; exact hzs)
  clear d1 d2 d3 d4 c1 c2 c3 c4 hW1 hb3 hb4 hzs hpz
  go_loopw [6, 18] (fun v c W => ∃ (i g t : Nat) (zs : List Int), i ≤ lq ∧ c = .int .i64 (i : Int) ∧ v = .slice (some ⟨g, 0, none⟩) t t ∧ IsInts .u64 W (some ⟨g, 0, none⟩) t t zs ∧ Hid (Bt.SetIs zs (inL (runL a.arcs a.s (ws.take i)))) ∧ Below W1.heap.size W1 W) (fun _ c _ => lq - (intOf c).toNat)
  case atStart => exact ⟨0, _, _, us, Nat.zero_le _, rfl, rfl, HI4.out, HZ4, HB4.out⟩
  case round =>
   clear HI4 HZ4 HB4
   obtain ⟨i, g, t, zs, hi, rfl, rfl, hI, HZ, hb⟩ := hrel
   obtain ⟨⟨d1, d2, d3, d4⟩, -, -⟩ := HO.out wr (by rw [← HS1.out]; exact hb)
   rcases Nat.lt_or_ge i lq with hlt | hge
   ·have t1 : decide (i < lq) = true := decide_eq_true hlt
    obtain ⟨bq, oq, rfl, hbl, hc⟩ := HQ.out.at wr (HLB.out wr hb) i hlt
    obtain ⟨z, hz⟩ : ∃ z, gi ws i = z := ⟨_, rfl⟩
    rw [hz] at hc
    have hm := HMV.out wr hb z _ g t zs hI HZ.out
    rw [← runL_snoc, ← hz, ← take_succ_gi ws i (by rw [HLQ.out]; exact hlt), hz] at hm
    have HM := Lib.hid hm
    have HB := Lib.hid hb
    clear hz hm hb hI
    go_wp2_with (go_at_call 20; refine HM.out.mono ?_; rintro e w5 ⟨g5, t5, us5, rfl, hpz5, hzs5, ht5, hb5⟩; have HI5 := Lib.hid hpz5.ints; have HZ5 := Lib.hid hzs5; clear hpz5 hzs5)
    go_roundw
    case rel => exact ⟨i + 1, g5, t5, us5, hlt, by go_num, rfl, HI5.out, HZ5, HB.out.trans (hb5.mono HB.out.size)⟩
    case measure => simp [intOf]; omega
   ·obtain rfl : i = lq := by omega
    have t1 : decide (i < i) = false := decide_eq_false (by omega)
    have hf := HFI.out wr hb _ g t zs hI HZ.out
    rw [show finL a.fin (runL a.arcs a.s (ws.take i)) = acN a ws by rw [List.take_of_length_le (by rw [HLQ.out]; exact Nat.le_refl _)]; rfl] at hf
    have HB := Lib.hid hb
    clear hb hI
    go_wp2_with (go_at_call 21; refine hf.mono ?_; rintro e w5 ⟨rfl, hb5⟩)
    go_ret2
    exact ⟨rfl, HLB.out _ (HB.out.trans (hb5.mono HB.out.size))⟩
 ·rw [vN_no hv] at hva
  rw [accV_no hv]
  clear hd hq hO hb1 hs1 hv
  go_enter Tryz.func7, Tryz.ntmps7
  go_wp2_with (go_at_call 18; refine hva.mono ?_; rintro e w3 ⟨rfl, hb3⟩)
  go_ret2
  exact ⟨rfl, HB1.out.trans (hb3.mono (by have := HS1.out; omega))⟩
end Go.Proofs.YtofaifeadhimjaaGreatDoor
