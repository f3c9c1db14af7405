import Derived.Test.YtofaifeadhimjaaGreatDoorMG29
import Derived.Test.YtofaifeadhimjaaGreatDoorMG32
import Derived.Test.YtofaifeadhimjaaGreatDoorMG36
/-
  NfaAm, NfaAw
-/
set_option linter.unusedVariables false
namespace Go.Proofs.YtofaifeadhimjaaGreatDoor

def awR : List A3 := [⟨0, 1, 0⟩, ⟨0, 2, 0⟩, ⟨0, 2, 1⟩]
def awN : Nfa := ⟨2, [0], [false, true], awR⟩
theorem awN_valid : ValidN awN := by
 refine ⟨by decide, by decide, by decide, fun i hi => ?_, fun i hi => ?_⟩
 ·match i, hi with
  | 0, _ => exact ⟨by decide, fun h => absurd h (by decide)⟩
  | i + 1, h => simp [awN] at h
 ·match i, hi with
  | 0, _ => exact ⟨by decide, by decide, fun h => absurd h (by decide)⟩
  | 1, _ => exact ⟨by decide, by decide, fun _ => by decide⟩
  | 2, _ => exact ⟨by decide, by decide, fun _ => by decide⟩
  | i + 3, h => exact absurd (show i + 3 < 3 from h) (by omega)
theorem awR_in : ArcsIn 2 awR := awN_valid.arcsIn
theorem awR_eps {x z : Int} (h : Eps awR x z) : x = z := by
 induction h with
 | refl => rfl
 | step h1 h2 _ _ =>
  exfalso
  simp only [awR, List.mem_cons, List.not_mem_nil, or_false] at h1
  rcases h1 with rfl | rfl | rfl <;> exact absurd h2 (by decide)
theorem awR_clo {l xs : List Int} (hl : Bd 2 l) (hx : xs.Pairwise (· < ·)) (h : ∀ z, z ∈ xs ↔ z ∈ l) : cloL awR l = xs := by
 refine (cloL_uniq awR_in hl hx fun z => (h z).trans ⟨fun hz => .of_mem hz, fun ⟨y, hy, he⟩ => ?_⟩).symm
 rw [← awR_eps he]
 exact hy
theorem bd_of (l : List Int) (h : ∀ z ∈ l, 0 ≤ z ∧ z < 2) : Bd 2 l := h
theorem awR_0 : cloL awR [0] = [0] := awR_clo (bd_of _ (by decide)) (by decide) (fun _ => Iff.rfl)
theorem awR_01 : movL awR [0] 1 = [0] := by
 unfold movL
 rw [show tgtL awR [0] 1 = [0] by decide]
 exact awR_0
theorem awR_02 : movL awR [0] 2 = [0, 1] := by
 unfold movL
 rw [show tgtL awR [0] 2 = [0, 1] by decide]
 exact awR_clo (bd_of _ (by decide)) (by decide) (fun _ => Iff.rfl)
theorem awR_11 : movL awR [0, 1] 1 = [0] := by
 unfold movL
 rw [show tgtL awR [0, 1] 1 = [0] by decide]
 exact awR_0
theorem awR_12 : movL awR [0, 1] 2 = [0, 1] := by
 unfold movL
 rw [show tgtL awR [0, 1] 2 = [0, 1] by decide]
 exact awR_clo (bd_of _ (by decide)) (by decide) (fun _ => Iff.rfl)
theorem awR_lv {S : List Int} (h : (0 : Int) ∈ S) : lvL awR S = [1, 2] := by
 refine pairwise_ext (lvL_asc _ _) (by decide) fun c => ?_
 rw [mem_lvL]
 constructor
 ·rintro ⟨_, x, hx, rfl, _⟩
  simp only [awR, List.mem_cons, List.not_mem_nil, or_false] at hx
  rcases hx with rfl | rfl | rfl <;> decide
 ·intro hc
  simp only [List.mem_cons, List.not_mem_nil, or_false] at hc
  rcases hc with rfl | rfl
  ·exact ⟨by decide, ⟨0, 1, 0⟩, by simp [awR], rfl, h⟩
  ·exact ⟨by decide, ⟨0, 2, 0⟩, by simp [awR], rfl, h⟩
theorem aw_b0 : (detB awN 0).q = [[0]] := by
 unfold detB
 rw [bq]
 show [cloL awR [0]] = [[0]]
 rw [awR_0]
theorem bq1_q' {α : Type} [DecidableEq α] (h : Nat) (st : Bq α) (c : Int) (x : α) : (bq1 h st (c, x)).q = if x ∈ st.q then st.q else st.q ++ [x] := rfl
theorem aw_b1 : (detB awN 1).q = [[0], [0, 1]] := by
 have hk : 0 < (detB awN 0).q.length := by rw [aw_b0]; decide
 have e0 : (detB awN 0).q[0] = [0] := by simp only [aw_b0]; rfl
 rw [show (1 : Nat) = 0 + 1 from rfl, detB_succ hk, e0]
 show (bqs 0 (detB awN 0) (outN awR [0])).q = _
 rw [show outN awR [0] = [(1, [0]), (2, [0, 1])] by unfold outN; rw [awR_lv (by decide)]; simp only [List.map_cons, List.map_nil, awR_01, awR_02]]
 rw [bqs_cons, bqs_cons]
 show (bq1 0 (bq1 0 (detB awN 0) (1, [0])) (2, [0, 1])).q = _
 rw [bq1_q', bq1_q', aw_b0]
 decide
theorem aw_b2 : (detB awN 2).q = [[0], [0, 1]] := by
 have hk : 1 < (detB awN 1).q.length := by rw [aw_b1]; decide
 have e0 : (detB awN 1).q[1] = [0, 1] := by simp only [aw_b1]; rfl
 rw [show (2 : Nat) = 1 + 1 from rfl, detB_succ hk, e0]
 show (bqs 1 (detB awN 1) (outN awR [0, 1])).q = _
 rw [show outN awR [0, 1] = [(1, [0]), (2, [0, 1])] by unfold outN; rw [awR_lv (by decide)]; simp only [List.map_cons, List.map_nil, awR_11, awR_12]]
 rw [bqs_cons, bqs_cons]
 show (bq1 1 (bq1 1 (detB awN 1) (1, [0])) (2, [0, 1])).q = _
 rw [bq1_q', bq1_q', aw_b1]
 decide
theorem aw_ok : DetOk awN 10 ∧ detB awN 2 = detB awN 1000 := detB_fin (k := 2) (by rw [aw_b2]; decide) (by rw [aw_b2]; decide)
theorem aw_len : (detF awN).q.length = 2 := by
 rw [show detF awN = detB awN 1000 from rfl, ← aw_ok.2, aw_b2]
 rfl
theorem aw_12 : acN awN [1, 2] = true := by
 unfold acN
 rw [show runL awN.arcs awN.s [1, 2] = [0, 1] by unfold runL; simp only [List.foldl_cons, List.foldl_nil]; rw [show cloL awN.arcs awN.s = [0] from awR_0, show movL awN.arcs [0] 1 = [0] from awR_01, show movL awN.arcs [0] 2 = [0, 1] from awR_02]]
 decide
theorem aw_21 : acN awN [2, 1] = false := by
 unfold acN
 rw [show runL awN.arcs awN.s [2, 1] = [0] by unfold runL; simp only [List.foldl_cons, List.foldl_nil]; rw [show cloL awN.arcs awN.s = [0] from awR_0, show movL awN.arcs [0] 2 = [0, 1] from awR_02, show movL awN.arcs [0, 1] 1 = [0] from awR_11]]
 decide
end Go.Proofs.YtofaifeadhimjaaGreatDoor

set_option linter.unusedSimpArgs false
set_option linter.unusedVariables false
namespace Go.Proofs.YtofaifeadhimjaaGreatDoor
open Go.RowKit
attribute [local go_sem] Oper.semAt_some
theorem IsArcs.of_block {w : World} {b : Nat} {T : TypeId} {es : List A3} {n : Nat} (h : w.heap[b]? = some (.cells (tvs es).toArray T (0, 0))) (hn : es.length = n) (hm : n ≤ maxLen) : IsArcs w (some ⟨b, 0, none⟩) n n es := by
 refine .inr ⟨b, 0, rfl, Nat.le_refl _, hm, hn, fun i hi => ?_⟩
 obtain ⟨h1, h2, h3⟩ := tvs_get es i (by omega)
 refine ⟨?_, ?_, ?_⟩
 ·rw [cell_of_row w b _ _ _ _ h]; simp only [Nat.zero_add, List.getElem?_toArray]; exact h1
 ·rw [cell_of_row w b _ _ _ _ h]; simp only [Nat.zero_add, List.getElem?_toArray]; exact h2
 ·rw [cell_of_row w b _ _ _ _ h]; simp only [Nat.zero_add, List.getElem?_toArray]; exact h3
theorem IsBools.of_block {w : World} {b : Nat} {T : TypeId} {ss : List Bool} {n : Nat} (h : w.heap[b]? = some (.cells (bvs ss).toArray T (0, 0))) (hn : ss.length = n) (hm : n ≤ maxLen) : IsBools w (some ⟨b, 0, none⟩) n n ss := by
 refine .inr ⟨b, 0, rfl, Nat.le_refl _, hm, hn, fun i hi => ?_⟩
 rw [cell_of_row w b _ _ _ _ h]
 simp [bvs, List.getElem?_eq_getElem (show i < ss.length by omega), gb_eq _ _ (show i < ss.length by omega)]
theorem ints_block {w : World} {b : Nat} {T : TypeId} {zs : List Int} {n : Nat} (h : w.heap[b]? = some (.cells (zs.map (Value.int .i64)).toArray T (0, 0))) (hn : zs.length = n) (hm : n ≤ maxLen) : IsInts .i64 w (some ⟨b, 0, none⟩) n n zs := by
 refine .inr ⟨b, 0, rfl, Nat.le_refl _, hm, hn, fun i hi => ?_⟩
 rw [cell_of_row w b _ _ _ _ h]
 simp [List.getElem?_eq_getElem (show i < zs.length by omega), gi_eq _ _ (show i < zs.length by omega)]
theorem heap_push {W : World} {b : Nat} {o : Obj} (h : W.heap[b]? = some o) (o' : Obj) : (W.alloc o').heap[b]? = some o := by
 rw [((Below.refl W.heap.size W).alloc (Nat.le_refl _) o').block b (Array.getElem?_eq_some_iff.1 h).1]
 exact h
def awH (B : Nat) : NH := ⟨some ⟨B, 0, none⟩, 1, 1, some ⟨B + 1, 0, none⟩, 2, 2, some ⟨B + 1 + 1, 0, none⟩, 3, 3⟩
theorem aw_start (w : World) : ∃ w4, (((w.alloc (.cells #[.int .i64 0] 3)).alloc (.cells #[.bool false, .bool true] 4)).alloc (.cells #[.int .i64 0, .int .i64 1, .int .i64 0, .int .i64 0, .int .i64 2, .int .i64 0, .int .i64 0, .int .i64 2, .int .i64 1] 50)).alloc (.cells #[.int .i64 2, .slice (some ⟨w.heap.size, 0, none⟩) 1 1, .slice (some ⟨w.heap.size + 1, 0, none⟩) 2 2, .slice (some ⟨w.heap.size + 1 + 1, 0, none⟩) 3 3] 31) = w4 ∧ w4.heap.size = w.heap.size + 1 + 1 + 1 + 1 ∧
  ∀ W, Below w4.heap.size w4 W → (W.cell? ⟨w.heap.size + 1 + 1 + 1, 0, none⟩ = some (.int .i64 2) ∧ W.cell? ⟨w.heap.size + 1 + 1 + 1, 1, none⟩ = some (.slice (some ⟨w.heap.size, 0, none⟩) 1 1) ∧ W.cell? ⟨w.heap.size + 1 + 1 + 1, 2, none⟩ = some (.slice (some ⟨w.heap.size + 1, 0, none⟩) 2 2) ∧ W.cell? ⟨w.heap.size + 1 + 1 + 1, 3, none⟩ = some (.slice (some ⟨w.heap.size + 1 + 1, 0, none⟩) 3 3)) ∧ IsNfa W (awH w.heap.size) awN ∧ Below w.heap.size w W := by
 refine ⟨_, rfl, by simp, fun W hW => ?_⟩
 have hb := (((((Below.refl w.heap.size w).alloc (Nat.le_refl _) (.cells #[.int .i64 0] 3)).alloc (by simp) (.cells #[.bool false, .bool true] 4)).alloc (by simp; omega) (.cells #[.int .i64 0, .int .i64 1, .int .i64 0, .int .i64 0, .int .i64 2, .int .i64 0, .int .i64 0, .int .i64 2, .int .i64 1] 50)).alloc (by simp; omega) (.cells #[.int .i64 2, .slice (some ⟨w.heap.size, 0, none⟩) 1 1, .slice (some ⟨w.heap.size + 1, 0, none⟩) 2 2, .slice (some ⟨w.heap.size + 1 + 1, 0, none⟩) 3 3] 31))
 obtain ⟨w1, h1⟩ : ∃ w1, w.alloc (.cells #[.int .i64 0] 3) = w1 := ⟨_, rfl⟩
 have z1 : w1.heap[w.heap.size]? = some (.cells #[.int .i64 0] 3 (0, 0)) := by rw [← h1]; exact heap_alloc_new w _
 have s1 : w1.heap.size = w.heap.size + 1 := by rw [← h1]; simp
 rw [h1] at hW hb
 obtain ⟨w2, h2⟩ : ∃ w2, w1.alloc (.cells #[.bool false, .bool true] 4) = w2 := ⟨_, rfl⟩
 have z2 : w2.heap[w.heap.size + 1]? = some (.cells #[.bool false, .bool true] 4 (0, 0)) := by rw [← h2, ← s1]; exact heap_alloc_new w1 _
 have s2 : w2.heap.size = w.heap.size + 1 + 1 := by rw [← h2, ← s1]; simp
 have y1 : w2.heap[w.heap.size]? = some (.cells #[.int .i64 0] 3 (0, 0)) := by rw [← h2]; exact heap_push z1 _
 rw [h2] at hW hb
 obtain ⟨w3, h3⟩ : ∃ w3, w2.alloc (.cells #[.int .i64 0, .int .i64 1, .int .i64 0, .int .i64 0, .int .i64 2, .int .i64 0, .int .i64 0, .int .i64 2, .int .i64 1] 50) = w3 := ⟨_, rfl⟩
 have z3 : w3.heap[w.heap.size + 1 + 1]? = some (.cells #[.int .i64 0, .int .i64 1, .int .i64 0, .int .i64 0, .int .i64 2, .int .i64 0, .int .i64 0, .int .i64 2, .int .i64 1] 50 (0, 0)) := by rw [← h3, ← s2]; exact heap_alloc_new w2 _
 have s3 : w3.heap.size = w.heap.size + 1 + 1 + 1 := by rw [← h3, ← s2]; simp
 rw [h3] at hW hb
 have x1 := heap_push (heap_push y1 (.cells #[.int .i64 0, .int .i64 1, .int .i64 0, .int .i64 0, .int .i64 2, .int .i64 0, .int .i64 0, .int .i64 2, .int .i64 1] 50)) (.cells #[.int .i64 2, .slice (some ⟨w.heap.size, 0, none⟩) 1 1, .slice (some ⟨w.heap.size + 1, 0, none⟩) 2 2, .slice (some ⟨w.heap.size + 1 + 1, 0, none⟩) 3 3] 31)
 have x2 := heap_push (heap_push z2 (.cells #[.int .i64 0, .int .i64 1, .int .i64 0, .int .i64 0, .int .i64 2, .int .i64 0, .int .i64 0, .int .i64 2, .int .i64 1] 50)) (.cells #[.int .i64 2, .slice (some ⟨w.heap.size, 0, none⟩) 1 1, .slice (some ⟨w.heap.size + 1, 0, none⟩) 2 2, .slice (some ⟨w.heap.size + 1 + 1, 0, none⟩) 3 3] 31)
 have x3 := heap_push z3 (.cells #[.int .i64 2, .slice (some ⟨w.heap.size, 0, none⟩) 1 1, .slice (some ⟨w.heap.size + 1, 0, none⟩) 2 2, .slice (some ⟨w.heap.size + 1 + 1, 0, none⟩) 3 3] 31)
 rw [h3] at x1 x2
 have x4 := heap_alloc_new w3 (.cells #[.int .i64 2, .slice (some ⟨w.heap.size, 0, none⟩) 1 1, .slice (some ⟨w.heap.size + 1, 0, none⟩) 2 2, .slice (some ⟨w.heap.size + 1 + 1, 0, none⟩) 3 3] 31)
 rw [s3] at x4
 have keep : ∀ {b : Nat} {o : Obj}, (w3.alloc (.cells #[.int .i64 2, .slice (some ⟨w.heap.size, 0, none⟩) 1 1, .slice (some ⟨w.heap.size + 1, 0, none⟩) 2 2, .slice (some ⟨w.heap.size + 1 + 1, 0, none⟩) 3 3] 31)).heap[b]? = some o → W.heap[b]? = some o := fun h => by
  rw [hW.block _ (Array.getElem?_eq_some_iff.1 h).1]
  exact h
 have k4 := keep x4
 refine ⟨⟨cell_of_row _ _ 0 _ _ _ k4, cell_of_row _ _ 1 _ _ _ k4, cell_of_row _ _ 2 _ _ _ k4, cell_of_row _ _ 3 _ _ _ k4⟩, ⟨?_, ?_, ?_⟩, hb.trans (hW.mono hb.size)⟩
 ·exact ints_block (zs := [0]) (keep x1) rfl (by show (1:Nat) ≤ maxLen; decide)
 ·exact IsBools.of_block (ss := [false, true]) (keep x2) rfl (by show (2:Nat) ≤ maxLen; decide)
 ·exact IsArcs.of_block (es := awR) (keep x3) rfl (by show (3:Nat) ≤ maxLen; decide)
theorem aw_acc : accV awN [1, 2] = .tuple #[.bool true, .int .i64 0] ∧ accV awN [2, 1] = .tuple #[.bool false, .int .i64 0] := by
 rw [accV_yes awN_valid, accV_yes awN_valid, aw_12, aw_21]
 exact ⟨rfl, rfl⟩
theorem aw_det : detE awN 10 = 0 ∧ (detR awN 10).q.length = 2 := by
 unfold detE detR
 rw [vN_yes awN_valid, detOk_yes aw_ok.1]
 refine ⟨by rw [if_pos rfl, if_pos rfl], by rw [if_pos rfl, if_pos rfl]; exact aw_len⟩
set_option maxRecDepth 20000 in
set_option maxHeartbeats 4000000 in
theorem awake_any {w : World} (hT : TabW w) : Calls Tryz.prog 4 #[] w fun e w' => e = .returned (.bool true) ∧ Below w.heap.size w w' := by
 have HT := Lib.hid hT
 clear hT
 go_enter Tryz.func4, Tryz.ntmps4
 obtain ⟨w4, hw4, hs4, hO⟩ := aw_start w
 go_upto_region 2 with (fail)
 obtain ⟨⟨c1, c2, c3, c4⟩, -, -⟩ := hO w4 (Below.refl _ _)
 go_wp2_with (fail)
 clear c1 c2 c3 c4
 have HO := Lib.hid hO
 have HS := Lib.hid hs4
 clear hw4
 obtain ⟨v1, hv1⟩ : ∃ v1, w4.alloc (.cells #[.int .i64 1, .int .i64 2] 3) = v1 := ⟨_, rfl⟩
 have hb1 : Below w4.heap.size w4 v1 := by rw [← hv1]; exact (Below.refl _ _).alloc (Nat.le_refl _) _
 have hz1 : v1.heap[w.heap.size + 1 + 1 + 1 + 1]? = some (.cells #[.int .i64 1, .int .i64 2] 3 (0, 0)) := by rw [← hv1, ← hs4]; exact heap_alloc_new w4 _
 rw [hv1]
 have h1 := accepts_any (ws := [1, 2]) (hO v1 hb1).2.1 (ints_block (zs := [1, 2]) hz1 rfl (by decide)) (HT.out.later (hO v1 hb1).2.2)
 rw [aw_acc.1] at h1
 refine h1.mono ?_
 rintro e w5 ⟨rfl, hb5⟩
 have HB5 : Hid (Below w4.heap.size w4 w5) := Lib.hid (hb1.trans (hb5.mono hb1.size))
 obtain ⟨⟨c1, c2, c3, c4⟩, -, -⟩ := HO.out w5 HB5.out
 clear h1 hz1 hb1 hb5 hv1 hO hs4
 go_wp2_with (fail)
 have hb6 : Below w5.heap.size w5 (w5.alloc (.cells #[.int .i64 2, .int .i64 1] 3)) := (Below.refl _ _).alloc (Nat.le_refl _) _
 have hB6 := HB5.out.trans (hb6.mono HB5.out.size)
 have h2 := accepts_any (ws := [2, 1]) (HO.out _ hB6).2.1 (ints_block (zs := [2, 1]) (heap_alloc_new w5 (.cells #[.int .i64 2, .int .i64 1] 3)) rfl (by decide)) (HT.out.later (HO.out _ hB6).2.2)
 rw [aw_acc.2] at h2
 refine h2.mono ?_
 rintro e w7 ⟨rfl, hb7⟩
 have HB7 : Hid (Below w4.heap.size w4 w7) := Lib.hid (hB6.trans (hb7.mono hB6.size))
 obtain ⟨⟨k1, k2, k3, k4⟩, -, -⟩ := HO.out w7 HB7.out
 clear h2 hb6 hB6 hb7 c1 c2 c3 c4 HB5
 go_wp2_with (fail)
 have h3 := Determinize_any (L := 10) (HO.out _ HB7.out).2.1 (HT.out.later (HO.out _ HB7.out).2.2)
 rw [aw_det.1] at h3
 have h4 := aw_det.2
 obtain ⟨D, hD⟩ : ∃ D, detR awN 10 = D := ⟨_, rfl⟩
 rw [hD] at h3 h4
 clear hD
 refine h3.mono ?_
 rintro e w8 ⟨⟨v, rfl, aS, cS, aF, cF, aA, cA, rfl, -, -, -⟩, hb8⟩
 rw [h4]
 have HB8 : Hid (Below w4.heap.size w4 w8) := Lib.hid (HB7.out.trans (hb8.mono HB7.out.size))
 obtain ⟨W9, hW9⟩ : ∃ W9, w8.alloc (.cells #[.slice aS 2 cS, .slice aF 2 cF, .slice aA D.a.length cA] 53) = W9 := ⟨_, rfl⟩
 have HB9 : Hid (Below w4.heap.size w4 W9) := Lib.hid (by rw [← hW9]; exact HB8.out.alloc HB8.out.size _)
 obtain ⟨⟨m1, m2, m3, m4⟩, hd9, hbw9⟩ := HO.out W9 HB9.out
 have m5 : W9.cell? ⟨w8.heap.size, 0, none⟩ = some (.slice aS 2 cS) := by rw [← hW9]; exact cell_of_row _ _ 0 _ _ _ (heap_alloc_new w8 _)
 have HW9 := Lib.hid hW9
 have hva := valid_any awN (awH w.heap.size) W9 hd9
 rw [vN_yes awN_valid] at hva
 have HBW := Lib.hid hbw9
 clear h3 h4 hb8 k1 k2 k3 k4 HB7 hW9 hd9 hbw9
 go_upto_region 5 with (fail)
 rw [HW9.out]
 go_wp2_with (fail)
 refine hva.mono ?_
 rintro e w10 ⟨rfl, hb10⟩
 clear hva
 go_wp2_with (fail)
 go_ret
 exact ⟨rfl, HBW.out.trans (hb10.mono HBW.out.size)⟩
end Go.Proofs.YtofaifeadhimjaaGreatDoor
