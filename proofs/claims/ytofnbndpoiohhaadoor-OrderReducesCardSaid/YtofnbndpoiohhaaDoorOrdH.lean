/-
  The reference: behind.
-/
import Derived.Test.YtofnbndpoiohhaaDoorOrdG
set_option linter.unusedSimpArgs false
set_option linter.unusedVariables false
namespace Go.Proofs.YtofnbndpoiohhaaDoor
open Go.RowKit Go.Shelf
attribute [local go_sem] Oper.semAt_some

theorem elRows : Elem Tryd.prog 59 61 (.slice none 0 0) 1 24 := ⟨Tryd.underlying59, by kernel_rfl, rfl, by decide⟩
theorem elBools : Elem Tryd.prog 61 4 (.bool false) 1 1 := ⟨Tryd.underlying61, by kernel_rfl, rfl, by decide⟩

/-- The box in which a function keeps its order. -/
theorem boxT (T : TypeId) (n : Int) (a : Option Addr) (len cap : Nat) (w : World) :
    Below w.heap.size w (w.alloc (.cells #[.int .i64 n, .slice a len cap] T)) ∧ (w.alloc (.cells #[.int .i64 n, .slice a len cap] T)).heap.size = w.heap.size + 1 ∧
    ∀ W, Below (w.heap.size + 1) (w.alloc (.cells #[.int .i64 n, .slice a len cap] T)) W → W.cell? ⟨w.heap.size, 0, none⟩ = some (.int .i64 n) ∧ W.cell? ⟨w.heap.size, 1, none⟩ = some (.slice a len cap) := by
  refine ⟨(Below.refl _ _).alloc (Nat.le_refl _) _, by simp, fun W hb => ?_⟩
  have := hb.block w.heap.size (Nat.lt_succ_self _)
  rw [heap_alloc_new] at this
  exact ⟨cell_of_row W _ 0 _ _ _ this, cell_of_row W _ 1 _ _ _ this⟩

def edM (es : List (Int × Int)) (i j : Nat) : Bool := decide (((i : Int), (j : Int)) ∈ es)

/-! Warshall's steps. -/
open Classical in
noncomputable def wB (es : List (Int × Int)) (k i j : Nat) : Bool := decide (PathB (Ed es) k i j)
open Classical in
noncomputable def pathB (es : List (Int × Int)) (i j : Nat) : Bool := decide (Path (Ed es) i j)
open Classical in
theorem wB_zero (es : List (Int × Int)) (i j : Nat) : wB es 0 i j = edM es i j := by
  unfold wB edM
  rw [Bool.eq_iff_iff, decide_eq_true_iff, decide_eq_true_iff, PathB.zero]
  exact Iff.rfl
open Classical in
theorem wB_full {N : Nat} {es : List (Int × Int)} (hR : InR N es) {k : Nat} (hk : k = N) (i j : Nat) : wB es k i j = pathB es i j := by
  subst hk
  unfold wB pathB
  rw [Bool.eq_iff_iff, decide_eq_true_iff, decide_eq_true_iff, PathB.path hR.ed]
def wStep (M : Nat → Nat → Bool) (k i j : Nat) : Bool := M i j || (M i k && M k j)
open Classical in
theorem wB_succ (es : List (Int × Int)) (k a c : Nat) : wStep (wB es k) k a c = wB es (k + 1) a c := by
  unfold wStep wB
  rw [Bool.eq_iff_iff, Bool.or_eq_true, Bool.and_eq_true, decide_eq_true_iff, decide_eq_true_iff, decide_eq_true_iff, decide_eq_true_iff, PathB.succ]
def curM (M : Nat → Nat → Bool) (k i j a c : Nat) : Bool := if a < i ∨ (a = i ∧ c < j) then wStep M k a c else M a c
theorem wStep_k (M : Nat → Nat → Bool) (k c : Nat) : wStep M k k c = M k c := by
  unfold wStep
  cases M k c <;> cases M k k <;> rfl
theorem wStep_ik (M : Nat → Nat → Bool) (k i : Nat) : wStep M k i k = M i k := by
  unfold wStep
  cases M i k <;> cases M k k <;> rfl
theorem curM_ik (M : Nat → Nat → Bool) (k i j : Nat) : curM M k i j i k = M i k := by
  unfold curM
  split
  · exact wStep_ik M k i
  · rfl
theorem curM_kj (M : Nat → Nat → Bool) (k i j : Nat) : curM M k i j k j = M k j := by
  unfold curM
  split
  · exact wStep_k M k j
  · rfl
theorem curM_start (M : Nat → Nat → Bool) (k a c : Nat) : curM M k 0 0 a c = M a c := if_neg (by omega)
theorem curM_skip (M : Nat → Nat → Bool) (k i : Nat) (h : M i k = false) {N : Nat} : ∀ a c, a < N → c < N → curM M k i 0 a c = curM M k (i + 1) 0 a c := by
  intro a c _ _
  unfold curM
  by_cases e : a = i
  · subst e
    rw [if_neg (by omega), if_pos (by omega)]
    unfold wStep
    rw [h, Bool.false_and, Bool.or_false]
  · by_cases e2 : a < i
    · rw [if_pos (by omega), if_pos (by omega)]
    · rw [if_neg (by omega), if_neg (by omega)]
theorem curM_row (M : Nat → Nat → Bool) (k i N : Nat) : ∀ a c, a < N → c < N → curM M k i N a c = curM M k (i + 1) 0 a c := by
  intro a c _ hc
  unfold curM
  by_cases e : a < i + 1
  · rw [if_pos (by omega), if_pos (by omega)]
  · rw [if_neg (by omega), if_neg (by omega)]
theorem curM_done (M : Nat → Nat → Bool) (k N : Nat) : ∀ a c, a < N → c < N → curM M k N 0 a c = wStep M k a c := by
  intro a c ha _
  exact if_pos (by omega)
theorem curM_next (M : Nat → Nat → Bool) (k i j N : Nat) (b : Bool) (h : M i k = true) (hb : (curM M k i j i j || M k j) = b) : ∀ a c, a < N → c < N → (if a = i ∧ c = j then b else curM M k i j a c) = curM M k i (j + 1) a c := by
  intro a c _ _
  have h0 : curM M k i j i j = M i j := if_neg (by omega)
  by_cases e : a = i ∧ c = j
  · obtain ⟨rfl, rfl⟩ := e
    rw [if_pos ⟨rfl, rfl⟩, ← hb, h0]
    unfold curM wStep
    rw [if_pos (by omega), h, Bool.true_and]
  · rw [if_neg e]
    unfold curM
    by_cases e2 : a < i ∨ (a = i ∧ c < j)
    · rw [if_pos e2, if_pos (by omega)]
    · rw [if_neg e2, if_neg (by omega)]

theorem edM_snoc {es : List (Int × Int)} {k X Y : Nat} (hk : k < es.length) (hX : (gp es k).1 = (X : Int)) (hY : (gp es k).2 = (Y : Int)) (i j : Nat) : (if i = X ∧ j = Y then true else edM (es.take k) i j) = edM (es.take (k + 1)) i j := by
  have e : gp es k = ((X : Int), (Y : Int)) := Prod.ext hX hY
  unfold edM
  rw [take_succ_gp es k hk, e]
  by_cases h : i = X ∧ j = Y
  · rw [if_pos h, eq_comm, decide_eq_true_iff, h.1, h.2]
    exact List.mem_append_right _ (List.mem_singleton.2 rfl)
  · rw [if_neg h, Bool.eq_iff_iff, decide_eq_true_iff, decide_eq_true_iff, List.mem_append, List.mem_singleton, Prod.mk.injEq, Int.ofNat_inj, Int.ofNat_inj]
    exact ⟨.inl, fun hh => hh.elim id (fun hh => absurd hh h)⟩

set_option maxHeartbeats 4000000 in
theorem behind_any (N : Nat) (hN : N ≤ 60) (a : Option Addr) (len cap : Nat) (es : List (Int × Int)) (w : World) (he : IsPairs w a len cap es) (hR : InR N es) (hl : len ≤ 3600) :
    Calls Tryd.prog 34 #[.agg #[.int .i64 (N : Int), .slice a len cap]] w fun e w' => ∃ g r, e = .returned (.slice (some ⟨g, 0, none⟩) N N) ∧ MatIs w' w.heap.size g N r (pathB es) ∧ Below w.heap.size w w' := by
  obtain ⟨hb1, hs1, hO⟩ := boxT 24 N a len cap w
  obtain ⟨c0, c1⟩ := hO _ (Below.refl _ _)
  have hlen := Lib.hid he.length
  generalize hW1 : w.alloc (.cells #[.int .i64 (N : Int), .slice a len cap] 24) = W1 at hb1 hs1 hO c0 c1
  have hBw : ∀ W, Below (w.heap.size + 1) W1 W → Below w.heap.size w W := fun W h => hb1.trans (h.mono (by omega))
  go_enter Tryd.func34, Tryd.ntmps34
  go_wp2_with (refine make_row elRows rfl rfl _ _ rfl rfl rfl rfl rfl (by omega) ?_; intro w2 hr2 hb2 hs2)
  rw [hs1] at hr2 hb2 hs2
  have hM0 : MatTo w2 (w.heap.size + 1) (w.heap.size + 1) N 0 (fun _ => 0) := ⟨Nat.le_refl _, (fun i hi => by omega), (fun i j hi => by omega), hr2.congr (fun i _ => (if_neg (by omega)).symm), (fun i hi => by omega)⟩
  clear hW1 c0 c1
  go_loopw [4] (fun c W => ∃ (k : Nat) (r : Nat → Nat), k ≤ N ∧ c = .int .i64 (k : Int) ∧ MatTo W (w.heap.size + 1) (w.heap.size + 1) N k r ∧ Below (w.heap.size + 1) W1 W) (fun c _ => N - (intOf c).toNat)
  case atStart => exact ⟨0, _, Nat.zero_le _, rfl, hM0, hb2⟩
  case round =>
    clear hM0 hb2 hr2 hs2
    obtain ⟨k, r, hk, rfl, hM, hb⟩ := hrel
    obtain ⟨hn, hsl⟩ := hO wr hb
    rcases Nat.lt_or_ge k N with hlt | hge
    · --<P1
      have hsz := hM.2.2.2.1.lt
      go_wp2_with (refine make_row elBools rfl rfl _ _ rfl rfl rfl rfl rfl (by omega) ?_; intro w3 hr3 hb3 hs3; obtain ⟨hc3, hf3⟩ := (hM.2.2.2.1.later hb3).cell k hlt)
      have hM2 := hM.snoc hlt hb3 hr3
      have hb4 := (hb.trans (hb3.mono (by omega))).setCell (p := ⟨w.heap.size + 1, k, none⟩) (Nat.le_refl _) (.slice (some ⟨wr.heap.size, 0, none⟩) N N)
      go_roundw
      case rel => exact ⟨k + 1, _, hlt, by go_num, hM2, hb4⟩
      case measure => simp [intOf]; omega
    · have e : N = k := by omega
      subst e
      have hM2 := hM.full
      clear hM
      go_wp2_with (fail)
      go_loopw [5] (fun c W => ∃ k : Nat, k ≤ len ∧ c = .int .i64 (k : Int) ∧ MatIs W (w.heap.size + 1) (w.heap.size + 1) N r (edM (es.take k)) ∧ Below (w.heap.size + 1) W1 W) (fun c _ => len - (intOf c).toNat)
      case atStart => exact ⟨0, Nat.zero_le _, rfl, hM2.congr (fun i j _ _ => by simp [edM]), hb⟩
      case round =>
        clear hM2 hb hn hsl
        obtain ⟨k, hk, rfl, hM, hb⟩ := hrel
        obtain ⟨hn, hsl⟩ := hO wr hb
        rcases Nat.lt_or_ge k len with hlt | hge
        · --<P2
          obtain ⟨ba, off, rfl, hbl, _, _⟩ := he.at wr (hBw wr hb) k hlt
          have hin := hR _ (gp_mem es k (by rw [hlen.out]; exact hlt))
          obtain ⟨X, hX⟩ := Int.eq_ofNat_of_zero_le hin.1.1
          obtain ⟨Y, hY⟩ := Int.eq_ofNat_of_zero_le hin.2.1
          have hXN : X < N := by omega
          have hYN : Y < N := by omega
          have hE : ∀ W, Below (w.heap.size + 1) W1 W → W.cell? ⟨ba, off + k * 2, none⟩ = some (.int .i64 (X : Int)) ∧ W.cell? ⟨ba, off + k * 2 + 1, none⟩ = some (.int .i64 (Y : Int)) := by
            intro W hW
            obtain ⟨b', o', e', _, h1, h2⟩ := he.at W (hBw W hW) k hlt
            injection e' with e'; injection e' with e1 e2; subst e1; subst e2
            rw [hX] at h1; rw [hY] at h2
            exact ⟨h1, h2⟩
          have hEM : Hid (∀ i j, i < N → j < N → (if i = X ∧ j = Y then true else edM (es.take k) i j) = edM (es.take (k + 1)) i j) := Lib.hid (fun i j _ _ => edM_snoc (by rw [hlen.out]; exact hlt) hX hY i j)
          clear hin hX hY he
          go_wp2
          obtain ⟨S, hSd⟩ : ∃ S : (Nat → Bool) → (Nat → Value) → World → Prop, S = fun L f W => (Below (w.heap.size + 1) W1 W ∧ RowIs W (w.heap.size + 1) N (rowV r N) ∧ (stage L f W (fun W => MatIs W (w.heap.size + 1) (w.heap.size + 1) N r (edM (es.take k))) [(16, fun _ W => MatIs W (w.heap.size + 1) (w.heap.size + 1) N r (edM (es.take (k + 1))))])) := ⟨_, rfl⟩
          refine wp_region_st mixed (by kernel_rfl) [[], [], [(1, 32)], [], [(2, 33), (3, 34)], [(4, 35)], [(5, 36)], [(0, 31), (6, 37)], [(7, 38)], [], [(9, 40)], [], [(10, 41), (11, 42)], [(12, 43)], [(13, 44)], [(8, 39), (14, 45), (0, 31), (1, 32), (2, 33), (3, 34), (4, 35), (5, 36), (6, 37), (7, 38), (8, 39), (9, 40), (10, 41), (11, 42), (12, 43), (13, 44), (14, 45)], [(15, 46), (0, 31), (1, 32), (2, 33), (3, 34), (4, 35), (5, 36), (6, 37), (7, 38), (8, 39), (9, 40), (10, 41), (11, 42), (12, 43), (13, 44), (14, 45)]] [(0, 31), (1, 32), (2, 33), (3, 34), (4, 35), (5, 36), (6, 37), (7, 38), (8, 39), (9, 40), (10, 41), (11, 42), (12, 43), (13, 44), (14, 45), (15, 46)] rfl rfl [EV ?e0, EV ?e1, EV ?e2, EV ?e3, EV ?e4, EV ?e5, EV ?e6, EV ?e7, EV ?e8, EV ?e9, EV ?e10, EV ?e11, EV ?e12, EV ?e13, EV ?e14, EV ?e15, fun _ => True] S ?start ?steps ?rest
          case start =>
            intro f
            rw [hSd]
            exact ⟨hb.drew, hM.2.2.2.1, hM⟩
          case steps =>
            refine ⟨fun L f W hi hd hdn hh hS => ?_, fun L f W hi hd hdn hh hS => ?_, fun L f W hi hd hdn hh hS => ?_, fun L f W hi hd hdn hh hS => ?_, fun L f W hi hd hdn hh hS => ?_, fun L f W hi hd hdn hh hS => ?_, fun L f W hi hd hdn hh hS => ?_, fun L f W hi hd hdn hh hS => ?_, fun L f W hi hd hdn hh hS => ?_, fun L f W hi hd hdn hh hS => ?_, fun L f W hi hd hdn hh hS => ?_, fun L f W hi hd hdn hh hS => ?_, fun L f W hi hd hdn hh hS => ?_, fun L f W hi hd hdn hh hS => ?_, fun L f W hi hd hdn hh hS => ?_, fun L f W hi hd hdn hh hS => ?_, fun L f W hi hd hdn hh hS => ?_, trivial⟩
            · -- 0: Op.move (Operand.tmp 3)
              unfold stStep
              rw [if_pos (by simp [Region.wanted])]
              intro K Q hK
              simp only [puts, List.foldr_nil]
              go_step
              refine st_ex hK rfl rfl (by simp only [Act.put, List.setIfInBounds_toArray, List.set_cons_succ, List.set_cons_zero, Array.getD_eq_getD_getElem?, List.getElem?_toArray, List.getElem?_cons_succ, List.getElem?_cons_zero, Option.getD_some] <;> rfl) rfl (by rw [hSd] at hS ⊢; exact hS)
            · -- 1: Op.fieldAddr 24 (Operand.tmp 1) 1
              unfold stStep
              rw [if_pos (by simp [Region.wanted])]
              intro K Q hK
              simp only [puts, List.foldr_nil]
              go_step
              refine st_ex hK rfl rfl (by simp only [Act.put, List.setIfInBounds_toArray, List.set_cons_succ, List.set_cons_zero, Array.getD_eq_getD_getElem?, List.getElem?_toArray, List.getElem?_cons_succ, List.getElem?_cons_zero, Option.getD_some] <;> rfl) rfl (by rw [hSd] at hS ⊢; exact hS)
            · -- 2: Op.load 22 (Operand.tmp 32)
              obtain ⟨h1, -⟩ := hh
              have g1 : f 1 = _ := h1
              unfold stStep
              rw [if_pos (by simp [Region.wanted])]
              intro K Q hK
              simp only [puts, List.foldr_cons, List.foldr_nil, List.setIfInBounds_toArray, List.set_cons_succ, List.set_cons_zero, g1]
              have hS' := hS
              rw [hSd] at hS'
              have hc2 := (hO W hS'.1).2
              go_step
              refine st_ex hK rfl rfl (by simp only [Act.put, List.setIfInBounds_toArray, List.set_cons_succ, List.set_cons_zero, Array.getD_eq_getD_getElem?, List.getElem?_toArray, List.getElem?_cons_succ, List.getElem?_cons_zero, Option.getD_some] <;> rfl) rfl (by rw [hSd] at hS ⊢; exact hS)
            · -- 3: Op.move (Operand.tmp 5)
              unfold stStep
              rw [if_pos (by simp [Region.wanted])]
              intro K Q hK
              simp only [puts, List.foldr_nil]
              go_step
              refine st_ex hK rfl rfl (by simp only [Act.put, List.setIfInBounds_toArray, List.set_cons_succ, List.set_cons_zero, Array.getD_eq_getD_getElem?, List.getElem?_toArray, List.getElem?_cons_succ, List.getElem?_cons_zero, Option.getD_some] <;> rfl) rfl (by rw [hSd] at hS ⊢; exact hS)
            · -- 4: Op.indexAddr 22 (Operand.tmp 33) (Operand.tmp 34)
              obtain ⟨h2, h3, -⟩ := hh
              have g2 : f 2 = _ := h2
              have g3 : f 3 = _ := h3
              unfold stStep
              rw [if_pos (by simp [Region.wanted])]
              intro K Q hK
              simp only [puts, List.foldr_cons, List.foldr_nil, List.setIfInBounds_toArray, List.set_cons_succ, List.set_cons_zero, g2, g3]
              go_step
              refine st_ex hK rfl rfl (by simp only [Act.put, List.setIfInBounds_toArray, List.set_cons_succ, List.set_cons_zero, Array.getD_eq_getD_getElem?, List.getElem?_toArray, List.getElem?_cons_succ, List.getElem?_cons_zero, Option.getD_some] <;> rfl) rfl (by rw [hSd] at hS ⊢; exact hS)
            · -- 5: Op.indexAddr 39 (Operand.tmp 35) (Operand.const (Value.int IntKind.i64 0))
              obtain ⟨h4, -⟩ := hh
              have g4 : f 4 = _ := h4
              unfold stStep
              rw [if_pos (by simp [Region.wanted])]
              intro K Q hK
              simp only [puts, List.foldr_cons, List.foldr_nil, List.setIfInBounds_toArray, List.set_cons_succ, List.set_cons_zero, g4]
              go_step
              refine st_ex hK rfl rfl (by simp only [Act.put, List.setIfInBounds_toArray, List.set_cons_succ, List.set_cons_zero, Array.getD_eq_getD_getElem?, List.getElem?_toArray, List.getElem?_cons_succ, List.getElem?_cons_zero, Option.getD_some] <;> rfl) rfl (by rw [hSd] at hS ⊢; exact hS)
            · -- 6: Op.load 3 (Operand.tmp 36)
              obtain ⟨h5, -⟩ := hh
              have g5 : f 5 = _ := h5
              unfold stStep
              rw [if_pos (by simp [Region.wanted])]
              intro K Q hK
              simp only [puts, List.foldr_cons, List.foldr_nil, List.setIfInBounds_toArray, List.set_cons_succ, List.set_cons_zero, g5]
              have hS' := hS
              rw [hSd] at hS'
              have hc6 := (hE W hS'.1).1
              go_step
              refine st_ex hK rfl rfl (by simp only [Act.put, List.setIfInBounds_toArray, List.set_cons_succ, List.set_cons_zero, Array.getD_eq_getD_getElem?, List.getElem?_toArray, List.getElem?_cons_succ, List.getElem?_cons_zero, Option.getD_some] <;> rfl) rfl (by rw [hSd] at hS ⊢; exact hS)
            · -- 7: Op.indexAddr 59 (Operand.tmp 31) (Operand.tmp 37)
              obtain ⟨h0, h6, -⟩ := hh
              have g0 : f 0 = _ := h0
              have g6 : f 6 = _ := h6
              unfold stStep
              rw [if_pos (by simp [Region.wanted])]
              intro K Q hK
              simp only [puts, List.foldr_cons, List.foldr_nil, List.setIfInBounds_toArray, List.set_cons_succ, List.set_cons_zero, g0, g6]
              go_step
              refine st_ex hK rfl rfl (by simp only [Act.put, List.setIfInBounds_toArray, List.set_cons_succ, List.set_cons_zero, Array.getD_eq_getD_getElem?, List.getElem?_toArray, List.getElem?_cons_succ, List.getElem?_cons_zero, Option.getD_some] <;> rfl) rfl (by rw [hSd] at hS ⊢; exact hS)
            · -- 8: Op.load 61 (Operand.tmp 38)
              obtain ⟨h7, -⟩ := hh
              have g7 : f 7 = _ := h7
              unfold stStep
              rw [if_pos (by simp [Region.wanted])]
              intro K Q hK
              simp only [puts, List.foldr_cons, List.foldr_nil, List.setIfInBounds_toArray, List.set_cons_succ, List.set_cons_zero, g7]
              have hS' := hS
              rw [hSd] at hS'
              have hc8 := (hS'.2.1.cell X hXN).1
              unfold rowV at hc8
              go_step
              refine st_ex hK rfl rfl (by simp only [Act.put, List.setIfInBounds_toArray, List.set_cons_succ, List.set_cons_zero, Array.getD_eq_getD_getElem?, List.getElem?_toArray, List.getElem?_cons_succ, List.getElem?_cons_zero, Option.getD_some] <;> rfl) rfl (by rw [hSd] at hS ⊢; exact hS)
            · -- 9: Op.fieldAddr 24 (Operand.tmp 1) 1
              unfold stStep
              rw [if_pos (by simp [Region.wanted])]
              intro K Q hK
              simp only [puts, List.foldr_nil]
              go_step
              refine st_ex hK rfl rfl (by simp only [Act.put, List.setIfInBounds_toArray, List.set_cons_succ, List.set_cons_zero, Array.getD_eq_getD_getElem?, List.getElem?_toArray, List.getElem?_cons_succ, List.getElem?_cons_zero, Option.getD_some] <;> rfl) rfl (by rw [hSd] at hS ⊢; exact hS)
            · -- 10: Op.load 22 (Operand.tmp 40)
              obtain ⟨h9, -⟩ := hh
              have g9 : f 9 = _ := h9
              unfold stStep
              rw [if_pos (by simp [Region.wanted])]
              intro K Q hK
              simp only [puts, List.foldr_cons, List.foldr_nil, List.setIfInBounds_toArray, List.set_cons_succ, List.set_cons_zero, g9]
              have hS' := hS
              rw [hSd] at hS'
              have hc2 := (hO W hS'.1).2
              go_step
              refine st_ex hK rfl rfl (by simp only [Act.put, List.setIfInBounds_toArray, List.set_cons_succ, List.set_cons_zero, Array.getD_eq_getD_getElem?, List.getElem?_toArray, List.getElem?_cons_succ, List.getElem?_cons_zero, Option.getD_some] <;> rfl) rfl (by rw [hSd] at hS ⊢; exact hS)
            · -- 11: Op.move (Operand.tmp 5)
              unfold stStep
              rw [if_pos (by simp [Region.wanted])]
              intro K Q hK
              simp only [puts, List.foldr_nil]
              go_step
              refine st_ex hK rfl rfl (by simp only [Act.put, List.setIfInBounds_toArray, List.set_cons_succ, List.set_cons_zero, Array.getD_eq_getD_getElem?, List.getElem?_toArray, List.getElem?_cons_succ, List.getElem?_cons_zero, Option.getD_some] <;> rfl) rfl (by rw [hSd] at hS ⊢; exact hS)
            · -- 12: Op.indexAddr 22 (Operand.tmp 41) (Operand.tmp 42)
              obtain ⟨h10, h11, -⟩ := hh
              have g10 : f 10 = _ := h10
              have g11 : f 11 = _ := h11
              unfold stStep
              rw [if_pos (by simp [Region.wanted])]
              intro K Q hK
              simp only [puts, List.foldr_cons, List.foldr_nil, List.setIfInBounds_toArray, List.set_cons_succ, List.set_cons_zero, g10, g11]
              go_step
              refine st_ex hK rfl rfl (by simp only [Act.put, List.setIfInBounds_toArray, List.set_cons_succ, List.set_cons_zero, Array.getD_eq_getD_getElem?, List.getElem?_toArray, List.getElem?_cons_succ, List.getElem?_cons_zero, Option.getD_some] <;> rfl) rfl (by rw [hSd] at hS ⊢; exact hS)
            · -- 13: Op.indexAddr 39 (Operand.tmp 43) (Operand.const (Value.int IntKind.i64 1))
              obtain ⟨h12, -⟩ := hh
              have g12 : f 12 = _ := h12
              unfold stStep
              rw [if_pos (by simp [Region.wanted])]
              intro K Q hK
              simp only [puts, List.foldr_cons, List.foldr_nil, List.setIfInBounds_toArray, List.set_cons_succ, List.set_cons_zero, g12]
              go_step
              refine st_ex hK rfl rfl (by simp only [Act.put, List.setIfInBounds_toArray, List.set_cons_succ, List.set_cons_zero, Array.getD_eq_getD_getElem?, List.getElem?_toArray, List.getElem?_cons_succ, List.getElem?_cons_zero, Option.getD_some] <;> rfl) rfl (by rw [hSd] at hS ⊢; exact hS)
            · -- 14: Op.load 3 (Operand.tmp 44)
              obtain ⟨h13, -⟩ := hh
              have g13 : f 13 = _ := h13
              unfold stStep
              rw [if_pos (by simp [Region.wanted])]
              intro K Q hK
              simp only [puts, List.foldr_cons, List.foldr_nil, List.setIfInBounds_toArray, List.set_cons_succ, List.set_cons_zero, g13]
              have hS' := hS
              rw [hSd] at hS'
              have hc6 := (hE W hS'.1).2
              go_step
              refine st_ex hK rfl rfl (by simp only [Act.put, List.setIfInBounds_toArray, List.set_cons_succ, List.set_cons_zero, Array.getD_eq_getD_getElem?, List.getElem?_toArray, List.getElem?_cons_succ, List.getElem?_cons_zero, Option.getD_some] <;> rfl) rfl (by rw [hSd] at hS ⊢; exact hS)
            · -- 15: Op.indexAddr 61 (Operand.tmp 39) (Operand.tmp 45)
              obtain ⟨h8, h14, h0, h1, h2, h3, h4, h5, h6, h7, _, h9, h10, h11, h12, h13, _, -⟩ := hh
              have g8 : f 8 = _ := h8
              have g14 : f 14 = _ := h14
              have g0 : f 0 = _ := h0
              have g1 : f 1 = _ := h1
              have g2 : f 2 = _ := h2
              have g3 : f 3 = _ := h3
              have g4 : f 4 = _ := h4
              have g5 : f 5 = _ := h5
              have g6 : f 6 = _ := h6
              have g7 : f 7 = _ := h7
              have g9 : f 9 = _ := h9
              have g10 : f 10 = _ := h10
              have g11 : f 11 = _ := h11
              have g12 : f 12 = _ := h12
              have g13 : f 13 = _ := h13
              unfold stStep
              rw [if_pos (by simp [Region.wanted])]
              intro K Q hK
              simp only [puts, List.foldr_cons, List.foldr_nil, List.setIfInBounds_toArray, List.set_cons_succ, List.set_cons_zero, g8, g14, g0, g1, g2, g3, g4, g5, g6, g7, g9, g10, g11, g12, g13]
              go_step
              refine st_ex hK rfl rfl (by simp only [Act.put, List.setIfInBounds_toArray, List.set_cons_succ, List.set_cons_zero, Array.getD_eq_getD_getElem?, List.getElem?_toArray, List.getElem?_cons_succ, List.getElem?_cons_zero, Option.getD_some] <;> rfl) rfl (by rw [hSd] at hS ⊢; exact hS)
            · -- 16: Op.store 4 (Operand.tmp 46) (Operand.const (Value.bool true))
              obtain ⟨h15, h0, h1, h2, h3, h4, h5, h6, h7, h8, h9, h10, h11, h12, h13, h14, -⟩ := hh
              have g15 : f 15 = _ := h15
              have g0 : f 0 = _ := h0
              have g1 : f 1 = _ := h1
              have g2 : f 2 = _ := h2
              have g3 : f 3 = _ := h3
              have g4 : f 4 = _ := h4
              have g5 : f 5 = _ := h5
              have g6 : f 6 = _ := h6
              have g7 : f 7 = _ := h7
              have g8 : f 8 = _ := h8
              have g9 : f 9 = _ := h9
              have g10 : f 10 = _ := h10
              have g11 : f 11 = _ := h11
              have g12 : f 12 = _ := h12
              have g13 : f 13 = _ := h13
              have g14 : f 14 = _ := h14
              unfold stStep
              rw [if_pos (by simp [Region.wanted])]
              intro K Q hK
              simp only [puts, List.foldr_cons, List.foldr_nil, List.setIfInBounds_toArray, List.set_cons_succ, List.set_cons_zero, g15, g0, g1, g2, g3, g4, g5, g6, g7, g8, g9, g10, g11, g12, g13, g14]
              rw [hSd] at hS hK
              have l16 : L 16 = false := hi
              try simp only [stage, l16, if_true, if_false, Bool.false_eq_true] at hS
              obtain ⟨hbW, hRW, hMW⟩ := hS
              obtain ⟨hc9, hf9⟩ := hMW.cell X Y hXN hYN
              have hrX := hMW.2.1 X hXN
              go_step
              refine hK.out _ _ rfl trivial ?_
              exact ⟨hbW.setCell (by show _ ≤ r X; exact hrX.1) _, hRW.other _ (fun e => hrX.2 e.symm) _, (hMW.store X Y hXN true).congr hEM.out⟩
          case rest =>
            intro L f W2 hL hh hS
            rw [hSd] at hS
            clear hSd
            have l16 : L 16 = true := hL 16 (by decide)
            simp only [stage, l16, if_true] at hS
            clear hL l16
            obtain ⟨h0, h1, h2, h3, h4, h5, h6, h7, h8, h9, h10, h11, h12, h13, h14, h15, -⟩ := hh
            have g0 : f 0 = _ := h0
            have g1 : f 1 = _ := h1
            have g2 : f 2 = _ := h2
            have g3 : f 3 = _ := h3
            have g4 : f 4 = _ := h4
            have g5 : f 5 = _ := h5
            have g6 : f 6 = _ := h6
            have g7 : f 7 = _ := h7
            have g8 : f 8 = _ := h8
            have g9 : f 9 = _ := h9
            have g10 : f 10 = _ := h10
            have g11 : f 11 = _ := h11
            have g12 : f 12 = _ := h12
            have g13 : f 13 = _ := h13
            have g14 : f 14 = _ := h14
            have g15 : f 15 = _ := h15
            simp only [puts, List.foldr_cons, List.foldr_nil, List.setIfInBounds_toArray, List.set_cons_succ, List.set_cons_zero, g0, g1, g2, g3, g4, g5, g6, g7, g8, g9, g10, g11, g12, g13, g14, g15]
            clear h0 h1 h2 h3 h4 h5 h6 h7 h8 h9 h10 h11 h12 h13 h14 h15 g0 g1 g2 g3 g4 g5 g6 g7 g8 g9 g10 g11 g12 g13 g14 g15
            obtain ⟨hbW, hRW, hMW⟩ := hS
            go_wp2
            go_roundw
            case rel => exact ⟨k + 1, hlt, by go_num, hMW, hbW⟩
            case measure => simp [intOf]; omega
        · have e : k = len := by omega
          subst e
          rw [List.take_of_length_le (by rw [hlen.out]; exact Nat.le_refl _)] at hM
          have hO' : ∀ W, Below (w.heap.size + 1) W1 W → W.cell? ⟨w.heap.size, 0, none⟩ = some (.int .i64 (N : Int)) := fun W h => (hO W h).1
          clear he hk hge hlen
          clear hO
          have hO := hO'
          go_wp2_with (fail)

          go_loopw [6] (fun c W => ∃ k : Nat, k ≤ N ∧ c = .int .i64 (k : Int) ∧ MatIs W (w.heap.size + 1) (w.heap.size + 1) N r (wB es k) ∧ Below (w.heap.size + 1) W1 W) (fun c _ => N - (intOf c).toNat)
          case atStart => exact ⟨0, Nat.zero_le _, rfl, hM.congr (fun i j _ _ => (wB_zero es i j).symm), hb⟩
          case round =>
            clear hM hb hn
            obtain ⟨k, hk, rfl, hM, hb⟩ := hrel
            have hn := hO wr hb
            rcases Nat.lt_or_ge k N with hk3 | hge
            · --<P3
              obtain ⟨M, hMd⟩ : ∃ M, M = wB es k := ⟨_, rfl⟩
              have hstep := Lib.hid (wB_succ es k)
              rw [← hMd] at hM hstep
              clear hMd
              go_wp2_with (fail)
              go_loopw [7] (fun c W => ∃ i : Nat, i ≤ N ∧ c = .int .i64 (i : Int) ∧ MatIs W (w.heap.size + 1) (w.heap.size + 1) N r (curM M k i 0) ∧ Below (w.heap.size + 1) W1 W) (fun c _ => N - (intOf c).toNat)
              case atStart => exact ⟨0, Nat.zero_le _, rfl, hM.congr (fun a c _ _ => (curM_start M k a c).symm), hb⟩
              case round =>
                clear hM hb hn
                obtain ⟨i, hi', rfl, hM, hb⟩ := hrel
                have hn := hO wr hb
                rcases Nat.lt_or_ge i N with hiN | hge
                · go_wp2_with (fail)
                  go_loopw [8] (fun c W => ∃ j : Nat, j ≤ N ∧ c = .int .i64 (j : Int) ∧ MatIs W (w.heap.size + 1) (w.heap.size + 1) N r (curM M k i j) ∧ (M i k = true ∨ j = 0) ∧ Below (w.heap.size + 1) W1 W) (fun c _ => N - (intOf c).toNat)
                  case atStart => exact ⟨0, Nat.zero_le _, rfl, hM, .inr rfl, hb⟩
                  case round =>
                    clear hM hb hn
                    obtain ⟨j, hj', rfl, hM, hor, hb⟩ := hrel
                    have hn := hO wr hb
                    rcases Nat.lt_or_ge j N with hj | hge
                    · have hrow := hM.row i hiN
                      have hcell := (hM.cell i k hiN hk3).1
                      rw [curM_ik] at hcell
                      cases hik : M i k with
                      | false =>
                        have hj0 : j = 0 := hor.resolve_left (by rw [hik]; decide)
                        subst hj0
                        rw [hik] at hcell
                        have hM2 := hM.congr (curM_skip M k i hik)
                        clear hM hor hik
                        go_wp2_with (fail)
                        go_roundw
                        case rel => exact ⟨i + 1, hiN, by go_num, hM2, hb⟩
                        case measure => simp [intOf]; omega
                      | true =>
                        rw [hik] at hcell
                        clear hor
                        cases hij : curM M k i j i j with
                        | true => --<P4
                          have hnext := Lib.hid (curM_next M k i j N true hik (by rw [hij]; rfl))
                          replace hik := Lib.hid hik
                          go_wp2
                          obtain ⟨S, hSd⟩ : ∃ S : (Nat → Bool) → (Nat → Value) → World → Prop, S = fun L f W => (Below (w.heap.size + 1) W1 W ∧ RowIs W (w.heap.size + 1) N (rowV r N) ∧ (stage L f W (fun W => MatIs W (w.heap.size + 1) (w.heap.size + 1) N r (curM M k i j)) [(22, fun _ W => MatIs W (w.heap.size + 1) (w.heap.size + 1) N r (curM M k i (j + 1)))])) := ⟨_, rfl⟩
                          refine wp_region_st mixed (by kernel_rfl) [[], [], [(0, 74), (1, 75)], [(2, 76)], [], [], [], [(5, 79), (6, 80)], [(7, 81)], [], [(8, 82), (9, 83)], [(10, 84)], [(11, 85)], [(12, 86)], [(12, 86)], [(13, 87), (14, 88), (12, 86)], [(15, 89), (12, 86)], [(12, 86)], [(16, 90), (17, 91), (12, 86)], [(18, 92), (12, 86)], [(12, 86), (19, 93)], [(3, 77), (4, 78), (0, 74), (1, 75), (2, 76), (3, 77), (4, 78), (5, 79), (6, 80), (7, 81), (8, 82), (9, 83), (10, 84), (11, 85), (12, 86), (13, 87), (14, 88), (15, 89), (16, 90), (17, 91), (18, 92), (19, 93), (20, 94)], [(21, 95), (20, 94), (12, 86), (0, 74), (1, 75), (2, 76), (3, 77), (4, 78), (5, 79), (6, 80), (7, 81), (8, 82), (9, 83), (10, 84), (11, 85), (12, 86), (13, 87), (14, 88), (15, 89), (16, 90), (17, 91), (18, 92), (19, 93), (20, 94)]] [(0, 74), (1, 75), (2, 76), (3, 77), (4, 78), (5, 79), (6, 80), (7, 81), (8, 82), (9, 83), (10, 84), (11, 85), (12, 86), (13, 87), (14, 88), (15, 89), (16, 90), (17, 91), (18, 92), (19, 93), (20, 94), (21, 95)] rfl rfl [EV ?ec0, EV ?ec1, EV ?ec2, EV ?ec3, EV ?ec4, EV ?ec5, EV ?ec6, EV ?ec7, EV ?ec8, EV ?ec9, EV ?ec10, EV ?ec11, EV ?ec12, EV undef, EV undef, EV undef, EV undef, EV undef, EV undef, EV undef, EV ?ec20, EV ?ec21, fun _ => True] S ?cstart ?csteps ?crest
                          case cstart =>
                            intro f
                            rw [hSd]
                            exact ⟨hb.drew, hM.2.2.2.1, hM⟩
                          case csteps =>
                            refine ⟨fun L f W hi hd hdn hh hS => ?_, fun L f W hi hd hdn hh hS => ?_, fun L f W hi hd hdn hh hS => ?_, fun L f W hi hd hdn hh hS => ?_, fun L f W hi hd hdn hh hS => ?_, fun L f W hi hd hdn hh hS => ?_, fun L f W hi hd hdn hh hS => ?_, fun L f W hi hd hdn hh hS => ?_, fun L f W hi hd hdn hh hS => ?_, fun L f W hi hd hdn hh hS => ?_, fun L f W hi hd hdn hh hS => ?_, fun L f W hi hd hdn hh hS => ?_, fun L f W hi hd hdn hh hS => ?_, fun L f W hi hd hdn hh hS => ?_, fun L f W hi hd hdn hh hS => ?_, fun L f W hi hd hdn hh hS => ?_, fun L f W hi hd hdn hh hS => ?_, fun L f W hi hd hdn hh hS => ?_, fun L f W hi hd hdn hh hS => ?_, fun L f W hi hd hdn hh hS => ?_, fun L f W hi hd hdn hh hS => ?_, fun L f W hi hd hdn hh hS => ?_, fun L f W hi hd hdn hh hS => ?_, trivial⟩
                            · -- 0: Op.move (Operand.tmp 3)
                              unfold stStep
                              rw [if_pos (by simp [Region.wanted])]
                              intro K Q hK
                              simp only [puts, List.foldr_nil]
                              go_step
                              refine st_ex hK rfl rfl (by simp only [Act.put, List.setIfInBounds_toArray, List.set_cons_succ, List.set_cons_zero, Array.getD_eq_getD_getElem?, List.getElem?_toArray, List.getElem?_cons_succ, List.getElem?_cons_zero, Option.getD_some] <;> rfl) rfl (by rw [hSd] at hS ⊢; exact hS)
                            · -- 1: Op.move (Operand.tmp 7)
                              unfold stStep
                              rw [if_pos (by simp [Region.wanted])]
                              intro K Q hK
                              simp only [puts, List.foldr_nil]
                              go_step
                              refine st_ex hK rfl rfl (by simp only [Act.put, List.setIfInBounds_toArray, List.set_cons_succ, List.set_cons_zero, Array.getD_eq_getD_getElem?, List.getElem?_toArray, List.getElem?_cons_succ, List.getElem?_cons_zero, Option.getD_some] <;> rfl) rfl (by rw [hSd] at hS ⊢; exact hS)
                            · -- 2: Op.indexAddr 59 (Operand.tmp 74) (Operand.tmp 75)
                              obtain ⟨h0, h1, -⟩ := hh
                              have g0 : f 0 = _ := h0
                              have g1 : f 1 = _ := h1
                              unfold stStep
                              rw [if_pos (by simp [Region.wanted])]
                              intro K Q hK
                              simp only [puts, List.foldr_cons, List.foldr_nil, List.setIfInBounds_toArray, List.set_cons_succ, List.set_cons_zero, g0, g1]
                              go_step
                              refine st_ex hK rfl rfl (by simp only [Act.put, List.setIfInBounds_toArray, List.set_cons_succ, List.set_cons_zero, Array.getD_eq_getD_getElem?, List.getElem?_toArray, List.getElem?_cons_succ, List.getElem?_cons_zero, Option.getD_some] <;> rfl) rfl (by rw [hSd] at hS ⊢; exact hS)
                            · -- 3: Op.load 61 (Operand.tmp 76)
                              obtain ⟨h2, -⟩ := hh
                              have g2 : f 2 = _ := h2
                              unfold stStep
                              rw [if_pos (by simp [Region.wanted])]
                              intro K Q hK
                              simp only [puts, List.foldr_cons, List.foldr_nil, List.setIfInBounds_toArray, List.set_cons_succ, List.set_cons_zero, g2]
                              have hS' := hS
                              rw [hSd] at hS'
                              have hc8 := (hS'.2.1.cell i hiN).1
                              unfold rowV at hc8
                              go_step
                              refine st_ex hK rfl rfl (by simp only [Act.put, List.setIfInBounds_toArray, List.set_cons_succ, List.set_cons_zero, Array.getD_eq_getD_getElem?, List.getElem?_toArray, List.getElem?_cons_succ, List.getElem?_cons_zero, Option.getD_some] <;> rfl) rfl (by rw [hSd] at hS ⊢; exact hS)
                            · -- 4: Op.move (Operand.tmp 8)
                              unfold stStep
                              rw [if_pos (by simp [Region.wanted])]
                              intro K Q hK
                              simp only [puts, List.foldr_nil]
                              go_step
                              refine st_ex hK rfl rfl (by simp only [Act.put, List.setIfInBounds_toArray, List.set_cons_succ, List.set_cons_zero, Array.getD_eq_getD_getElem?, List.getElem?_toArray, List.getElem?_cons_succ, List.getElem?_cons_zero, Option.getD_some] <;> rfl) rfl (by rw [hSd] at hS ⊢; exact hS)
                            · -- 5: Op.move (Operand.tmp 3)
                              unfold stStep
                              rw [if_pos (by simp [Region.wanted])]
                              intro K Q hK
                              simp only [puts, List.foldr_nil]
                              go_step
                              refine st_ex hK rfl rfl (by simp only [Act.put, List.setIfInBounds_toArray, List.set_cons_succ, List.set_cons_zero, Array.getD_eq_getD_getElem?, List.getElem?_toArray, List.getElem?_cons_succ, List.getElem?_cons_zero, Option.getD_some] <;> rfl) rfl (by rw [hSd] at hS ⊢; exact hS)
                            · -- 6: Op.move (Operand.tmp 7)
                              unfold stStep
                              rw [if_pos (by simp [Region.wanted])]
                              intro K Q hK
                              simp only [puts, List.foldr_nil]
                              go_step
                              refine st_ex hK rfl rfl (by simp only [Act.put, List.setIfInBounds_toArray, List.set_cons_succ, List.set_cons_zero, Array.getD_eq_getD_getElem?, List.getElem?_toArray, List.getElem?_cons_succ, List.getElem?_cons_zero, Option.getD_some] <;> rfl) rfl (by rw [hSd] at hS ⊢; exact hS)
                            · -- 7: Op.indexAddr 59 (Operand.tmp 79) (Operand.tmp 80)
                              obtain ⟨h5, h6, -⟩ := hh
                              have g5 : f 5 = _ := h5
                              have g6 : f 6 = _ := h6
                              unfold stStep
                              rw [if_pos (by simp [Region.wanted])]
                              intro K Q hK
                              simp only [puts, List.foldr_cons, List.foldr_nil, List.setIfInBounds_toArray, List.set_cons_succ, List.set_cons_zero, g5, g6]
                              go_step
                              refine st_ex hK rfl rfl (by simp only [Act.put, List.setIfInBounds_toArray, List.set_cons_succ, List.set_cons_zero, Array.getD_eq_getD_getElem?, List.getElem?_toArray, List.getElem?_cons_succ, List.getElem?_cons_zero, Option.getD_some] <;> rfl) rfl (by rw [hSd] at hS ⊢; exact hS)
                            · -- 8: Op.load 61 (Operand.tmp 81)
                              obtain ⟨h7, -⟩ := hh
                              have g7 : f 7 = _ := h7
                              unfold stStep
                              rw [if_pos (by simp [Region.wanted])]
                              intro K Q hK
                              simp only [puts, List.foldr_cons, List.foldr_nil, List.setIfInBounds_toArray, List.set_cons_succ, List.set_cons_zero, g7]
                              have hS' := hS
                              rw [hSd] at hS'
                              have hc8 := (hS'.2.1.cell i hiN).1
                              unfold rowV at hc8
                              go_step
                              refine st_ex hK rfl rfl (by simp only [Act.put, List.setIfInBounds_toArray, List.set_cons_succ, List.set_cons_zero, Array.getD_eq_getD_getElem?, List.getElem?_toArray, List.getElem?_cons_succ, List.getElem?_cons_zero, Option.getD_some] <;> rfl) rfl (by rw [hSd] at hS ⊢; exact hS)
                            · -- 9: Op.move (Operand.tmp 8)
                              unfold stStep
                              rw [if_pos (by simp [Region.wanted])]
                              intro K Q hK
                              simp only [puts, List.foldr_nil]
                              go_step
                              refine st_ex hK rfl rfl (by simp only [Act.put, List.setIfInBounds_toArray, List.set_cons_succ, List.set_cons_zero, Array.getD_eq_getD_getElem?, List.getElem?_toArray, List.getElem?_cons_succ, List.getElem?_cons_zero, Option.getD_some] <;> rfl) rfl (by rw [hSd] at hS ⊢; exact hS)
                            · -- 10: Op.indexAddr 61 (Operand.tmp 82) (Operand.tmp 83)
                              obtain ⟨h8, h9, -⟩ := hh
                              have g8 : f 8 = _ := h8
                              have g9 : f 9 = _ := h9
                              unfold stStep
                              rw [if_pos (by simp [Region.wanted])]
                              intro K Q hK
                              simp only [puts, List.foldr_cons, List.foldr_nil, List.setIfInBounds_toArray, List.set_cons_succ, List.set_cons_zero, g8, g9]
                              go_step
                              refine st_ex hK rfl rfl (by simp only [Act.put, List.setIfInBounds_toArray, List.set_cons_succ, List.set_cons_zero, Array.getD_eq_getD_getElem?, List.getElem?_toArray, List.getElem?_cons_succ, List.getElem?_cons_zero, Option.getD_some] <;> rfl) rfl (by rw [hSd] at hS ⊢; exact hS)
                            · -- 11: Op.load 4 (Operand.tmp 84)
                              obtain ⟨h10, -⟩ := hh
                              have g10 : f 10 = _ := h10
                              have l22 : L 22 = false := Bool.eq_false_iff.2 fun h => by have q := hdn 22 _ h rfl 11 (by decide); rw [show L 11 = false from hi] at q; cases q
                              unfold stStep
                              rw [if_pos (by simp [Region.wanted])]
                              intro K Q hK
                              simp only [puts, List.foldr_cons, List.foldr_nil, List.setIfInBounds_toArray, List.set_cons_succ, List.set_cons_zero, g10]
                              have hS' := hS
                              rw [hSd] at hS'
                              simp only [stage, l22, if_false, Bool.false_eq_true] at hS'
                              have hc11 := (hS'.2.2.cell i j hiN hj).1
                              rw [hij] at hc11
                              go_step
                              refine st_ex hK rfl rfl (by simp only [Act.put, List.setIfInBounds_toArray, List.set_cons_succ, List.set_cons_zero, Array.getD_eq_getD_getElem?, List.getElem?_toArray, List.getElem?_cons_succ, List.getElem?_cons_zero, Option.getD_some] <;> rfl) rfl (by rw [hSd] at hS ⊢; exact hS)
                            · -- 12: Op.move (Operand.tmp 85)
                              obtain ⟨h11, -⟩ := hh
                              have g11 : f 11 = _ := h11
                              unfold stStep
                              rw [if_pos (by simp [Region.wanted])]
                              intro K Q hK
                              simp only [puts, List.foldr_cons, List.foldr_nil, List.setIfInBounds_toArray, List.set_cons_succ, List.set_cons_zero, g11]
                              go_step
                              refine st_ex hK rfl rfl (by simp only [Act.put, List.setIfInBounds_toArray, List.set_cons_succ, List.set_cons_zero, Array.getD_eq_getD_getElem?, List.getElem?_toArray, List.getElem?_cons_succ, List.getElem?_cons_zero, Option.getD_some] <;> rfl) rfl (by rw [hSd] at hS ⊢; exact hS)
                            · -- 13: Op.move (Operand.tmp 3)
                              obtain ⟨h12, -⟩ := hh
                              have g12 : f 12 = _ := h12
                              refine st_no (c := true) rfl g12 (by decide) rfl ?_
                              rw [hSd] at hS ⊢
                              exact hS
                            · -- 14: Op.move (Operand.tmp 6)
                              obtain ⟨h12, -⟩ := hh
                              have g12 : f 12 = _ := h12
                              refine st_no (c := true) rfl g12 (by decide) rfl ?_
                              rw [hSd] at hS ⊢
                              exact hS
                            · -- 15: Op.indexAddr 59 (Operand.tmp 87) (Operand.tmp 88)
                              obtain ⟨h13, h14, h12, -⟩ := hh
                              have g13 : f 13 = _ := h13
                              have g14 : f 14 = _ := h14
                              have g12 : f 12 = _ := h12
                              refine st_no (c := true) rfl g12 (by decide) rfl ?_
                              rw [hSd] at hS ⊢
                              exact hS
                            · -- 16: Op.load 61 (Operand.tmp 89)
                              obtain ⟨h15, h12, -⟩ := hh
                              have g15 : f 15 = _ := h15
                              have g12 : f 12 = _ := h12
                              refine st_no (c := true) rfl g12 (by decide) rfl ?_
                              rw [hSd] at hS ⊢
                              exact hS
                            · -- 17: Op.move (Operand.tmp 8)
                              obtain ⟨h12, -⟩ := hh
                              have g12 : f 12 = _ := h12
                              refine st_no (c := true) rfl g12 (by decide) rfl ?_
                              rw [hSd] at hS ⊢
                              exact hS
                            · -- 18: Op.indexAddr 61 (Operand.tmp 90) (Operand.tmp 91)
                              obtain ⟨h16, h17, h12, -⟩ := hh
                              have g16 : f 16 = _ := h16
                              have g17 : f 17 = _ := h17
                              have g12 : f 12 = _ := h12
                              refine st_no (c := true) rfl g12 (by decide) rfl ?_
                              rw [hSd] at hS ⊢
                              exact hS
                            · -- 19: Op.load 4 (Operand.tmp 92)
                              obtain ⟨h18, h12, -⟩ := hh
                              have g18 : f 18 = _ := h18
                              have g12 : f 12 = _ := h12
                              have l22 : L 22 = false := Bool.eq_false_iff.2 fun h => by have q := hdn 22 _ h rfl 19 (by decide); rw [show L 19 = false from hi] at q; cases q
                              refine st_no (c := true) rfl g12 (by decide) rfl ?_
                              rw [hSd] at hS ⊢
                              exact hS
                            · -- 20: Op.pick (Operand.tmp 86) (Operand.const (Value.bool true)) (Operand.tmp 93)
                              obtain ⟨h12, h19, -⟩ := hh
                              have g12 : f 12 = _ := h12
                              have g19 : f 19 = _ := h19
                              unfold stStep
                              rw [if_pos (by simp [Region.wanted])]
                              intro K Q hK
                              simp only [puts, List.foldr_cons, List.foldr_nil, List.setIfInBounds_toArray, List.set_cons_succ, List.set_cons_zero, g12, g19]
                              go_step
                              refine st_ex hK rfl rfl (by simp only [Act.put, List.setIfInBounds_toArray, List.set_cons_succ, List.set_cons_zero, Array.getD_eq_getD_getElem?, List.getElem?_toArray, List.getElem?_cons_succ, List.getElem?_cons_zero, Option.getD_some] <;> rfl) rfl (by rw [hSd] at hS ⊢; exact hS)
                            · -- 21: Op.indexAddr 61 (Operand.tmp 77) (Operand.tmp 78)
                              obtain ⟨h3, h4, h0, h1, h2, _, _, h5, h6, h7, h8, h9, h10, h11, h12, h13, h14, h15, h16, h17, h18, h19, h20, -⟩ := hh
                              have g3 : f 3 = _ := h3
                              have g4 : f 4 = _ := h4
                              have g0 : f 0 = _ := h0
                              have g1 : f 1 = _ := h1
                              have g2 : f 2 = _ := h2
                              have g5 : f 5 = _ := h5
                              have g6 : f 6 = _ := h6
                              have g7 : f 7 = _ := h7
                              have g8 : f 8 = _ := h8
                              have g9 : f 9 = _ := h9
                              have g10 : f 10 = _ := h10
                              have g11 : f 11 = _ := h11
                              have g12 : f 12 = _ := h12
                              have g13 : f 13 = _ := h13
                              have g14 : f 14 = _ := h14
                              have g15 : f 15 = _ := h15
                              have g16 : f 16 = _ := h16
                              have g17 : f 17 = _ := h17
                              have g18 : f 18 = _ := h18
                              have g19 : f 19 = _ := h19
                              have g20 : f 20 = _ := h20
                              unfold stStep
                              rw [if_pos (by simp [Region.wanted])]
                              intro K Q hK
                              simp only [puts, List.foldr_cons, List.foldr_nil, List.setIfInBounds_toArray, List.set_cons_succ, List.set_cons_zero, g3, g4, g0, g1, g2, g5, g6, g7, g8, g9, g10, g11, g12, g13, g14, g15, g16, g17, g18, g19, g20]
                              go_step
                              refine st_ex hK rfl rfl (by simp only [Act.put, List.setIfInBounds_toArray, List.set_cons_succ, List.set_cons_zero, Array.getD_eq_getD_getElem?, List.getElem?_toArray, List.getElem?_cons_succ, List.getElem?_cons_zero, Option.getD_some] <;> rfl) rfl (by rw [hSd] at hS ⊢; exact hS)
                            · -- 22: Op.store 4 (Operand.tmp 95) (Operand.tmp 94)
                              obtain ⟨h21, h20, h12, h0, h1, h2, h3, h4, h5, h6, h7, h8, h9, h10, h11, _, h13, h14, h15, h16, h17, h18, h19, _, -⟩ := hh
                              have g21 : f 21 = _ := h21
                              have g20 : f 20 = _ := h20
                              have g12 : f 12 = _ := h12
                              have g0 : f 0 = _ := h0
                              have g1 : f 1 = _ := h1
                              have g2 : f 2 = _ := h2
                              have g3 : f 3 = _ := h3
                              have g4 : f 4 = _ := h4
                              have g5 : f 5 = _ := h5
                              have g6 : f 6 = _ := h6
                              have g7 : f 7 = _ := h7
                              have g8 : f 8 = _ := h8
                              have g9 : f 9 = _ := h9
                              have g10 : f 10 = _ := h10
                              have g11 : f 11 = _ := h11
                              have g13 : f 13 = _ := h13
                              have g14 : f 14 = _ := h14
                              have g15 : f 15 = _ := h15
                              have g16 : f 16 = _ := h16
                              have g17 : f 17 = _ := h17
                              have g18 : f 18 = _ := h18
                              have g19 : f 19 = _ := h19
                              unfold stStep
                              rw [if_pos (by simp [Region.wanted])]
                              intro K Q hK
                              simp only [puts, List.foldr_cons, List.foldr_nil, List.setIfInBounds_toArray, List.set_cons_succ, List.set_cons_zero, g21, g20, g12, g0, g1, g2, g3, g4, g5, g6, g7, g8, g9, g10, g11, g13, g14, g15, g16, g17, g18, g19]
                              rw [hSd] at hS hK
                              have l22 : L 22 = false := hi
                              try simp only [stage, l22, if_true, if_false, Bool.false_eq_true] at hS
                              obtain ⟨hbW, hRW, hMW⟩ := hS
                              obtain ⟨hc9, hf9⟩ := hMW.cell i j hiN hj
                              have hrX := hMW.2.1 i hiN
                              go_step
                              refine hK.out _ _ rfl trivial ?_
                              exact ⟨hbW.setCell (by show _ ≤ r i; exact hrX.1) _, hRW.other _ (fun e => hrX.2 e.symm) _, (hMW.store i j hiN true).congr hnext.out⟩
                          case crest =>
                            intro L f W2 hL hh hS
                            rw [hSd] at hS
                            clear hSd
                            have l22 : L 22 = true := hL 22 (by decide)
                            simp only [stage, l22, if_true] at hS
                            clear hL l22
                            obtain ⟨h0, h1, h2, h3, h4, h5, h6, h7, h8, h9, h10, h11, h12, h13, h14, h15, h16, h17, h18, h19, h20, h21, -⟩ := hh
                            have g0 : f 0 = _ := h0
                            have g1 : f 1 = _ := h1
                            have g2 : f 2 = _ := h2
                            have g3 : f 3 = _ := h3
                            have g4 : f 4 = _ := h4
                            have g5 : f 5 = _ := h5
                            have g6 : f 6 = _ := h6
                            have g7 : f 7 = _ := h7
                            have g8 : f 8 = _ := h8
                            have g9 : f 9 = _ := h9
                            have g10 : f 10 = _ := h10
                            have g11 : f 11 = _ := h11
                            have g12 : f 12 = _ := h12
                            have g13 : f 13 = _ := h13
                            have g14 : f 14 = _ := h14
                            have g15 : f 15 = _ := h15
                            have g16 : f 16 = _ := h16
                            have g17 : f 17 = _ := h17
                            have g18 : f 18 = _ := h18
                            have g19 : f 19 = _ := h19
                            have g20 : f 20 = _ := h20
                            have g21 : f 21 = _ := h21
                            simp only [puts, List.foldr_cons, List.foldr_nil, List.setIfInBounds_toArray, List.set_cons_succ, List.set_cons_zero, g0, g1, g2, g3, g4, g5, g6, g7, g8, g9, g10, g11, g12, g13, g14, g15, g16, g17, g18, g19, g20, g21]
                            clear h0 h1 h2 h3 h4 h5 h6 h7 h8 h9 h10 h11 h12 h13 h14 h15 h16 h17 h18 h19 h20 h21 g0 g1 g2 g3 g4 g5 g6 g7 g8 g9 g10 g11 g12 g13 g14 g15 g16 g17 g18 g19 g20 g21
                            obtain ⟨hbW, hRW, hMW⟩ := hS
                            go_wp2
                            go_roundw
                            case rel => exact ⟨j + 1, hj, by go_num, hMW, .inl (by first | exact hik.out | trivial), hbW⟩
                            case measure => simp [intOf]; omega
                        | false => --<P5
                          cases hkjv : M k j with
                          | true =>
                            have hnext := Lib.hid (curM_next M k i j N true hik (by rw [hij, hkjv]; rfl))
                            have hkj := Lib.hid ((curM_kj M k i j).trans hkjv)
                            replace hik := Lib.hid hik
                            clear hkjv
                            go_wp2
                            obtain ⟨S, hSd⟩ : ∃ S : (Nat → Bool) → (Nat → Value) → World → Prop, S = fun L f W => (Below (w.heap.size + 1) W1 W ∧ RowIs W (w.heap.size + 1) N (rowV r N) ∧ (stage L f W (fun W => MatIs W (w.heap.size + 1) (w.heap.size + 1) N r (curM M k i j)) [(22, fun _ W => MatIs W (w.heap.size + 1) (w.heap.size + 1) N r (curM M k i (j + 1)))])) := ⟨_, rfl⟩
                            refine wp_region_st mixed (by kernel_rfl) [[], [], [(0, 74), (1, 75)], [(2, 76)], [], [], [], [(5, 79), (6, 80)], [(7, 81)], [], [(8, 82), (9, 83)], [(10, 84)], [(11, 85)], [(12, 86)], [(12, 86)], [(13, 87), (14, 88), (12, 86)], [(15, 89), (12, 86)], [(12, 86)], [(16, 90), (17, 91), (12, 86)], [(18, 92), (12, 86)], [(12, 86), (19, 93)], [(3, 77), (4, 78), (0, 74), (1, 75), (2, 76), (3, 77), (4, 78), (5, 79), (6, 80), (7, 81), (8, 82), (9, 83), (10, 84), (11, 85), (12, 86), (13, 87), (14, 88), (15, 89), (16, 90), (17, 91), (18, 92), (19, 93), (20, 94)], [(21, 95), (20, 94), (12, 86), (0, 74), (1, 75), (2, 76), (3, 77), (4, 78), (5, 79), (6, 80), (7, 81), (8, 82), (9, 83), (10, 84), (11, 85), (12, 86), (13, 87), (14, 88), (15, 89), (16, 90), (17, 91), (18, 92), (19, 93), (20, 94)]] [(0, 74), (1, 75), (2, 76), (3, 77), (4, 78), (5, 79), (6, 80), (7, 81), (8, 82), (9, 83), (10, 84), (11, 85), (12, 86), (13, 87), (14, 88), (15, 89), (16, 90), (17, 91), (18, 92), (19, 93), (20, 94), (21, 95)] rfl rfl [EV ?ed0, EV ?ed1, EV ?ed2, EV ?ed3, EV ?ed4, EV ?ed5, EV ?ed6, EV ?ed7, EV ?ed8, EV ?ed9, EV ?ed10, EV ?ed11, EV ?ed12, EV ?ed13, EV ?ed14, EV ?ed15, EV ?ed16, EV ?ed17, EV ?ed18, EV ?ed19, EV ?ed20, EV ?ed21, fun _ => True] S ?dstart ?dsteps ?drest
                            case dstart =>
                              intro f
                              rw [hSd]
                              exact ⟨hb.drew, hM.2.2.2.1, hM⟩
                            case dsteps =>
                              refine ⟨fun L f W hi hd hdn hh hS => ?_, fun L f W hi hd hdn hh hS => ?_, fun L f W hi hd hdn hh hS => ?_, fun L f W hi hd hdn hh hS => ?_, fun L f W hi hd hdn hh hS => ?_, fun L f W hi hd hdn hh hS => ?_, fun L f W hi hd hdn hh hS => ?_, fun L f W hi hd hdn hh hS => ?_, fun L f W hi hd hdn hh hS => ?_, fun L f W hi hd hdn hh hS => ?_, fun L f W hi hd hdn hh hS => ?_, fun L f W hi hd hdn hh hS => ?_, fun L f W hi hd hdn hh hS => ?_, fun L f W hi hd hdn hh hS => ?_, fun L f W hi hd hdn hh hS => ?_, fun L f W hi hd hdn hh hS => ?_, fun L f W hi hd hdn hh hS => ?_, fun L f W hi hd hdn hh hS => ?_, fun L f W hi hd hdn hh hS => ?_, fun L f W hi hd hdn hh hS => ?_, fun L f W hi hd hdn hh hS => ?_, fun L f W hi hd hdn hh hS => ?_, fun L f W hi hd hdn hh hS => ?_, trivial⟩
                              · -- 0: Op.move (Operand.tmp 3)
                                unfold stStep
                                rw [if_pos (by simp [Region.wanted])]
                                intro K Q hK
                                simp only [puts, List.foldr_nil]
                                go_step
                                refine st_ex hK rfl rfl (by simp only [Act.put, List.setIfInBounds_toArray, List.set_cons_succ, List.set_cons_zero, Array.getD_eq_getD_getElem?, List.getElem?_toArray, List.getElem?_cons_succ, List.getElem?_cons_zero, Option.getD_some] <;> rfl) rfl (by rw [hSd] at hS ⊢; exact hS)
                              · -- 1: Op.move (Operand.tmp 7)
                                unfold stStep
                                rw [if_pos (by simp [Region.wanted])]
                                intro K Q hK
                                simp only [puts, List.foldr_nil]
                                go_step
                                refine st_ex hK rfl rfl (by simp only [Act.put, List.setIfInBounds_toArray, List.set_cons_succ, List.set_cons_zero, Array.getD_eq_getD_getElem?, List.getElem?_toArray, List.getElem?_cons_succ, List.getElem?_cons_zero, Option.getD_some] <;> rfl) rfl (by rw [hSd] at hS ⊢; exact hS)
                              · -- 2: Op.indexAddr 59 (Operand.tmp 74) (Operand.tmp 75)
                                obtain ⟨h0, h1, -⟩ := hh
                                have g0 : f 0 = _ := h0
                                have g1 : f 1 = _ := h1
                                unfold stStep
                                rw [if_pos (by simp [Region.wanted])]
                                intro K Q hK
                                simp only [puts, List.foldr_cons, List.foldr_nil, List.setIfInBounds_toArray, List.set_cons_succ, List.set_cons_zero, g0, g1]
                                go_step
                                refine st_ex hK rfl rfl (by simp only [Act.put, List.setIfInBounds_toArray, List.set_cons_succ, List.set_cons_zero, Array.getD_eq_getD_getElem?, List.getElem?_toArray, List.getElem?_cons_succ, List.getElem?_cons_zero, Option.getD_some] <;> rfl) rfl (by rw [hSd] at hS ⊢; exact hS)
                              · -- 3: Op.load 61 (Operand.tmp 76)
                                obtain ⟨h2, -⟩ := hh
                                have g2 : f 2 = _ := h2
                                unfold stStep
                                rw [if_pos (by simp [Region.wanted])]
                                intro K Q hK
                                simp only [puts, List.foldr_cons, List.foldr_nil, List.setIfInBounds_toArray, List.set_cons_succ, List.set_cons_zero, g2]
                                have hS' := hS
                                rw [hSd] at hS'
                                have hc8 := (hS'.2.1.cell i hiN).1
                                unfold rowV at hc8
                                go_step
                                refine st_ex hK rfl rfl (by simp only [Act.put, List.setIfInBounds_toArray, List.set_cons_succ, List.set_cons_zero, Array.getD_eq_getD_getElem?, List.getElem?_toArray, List.getElem?_cons_succ, List.getElem?_cons_zero, Option.getD_some] <;> rfl) rfl (by rw [hSd] at hS ⊢; exact hS)
                              · -- 4: Op.move (Operand.tmp 8)
                                unfold stStep
                                rw [if_pos (by simp [Region.wanted])]
                                intro K Q hK
                                simp only [puts, List.foldr_nil]
                                go_step
                                refine st_ex hK rfl rfl (by simp only [Act.put, List.setIfInBounds_toArray, List.set_cons_succ, List.set_cons_zero, Array.getD_eq_getD_getElem?, List.getElem?_toArray, List.getElem?_cons_succ, List.getElem?_cons_zero, Option.getD_some] <;> rfl) rfl (by rw [hSd] at hS ⊢; exact hS)
                              · -- 5: Op.move (Operand.tmp 3)
                                unfold stStep
                                rw [if_pos (by simp [Region.wanted])]
                                intro K Q hK
                                simp only [puts, List.foldr_nil]
                                go_step
                                refine st_ex hK rfl rfl (by simp only [Act.put, List.setIfInBounds_toArray, List.set_cons_succ, List.set_cons_zero, Array.getD_eq_getD_getElem?, List.getElem?_toArray, List.getElem?_cons_succ, List.getElem?_cons_zero, Option.getD_some] <;> rfl) rfl (by rw [hSd] at hS ⊢; exact hS)
                              · -- 6: Op.move (Operand.tmp 7)
                                unfold stStep
                                rw [if_pos (by simp [Region.wanted])]
                                intro K Q hK
                                simp only [puts, List.foldr_nil]
                                go_step
                                refine st_ex hK rfl rfl (by simp only [Act.put, List.setIfInBounds_toArray, List.set_cons_succ, List.set_cons_zero, Array.getD_eq_getD_getElem?, List.getElem?_toArray, List.getElem?_cons_succ, List.getElem?_cons_zero, Option.getD_some] <;> rfl) rfl (by rw [hSd] at hS ⊢; exact hS)
                              · -- 7: Op.indexAddr 59 (Operand.tmp 79) (Operand.tmp 80)
                                obtain ⟨h5, h6, -⟩ := hh
                                have g5 : f 5 = _ := h5
                                have g6 : f 6 = _ := h6
                                unfold stStep
                                rw [if_pos (by simp [Region.wanted])]
                                intro K Q hK
                                simp only [puts, List.foldr_cons, List.foldr_nil, List.setIfInBounds_toArray, List.set_cons_succ, List.set_cons_zero, g5, g6]
                                go_step
                                refine st_ex hK rfl rfl (by simp only [Act.put, List.setIfInBounds_toArray, List.set_cons_succ, List.set_cons_zero, Array.getD_eq_getD_getElem?, List.getElem?_toArray, List.getElem?_cons_succ, List.getElem?_cons_zero, Option.getD_some] <;> rfl) rfl (by rw [hSd] at hS ⊢; exact hS)
                              · -- 8: Op.load 61 (Operand.tmp 81)
                                obtain ⟨h7, -⟩ := hh
                                have g7 : f 7 = _ := h7
                                unfold stStep
                                rw [if_pos (by simp [Region.wanted])]
                                intro K Q hK
                                simp only [puts, List.foldr_cons, List.foldr_nil, List.setIfInBounds_toArray, List.set_cons_succ, List.set_cons_zero, g7]
                                have hS' := hS
                                rw [hSd] at hS'
                                have hc8 := (hS'.2.1.cell i hiN).1
                                unfold rowV at hc8
                                go_step
                                refine st_ex hK rfl rfl (by simp only [Act.put, List.setIfInBounds_toArray, List.set_cons_succ, List.set_cons_zero, Array.getD_eq_getD_getElem?, List.getElem?_toArray, List.getElem?_cons_succ, List.getElem?_cons_zero, Option.getD_some] <;> rfl) rfl (by rw [hSd] at hS ⊢; exact hS)
                              · -- 9: Op.move (Operand.tmp 8)
                                unfold stStep
                                rw [if_pos (by simp [Region.wanted])]
                                intro K Q hK
                                simp only [puts, List.foldr_nil]
                                go_step
                                refine st_ex hK rfl rfl (by simp only [Act.put, List.setIfInBounds_toArray, List.set_cons_succ, List.set_cons_zero, Array.getD_eq_getD_getElem?, List.getElem?_toArray, List.getElem?_cons_succ, List.getElem?_cons_zero, Option.getD_some] <;> rfl) rfl (by rw [hSd] at hS ⊢; exact hS)
                              · -- 10: Op.indexAddr 61 (Operand.tmp 82) (Operand.tmp 83)
                                obtain ⟨h8, h9, -⟩ := hh
                                have g8 : f 8 = _ := h8
                                have g9 : f 9 = _ := h9
                                unfold stStep
                                rw [if_pos (by simp [Region.wanted])]
                                intro K Q hK
                                simp only [puts, List.foldr_cons, List.foldr_nil, List.setIfInBounds_toArray, List.set_cons_succ, List.set_cons_zero, g8, g9]
                                go_step
                                refine st_ex hK rfl rfl (by simp only [Act.put, List.setIfInBounds_toArray, List.set_cons_succ, List.set_cons_zero, Array.getD_eq_getD_getElem?, List.getElem?_toArray, List.getElem?_cons_succ, List.getElem?_cons_zero, Option.getD_some] <;> rfl) rfl (by rw [hSd] at hS ⊢; exact hS)
                              · -- 11: Op.load 4 (Operand.tmp 84)
                                obtain ⟨h10, -⟩ := hh
                                have g10 : f 10 = _ := h10
                                have l22 : L 22 = false := Bool.eq_false_iff.2 fun h => by have q := hdn 22 _ h rfl 11 (by decide); rw [show L 11 = false from hi] at q; cases q
                                unfold stStep
                                rw [if_pos (by simp [Region.wanted])]
                                intro K Q hK
                                simp only [puts, List.foldr_cons, List.foldr_nil, List.setIfInBounds_toArray, List.set_cons_succ, List.set_cons_zero, g10]
                                have hS' := hS
                                rw [hSd] at hS'
                                simp only [stage, l22, if_false, Bool.false_eq_true] at hS'
                                have hc11 := (hS'.2.2.cell i j hiN hj).1
                                rw [hij] at hc11
                                go_step
                                refine st_ex hK rfl rfl (by simp only [Act.put, List.setIfInBounds_toArray, List.set_cons_succ, List.set_cons_zero, Array.getD_eq_getD_getElem?, List.getElem?_toArray, List.getElem?_cons_succ, List.getElem?_cons_zero, Option.getD_some] <;> rfl) rfl (by rw [hSd] at hS ⊢; exact hS)
                              · -- 12: Op.move (Operand.tmp 85)
                                obtain ⟨h11, -⟩ := hh
                                have g11 : f 11 = _ := h11
                                unfold stStep
                                rw [if_pos (by simp [Region.wanted])]
                                intro K Q hK
                                simp only [puts, List.foldr_cons, List.foldr_nil, List.setIfInBounds_toArray, List.set_cons_succ, List.set_cons_zero, g11]
                                go_step
                                refine st_ex hK rfl rfl (by simp only [Act.put, List.setIfInBounds_toArray, List.set_cons_succ, List.set_cons_zero, Array.getD_eq_getD_getElem?, List.getElem?_toArray, List.getElem?_cons_succ, List.getElem?_cons_zero, Option.getD_some] <;> rfl) rfl (by rw [hSd] at hS ⊢; exact hS)
                              · -- 13: Op.move (Operand.tmp 3)
                                obtain ⟨h12, -⟩ := hh
                                have g12 : f 12 = _ := h12
                                refine st_yes g12 fun K Q hK => ?_
                                simp only [puts, List.foldr_cons, List.foldr_nil, List.setIfInBounds_toArray, List.set_cons_succ, List.set_cons_zero, g12]
                                go_step
                                refine st_ex hK rfl rfl (by simp only [Act.put, List.setIfInBounds_toArray, List.set_cons_succ, List.set_cons_zero, Array.getD_eq_getD_getElem?, List.getElem?_toArray, List.getElem?_cons_succ, List.getElem?_cons_zero, Option.getD_some] <;> rfl) rfl (by rw [hSd] at hS ⊢; exact hS)
                              · -- 14: Op.move (Operand.tmp 6)
                                obtain ⟨h12, -⟩ := hh
                                have g12 : f 12 = _ := h12
                                refine st_yes g12 fun K Q hK => ?_
                                simp only [puts, List.foldr_cons, List.foldr_nil, List.setIfInBounds_toArray, List.set_cons_succ, List.set_cons_zero, g12]
                                go_step
                                refine st_ex hK rfl rfl (by simp only [Act.put, List.setIfInBounds_toArray, List.set_cons_succ, List.set_cons_zero, Array.getD_eq_getD_getElem?, List.getElem?_toArray, List.getElem?_cons_succ, List.getElem?_cons_zero, Option.getD_some] <;> rfl) rfl (by rw [hSd] at hS ⊢; exact hS)
                              · -- 15: Op.indexAddr 59 (Operand.tmp 87) (Operand.tmp 88)
                                obtain ⟨h13, h14, h12, -⟩ := hh
                                have g13 : f 13 = _ := h13
                                have g14 : f 14 = _ := h14
                                have g12 : f 12 = _ := h12
                                refine st_yes g12 fun K Q hK => ?_
                                simp only [puts, List.foldr_cons, List.foldr_nil, List.setIfInBounds_toArray, List.set_cons_succ, List.set_cons_zero, g13, g14, g12]
                                go_step
                                refine st_ex hK rfl rfl (by simp only [Act.put, List.setIfInBounds_toArray, List.set_cons_succ, List.set_cons_zero, Array.getD_eq_getD_getElem?, List.getElem?_toArray, List.getElem?_cons_succ, List.getElem?_cons_zero, Option.getD_some] <;> rfl) rfl (by rw [hSd] at hS ⊢; exact hS)
                              · -- 16: Op.load 61 (Operand.tmp 89)
                                obtain ⟨h15, h12, -⟩ := hh
                                have g15 : f 15 = _ := h15
                                have g12 : f 12 = _ := h12
                                refine st_yes g12 fun K Q hK => ?_
                                simp only [puts, List.foldr_cons, List.foldr_nil, List.setIfInBounds_toArray, List.set_cons_succ, List.set_cons_zero, g15, g12]
                                have hS' := hS
                                rw [hSd] at hS'
                                have hc8 := (hS'.2.1.cell k hk3).1
                                unfold rowV at hc8
                                go_step
                                refine st_ex hK rfl rfl (by simp only [Act.put, List.setIfInBounds_toArray, List.set_cons_succ, List.set_cons_zero, Array.getD_eq_getD_getElem?, List.getElem?_toArray, List.getElem?_cons_succ, List.getElem?_cons_zero, Option.getD_some] <;> rfl) rfl (by rw [hSd] at hS ⊢; exact hS)
                              · -- 17: Op.move (Operand.tmp 8)
                                obtain ⟨h12, -⟩ := hh
                                have g12 : f 12 = _ := h12
                                refine st_yes g12 fun K Q hK => ?_
                                simp only [puts, List.foldr_cons, List.foldr_nil, List.setIfInBounds_toArray, List.set_cons_succ, List.set_cons_zero, g12]
                                go_step
                                refine st_ex hK rfl rfl (by simp only [Act.put, List.setIfInBounds_toArray, List.set_cons_succ, List.set_cons_zero, Array.getD_eq_getD_getElem?, List.getElem?_toArray, List.getElem?_cons_succ, List.getElem?_cons_zero, Option.getD_some] <;> rfl) rfl (by rw [hSd] at hS ⊢; exact hS)
                              · -- 18: Op.indexAddr 61 (Operand.tmp 90) (Operand.tmp 91)
                                obtain ⟨h16, h17, h12, -⟩ := hh
                                have g16 : f 16 = _ := h16
                                have g17 : f 17 = _ := h17
                                have g12 : f 12 = _ := h12
                                refine st_yes g12 fun K Q hK => ?_
                                simp only [puts, List.foldr_cons, List.foldr_nil, List.setIfInBounds_toArray, List.set_cons_succ, List.set_cons_zero, g16, g17, g12]
                                go_step
                                refine st_ex hK rfl rfl (by simp only [Act.put, List.setIfInBounds_toArray, List.set_cons_succ, List.set_cons_zero, Array.getD_eq_getD_getElem?, List.getElem?_toArray, List.getElem?_cons_succ, List.getElem?_cons_zero, Option.getD_some] <;> rfl) rfl (by rw [hSd] at hS ⊢; exact hS)
                              · -- 19: Op.load 4 (Operand.tmp 92)
                                obtain ⟨h18, h12, -⟩ := hh
                                have g18 : f 18 = _ := h18
                                have g12 : f 12 = _ := h12
                                have l22 : L 22 = false := Bool.eq_false_iff.2 fun h => by have q := hdn 22 _ h rfl 19 (by decide); rw [show L 19 = false from hi] at q; cases q
                                refine st_yes g12 fun K Q hK => ?_
                                simp only [puts, List.foldr_cons, List.foldr_nil, List.setIfInBounds_toArray, List.set_cons_succ, List.set_cons_zero, g18, g12]
                                have hS' := hS
                                rw [hSd] at hS'
                                simp only [stage, l22, if_false, Bool.false_eq_true] at hS'
                                have hc11 := (hS'.2.2.cell k j hk3 hj).1
                                rw [hkj.out] at hc11
                                go_step
                                refine st_ex hK rfl rfl (by simp only [Act.put, List.setIfInBounds_toArray, List.set_cons_succ, List.set_cons_zero, Array.getD_eq_getD_getElem?, List.getElem?_toArray, List.getElem?_cons_succ, List.getElem?_cons_zero, Option.getD_some] <;> rfl) rfl (by rw [hSd] at hS ⊢; exact hS)
                              · -- 20: Op.pick (Operand.tmp 86) (Operand.const (Value.bool true)) (Operand.tmp 93)
                                obtain ⟨h12, h19, -⟩ := hh
                                have g12 : f 12 = _ := h12
                                have g19 : f 19 = _ := h19
                                unfold stStep
                                rw [if_pos (by simp [Region.wanted])]
                                intro K Q hK
                                simp only [puts, List.foldr_cons, List.foldr_nil, List.setIfInBounds_toArray, List.set_cons_succ, List.set_cons_zero, g12, g19]
                                go_step
                                refine st_ex hK rfl rfl (by simp only [Act.put, List.setIfInBounds_toArray, List.set_cons_succ, List.set_cons_zero, Array.getD_eq_getD_getElem?, List.getElem?_toArray, List.getElem?_cons_succ, List.getElem?_cons_zero, Option.getD_some] <;> rfl) rfl (by rw [hSd] at hS ⊢; exact hS)
                              · -- 21: Op.indexAddr 61 (Operand.tmp 77) (Operand.tmp 78)
                                obtain ⟨h3, h4, h0, h1, h2, _, _, h5, h6, h7, h8, h9, h10, h11, h12, h13, h14, h15, h16, h17, h18, h19, h20, -⟩ := hh
                                have g3 : f 3 = _ := h3
                                have g4 : f 4 = _ := h4
                                have g0 : f 0 = _ := h0
                                have g1 : f 1 = _ := h1
                                have g2 : f 2 = _ := h2
                                have g5 : f 5 = _ := h5
                                have g6 : f 6 = _ := h6
                                have g7 : f 7 = _ := h7
                                have g8 : f 8 = _ := h8
                                have g9 : f 9 = _ := h9
                                have g10 : f 10 = _ := h10
                                have g11 : f 11 = _ := h11
                                have g12 : f 12 = _ := h12
                                have g13 : f 13 = _ := h13
                                have g14 : f 14 = _ := h14
                                have g15 : f 15 = _ := h15
                                have g16 : f 16 = _ := h16
                                have g17 : f 17 = _ := h17
                                have g18 : f 18 = _ := h18
                                have g19 : f 19 = _ := h19
                                have g20 : f 20 = _ := h20
                                unfold stStep
                                rw [if_pos (by simp [Region.wanted])]
                                intro K Q hK
                                simp only [puts, List.foldr_cons, List.foldr_nil, List.setIfInBounds_toArray, List.set_cons_succ, List.set_cons_zero, g3, g4, g0, g1, g2, g5, g6, g7, g8, g9, g10, g11, g12, g13, g14, g15, g16, g17, g18, g19, g20]
                                go_step
                                refine st_ex hK rfl rfl (by simp only [Act.put, List.setIfInBounds_toArray, List.set_cons_succ, List.set_cons_zero, Array.getD_eq_getD_getElem?, List.getElem?_toArray, List.getElem?_cons_succ, List.getElem?_cons_zero, Option.getD_some] <;> rfl) rfl (by rw [hSd] at hS ⊢; exact hS)
                              · -- 22: Op.store 4 (Operand.tmp 95) (Operand.tmp 94)
                                obtain ⟨h21, h20, h12, h0, h1, h2, h3, h4, h5, h6, h7, h8, h9, h10, h11, _, h13, h14, h15, h16, h17, h18, h19, _, -⟩ := hh
                                have g21 : f 21 = _ := h21
                                have g20 : f 20 = _ := h20
                                have g12 : f 12 = _ := h12
                                have g0 : f 0 = _ := h0
                                have g1 : f 1 = _ := h1
                                have g2 : f 2 = _ := h2
                                have g3 : f 3 = _ := h3
                                have g4 : f 4 = _ := h4
                                have g5 : f 5 = _ := h5
                                have g6 : f 6 = _ := h6
                                have g7 : f 7 = _ := h7
                                have g8 : f 8 = _ := h8
                                have g9 : f 9 = _ := h9
                                have g10 : f 10 = _ := h10
                                have g11 : f 11 = _ := h11
                                have g13 : f 13 = _ := h13
                                have g14 : f 14 = _ := h14
                                have g15 : f 15 = _ := h15
                                have g16 : f 16 = _ := h16
                                have g17 : f 17 = _ := h17
                                have g18 : f 18 = _ := h18
                                have g19 : f 19 = _ := h19
                                unfold stStep
                                rw [if_pos (by simp [Region.wanted])]
                                intro K Q hK
                                simp only [puts, List.foldr_cons, List.foldr_nil, List.setIfInBounds_toArray, List.set_cons_succ, List.set_cons_zero, g21, g20, g12, g0, g1, g2, g3, g4, g5, g6, g7, g8, g9, g10, g11, g13, g14, g15, g16, g17, g18, g19]
                                rw [hSd] at hS hK
                                have l22 : L 22 = false := hi
                                try simp only [stage, l22, if_true, if_false, Bool.false_eq_true] at hS
                                obtain ⟨hbW, hRW, hMW⟩ := hS
                                obtain ⟨hc9, hf9⟩ := hMW.cell i j hiN hj
                                have hrX := hMW.2.1 i hiN
                                go_step
                                refine hK.out _ _ rfl trivial ?_
                                exact ⟨hbW.setCell (by show _ ≤ r i; exact hrX.1) _, hRW.other _ (fun e => hrX.2 e.symm) _, (hMW.store i j hiN true).congr hnext.out⟩
                            case drest =>
                              intro L f W2 hL hh hS
                              rw [hSd] at hS
                              clear hSd
                              have l22 : L 22 = true := hL 22 (by decide)
                              simp only [stage, l22, if_true] at hS
                              clear hL l22
                              obtain ⟨h0, h1, h2, h3, h4, h5, h6, h7, h8, h9, h10, h11, h12, h13, h14, h15, h16, h17, h18, h19, h20, h21, -⟩ := hh
                              have g0 : f 0 = _ := h0
                              have g1 : f 1 = _ := h1
                              have g2 : f 2 = _ := h2
                              have g3 : f 3 = _ := h3
                              have g4 : f 4 = _ := h4
                              have g5 : f 5 = _ := h5
                              have g6 : f 6 = _ := h6
                              have g7 : f 7 = _ := h7
                              have g8 : f 8 = _ := h8
                              have g9 : f 9 = _ := h9
                              have g10 : f 10 = _ := h10
                              have g11 : f 11 = _ := h11
                              have g12 : f 12 = _ := h12
                              have g13 : f 13 = _ := h13
                              have g14 : f 14 = _ := h14
                              have g15 : f 15 = _ := h15
                              have g16 : f 16 = _ := h16
                              have g17 : f 17 = _ := h17
                              have g18 : f 18 = _ := h18
                              have g19 : f 19 = _ := h19
                              have g20 : f 20 = _ := h20
                              have g21 : f 21 = _ := h21
                              simp only [puts, List.foldr_cons, List.foldr_nil, List.setIfInBounds_toArray, List.set_cons_succ, List.set_cons_zero, g0, g1, g2, g3, g4, g5, g6, g7, g8, g9, g10, g11, g12, g13, g14, g15, g16, g17, g18, g19, g20, g21]
                              clear h0 h1 h2 h3 h4 h5 h6 h7 h8 h9 h10 h11 h12 h13 h14 h15 h16 h17 h18 h19 h20 h21 g0 g1 g2 g3 g4 g5 g6 g7 g8 g9 g10 g11 g12 g13 g14 g15 g16 g17 g18 g19 g20 g21
                              obtain ⟨hbW, hRW, hMW⟩ := hS
                              go_wp2
                              go_roundw
                              case rel => exact ⟨j + 1, hj, by go_num, hMW, .inl (by first | exact hik.out | trivial), hbW⟩
                              case measure => simp [intOf]; omega
                          | false =>
                            have hnext := Lib.hid (curM_next M k i j N false hik (by rw [hij, hkjv]; rfl))
                            have hkj := Lib.hid ((curM_kj M k i j).trans hkjv)
                            replace hik := Lib.hid hik
                            clear hkjv
                            go_wp2
                            obtain ⟨S, hSd⟩ : ∃ S : (Nat → Bool) → (Nat → Value) → World → Prop, S = fun L f W => (Below (w.heap.size + 1) W1 W ∧ RowIs W (w.heap.size + 1) N (rowV r N) ∧ (stage L f W (fun W => MatIs W (w.heap.size + 1) (w.heap.size + 1) N r (curM M k i j)) [(22, fun _ W => MatIs W (w.heap.size + 1) (w.heap.size + 1) N r (curM M k i (j + 1)))])) := ⟨_, rfl⟩
                            refine wp_region_st mixed (by kernel_rfl) [[], [], [(0, 74), (1, 75)], [(2, 76)], [], [], [], [(5, 79), (6, 80)], [(7, 81)], [], [(8, 82), (9, 83)], [(10, 84)], [(11, 85)], [(12, 86)], [(12, 86)], [(13, 87), (14, 88), (12, 86)], [(15, 89), (12, 86)], [(12, 86)], [(16, 90), (17, 91), (12, 86)], [(18, 92), (12, 86)], [(12, 86), (19, 93)], [(3, 77), (4, 78), (0, 74), (1, 75), (2, 76), (3, 77), (4, 78), (5, 79), (6, 80), (7, 81), (8, 82), (9, 83), (10, 84), (11, 85), (12, 86), (13, 87), (14, 88), (15, 89), (16, 90), (17, 91), (18, 92), (19, 93), (20, 94)], [(21, 95), (20, 94), (12, 86), (0, 74), (1, 75), (2, 76), (3, 77), (4, 78), (5, 79), (6, 80), (7, 81), (8, 82), (9, 83), (10, 84), (11, 85), (12, 86), (13, 87), (14, 88), (15, 89), (16, 90), (17, 91), (18, 92), (19, 93), (20, 94)]] [(0, 74), (1, 75), (2, 76), (3, 77), (4, 78), (5, 79), (6, 80), (7, 81), (8, 82), (9, 83), (10, 84), (11, 85), (12, 86), (13, 87), (14, 88), (15, 89), (16, 90), (17, 91), (18, 92), (19, 93), (20, 94), (21, 95)] rfl rfl [EV ?ee0, EV ?ee1, EV ?ee2, EV ?ee3, EV ?ee4, EV ?ee5, EV ?ee6, EV ?ee7, EV ?ee8, EV ?ee9, EV ?ee10, EV ?ee11, EV ?ee12, EV ?ee13, EV ?ee14, EV ?ee15, EV ?ee16, EV ?ee17, EV ?ee18, EV ?ee19, EV ?ee20, EV ?ee21, fun _ => True] S ?estart ?esteps ?erest
                            case estart =>
                              intro f
                              rw [hSd]
                              exact ⟨hb.drew, hM.2.2.2.1, hM⟩
                            case esteps =>
                              refine ⟨fun L f W hi hd hdn hh hS => ?_, fun L f W hi hd hdn hh hS => ?_, fun L f W hi hd hdn hh hS => ?_, fun L f W hi hd hdn hh hS => ?_, fun L f W hi hd hdn hh hS => ?_, fun L f W hi hd hdn hh hS => ?_, fun L f W hi hd hdn hh hS => ?_, fun L f W hi hd hdn hh hS => ?_, fun L f W hi hd hdn hh hS => ?_, fun L f W hi hd hdn hh hS => ?_, fun L f W hi hd hdn hh hS => ?_, fun L f W hi hd hdn hh hS => ?_, fun L f W hi hd hdn hh hS => ?_, fun L f W hi hd hdn hh hS => ?_, fun L f W hi hd hdn hh hS => ?_, fun L f W hi hd hdn hh hS => ?_, fun L f W hi hd hdn hh hS => ?_, fun L f W hi hd hdn hh hS => ?_, fun L f W hi hd hdn hh hS => ?_, fun L f W hi hd hdn hh hS => ?_, fun L f W hi hd hdn hh hS => ?_, fun L f W hi hd hdn hh hS => ?_, fun L f W hi hd hdn hh hS => ?_, trivial⟩
                              · -- 0: Op.move (Operand.tmp 3)
                                unfold stStep
                                rw [if_pos (by simp [Region.wanted])]
                                intro K Q hK
                                simp only [puts, List.foldr_nil]
                                go_step
                                refine st_ex hK rfl rfl (by simp only [Act.put, List.setIfInBounds_toArray, List.set_cons_succ, List.set_cons_zero, Array.getD_eq_getD_getElem?, List.getElem?_toArray, List.getElem?_cons_succ, List.getElem?_cons_zero, Option.getD_some] <;> rfl) rfl (by rw [hSd] at hS ⊢; exact hS)
                              · -- 1: Op.move (Operand.tmp 7)
                                unfold stStep
                                rw [if_pos (by simp [Region.wanted])]
                                intro K Q hK
                                simp only [puts, List.foldr_nil]
                                go_step
                                refine st_ex hK rfl rfl (by simp only [Act.put, List.setIfInBounds_toArray, List.set_cons_succ, List.set_cons_zero, Array.getD_eq_getD_getElem?, List.getElem?_toArray, List.getElem?_cons_succ, List.getElem?_cons_zero, Option.getD_some] <;> rfl) rfl (by rw [hSd] at hS ⊢; exact hS)
                              · -- 2: Op.indexAddr 59 (Operand.tmp 74) (Operand.tmp 75)
                                obtain ⟨h0, h1, -⟩ := hh
                                have g0 : f 0 = _ := h0
                                have g1 : f 1 = _ := h1
                                unfold stStep
                                rw [if_pos (by simp [Region.wanted])]
                                intro K Q hK
                                simp only [puts, List.foldr_cons, List.foldr_nil, List.setIfInBounds_toArray, List.set_cons_succ, List.set_cons_zero, g0, g1]
                                go_step
                                refine st_ex hK rfl rfl (by simp only [Act.put, List.setIfInBounds_toArray, List.set_cons_succ, List.set_cons_zero, Array.getD_eq_getD_getElem?, List.getElem?_toArray, List.getElem?_cons_succ, List.getElem?_cons_zero, Option.getD_some] <;> rfl) rfl (by rw [hSd] at hS ⊢; exact hS)
                              · -- 3: Op.load 61 (Operand.tmp 76)
                                obtain ⟨h2, -⟩ := hh
                                have g2 : f 2 = _ := h2
                                unfold stStep
                                rw [if_pos (by simp [Region.wanted])]
                                intro K Q hK
                                simp only [puts, List.foldr_cons, List.foldr_nil, List.setIfInBounds_toArray, List.set_cons_succ, List.set_cons_zero, g2]
                                have hS' := hS
                                rw [hSd] at hS'
                                have hc8 := (hS'.2.1.cell i hiN).1
                                unfold rowV at hc8
                                go_step
                                refine st_ex hK rfl rfl (by simp only [Act.put, List.setIfInBounds_toArray, List.set_cons_succ, List.set_cons_zero, Array.getD_eq_getD_getElem?, List.getElem?_toArray, List.getElem?_cons_succ, List.getElem?_cons_zero, Option.getD_some] <;> rfl) rfl (by rw [hSd] at hS ⊢; exact hS)
                              · -- 4: Op.move (Operand.tmp 8)
                                unfold stStep
                                rw [if_pos (by simp [Region.wanted])]
                                intro K Q hK
                                simp only [puts, List.foldr_nil]
                                go_step
                                refine st_ex hK rfl rfl (by simp only [Act.put, List.setIfInBounds_toArray, List.set_cons_succ, List.set_cons_zero, Array.getD_eq_getD_getElem?, List.getElem?_toArray, List.getElem?_cons_succ, List.getElem?_cons_zero, Option.getD_some] <;> rfl) rfl (by rw [hSd] at hS ⊢; exact hS)
                              · -- 5: Op.move (Operand.tmp 3)
                                unfold stStep
                                rw [if_pos (by simp [Region.wanted])]
                                intro K Q hK
                                simp only [puts, List.foldr_nil]
                                go_step
                                refine st_ex hK rfl rfl (by simp only [Act.put, List.setIfInBounds_toArray, List.set_cons_succ, List.set_cons_zero, Array.getD_eq_getD_getElem?, List.getElem?_toArray, List.getElem?_cons_succ, List.getElem?_cons_zero, Option.getD_some] <;> rfl) rfl (by rw [hSd] at hS ⊢; exact hS)
                              · -- 6: Op.move (Operand.tmp 7)
                                unfold stStep
                                rw [if_pos (by simp [Region.wanted])]
                                intro K Q hK
                                simp only [puts, List.foldr_nil]
                                go_step
                                refine st_ex hK rfl rfl (by simp only [Act.put, List.setIfInBounds_toArray, List.set_cons_succ, List.set_cons_zero, Array.getD_eq_getD_getElem?, List.getElem?_toArray, List.getElem?_cons_succ, List.getElem?_cons_zero, Option.getD_some] <;> rfl) rfl (by rw [hSd] at hS ⊢; exact hS)
                              · -- 7: Op.indexAddr 59 (Operand.tmp 79) (Operand.tmp 80)
                                obtain ⟨h5, h6, -⟩ := hh
                                have g5 : f 5 = _ := h5
                                have g6 : f 6 = _ := h6
                                unfold stStep
                                rw [if_pos (by simp [Region.wanted])]
                                intro K Q hK
                                simp only [puts, List.foldr_cons, List.foldr_nil, List.setIfInBounds_toArray, List.set_cons_succ, List.set_cons_zero, g5, g6]
                                go_step
                                refine st_ex hK rfl rfl (by simp only [Act.put, List.setIfInBounds_toArray, List.set_cons_succ, List.set_cons_zero, Array.getD_eq_getD_getElem?, List.getElem?_toArray, List.getElem?_cons_succ, List.getElem?_cons_zero, Option.getD_some] <;> rfl) rfl (by rw [hSd] at hS ⊢; exact hS)
                              · -- 8: Op.load 61 (Operand.tmp 81)
                                obtain ⟨h7, -⟩ := hh
                                have g7 : f 7 = _ := h7
                                unfold stStep
                                rw [if_pos (by simp [Region.wanted])]
                                intro K Q hK
                                simp only [puts, List.foldr_cons, List.foldr_nil, List.setIfInBounds_toArray, List.set_cons_succ, List.set_cons_zero, g7]
                                have hS' := hS
                                rw [hSd] at hS'
                                have hc8 := (hS'.2.1.cell i hiN).1
                                unfold rowV at hc8
                                go_step
                                refine st_ex hK rfl rfl (by simp only [Act.put, List.setIfInBounds_toArray, List.set_cons_succ, List.set_cons_zero, Array.getD_eq_getD_getElem?, List.getElem?_toArray, List.getElem?_cons_succ, List.getElem?_cons_zero, Option.getD_some] <;> rfl) rfl (by rw [hSd] at hS ⊢; exact hS)
                              · -- 9: Op.move (Operand.tmp 8)
                                unfold stStep
                                rw [if_pos (by simp [Region.wanted])]
                                intro K Q hK
                                simp only [puts, List.foldr_nil]
                                go_step
                                refine st_ex hK rfl rfl (by simp only [Act.put, List.setIfInBounds_toArray, List.set_cons_succ, List.set_cons_zero, Array.getD_eq_getD_getElem?, List.getElem?_toArray, List.getElem?_cons_succ, List.getElem?_cons_zero, Option.getD_some] <;> rfl) rfl (by rw [hSd] at hS ⊢; exact hS)
                              · -- 10: Op.indexAddr 61 (Operand.tmp 82) (Operand.tmp 83)
                                obtain ⟨h8, h9, -⟩ := hh
                                have g8 : f 8 = _ := h8
                                have g9 : f 9 = _ := h9
                                unfold stStep
                                rw [if_pos (by simp [Region.wanted])]
                                intro K Q hK
                                simp only [puts, List.foldr_cons, List.foldr_nil, List.setIfInBounds_toArray, List.set_cons_succ, List.set_cons_zero, g8, g9]
                                go_step
                                refine st_ex hK rfl rfl (by simp only [Act.put, List.setIfInBounds_toArray, List.set_cons_succ, List.set_cons_zero, Array.getD_eq_getD_getElem?, List.getElem?_toArray, List.getElem?_cons_succ, List.getElem?_cons_zero, Option.getD_some] <;> rfl) rfl (by rw [hSd] at hS ⊢; exact hS)
                              · -- 11: Op.load 4 (Operand.tmp 84)
                                obtain ⟨h10, -⟩ := hh
                                have g10 : f 10 = _ := h10
                                have l22 : L 22 = false := Bool.eq_false_iff.2 fun h => by have q := hdn 22 _ h rfl 11 (by decide); rw [show L 11 = false from hi] at q; cases q
                                unfold stStep
                                rw [if_pos (by simp [Region.wanted])]
                                intro K Q hK
                                simp only [puts, List.foldr_cons, List.foldr_nil, List.setIfInBounds_toArray, List.set_cons_succ, List.set_cons_zero, g10]
                                have hS' := hS
                                rw [hSd] at hS'
                                simp only [stage, l22, if_false, Bool.false_eq_true] at hS'
                                have hc11 := (hS'.2.2.cell i j hiN hj).1
                                rw [hij] at hc11
                                go_step
                                refine st_ex hK rfl rfl (by simp only [Act.put, List.setIfInBounds_toArray, List.set_cons_succ, List.set_cons_zero, Array.getD_eq_getD_getElem?, List.getElem?_toArray, List.getElem?_cons_succ, List.getElem?_cons_zero, Option.getD_some] <;> rfl) rfl (by rw [hSd] at hS ⊢; exact hS)
                              · -- 12: Op.move (Operand.tmp 85)
                                obtain ⟨h11, -⟩ := hh
                                have g11 : f 11 = _ := h11
                                unfold stStep
                                rw [if_pos (by simp [Region.wanted])]
                                intro K Q hK
                                simp only [puts, List.foldr_cons, List.foldr_nil, List.setIfInBounds_toArray, List.set_cons_succ, List.set_cons_zero, g11]
                                go_step
                                refine st_ex hK rfl rfl (by simp only [Act.put, List.setIfInBounds_toArray, List.set_cons_succ, List.set_cons_zero, Array.getD_eq_getD_getElem?, List.getElem?_toArray, List.getElem?_cons_succ, List.getElem?_cons_zero, Option.getD_some] <;> rfl) rfl (by rw [hSd] at hS ⊢; exact hS)
                              · -- 13: Op.move (Operand.tmp 3)
                                obtain ⟨h12, -⟩ := hh
                                have g12 : f 12 = _ := h12
                                refine st_yes g12 fun K Q hK => ?_
                                simp only [puts, List.foldr_cons, List.foldr_nil, List.setIfInBounds_toArray, List.set_cons_succ, List.set_cons_zero, g12]
                                go_step
                                refine st_ex hK rfl rfl (by simp only [Act.put, List.setIfInBounds_toArray, List.set_cons_succ, List.set_cons_zero, Array.getD_eq_getD_getElem?, List.getElem?_toArray, List.getElem?_cons_succ, List.getElem?_cons_zero, Option.getD_some] <;> rfl) rfl (by rw [hSd] at hS ⊢; exact hS)
                              · -- 14: Op.move (Operand.tmp 6)
                                obtain ⟨h12, -⟩ := hh
                                have g12 : f 12 = _ := h12
                                refine st_yes g12 fun K Q hK => ?_
                                simp only [puts, List.foldr_cons, List.foldr_nil, List.setIfInBounds_toArray, List.set_cons_succ, List.set_cons_zero, g12]
                                go_step
                                refine st_ex hK rfl rfl (by simp only [Act.put, List.setIfInBounds_toArray, List.set_cons_succ, List.set_cons_zero, Array.getD_eq_getD_getElem?, List.getElem?_toArray, List.getElem?_cons_succ, List.getElem?_cons_zero, Option.getD_some] <;> rfl) rfl (by rw [hSd] at hS ⊢; exact hS)
                              · -- 15: Op.indexAddr 59 (Operand.tmp 87) (Operand.tmp 88)
                                obtain ⟨h13, h14, h12, -⟩ := hh
                                have g13 : f 13 = _ := h13
                                have g14 : f 14 = _ := h14
                                have g12 : f 12 = _ := h12
                                refine st_yes g12 fun K Q hK => ?_
                                simp only [puts, List.foldr_cons, List.foldr_nil, List.setIfInBounds_toArray, List.set_cons_succ, List.set_cons_zero, g13, g14, g12]
                                go_step
                                refine st_ex hK rfl rfl (by simp only [Act.put, List.setIfInBounds_toArray, List.set_cons_succ, List.set_cons_zero, Array.getD_eq_getD_getElem?, List.getElem?_toArray, List.getElem?_cons_succ, List.getElem?_cons_zero, Option.getD_some] <;> rfl) rfl (by rw [hSd] at hS ⊢; exact hS)
                              · -- 16: Op.load 61 (Operand.tmp 89)
                                obtain ⟨h15, h12, -⟩ := hh
                                have g15 : f 15 = _ := h15
                                have g12 : f 12 = _ := h12
                                refine st_yes g12 fun K Q hK => ?_
                                simp only [puts, List.foldr_cons, List.foldr_nil, List.setIfInBounds_toArray, List.set_cons_succ, List.set_cons_zero, g15, g12]
                                have hS' := hS
                                rw [hSd] at hS'
                                have hc8 := (hS'.2.1.cell k hk3).1
                                unfold rowV at hc8
                                go_step
                                refine st_ex hK rfl rfl (by simp only [Act.put, List.setIfInBounds_toArray, List.set_cons_succ, List.set_cons_zero, Array.getD_eq_getD_getElem?, List.getElem?_toArray, List.getElem?_cons_succ, List.getElem?_cons_zero, Option.getD_some] <;> rfl) rfl (by rw [hSd] at hS ⊢; exact hS)
                              · -- 17: Op.move (Operand.tmp 8)
                                obtain ⟨h12, -⟩ := hh
                                have g12 : f 12 = _ := h12
                                refine st_yes g12 fun K Q hK => ?_
                                simp only [puts, List.foldr_cons, List.foldr_nil, List.setIfInBounds_toArray, List.set_cons_succ, List.set_cons_zero, g12]
                                go_step
                                refine st_ex hK rfl rfl (by simp only [Act.put, List.setIfInBounds_toArray, List.set_cons_succ, List.set_cons_zero, Array.getD_eq_getD_getElem?, List.getElem?_toArray, List.getElem?_cons_succ, List.getElem?_cons_zero, Option.getD_some] <;> rfl) rfl (by rw [hSd] at hS ⊢; exact hS)
                              · -- 18: Op.indexAddr 61 (Operand.tmp 90) (Operand.tmp 91)
                                obtain ⟨h16, h17, h12, -⟩ := hh
                                have g16 : f 16 = _ := h16
                                have g17 : f 17 = _ := h17
                                have g12 : f 12 = _ := h12
                                refine st_yes g12 fun K Q hK => ?_
                                simp only [puts, List.foldr_cons, List.foldr_nil, List.setIfInBounds_toArray, List.set_cons_succ, List.set_cons_zero, g16, g17, g12]
                                go_step
                                refine st_ex hK rfl rfl (by simp only [Act.put, List.setIfInBounds_toArray, List.set_cons_succ, List.set_cons_zero, Array.getD_eq_getD_getElem?, List.getElem?_toArray, List.getElem?_cons_succ, List.getElem?_cons_zero, Option.getD_some] <;> rfl) rfl (by rw [hSd] at hS ⊢; exact hS)
                              · -- 19: Op.load 4 (Operand.tmp 92)
                                obtain ⟨h18, h12, -⟩ := hh
                                have g18 : f 18 = _ := h18
                                have g12 : f 12 = _ := h12
                                have l22 : L 22 = false := Bool.eq_false_iff.2 fun h => by have q := hdn 22 _ h rfl 19 (by decide); rw [show L 19 = false from hi] at q; cases q
                                refine st_yes g12 fun K Q hK => ?_
                                simp only [puts, List.foldr_cons, List.foldr_nil, List.setIfInBounds_toArray, List.set_cons_succ, List.set_cons_zero, g18, g12]
                                have hS' := hS
                                rw [hSd] at hS'
                                simp only [stage, l22, if_false, Bool.false_eq_true] at hS'
                                have hc11 := (hS'.2.2.cell k j hk3 hj).1
                                rw [hkj.out] at hc11
                                go_step
                                refine st_ex hK rfl rfl (by simp only [Act.put, List.setIfInBounds_toArray, List.set_cons_succ, List.set_cons_zero, Array.getD_eq_getD_getElem?, List.getElem?_toArray, List.getElem?_cons_succ, List.getElem?_cons_zero, Option.getD_some] <;> rfl) rfl (by rw [hSd] at hS ⊢; exact hS)
                              · -- 20: Op.pick (Operand.tmp 86) (Operand.const (Value.bool true)) (Operand.tmp 93)
                                obtain ⟨h12, h19, -⟩ := hh
                                have g12 : f 12 = _ := h12
                                have g19 : f 19 = _ := h19
                                unfold stStep
                                rw [if_pos (by simp [Region.wanted])]
                                intro K Q hK
                                simp only [puts, List.foldr_cons, List.foldr_nil, List.setIfInBounds_toArray, List.set_cons_succ, List.set_cons_zero, g12, g19]
                                go_step
                                refine st_ex hK rfl rfl (by simp only [Act.put, List.setIfInBounds_toArray, List.set_cons_succ, List.set_cons_zero, Array.getD_eq_getD_getElem?, List.getElem?_toArray, List.getElem?_cons_succ, List.getElem?_cons_zero, Option.getD_some] <;> rfl) rfl (by rw [hSd] at hS ⊢; exact hS)
                              · -- 21: Op.indexAddr 61 (Operand.tmp 77) (Operand.tmp 78)
                                obtain ⟨h3, h4, h0, h1, h2, _, _, h5, h6, h7, h8, h9, h10, h11, h12, h13, h14, h15, h16, h17, h18, h19, h20, -⟩ := hh
                                have g3 : f 3 = _ := h3
                                have g4 : f 4 = _ := h4
                                have g0 : f 0 = _ := h0
                                have g1 : f 1 = _ := h1
                                have g2 : f 2 = _ := h2
                                have g5 : f 5 = _ := h5
                                have g6 : f 6 = _ := h6
                                have g7 : f 7 = _ := h7
                                have g8 : f 8 = _ := h8
                                have g9 : f 9 = _ := h9
                                have g10 : f 10 = _ := h10
                                have g11 : f 11 = _ := h11
                                have g12 : f 12 = _ := h12
                                have g13 : f 13 = _ := h13
                                have g14 : f 14 = _ := h14
                                have g15 : f 15 = _ := h15
                                have g16 : f 16 = _ := h16
                                have g17 : f 17 = _ := h17
                                have g18 : f 18 = _ := h18
                                have g19 : f 19 = _ := h19
                                have g20 : f 20 = _ := h20
                                unfold stStep
                                rw [if_pos (by simp [Region.wanted])]
                                intro K Q hK
                                simp only [puts, List.foldr_cons, List.foldr_nil, List.setIfInBounds_toArray, List.set_cons_succ, List.set_cons_zero, g3, g4, g0, g1, g2, g5, g6, g7, g8, g9, g10, g11, g12, g13, g14, g15, g16, g17, g18, g19, g20]
                                go_step
                                refine st_ex hK rfl rfl (by simp only [Act.put, List.setIfInBounds_toArray, List.set_cons_succ, List.set_cons_zero, Array.getD_eq_getD_getElem?, List.getElem?_toArray, List.getElem?_cons_succ, List.getElem?_cons_zero, Option.getD_some] <;> rfl) rfl (by rw [hSd] at hS ⊢; exact hS)
                              · -- 22: Op.store 4 (Operand.tmp 95) (Operand.tmp 94)
                                obtain ⟨h21, h20, h12, h0, h1, h2, h3, h4, h5, h6, h7, h8, h9, h10, h11, _, h13, h14, h15, h16, h17, h18, h19, _, -⟩ := hh
                                have g21 : f 21 = _ := h21
                                have g20 : f 20 = _ := h20
                                have g12 : f 12 = _ := h12
                                have g0 : f 0 = _ := h0
                                have g1 : f 1 = _ := h1
                                have g2 : f 2 = _ := h2
                                have g3 : f 3 = _ := h3
                                have g4 : f 4 = _ := h4
                                have g5 : f 5 = _ := h5
                                have g6 : f 6 = _ := h6
                                have g7 : f 7 = _ := h7
                                have g8 : f 8 = _ := h8
                                have g9 : f 9 = _ := h9
                                have g10 : f 10 = _ := h10
                                have g11 : f 11 = _ := h11
                                have g13 : f 13 = _ := h13
                                have g14 : f 14 = _ := h14
                                have g15 : f 15 = _ := h15
                                have g16 : f 16 = _ := h16
                                have g17 : f 17 = _ := h17
                                have g18 : f 18 = _ := h18
                                have g19 : f 19 = _ := h19
                                unfold stStep
                                rw [if_pos (by simp [Region.wanted])]
                                intro K Q hK
                                simp only [puts, List.foldr_cons, List.foldr_nil, List.setIfInBounds_toArray, List.set_cons_succ, List.set_cons_zero, g21, g20, g12, g0, g1, g2, g3, g4, g5, g6, g7, g8, g9, g10, g11, g13, g14, g15, g16, g17, g18, g19]
                                rw [hSd] at hS hK
                                have l22 : L 22 = false := hi
                                try simp only [stage, l22, if_true, if_false, Bool.false_eq_true] at hS
                                obtain ⟨hbW, hRW, hMW⟩ := hS
                                obtain ⟨hc9, hf9⟩ := hMW.cell i j hiN hj
                                have hrX := hMW.2.1 i hiN
                                go_step
                                refine hK.out _ _ rfl trivial ?_
                                exact ⟨hbW.setCell (by show _ ≤ r i; exact hrX.1) _, hRW.other _ (fun e => hrX.2 e.symm) _, (hMW.store i j hiN false).congr hnext.out⟩
                            case erest =>
                              intro L f W2 hL hh hS
                              rw [hSd] at hS
                              clear hSd
                              have l22 : L 22 = true := hL 22 (by decide)
                              simp only [stage, l22, if_true] at hS
                              clear hL l22
                              obtain ⟨h0, h1, h2, h3, h4, h5, h6, h7, h8, h9, h10, h11, h12, h13, h14, h15, h16, h17, h18, h19, h20, h21, -⟩ := hh
                              have g0 : f 0 = _ := h0
                              have g1 : f 1 = _ := h1
                              have g2 : f 2 = _ := h2
                              have g3 : f 3 = _ := h3
                              have g4 : f 4 = _ := h4
                              have g5 : f 5 = _ := h5
                              have g6 : f 6 = _ := h6
                              have g7 : f 7 = _ := h7
                              have g8 : f 8 = _ := h8
                              have g9 : f 9 = _ := h9
                              have g10 : f 10 = _ := h10
                              have g11 : f 11 = _ := h11
                              have g12 : f 12 = _ := h12
                              have g13 : f 13 = _ := h13
                              have g14 : f 14 = _ := h14
                              have g15 : f 15 = _ := h15
                              have g16 : f 16 = _ := h16
                              have g17 : f 17 = _ := h17
                              have g18 : f 18 = _ := h18
                              have g19 : f 19 = _ := h19
                              have g20 : f 20 = _ := h20
                              have g21 : f 21 = _ := h21
                              simp only [puts, List.foldr_cons, List.foldr_nil, List.setIfInBounds_toArray, List.set_cons_succ, List.set_cons_zero, g0, g1, g2, g3, g4, g5, g6, g7, g8, g9, g10, g11, g12, g13, g14, g15, g16, g17, g18, g19, g20, g21]
                              clear h0 h1 h2 h3 h4 h5 h6 h7 h8 h9 h10 h11 h12 h13 h14 h15 h16 h17 h18 h19 h20 h21 g0 g1 g2 g3 g4 g5 g6 g7 g8 g9 g10 g11 g12 g13 g14 g15 g16 g17 g18 g19 g20 g21
                              obtain ⟨hbW, hRW, hMW⟩ := hS
                              go_wp2
                              go_roundw
                              case rel => exact ⟨j + 1, hj, by go_num, hMW, .inl (by first | exact hik.out | trivial), hbW⟩
                              case measure => simp [intOf]; omega
                    · have e : N = j := by omega
                      have hM2 := hM.congr (fun a c ha hc => curM_row M k i j a c (by omega) (by omega))
                      have hjN : decide ((j : Int) < N) = false := decide_eq_false (by omega)
                      clear hM hor e
                      go_wp2_with (fail)
                      go_roundw
                      case rel => exact ⟨i + 1, hiN, by go_num, hM2, hb⟩
                      case measure => simp [intOf]; omega
                · have e : N = i := by omega
                  have hM2 := hM.congr (fun a c ha hc => curM_done M k i a c (by omega) (by omega))
                  have hM3 := hM2.congr (fun a c _ _ => hstep.out a c)
                  have hiF : decide ((i : Int) < N) = false := decide_eq_false (by omega)
                  clear hM hM2 e
                  go_wp2_with (fail)
                  go_roundw
                  case rel => exact ⟨k + 1, hk3, by go_num, hM3, hb⟩
                  case measure => simp [intOf]; omega
            · have e : N = k := by omega
              have hM2 := hM.congr (fun i j _ _ => wB_full hR (by omega) i j)
              have hkN : decide ((k : Int) < N) = false := decide_eq_false (by omega)
              clear hM e hk
              go_wp2_with (fail)

              go_ret
              exact ⟨_, r, rfl, ⟨by have := hM2.1; omega, (fun i hi => ⟨by have := (hM2.2.1 i hi).1; omega, (hM2.2.1 i hi).2⟩), hM2.2.2⟩, hBw _ hb⟩
end Go.Proofs.YtofnbndpoiohhaaDoor
