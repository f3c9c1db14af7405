/-
  The walk of the laws' awake.
-/
import Derived.Test.YtofnbndpoiohhaaDoorOrdJ
set_option linter.unusedSimpArgs false
set_option linter.unusedVariables false
set_option maxHeartbeats 8000000
namespace Go.Proofs.YtofnbndpoiohhaaDoor
open Go.RowKit Go.Shelf
attribute [local go_sem] Oper.semAt_some

def exE : List (Int × Int) := [(2, 0)]
theorem exE_ed {a b : Nat} : Ed exE a b ↔ a = 2 ∧ b = 0 := by
  unfold Ed exE
  rw [List.mem_singleton, Prod.mk.injEq]
  omega
theorem exE_path {a b : Nat} : Path (Ed exE) a b ↔ a = 2 ∧ b = 0 := by
  constructor
  · intro p
    induction p with
    | one e => exact exE_ed.1 e
    | cons e _ ih =>
      have := exE_ed.1 e
      omega
  · rintro ⟨rfl, rfl⟩
    exact .one (exE_ed.2 ⟨rfl, rfl⟩)
theorem ex_valid : ValidO 3 exE := by
  refine ⟨by omega, by decide, ?_, fun a p => ?_⟩
  · intro e he
    rw [exE, List.mem_singleton] at he
    subst he
    decide
  · have := exE_path.1 p
    omega
theorem ex_kl : KL (Ed exE) 3 [1, 2, 0] := by
  have h1 : KL (Ed exE) 3 [1] := KL.snoc (l := []) KL.nil (by simp) (by decide) (fun a e => by have := exE_ed.1 e; omega) (fun j hj hn => ⟨2, exE_ed.2 ⟨rfl, by omega⟩, by simp⟩)
  have h2 : KL (Ed exE) 3 [1, 2] := KL.snoc (l := [1]) h1 (by simp) (by decide) (fun a e => by have := exE_ed.1 e; omega) (fun j hj hn => by
    have : j = 0 := by
      rcases Nat.lt_or_ge j 1 with h | h
      · omega
      · have : j = 1 := by omega
        subst this
        simp at hn
    exact ⟨2, exE_ed.2 ⟨rfl, this⟩, by simp⟩)
  exact KL.snoc (l := [1, 2]) h2 (by simp) (by decide) (fun a e => by rw [(exE_ed.1 e).1]; simp) (fun j hj hn => by omega)
theorem ex_rdy {p : List Int} {i : Nat} : Rdy2 exE p i ↔ ((i : Int) ∉ p ∧ (i = 0 → (2 : Int) ∈ p)) := by
  unfold Rdy2 PreIn
  refine and_congr_right fun _ => ⟨fun h hi => h 2 (exE_path.2 ⟨rfl, hi⟩), fun h a pa => ?_⟩
  obtain ⟨rfl, rfl⟩ := exE_path.1 pa
  exact h rfl
theorem ex_cnt : cntE exE 3 3 [] = 3 := by
  simp [cntE, ex_rdy, List.range_succ]
theorem ex_lin : linB 3 exE [1, 2, 0] = true := by
  refine linB_yes ⟨ex_valid, rfl, fun k hk => ?_⟩
  have : k = 0 ∨ k = 1 ∨ k = 2 := by simp at hk; omega
  rcases this with rfl | rfl | rfl
  · exact ⟨⟨by decide, by decide⟩, fun a p => by have := (exE_path.1 p).2; cases this⟩
  · exact ⟨⟨by decide, by decide⟩, fun a p => by have := (exE_path.1 p).2; cases this⟩
  · exact ⟨⟨by decide, by decide⟩, fun a p => by rw [(exE_path.1 p).1]; decide⟩
theorem ex_cut : cutB 3 exE [1, 2] = true := by
  refine cutB_yes ⟨ex_valid, fun k hk => ?_, fun k hk => ?_⟩
  · have : k = 0 ∨ k = 1 := by simp at hk; omega
    rcases this with rfl | rfl <;> exact ⟨by decide, by decide⟩
  · have : k = 0 ∨ k = 1 := by simp at hk; omega
    rcases this with rfl | rfl
    · exact fun a p => by have := (exE_path.1 p).2; cases this
    · exact fun a p => by have := (exE_path.1 p).2; cases this
open Classical in
theorem ex_before : beforeB 3 exE 2 0 = true := by
  unfold beforeB
  exact decide_eq_true ⟨ex_valid, by decide, exE_path.2 ⟨rfl, rfl⟩⟩
theorem ex_conc : concB 3 exE 0 1 = true := concB_yes ⟨ex_valid, by decide, by decide, (fun p => by have := (exE_path.1 p).1; cases this), (fun p => by have := (exE_path.1 p).1; cases this)⟩

def SlP (k : IntKind) (n : Nat) (zs : List Int) : Value → World → Prop := fun v W => ∃ a c, v = .slice a n c ∧ IsInts k W a n c zs
theorem stays_sl (k : IntKind) (n : Nat) (zs : List Int) : Stays (SlP k n zs) := fun _ _ _ hb ⟨a, c, e, h⟩ => ⟨a, c, e, h.later hb⟩

theorem ex_pairs (w : World) : IsPairs (w.alloc (.cells #[.int .i64 2, .int .i64 0] 39)) (some ⟨w.heap.size, 0, none⟩) 1 1 exE := by
  refine .inr ⟨w.heap.size, 0, rfl, Nat.le_refl _, by decide, rfl, fun i hi => ?_⟩
  obtain rfl : i = 0 := by omega
  have h := heap_alloc_new w (.cells #[.int .i64 2, .int .i64 0] 39)
  exact ⟨cell_of_row _ _ 0 _ _ _ h, cell_of_row _ _ 1 _ _ _ h⟩

theorem awake_any (w : World) (hT : TabAt 0 Lib.deBruijn64tab w) : Calls Tryd.prog 11 #[] w fun e w' => e = .returned (.bool true) ∧ Below w.heap.size w w' := by
  obtain ⟨W0, hW0⟩ : ∃ W0, w.alloc (.cells #[.int .i64 2, .int .i64 0] 39) = W0 := ⟨_, rfl⟩
  have hp0 := ex_pairs w
  have hb0 : Below w.heap.size w W0 := by rw [← hW0]; exact (Below.refl _ _).alloc (Nat.le_refl _) _
  have hs0 : W0.heap.size = w.heap.size + 1 := by rw [← hW0]; simp
  rw [hW0] at hp0
  obtain ⟨hb1, hs1, hO⟩ := boxO 3 (some ⟨w.heap.size, 0, none⟩) 1 1 W0
  obtain ⟨W1, hW1⟩ : ∃ W1, W0.alloc (.cells #[.int .i64 3, .slice (some ⟨w.heap.size, 0, none⟩) 1 1] 27) = W1 := ⟨_, rfl⟩
  rw [hW1] at hb1 hs1 hO
  have hb01 := hb0.trans (hb1.mono hb0.size)
  have hp1 := hp0.later hb1
  have hT1 := tab_later hT hb01
  obtain ⟨c0, c1⟩ := hO _ (Below.refl _ _)
  rw [hs0] at hO c0 c1 hs1
  have H0 := Lib.hid hW0
  have H1 := Lib.hid hW1
  clear hW0 hW1
  go_enter Tryd.func11, Tryd.ntmps11
  go_wp2_with (fail)
  rw [H0.out, H1.out]
  go_at_call 19
  refine (linear_yes hp1 hT1 ex_valid).mono ?_
  rintro e w2 ⟨l, ao, co, rfl, hK, hl, hrow, hb2⟩
  have hle : l = [1, 2, 0] := hK.uniq ex_kl (by rw [hl]; rfl)
  subst hle
  replace hrow : w2.ownsRow W1.heap.size 3 1 (.slice ao 3 co) 3 (ivs .i64 [1, 2, 0]) := hrow
  obtain ⟨hI2, -⟩ := IsInts.of_owns hrow
  have hco := hI2.cap
  unfold maxLen at hco
  clear hK hl hrow
  have hb02 := hb01.trans (hb2.mono hb01.size)
  obtain ⟨e0, e1⟩ := hO w2 (hb2.mono (by omega))
  rw [show ([1, 2, 0] : List Nat).length = 3 from rfl]
  go_wp2_with (fail)
  go_at_call 26
  refine (extensions_any 10 (hp1.later hb2) (tab_later hT hb02)).mono ?_
  rintro e w3 ⟨⟨v, c, rfl, hvc⟩, hb3⟩
  have hv3 : v = 3 ∧ c = 0 := by
    rcases hvc with ⟨h, _⟩ | ⟨_, h, _⟩ | ⟨_, _, _, h, h'⟩
    · exact absurd ex_valid h
    · omega
    · refine ⟨?_, h'⟩
      rw [h, show (3 : Int).toNat = 3 from rfl, ex_cnt]
      rfl
  obtain ⟨rfl, rfl⟩ := hv3
  clear hvc
  have hb03 := hb02.trans (hb3.mono hb02.size)
  have hb13 := hb2.trans (hb3.mono hb2.size)
  have hI3 := hI2.later hb3
  have hp3 := hp1.later hb13
  have hT3 := tab_later hT hb03
  have hcut : IsInts .i64 w3 ao 2 co [1, 2] := by
    have := hI3.slice 0 2 co (Nat.zero_le _) (by decide) (by omega) (Nat.le_refl _) (a' := ao) (fun h => (by cases ao with | none => rfl | some x => simp [Addr.add])) (fun _ => rfl)
    simpa using this
  have hOW : ∀ W, Below w3.heap.size w3 W → W.cell? ⟨w.heap.size + 1, 0, none⟩ = some (.int .i64 3) ∧ W.cell? ⟨w.heap.size + 1, 1, none⟩ = some (.slice (some ⟨w.heap.size, 0, none⟩) 1 1) := fun W h => hO W ((hb13.trans (h.mono hb13.size)).mono (by omega))
  have HOW := Lib.hid hOW
  clear hO hOW
  go_wp2_with (fail)
  refine wp_region_grow mixed (by kernel_rfl) [[], [(0, 19)], [(1, 20)], [(2, 21)], [(3, 22), (2, 21)], [(2, 21), (4, 23)], [(5, 24), (2, 21)], [(6, 25)], [(7, 26), (6, 25)], [(6, 25), (8, 27)], [(9, 28), (6, 25)], [(10, 29)], [(10, 29)], [(11, 30), (12, 31), (10, 29), (10, 29)], [(10, 29), (13, 32)], [(14, 33), (13, 32)], [(15, 34)], [(16, 35), (15, 34), (15, 34)], [(15, 34), (17, 36)], [(18, 37), (17, 36)], [(19, 38)], [(20, 39), (19, 38), (19, 38)], [(19, 38), (21, 40)], [(22, 41), (21, 40)], [(23, 42)], [(23, 42)], [(24, 43), (25, 44), (23, 42), (23, 42)], [(23, 42), (26, 45)], [(27, 46), (26, 45)], [(28, 47)], [(28, 47)], [(30, 49), (28, 47)], [(29, 48), (31, 50), (28, 47), (28, 47)], [(28, 47), (32, 51)], [(33, 52), (32, 51)], [(34, 53)], [(35, 54), (34, 53), (34, 53)], [(34, 53), (36, 55)], [(37, 56), (36, 55), (0, 19), (1, 20), (2, 21), (3, 22), (4, 23), (5, 24), (6, 25), (7, 26), (8, 27), (9, 28), (10, 29), (11, 30), (12, 31), (13, 32), (14, 33), (15, 34), (16, 35), (17, 36), (18, 37), (19, 38), (20, 39), (21, 40), (22, 41), (23, 42), (24, 43), (25, 44), (26, 45), (27, 46), (28, 47), (29, 48), (30, 49), (31, 50), (32, 51), (33, 52), (34, 53), (35, 54), (36, 55), (37, 56)]] [(0, 19), (1, 20), (2, 21), (3, 22), (4, 23), (5, 24), (6, 25), (7, 26), (8, 27), (9, 28), (10, 29), (11, 30), (12, 31), (13, 32), (14, 33), (15, 34), (16, 35), (17, 36), (18, 37), (19, 38), (20, 39), (21, 40), (22, 41), (23, 42), (24, 43), (25, 44), (26, 45), (27, 46), (28, 47), (29, 48), (30, 49), (31, 50), (32, 51), (33, 52), (34, 53), (35, 54), (36, 55), (37, 56), (38, 0)] rfl rfl [Ex ?e0, Ex ?e1, Ex ?e2, Ex ?e3, Ex ?e4, Ex ?e5, Ex ?e6, Ex ?e7, Ex ?e8, Ex ?e9, Ex ?e10, Ex ?e11, SlP .i64 3 [1, 2, 0], Ex (.bool true), Ex ?e14, Ex ?e15, Ex ?e16, Ex (.bool true), Ex ?e18, Ex ?e19, Ex ?e20, Ex (.bool true), Ex ?e22, Ex ?e23, Ex ?e24, Ex ?e25, Ex (.bool true), Ex ?e27, Ex ?e28, Ex ?e29, Ex ?e30, Ex ?e31, Ex (.bool true), Ex ?e33, Ex ?e34, Ex ?e35, Ex (.bool true), Ex ?e37, Ex ?e38] ⟨stays_ex _, stays_ex _, stays_ex _, stays_ex _, stays_ex _, stays_ex _, stays_ex _, stays_ex _, stays_ex _, stays_ex _, stays_ex _, stays_ex _, stays_sl _ _ _, stays_ex _, stays_ex _, stays_ex _, stays_ex _, stays_ex _, stays_ex _, stays_ex _, stays_ex _, stays_ex _, stays_ex _, stays_ex _, stays_ex _, stays_ex _, stays_ex _, stays_ex _, stays_ex _, stays_ex _, stays_ex _, stays_ex _, stays_ex _, stays_ex _, stays_ex _, stays_ex _, stays_ex _, stays_ex _, stays_ex _, trivial⟩ ?steps ?rest
  case steps =>
    refine ⟨fun f W hC hh => ?_, fun f W hC hh => ?_, fun f W hC hh => ?_, fun f W hC hh => ?_, fun f W hC hh => ?_, fun f W hC hh => ?_, fun f W hC hh => ?_, fun f W hC hh => ?_, fun f W hC hh => ?_, fun f W hC hh => ?_, fun f W hC hh => ?_, fun f W hC hh => ?_, fun f W hC hh => ?_, fun f W hC hh => ?_, fun f W hC hh => ?_, fun f W hC hh => ?_, fun f W hC hh => ?_, fun f W hC hh => ?_, fun f W hC hh => ?_, fun f W hC hh => ?_, fun f W hC hh => ?_, fun f W hC hh => ?_, fun f W hC hh => ?_, fun f W hC hh => ?_, fun f W hC hh => ?_, fun f W hC hh => ?_, fun f W hC hh => ?_, fun f W hC hh => ?_, fun f W hC hh => ?_, fun f W hC hh => ?_, fun f W hC hh => ?_, fun f W hC hh => ?_, fun f W hC hh => ?_, fun f W hC hh => ?_, fun f W hC hh => ?_, fun f W hC hh => ?_, fun f W hC hh => ?_, fun f W hC hh => ?_, fun f W hC hh => ?_, trivial⟩
    · -- 0: Op.move (Operand.tmp 3)
      refine tab_plain fun K Q hK => ?_
      simp only [puts, List.foldr_nil]
      go_step
      refine fam_ex hK rfl rfl (by simp only [Act.put, List.setIfInBounds_toArray, List.set_cons_succ, List.set_cons_zero, Array.getD_eq_getD_getElem?, List.getElem?_toArray, List.getElem?_cons_succ, List.getElem?_cons_zero, Option.getD_some] <;> rfl) rfl (Below.refl _ _) hC
    · -- 1: Op.binOp BinOp.eql 32 (Operand.tmp 19) (Operand.const (Value.int IntKind.i64 0)) 32
      obtain ⟨h0, -⟩ := hh
      have g0 : f 0 = _ := h0
      refine tab_plain fun K Q hK => ?_
      simp only [puts, List.foldr_cons, List.foldr_nil, List.setIfInBounds_toArray, List.set_cons_succ, List.set_cons_zero, g0]
      go_step
      refine fam_ex hK rfl rfl (by simp only [Act.put, List.setIfInBounds_toArray, List.set_cons_succ, List.set_cons_zero, Array.getD_eq_getD_getElem?, List.getElem?_toArray, List.getElem?_cons_succ, List.getElem?_cons_zero, Option.getD_some] <;> rfl) rfl (Below.refl _ _) hC
    · -- 2: Op.move (Operand.tmp 20)
      obtain ⟨h1, -⟩ := hh
      have g1 : f 1 = _ := h1
      refine tab_plain fun K Q hK => ?_
      simp only [puts, List.foldr_cons, List.foldr_nil, List.setIfInBounds_toArray, List.set_cons_succ, List.set_cons_zero, g1]
      go_step
      refine fam_ex hK rfl rfl (by simp only [Act.put, List.setIfInBounds_toArray, List.set_cons_succ, List.set_cons_zero, Array.getD_eq_getD_getElem?, List.getElem?_toArray, List.getElem?_cons_succ, List.getElem?_cons_zero, Option.getD_some] <;> rfl) rfl (Below.refl _ _) hC
    · -- 3: Op.move (Operand.tmp 5)
      obtain ⟨h2, -⟩ := hh
      have g2 : f 2 = _ := h2
      refine tab_yes g2 fun K Q hK => ?_
      simp only [puts, List.foldr_cons, List.foldr_nil, List.setIfInBounds_toArray, List.set_cons_succ, List.set_cons_zero, g2]
      go_step
      refine fam_ex hK rfl rfl (by simp only [Act.put, List.setIfInBounds_toArray, List.set_cons_succ, List.set_cons_zero, Array.getD_eq_getD_getElem?, List.getElem?_toArray, List.getElem?_cons_succ, List.getElem?_cons_zero, Option.getD_some] <;> rfl) rfl (Below.refl _ _) hC
    · -- 4: Op.binOp BinOp.eql 32 (Operand.tmp 22) (Operand.const (Value.int IntKind.i64 0)) 32
      obtain ⟨h3, h2, -⟩ := hh
      have g3 : f 3 = _ := h3
      have g2 : f 2 = _ := h2
      refine tab_yes g2 fun K Q hK => ?_
      simp only [puts, List.foldr_cons, List.foldr_nil, List.setIfInBounds_toArray, List.set_cons_succ, List.set_cons_zero, g3, g2]
      go_step
      refine fam_ex hK rfl rfl (by simp only [Act.put, List.setIfInBounds_toArray, List.set_cons_succ, List.set_cons_zero, Array.getD_eq_getD_getElem?, List.getElem?_toArray, List.getElem?_cons_succ, List.getElem?_cons_zero, Option.getD_some] <;> rfl) rfl (Below.refl _ _) hC
    · -- 5: Op.pick (Operand.tmp 21) (Operand.tmp 23) (Operand.const (Value.bool false))
      obtain ⟨h2, h4, -⟩ := hh
      have g2 : f 2 = _ := h2
      have g4 : f 4 = _ := h4
      refine tab_plain fun K Q hK => ?_
      simp only [puts, List.foldr_cons, List.foldr_nil, List.setIfInBounds_toArray, List.set_cons_succ, List.set_cons_zero, g2, g4]
      go_step
      refine fam_ex hK rfl rfl (by simp only [Act.put, List.setIfInBounds_toArray, List.set_cons_succ, List.set_cons_zero, Array.getD_eq_getD_getElem?, List.getElem?_toArray, List.getElem?_cons_succ, List.getElem?_cons_zero, Option.getD_some] <;> rfl) rfl (Below.refl _ _) hC
    · -- 6: Op.move (Operand.tmp 24)
      obtain ⟨h5, h2, -⟩ := hh
      have g5 : f 5 = _ := h5
      have g2 : f 2 = _ := h2
      refine tab_plain fun K Q hK => ?_
      simp only [puts, List.foldr_cons, List.foldr_nil, List.setIfInBounds_toArray, List.set_cons_succ, List.set_cons_zero, g5, g2]
      go_step
      refine fam_ex hK rfl rfl (by simp only [Act.put, List.setIfInBounds_toArray, List.set_cons_succ, List.set_cons_zero, Array.getD_eq_getD_getElem?, List.getElem?_toArray, List.getElem?_cons_succ, List.getElem?_cons_zero, Option.getD_some] <;> rfl) rfl (Below.refl _ _) hC
    · -- 7: Op.move (Operand.tmp 4)
      obtain ⟨h6, -⟩ := hh
      have g6 : f 6 = _ := h6
      refine tab_yes g6 fun K Q hK => ?_
      simp only [puts, List.foldr_cons, List.foldr_nil, List.setIfInBounds_toArray, List.set_cons_succ, List.set_cons_zero, g6]
      go_step
      refine fam_ex hK rfl rfl (by simp only [Act.put, List.setIfInBounds_toArray, List.set_cons_succ, List.set_cons_zero, Array.getD_eq_getD_getElem?, List.getElem?_toArray, List.getElem?_cons_succ, List.getElem?_cons_zero, Option.getD_some] <;> rfl) rfl (Below.refl _ _) hC
    · -- 8: Op.binOp BinOp.eql 3 (Operand.tmp 26) (Operand.const (Value.int IntKind.i64 3)) 3
      obtain ⟨h7, h6, -⟩ := hh
      have g7 : f 7 = _ := h7
      have g6 : f 6 = _ := h6
      refine tab_yes g6 fun K Q hK => ?_
      simp only [puts, List.foldr_cons, List.foldr_nil, List.setIfInBounds_toArray, List.set_cons_succ, List.set_cons_zero, g7, g6]
      go_step
      refine fam_ex hK rfl rfl (by simp only [Act.put, List.setIfInBounds_toArray, List.set_cons_succ, List.set_cons_zero, Array.getD_eq_getD_getElem?, List.getElem?_toArray, List.getElem?_cons_succ, List.getElem?_cons_zero, Option.getD_some] <;> rfl) rfl (Below.refl _ _) hC
    · -- 9: Op.pick (Operand.tmp 25) (Operand.tmp 27) (Operand.const (Value.bool false))
      obtain ⟨h6, h8, -⟩ := hh
      have g6 : f 6 = _ := h6
      have g8 : f 8 = _ := h8
      refine tab_plain fun K Q hK => ?_
      simp only [puts, List.foldr_cons, List.foldr_nil, List.setIfInBounds_toArray, List.set_cons_succ, List.set_cons_zero, g6, g8]
      go_step
      refine fam_ex hK rfl rfl (by simp only [Act.put, List.setIfInBounds_toArray, List.set_cons_succ, List.set_cons_zero, Array.getD_eq_getD_getElem?, List.getElem?_toArray, List.getElem?_cons_succ, List.getElem?_cons_zero, Option.getD_some] <;> rfl) rfl (Below.refl _ _) hC
    · -- 10: Op.move (Operand.tmp 28)
      obtain ⟨h9, h6, -⟩ := hh
      have g9 : f 9 = _ := h9
      have g6 : f 6 = _ := h6
      refine tab_plain fun K Q hK => ?_
      simp only [puts, List.foldr_cons, List.foldr_nil, List.setIfInBounds_toArray, List.set_cons_succ, List.set_cons_zero, g9, g6]
      go_step
      refine fam_ex hK rfl rfl (by simp only [Act.put, List.setIfInBounds_toArray, List.set_cons_succ, List.set_cons_zero, Array.getD_eq_getD_getElem?, List.getElem?_toArray, List.getElem?_cons_succ, List.getElem?_cons_zero, Option.getD_some] <;> rfl) rfl (Below.refl _ _) hC
    · -- 11: Op.move (Operand.tmp 2)
      obtain ⟨h10, -⟩ := hh
      have g10 : f 10 = _ := h10
      refine tab_yes g10 fun K Q hK => ?_
      simp only [puts, List.foldr_cons, List.foldr_nil, List.setIfInBounds_toArray, List.set_cons_succ, List.set_cons_zero, g10]
      go_step
      refine fam_ex hK rfl rfl (by simp only [Act.put, List.setIfInBounds_toArray, List.set_cons_succ, List.set_cons_zero, Array.getD_eq_getD_getElem?, List.getElem?_toArray, List.getElem?_cons_succ, List.getElem?_cons_zero, Option.getD_some] <;> rfl) rfl (Below.refl _ _) hC
    · -- 12: Op.buildSlice 31 3 #[(0, Operand.const (Value.int IntKind.i64 1)), (1, Operand.const (Valu
      obtain ⟨h10, -⟩ := hh
      have g10 : f 10 = _ := h10
      refine tab_yes g10 fun K Q hK => ?_
      simp only [puts, List.foldr_cons, List.foldr_nil, List.setIfInBounds_toArray, List.set_cons_succ, List.set_cons_zero, g10]
      go_step
      have hb : Below W.heap.size W (W.alloc (.cells #[.int .i64 1, .int .i64 2, .int .i64 0] 3)) := (Below.refl _ _).alloc (Nat.le_refl _) _
      exact fam_fin hK rfl ⟨_, _, rfl, new_ints .i64 W 3 [1, 2, 0] 3 rfl (by decide)⟩ hb (hC.trans (hb.mono hC.size))
    · -- 13: Op.call { callee := Callee.value (Operand.func 21), args := #[Operand.tmp 30, Operand.tmp 
      obtain ⟨h11, h12, h10, _, -⟩ := hh
      have g11 : f 11 = _ := h11
      obtain ⟨a12, c12, g12, s12⟩ := h12
      have g10 : f 10 = _ := h10
      refine tab_yes g10 fun K Q hK => ?_
      simp only [puts, List.foldr_cons, List.foldr_nil, List.setIfInBounds_toArray, List.set_cons_succ, List.set_cons_zero, g11, g12, g10]
      go_step
      go_at_call 21
      refine (refSame_any _ _ _ _ _ _ _ _ W (hI3.later hC) s12).mono ?_
      rintro e w' ⟨rfl, hb⟩
      rw [show decide (([1, 2, 0] : List Int) = [1, 2, 0]) = true from rfl]
      exact fam_fin hK rfl rfl hb (hC.trans (hb.mono hC.size))
    · -- 14: Op.pick (Operand.tmp 29) (Operand.tmp 32) (Operand.const (Value.bool false))
      obtain ⟨h10, h13, -⟩ := hh
      have g10 : f 10 = _ := h10
      have g13 : f 13 = _ := h13
      refine tab_plain fun K Q hK => ?_
      simp only [puts, List.foldr_cons, List.foldr_nil, List.setIfInBounds_toArray, List.set_cons_succ, List.set_cons_zero, g10, g13]
      go_step
      refine fam_ex hK rfl rfl (by simp only [Act.put, List.setIfInBounds_toArray, List.set_cons_succ, List.set_cons_zero, Array.getD_eq_getD_getElem?, List.getElem?_toArray, List.getElem?_cons_succ, List.getElem?_cons_zero, Option.getD_some] <;> rfl) rfl (Below.refl _ _) hC
    · -- 15: Op.move (Operand.tmp 33)
      obtain ⟨h14, h13, -⟩ := hh
      have g14 : f 14 = _ := h14
      have g13 : f 13 = _ := h13
      refine tab_plain fun K Q hK => ?_
      simp only [puts, List.foldr_cons, List.foldr_nil, List.setIfInBounds_toArray, List.set_cons_succ, List.set_cons_zero, g14, g13]
      go_step
      refine fam_ex hK rfl rfl (by simp only [Act.put, List.setIfInBounds_toArray, List.set_cons_succ, List.set_cons_zero, Array.getD_eq_getD_getElem?, List.getElem?_toArray, List.getElem?_cons_succ, List.getElem?_cons_zero, Option.getD_some] <;> rfl) rfl (Below.refl _ _) hC
    · -- 16: Op.load 27 (Operand.tmp 1)
      obtain ⟨h15, -⟩ := hh
      have g15 : f 15 = _ := h15
      refine tab_yes g15 fun K Q hK => ?_
      simp only [puts, List.foldr_cons, List.foldr_nil, List.setIfInBounds_toArray, List.set_cons_succ, List.set_cons_zero, g15]
      obtain ⟨q0, q1⟩ := HOW.out W hC
      go_step
      refine fam_ex hK rfl rfl (by simp only [Act.put, List.setIfInBounds_toArray, List.set_cons_succ, List.set_cons_zero, Array.getD_eq_getD_getElem?, List.getElem?_toArray, List.getElem?_cons_succ, List.getElem?_cons_zero, Option.getD_some] <;> rfl) rfl (Below.refl _ _) hC
    · -- 17: Op.call { callee := Callee.value (Operand.func 15), args := #[Operand.tmp 35, Operand.cons
      obtain ⟨h16, h15, _, -⟩ := hh
      have g16 : f 16 = _ := h16
      have g15 : f 15 = _ := h15
      refine tab_yes g15 fun K Q hK => ?_
      simp only [puts, List.foldr_cons, List.foldr_nil, List.setIfInBounds_toArray, List.set_cons_succ, List.set_cons_zero, g16, g15]
      go_step
      go_at_call 15
      refine (before_any 2 0 (hp3.later hC) (tab_later hT3 hC)).mono ?_
      rintro e w' ⟨rfl, hb⟩
      rw [ex_before]
      exact fam_fin hK rfl rfl hb (hC.trans (hb.mono hC.size))
    · -- 18: Op.pick (Operand.tmp 34) (Operand.tmp 36) (Operand.const (Value.bool false))
      obtain ⟨h15, h17, -⟩ := hh
      have g15 : f 15 = _ := h15
      have g17 : f 17 = _ := h17
      refine tab_plain fun K Q hK => ?_
      simp only [puts, List.foldr_cons, List.foldr_nil, List.setIfInBounds_toArray, List.set_cons_succ, List.set_cons_zero, g15, g17]
      go_step
      refine fam_ex hK rfl rfl (by simp only [Act.put, List.setIfInBounds_toArray, List.set_cons_succ, List.set_cons_zero, Array.getD_eq_getD_getElem?, List.getElem?_toArray, List.getElem?_cons_succ, List.getElem?_cons_zero, Option.getD_some] <;> rfl) rfl (Below.refl _ _) hC
    · -- 19: Op.move (Operand.tmp 37)
      obtain ⟨h18, h17, -⟩ := hh
      have g18 : f 18 = _ := h18
      have g17 : f 17 = _ := h17
      refine tab_plain fun K Q hK => ?_
      simp only [puts, List.foldr_cons, List.foldr_nil, List.setIfInBounds_toArray, List.set_cons_succ, List.set_cons_zero, g18, g17]
      go_step
      refine fam_ex hK rfl rfl (by simp only [Act.put, List.setIfInBounds_toArray, List.set_cons_succ, List.set_cons_zero, Array.getD_eq_getD_getElem?, List.getElem?_toArray, List.getElem?_cons_succ, List.getElem?_cons_zero, Option.getD_some] <;> rfl) rfl (Below.refl _ _) hC
    · -- 20: Op.load 27 (Operand.tmp 1)
      obtain ⟨h19, -⟩ := hh
      have g19 : f 19 = _ := h19
      refine tab_yes g19 fun K Q hK => ?_
      simp only [puts, List.foldr_cons, List.foldr_nil, List.setIfInBounds_toArray, List.set_cons_succ, List.set_cons_zero, g19]
      obtain ⟨q0, q1⟩ := HOW.out W hC
      go_step
      refine fam_ex hK rfl rfl (by simp only [Act.put, List.setIfInBounds_toArray, List.set_cons_succ, List.set_cons_zero, Array.getD_eq_getD_getElem?, List.getElem?_toArray, List.getElem?_cons_succ, List.getElem?_cons_zero, Option.getD_some] <;> rfl) rfl (Below.refl _ _) hC
    · -- 21: Op.call { callee := Callee.value (Operand.func 17), args := #[Operand.tmp 39, Operand.cons
      obtain ⟨h20, h19, _, -⟩ := hh
      have g20 : f 20 = _ := h20
      have g19 : f 19 = _ := h19
      refine tab_yes g19 fun K Q hK => ?_
      simp only [puts, List.foldr_cons, List.foldr_nil, List.setIfInBounds_toArray, List.set_cons_succ, List.set_cons_zero, g20, g19]
      go_step
      go_at_call 17
      refine (concurrent_any 0 1 (hp3.later hC) (tab_later hT3 hC)).mono ?_
      rintro e w' ⟨rfl, hb⟩
      rw [ex_conc]
      exact fam_fin hK rfl rfl hb (hC.trans (hb.mono hC.size))
    · -- 22: Op.pick (Operand.tmp 38) (Operand.tmp 40) (Operand.const (Value.bool false))
      obtain ⟨h19, h21, -⟩ := hh
      have g19 : f 19 = _ := h19
      have g21 : f 21 = _ := h21
      refine tab_plain fun K Q hK => ?_
      simp only [puts, List.foldr_cons, List.foldr_nil, List.setIfInBounds_toArray, List.set_cons_succ, List.set_cons_zero, g19, g21]
      go_step
      refine fam_ex hK rfl rfl (by simp only [Act.put, List.setIfInBounds_toArray, List.set_cons_succ, List.set_cons_zero, Array.getD_eq_getD_getElem?, List.getElem?_toArray, List.getElem?_cons_succ, List.getElem?_cons_zero, Option.getD_some] <;> rfl) rfl (Below.refl _ _) hC
    · -- 23: Op.move (Operand.tmp 41)
      obtain ⟨h22, h21, -⟩ := hh
      have g22 : f 22 = _ := h22
      have g21 : f 21 = _ := h21
      refine tab_plain fun K Q hK => ?_
      simp only [puts, List.foldr_cons, List.foldr_nil, List.setIfInBounds_toArray, List.set_cons_succ, List.set_cons_zero, g22, g21]
      go_step
      refine fam_ex hK rfl rfl (by simp only [Act.put, List.setIfInBounds_toArray, List.set_cons_succ, List.set_cons_zero, Array.getD_eq_getD_getElem?, List.getElem?_toArray, List.getElem?_cons_succ, List.getElem?_cons_zero, Option.getD_some] <;> rfl) rfl (Below.refl _ _) hC
    · -- 24: Op.load 27 (Operand.tmp 1)
      obtain ⟨h23, -⟩ := hh
      have g23 : f 23 = _ := h23
      refine tab_yes g23 fun K Q hK => ?_
      simp only [puts, List.foldr_cons, List.foldr_nil, List.setIfInBounds_toArray, List.set_cons_succ, List.set_cons_zero, g23]
      obtain ⟨q0, q1⟩ := HOW.out W hC
      go_step
      refine fam_ex hK rfl rfl (by simp only [Act.put, List.setIfInBounds_toArray, List.set_cons_succ, List.set_cons_zero, Array.getD_eq_getD_getElem?, List.getElem?_toArray, List.getElem?_cons_succ, List.getElem?_cons_zero, Option.getD_some] <;> rfl) rfl (Below.refl _ _) hC
    · -- 25: Op.move (Operand.tmp 2)
      obtain ⟨h23, -⟩ := hh
      have g23 : f 23 = _ := h23
      refine tab_yes g23 fun K Q hK => ?_
      simp only [puts, List.foldr_cons, List.foldr_nil, List.setIfInBounds_toArray, List.set_cons_succ, List.set_cons_zero, g23]
      go_step
      refine fam_ex hK rfl rfl (by simp only [Act.put, List.setIfInBounds_toArray, List.set_cons_succ, List.set_cons_zero, Array.getD_eq_getD_getElem?, List.getElem?_toArray, List.getElem?_cons_succ, List.getElem?_cons_zero, Option.getD_some] <;> rfl) rfl (Below.refl _ _) hC
    · -- 26: Op.call { callee := Callee.value (Operand.func 22), args := #[Operand.tmp 43, Operand.tmp 
      obtain ⟨h24, h25, h23, _, -⟩ := hh
      have g24 : f 24 = _ := h24
      have g25 : f 25 = _ := h25
      have g23 : f 23 = _ := h23
      refine tab_yes g23 fun K Q hK => ?_
      simp only [puts, List.foldr_cons, List.foldr_nil, List.setIfInBounds_toArray, List.set_cons_succ, List.set_cons_zero, g24, g25, g23]
      go_step
      go_at_call 22
      refine (isLinear_any _ _ _ _ (hp3.later hC) (tab_later hT3 hC) (hI3.later hC)).mono ?_
      rintro e w' ⟨rfl, hb⟩
      rw [ex_lin]
      exact fam_fin hK rfl rfl hb (hC.trans (hb.mono hC.size))
    · -- 27: Op.pick (Operand.tmp 42) (Operand.tmp 45) (Operand.const (Value.bool false))
      obtain ⟨h23, h26, -⟩ := hh
      have g23 : f 23 = _ := h23
      have g26 : f 26 = _ := h26
      refine tab_plain fun K Q hK => ?_
      simp only [puts, List.foldr_cons, List.foldr_nil, List.setIfInBounds_toArray, List.set_cons_succ, List.set_cons_zero, g23, g26]
      go_step
      refine fam_ex hK rfl rfl (by simp only [Act.put, List.setIfInBounds_toArray, List.set_cons_succ, List.set_cons_zero, Array.getD_eq_getD_getElem?, List.getElem?_toArray, List.getElem?_cons_succ, List.getElem?_cons_zero, Option.getD_some] <;> rfl) rfl (Below.refl _ _) hC
    · -- 28: Op.move (Operand.tmp 46)
      obtain ⟨h27, h26, -⟩ := hh
      have g27 : f 27 = _ := h27
      have g26 : f 26 = _ := h26
      refine tab_plain fun K Q hK => ?_
      simp only [puts, List.foldr_cons, List.foldr_nil, List.setIfInBounds_toArray, List.set_cons_succ, List.set_cons_zero, g27, g26]
      go_step
      refine fam_ex hK rfl rfl (by simp only [Act.put, List.setIfInBounds_toArray, List.set_cons_succ, List.set_cons_zero, Array.getD_eq_getD_getElem?, List.getElem?_toArray, List.getElem?_cons_succ, List.getElem?_cons_zero, Option.getD_some] <;> rfl) rfl (Below.refl _ _) hC
    · -- 29: Op.load 27 (Operand.tmp 1)
      obtain ⟨h28, -⟩ := hh
      have g28 : f 28 = _ := h28
      refine tab_yes g28 fun K Q hK => ?_
      simp only [puts, List.foldr_cons, List.foldr_nil, List.setIfInBounds_toArray, List.set_cons_succ, List.set_cons_zero, g28]
      obtain ⟨q0, q1⟩ := HOW.out W hC
      go_step
      refine fam_ex hK rfl rfl (by simp only [Act.put, List.setIfInBounds_toArray, List.set_cons_succ, List.set_cons_zero, Array.getD_eq_getD_getElem?, List.getElem?_toArray, List.getElem?_cons_succ, List.getElem?_cons_zero, Option.getD_some] <;> rfl) rfl (Below.refl _ _) hC
    · -- 30: Op.move (Operand.tmp 2)
      obtain ⟨h28, -⟩ := hh
      have g28 : f 28 = _ := h28
      refine tab_yes g28 fun K Q hK => ?_
      simp only [puts, List.foldr_cons, List.foldr_nil, List.setIfInBounds_toArray, List.set_cons_succ, List.set_cons_zero, g28]
      go_step
      refine fam_ex hK rfl rfl (by simp only [Act.put, List.setIfInBounds_toArray, List.set_cons_succ, List.set_cons_zero, Array.getD_eq_getD_getElem?, List.getElem?_toArray, List.getElem?_cons_succ, List.getElem?_cons_zero, Option.getD_some] <;> rfl) rfl (Below.refl _ _) hC
    · -- 31: Op.slice 31 (Operand.tmp 49) none (some (Operand.const (Value.int IntKind.i64 2))) none
      obtain ⟨h30, h28, -⟩ := hh
      have g30 : f 30 = _ := h30
      have g28 : f 28 = _ := h28
      refine tab_yes g28 fun K Q hK => ?_
      simp only [puts, List.foldr_cons, List.foldr_nil, List.setIfInBounds_toArray, List.set_cons_succ, List.set_cons_zero, g30, g28]
      go_step
      refine fam_ex hK rfl rfl (by simp only [Act.put, List.setIfInBounds_toArray, List.set_cons_succ, List.set_cons_zero, Array.getD_eq_getD_getElem?, List.getElem?_toArray, List.getElem?_cons_succ, List.getElem?_cons_zero, Option.getD_some] <;> rfl) rfl (Below.refl _ _) hC
    · -- 32: Op.call { callee := Callee.value (Operand.func 24), args := #[Operand.tmp 48, Operand.tmp 
      obtain ⟨h29, h31, h28, _, -⟩ := hh
      have g29 : f 29 = _ := h29
      have g31 : f 31 = _ := h31
      have g28 : f 28 = _ := h28
      refine tab_yes g28 fun K Q hK => ?_
      simp only [puts, List.foldr_cons, List.foldr_nil, List.setIfInBounds_toArray, List.set_cons_succ, List.set_cons_zero, g29, g31, g28]
      go_step
      go_at_call 24
      refine (cut_any _ _ _ _ (hp3.later hC) (tab_later hT3 hC) (hcut.later hC)).mono ?_
      rintro e w' ⟨rfl, hb⟩
      rw [ex_cut]
      exact fam_fin hK rfl rfl hb (hC.trans (hb.mono hC.size))
    · -- 33: Op.pick (Operand.tmp 47) (Operand.tmp 51) (Operand.const (Value.bool false))
      obtain ⟨h28, h32, -⟩ := hh
      have g28 : f 28 = _ := h28
      have g32 : f 32 = _ := h32
      refine tab_plain fun K Q hK => ?_
      simp only [puts, List.foldr_cons, List.foldr_nil, List.setIfInBounds_toArray, List.set_cons_succ, List.set_cons_zero, g28, g32]
      go_step
      refine fam_ex hK rfl rfl (by simp only [Act.put, List.setIfInBounds_toArray, List.set_cons_succ, List.set_cons_zero, Array.getD_eq_getD_getElem?, List.getElem?_toArray, List.getElem?_cons_succ, List.getElem?_cons_zero, Option.getD_some] <;> rfl) rfl (Below.refl _ _) hC
    · -- 34: Op.move (Operand.tmp 52)
      obtain ⟨h33, h32, -⟩ := hh
      have g33 : f 33 = _ := h33
      have g32 : f 32 = _ := h32
      refine tab_plain fun K Q hK => ?_
      simp only [puts, List.foldr_cons, List.foldr_nil, List.setIfInBounds_toArray, List.set_cons_succ, List.set_cons_zero, g33, g32]
      go_step
      refine fam_ex hK rfl rfl (by simp only [Act.put, List.setIfInBounds_toArray, List.set_cons_succ, List.set_cons_zero, Array.getD_eq_getD_getElem?, List.getElem?_toArray, List.getElem?_cons_succ, List.getElem?_cons_zero, Option.getD_some] <;> rfl) rfl (Below.refl _ _) hC
    · -- 35: Op.load 27 (Operand.tmp 1)
      obtain ⟨h34, -⟩ := hh
      have g34 : f 34 = _ := h34
      refine tab_yes g34 fun K Q hK => ?_
      simp only [puts, List.foldr_cons, List.foldr_nil, List.setIfInBounds_toArray, List.set_cons_succ, List.set_cons_zero, g34]
      obtain ⟨q0, q1⟩ := HOW.out W hC
      go_step
      refine fam_ex hK rfl rfl (by simp only [Act.put, List.setIfInBounds_toArray, List.set_cons_succ, List.set_cons_zero, Array.getD_eq_getD_getElem?, List.getElem?_toArray, List.getElem?_cons_succ, List.getElem?_cons_zero, Option.getD_some] <;> rfl) rfl (Below.refl _ _) hC
    · -- 36: Op.call { callee := Callee.value (Operand.func 13), args := #[Operand.tmp 54], argTypes :=
      obtain ⟨h35, h34, _, -⟩ := hh
      have g35 : f 35 = _ := h35
      have g34 : f 34 = _ := h34
      refine tab_yes g34 fun K Q hK => ?_
      simp only [puts, List.foldr_cons, List.foldr_nil, List.setIfInBounds_toArray, List.set_cons_succ, List.set_cons_zero, g35, g34]
      go_step
      go_at_call 13
      refine (valid_any (hp3.later hC) (tab_later hT3 hC)).mono ?_
      rintro e w' ⟨rfl, hb⟩
      rw [validB_yes ex_valid]
      exact fam_fin hK rfl rfl hb (hC.trans (hb.mono hC.size))
    · -- 37: Op.pick (Operand.tmp 53) (Operand.tmp 55) (Operand.const (Value.bool false))
      obtain ⟨h34, h36, -⟩ := hh
      have g34 : f 34 = _ := h34
      have g36 : f 36 = _ := h36
      refine tab_plain fun K Q hK => ?_
      simp only [puts, List.foldr_cons, List.foldr_nil, List.setIfInBounds_toArray, List.set_cons_succ, List.set_cons_zero, g34, g36]
      go_step
      refine fam_ex hK rfl rfl (by simp only [Act.put, List.setIfInBounds_toArray, List.set_cons_succ, List.set_cons_zero, Array.getD_eq_getD_getElem?, List.getElem?_toArray, List.getElem?_cons_succ, List.getElem?_cons_zero, Option.getD_some] <;> rfl) rfl (Below.refl _ _) hC
    · -- 38: Op.assign (Operand.tmp 56)
      obtain ⟨h37, h36, h0, h1, h2, h3, h4, h5, h6, h7, h8, h9, h10, h11, h12, h13, h14, h15, h16, h17, h18, h19, h20, h21, h22, h23, h24, h25, h26, h27, h28, h29, h30, h31, h32, h33, h34, h35, _, _, -⟩ := hh
      have g37 : f 37 = _ := h37
      have g36 : f 36 = _ := h36
      have g0 : f 0 = _ := h0
      have g1 : f 1 = _ := h1
      have g2 : f 2 = _ := h2
      have g3 : f 3 = _ := h3
      have g4 : f 4 = _ := h4
      have g5 : f 5 = _ := h5
      have g6 : f 6 = _ := h6
      have g7 : f 7 = _ := h7
      have g8 : f 8 = _ := h8
      have g9 : f 9 = _ := h9
      have g10 : f 10 = _ := h10
      have g11 : f 11 = _ := h11
      obtain ⟨a12, c12, g12, s12⟩ := h12
      have g13 : f 13 = _ := h13
      have g14 : f 14 = _ := h14
      have g15 : f 15 = _ := h15
      have g16 : f 16 = _ := h16
      have g17 : f 17 = _ := h17
      have g18 : f 18 = _ := h18
      have g19 : f 19 = _ := h19
      have g20 : f 20 = _ := h20
      have g21 : f 21 = _ := h21
      have g22 : f 22 = _ := h22
      have g23 : f 23 = _ := h23
      have g24 : f 24 = _ := h24
      have g25 : f 25 = _ := h25
      have g26 : f 26 = _ := h26
      have g27 : f 27 = _ := h27
      have g28 : f 28 = _ := h28
      have g29 : f 29 = _ := h29
      have g30 : f 30 = _ := h30
      have g31 : f 31 = _ := h31
      have g32 : f 32 = _ := h32
      have g33 : f 33 = _ := h33
      have g34 : f 34 = _ := h34
      have g35 : f 35 = _ := h35
      refine tab_plain fun K Q hK => ?_
      simp only [puts, List.foldr_cons, List.foldr_nil, List.setIfInBounds_toArray, List.set_cons_succ, List.set_cons_zero, g37, g36, g0, g1, g2, g3, g4, g5, g6, g7, g8, g9, g10, g11, g12, g13, g14, g15, g16, g17, g18, g19, g20, g21, g22, g23, g24, g25, g26, g27, g28, g29, g30, g31, g32, g33, g34, g35]
      go_step
      refine fam_ex hK rfl rfl (by simp only [Act.put, List.setIfInBounds_toArray, List.set_cons_succ, List.set_cons_zero, Array.getD_eq_getD_getElem?, List.getElem?_toArray, List.getElem?_cons_succ, List.getElem?_cons_zero, Option.getD_some] <;> rfl) rfl (Below.refl _ _) hC
  case rest =>
    intro f W2 hC hh
    obtain ⟨h0, h1, h2, h3, h4, h5, h6, h7, h8, h9, h10, h11, h12, h13, h14, h15, h16, h17, h18, h19, h20, h21, h22, h23, h24, h25, h26, h27, h28, h29, h30, h31, h32, h33, h34, h35, h36, h37, h38, -⟩ := hh
    have g0 : f 0 = _ := h0
    have g1 : f 1 = _ := h1
    have g2 : f 2 = _ := h2
    have g3 : f 3 = _ := h3
    have g4 : f 4 = _ := h4
    have g5 : f 5 = _ := h5
    have g6 : f 6 = _ := h6
    have g7 : f 7 = _ := h7
    have g8 : f 8 = _ := h8
    have g9 : f 9 = _ := h9
    have g10 : f 10 = _ := h10
    have g11 : f 11 = _ := h11
    obtain ⟨a12, c12, g12, s12⟩ := h12
    have g13 : f 13 = _ := h13
    have g14 : f 14 = _ := h14
    have g15 : f 15 = _ := h15
    have g16 : f 16 = _ := h16
    have g17 : f 17 = _ := h17
    have g18 : f 18 = _ := h18
    have g19 : f 19 = _ := h19
    have g20 : f 20 = _ := h20
    have g21 : f 21 = _ := h21
    have g22 : f 22 = _ := h22
    have g23 : f 23 = _ := h23
    have g24 : f 24 = _ := h24
    have g25 : f 25 = _ := h25
    have g26 : f 26 = _ := h26
    have g27 : f 27 = _ := h27
    have g28 : f 28 = _ := h28
    have g29 : f 29 = _ := h29
    have g30 : f 30 = _ := h30
    have g31 : f 31 = _ := h31
    have g32 : f 32 = _ := h32
    have g33 : f 33 = _ := h33
    have g34 : f 34 = _ := h34
    have g35 : f 35 = _ := h35
    have g36 : f 36 = _ := h36
    have g37 : f 37 = _ := h37
    have g38 : f 38 = _ := h38
    simp only [puts, List.foldr_cons, List.foldr_nil, List.setIfInBounds_toArray, List.set_cons_succ, List.set_cons_zero, g0, g1, g2, g3, g4, g5, g6, g7, g8, g9, g10, g11, g12, g13, g14, g15, g16, g17, g18, g19, g20, g21, g22, g23, g24, g25, g26, g27, g28, g29, g30, g31, g32, g33, g34, g35, g36, g37, g38]
    clear h0 h1 h2 h3 h4 h5 h6 h7 h8 h9 h10 h11 h13 h14 h15 h16 h17 h18 h19 h20 h21 h22 h23 h24 h25 h26 h27 h28 h29 h30 h31 h32 h33 h34 h35 h36 h37 h38 g0 g1 g2 g3 g4 g5 g6 g7 g8 g9 g10 g11 g13 g14 g15 g16 g17 g18 g19 g20 g21 g22 g23 g24 g25 g26 g27 g28 g29 g30 g31 g32 g33 g34 g35 g36 g37 g38
    go_wp2
    go_ret
    exact ⟨rfl, hb03.trans (hC.mono hb03.size)⟩
end Go.Proofs.YtofnbndpoiohhaaDoor
