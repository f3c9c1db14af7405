/-
  The walk of the statements' logOf.
-/
import Derived.Test.YtpmhnmkpmkeadaaWalH
set_option linter.unusedSimpArgs false
set_option linter.unusedVariables false
set_option maxHeartbeats 4000000
namespace Go.Proofs.Ytpmhnmkpmkeadaa
open Go.RowKit

/-- Records of at most 100 bytes. -/
def Ok100 (rs : List (List Int)) : Prop := ∀ r ∈ rs, Bytes r ∧ r.length ≤ 100
theorem Ok100.okR {rs : List (List Int)} (h : Ok100 rs) : OkR rs := fun r hr => ⟨(h r hr).1, by have := (h r hr).2; omega⟩
theorem Ok100.take {rs : List (List Int)} (h : Ok100 rs) (n : Nat) : Ok100 (rs.take n) := fun r hr => h r (List.mem_of_mem_take hr)
theorem Ok100.append {xs ys : List (List Int)} (h : Ok100 xs) (k : Ok100 ys) : Ok100 (xs ++ ys) := fun r hr => by
  rcases List.mem_append.1 hr with hr | hr
  · exact h r hr
  · exact k r hr
theorem Ok100.cnt {rs : List (List Int)} (h : Ok100 rs) : (allP rs).length ≤ 5 * rs.length := by
  induction rs with
  | nil => exact Nat.le_refl _
  | cons r rs ih =>
    have := (h r List.mem_cons_self).2
    have h2 := ih (fun x hx => h x (List.mem_cons_of_mem _ hx))
    have e : (allP (r :: rs)).length = cellsN r.length + (allP rs).length := by simp [allP, partsL_length]
    have h3 : cellsN r.length ≤ 5 := by unfold cellsN; split <;> omega
    rw [e, List.length_cons]
    omega

theorem owns_set2 {W : World} {B s n g : Nat} {v : Value} {ys : List Value} {cur : Array Value} {T : TypeId} {fz : Nat × Nat} (h : W.ownsRow B 5 s v n ys) (hg : W.heap[g]? = some (.cells cur T fz)) (hT : T ≠ 5) (x y : Value) : ((W.setCell ⟨g, 0, none⟩ x).setCell ⟨g, 1, none⟩ y).ownsRow B 5 s v n ys := by
  refine ⟨h.1, ?_⟩
  rcases h.2 with h' | ⟨g', cap', cur', rfl, hb, hh, r⟩
  · exact .inl h'
  · have hne : g' ≠ g := by
      intro e
      subst e
      rw [hh] at hg
      simp at hg
      exact hT hg.2.1.symm
    exact .inr ⟨g', cap', cur', rfl, hb, by rw [heap_setCell_other _ _ _ _ hne, heap_setCell_other _ _ _ _ hne]; exact hh, r⟩

theorem logOf_any (a : Option Addr) (len cap : Nat) (rs : List (List Int)) (synced : Nat) (w : World) (hs : IsRecs w a len cap rs) (hok : Ok100 rs) (hlen : len ≤ 24) (hsy : synced ≤ 1000000) :
    Calls Try.prog 16 #[.slice a len cap, .int .i64 synced] w fun e w' => (∃ fa fl fc, e = .returned (.tuple #[.agg #[.slice fa fl fc, .int .i64 ((32 * (allP (rs.take synced)).length : Nat) : Int)], .bool true]) ∧ fl = 32 * (allP rs).length ∧ w'.ownsRow w.heap.size 5 1 (.slice fa fl fc) fl (ivs .u8 (encP basis (allP rs)))) ∧ Below w.heap.size w w' := by
  have hcap := hs.cap
  unfold maxLen at hcap
  have HL := Lib.hid hs.1
  obtain ⟨W0, hW0⟩ : ∃ W0, (w.alloc (.cells #[.slice none 0 0, .int .i64 0] 26)).alloc (.cells #[.slice none 0 0, .int .i64 0] 26) = W0 := ⟨_, rfl⟩
  have hbA : Below w.heap.size w W0 := by rw [← hW0]; exact ((Below.refl _ w).alloc (Nat.le_refl _) _).alloc (by simp) _
  have hz0 : W0.heap.size = w.heap.size + 2 := by rw [← hW0]; simp
  have hbr : Box2 W0 w.heap.size (.slice none 0 0) (.int .i64 0) := by rw [← hW0]; exact (Box2.new w _ _ _).later ((Below.refl _ _).alloc (Nat.le_refl _) _)
  have hbl : Box2 W0 (w.heap.size + 1) (.slice none 0 0) (.int .i64 0) := by
    have := Box2.new (w.alloc (.cells #[.slice none 0 0, .int .i64 0] 26)) (.slice none 0 0) (.int .i64 0) 26
    rw [World.size_alloc, hW0] at this
    exact this
  go_enter Try.func16, Try.ntmps16
  go_wp2
  try rw [hW0]
  clear hW0
  go_loopw [7] (fun i W => ∃ (k : Nat) (fa : Option Addr) (fc : Nat), k ≤ len ∧ i = .int .i64 (k : Int) ∧ Below w.heap.size w W ∧ Box2 W w.heap.size (.slice none 0 0) (.int .i64 0) ∧ w.heap.size + 2 ≤ W.heap.size ∧
    Box2 W (w.heap.size + 1) (.slice fa (32 * (allP (rs.take k)).length) fc) (.int .i64 (if synced < k then ((32 * (allP (rs.take synced)).length : Nat) : Int) else 0)) ∧
    W.ownsRow (w.heap.size + 2) 5 1 (.slice fa (32 * (allP (rs.take k)).length) fc) (32 * (allP (rs.take k)).length) (ivs .u8 (encP basis (allP (rs.take k))))) (fun i _ => len - (intOf i).toNat)
  case atStart => exact ⟨0, none, 0, Nat.zero_le _, rfl, hbA, hbr, Nat.le_of_eq hz0.symm, by rw [if_neg (by omega)]; exact hbl, World.ownsRow_nil _ _ _ _⟩
  case round =>
    obtain ⟨k, fa, fc, hk, rfl, hB, hR, hsz, hX, ho⟩ := hrel
    obtain ⟨fl, hfl⟩ : ∃ fl, 32 * (allP (rs.take k)).length = fl := ⟨_, rfl⟩
    have hfl5 : fl ≤ 32 * (5 * 24) := by
      have := (hok.take k).cnt
      rw [List.length_take] at this
      omega
    obtain ⟨P, hP⟩ : ∃ P, allP (rs.take k) = P := ⟨_, rfl⟩
    have hPo : ∀ x ∈ P, OkP x := by rw [← hP]; exact allP_ok (hok.okR.take k)
    rw [hfl] at hX ho
    rw [hP] at ho
    obtain ⟨q0, q1, q2, q3⟩ := hX.cells
    by_cases hlt : k < len
    · have dlt : decide ((k : Int) < len) = true := decide_eq_true (by omega)
      obtain ⟨b, off, ai, ci, rfl, hbl', hcell, hrow⟩ := hs.at w (Below.refl _ _) k hlt
      obtain ⟨r, hr⟩ : ∃ r, gl rs k = r := ⟨_, rfl⟩
      have hrok := hok _ (gl_mem rs k (by rw [HL.out]; exact hlt))
      rw [hr] at hcell hrow hrok
      have hrb := hrok.1
      have hr100 := hrok.2
      have hPn : allP (rs.take (k + 1)) = P ++ partsL r := by rw [take_succ_gl rs k (by rw [HL.out]; exact hlt), allP_append, allP_one, hP, hr]
      obtain ⟨lr, hlr⟩ : ∃ lr, r.length = lr := ⟨_, rfl⟩
      rw [hlr] at hcell hrow hr100
      have HPn := Lib.hid hPn
      clear hPn
      by_cases hsk : k = synced
      · subst hsk
        have dsk : ((k : Int) == (k : Int)) = true := by simp
        rw [if_neg (Nat.lt_irrefl k)] at hX q1
        go_wp2_with (fail)
        go_at_call 31
        refine (Sync_any _ _ _ _ _ _ (IsInts.of_owns ho).1 (by omega)).mono ?_
        rintro e wr2 ⟨⟨fa2, fc2, rfl, ho2⟩, hb2⟩
        obtain ⟨p0, p1, p2, p3⟩ := (hX.later hb2).cells
        have hX2 := (hX.later hb2).store (.slice fa2 fl fc2) (.int .i64 (fl : Int))
        obtain ⟨wr3, hwr3⟩ : ∃ wr3, (wr2.setCell ⟨w.heap.size + 1, 0, none⟩ (.slice fa2 fl fc2)).setCell ⟨w.heap.size + 1, 1, none⟩ (.int .i64 (fl : Int)) = wr3 := ⟨_, rfl⟩
        have ho3 : wr3.ownsRow (w.heap.size + 2) 5 1 (.slice fa2 fl fc2) fl (ivs .u8 (encP basis P)) := by
          rw [← hwr3]
          exact ownsRow_setCell_below (ownsRow_setCell_below (ho2.from_mono hsz) (by show w.heap.size + 1 < _; omega) _) (by show w.heap.size + 1 < _; omega) _
        have hB3 : Below w.heap.size w wr3 := by
          rw [← hwr3]
          exact ((hB.trans (hb2.mono hB.size)).setCell (p := ⟨w.heap.size + 1, 0, none⟩) (Nat.le_succ _) _).setCell (p := ⟨w.heap.size + 1, 1, none⟩) (Nat.le_succ _) _
        have hR3 : Box2 wr3 w.heap.size (.slice none 0 0) (.int .i64 0) := by
          rw [← hwr3]
          exact ((hR.later hb2).other _ (by show _ ≠ w.heap.size + 1; omega) _).other _ (by show _ ≠ w.heap.size + 1; omega) _
        have hsz3 : w.heap.size + 2 ≤ wr3.heap.size := by
          rw [← hwr3, World.size_setCell, World.size_setCell]
          exact Nat.le_trans hsz hb2.size
        rw [hwr3] at hX2
        clear hX ho hR hB hsz q0 q1 q2 q3
        have ho := ho3
        have hB := hB3
        have hR := hR3
        have hsz := hsz3
        have hX := hX2
        clear ho3 hB3 hR3 hsz3 hX2
        obtain ⟨sy, hsy'⟩ : ∃ sy : Int, (fl : Int) = sy := ⟨_, rfl⟩
        rw [hsy'] at hX
        obtain ⟨nl, hnl⟩ : ∃ nl, fl + 32 * cellsN lr = nl := ⟨_, rfl⟩
        rw [hsy'] at hwr3
        go_wp2_with (fail)
        try rw [hwr3]
        clear hwr3 p0 p1 p2 p3
        obtain ⟨S, hSd⟩ : ∃ S : (Nat → Bool) → (Nat → Value) → World → Prop, S = fun L f W' => (Below w.heap.size w W' ∧ Box2 W' (w.heap.size + 1) (.slice fa2 fl fc2) (.int .i64 sy) ∧ Box2 W' w.heap.size (.slice none 0 0) (.int .i64 0) ∧ (W'.ownsRow (w.heap.size + 2) 5 1 (.slice fa2 fl fc2) fl (ivs .u8 (encP basis P)) ∧ w.heap.size + 2 ≤ W'.heap.size) ∧ (stage L f W' (fun _ => True) [(10, fun f W' => ∃ a c g, f 9 = .pointer (some ⟨g, 0, none⟩) ∧ w.heap.size + 2 ≤ g ∧ Box2 W' g (.slice a nl c) (.int .i64 sy) ∧ W'.ownsRow (w.heap.size + 2) 5 1 (.slice a nl c) nl (ivs .u8 (encP basis (P ++ partsL r)))), (7, fun f W' => ∃ a c, f 7 = .agg #[.slice a nl c, .int .i64 sy] ∧ W'.ownsRow (w.heap.size + 2) 5 1 (.slice a nl c) nl (ivs .u8 (encP basis (P ++ partsL r)))), (6, fun f W' => ∃ a c, f 6 = .tuple #[.agg #[.slice a nl c, .int .i64 sy], .int .i64 0] ∧ W'.ownsRow (w.heap.size + 2) 5 1 (.slice a nl c) nl (ivs .u8 (encP basis (P ++ partsL r)))), (5, fun f W' => ∃ a c, f 5 = .tuple #[.agg #[.slice a nl c, .int .i64 sy], .int .i64 0] ∧ W'.ownsRow (w.heap.size + 2) 5 1 (.slice a nl c) nl (ivs .u8 (encP basis (P ++ partsL r))))]) ∧ (stage L f W' (fun _ => True) [(10, fun _ _ => True), (9, fun f W' => ∃ g, f 9 = .pointer (some ⟨g, 0, none⟩) ∧ w.heap.size + 2 ≤ g ∧ W'.heap[g]? = some (.cells #[.slice none 0 0, .int .i64 0] 26 (0, 0)))])) := ⟨_, rfl⟩
        refine wp_region_st mixed (by kernel_rfl) [[], [], [], [(1, 23), (2, 24)], [(3, 25)], [(0, 22), (4, 26)], [(5, 27)], [(6, 21)], [(6, 21)], [], [(9, 8), (7, 28), (5, 27), (0, 22), (1, 23), (2, 24), (3, 25), (4, 26), (5, 27), (6, 21), (7, 28), (9, 8)], [(8, 29), (0, 22), (1, 23), (2, 24), (3, 25), (4, 26), (5, 27), (6, 21), (7, 28), (8, 29), (9, 8)]] [(0, 22), (1, 23), (2, 24), (3, 25), (4, 26), (5, 27), (6, 21), (7, 28), (8, 29), (9, 8), (11, 9)] rfl rfl [EV ?ey0, EV ?ey1, EV ?ey2, EV ?ey3, EV ?ey4, fun v => ∃ a c, v = .tuple #[.agg #[.slice a nl c, .int .i64 sy], .int .i64 0], fun v => ∃ a c, v = .tuple #[.agg #[.slice a nl c, .int .i64 sy], .int .i64 0], fun v => ∃ a c, v = .agg #[.slice a nl c, .int .i64 sy], EV ?ey8, fun v => ∃ g, v = .pointer (some ⟨g, 0, none⟩), fun _ => True, EV ?ey11] S ?ystart ?ysteps ?yrest
        case ystart =>
          intro f
          rw [hSd]
          exact ⟨hB.drew, hX, hR, ⟨ho, hsz⟩, trivial, trivial⟩
        case ysteps =>
          refine ⟨fun L f W hi hd hdn hh hS => ?_, fun L f W hi hd hdn hh hS => ?_, fun L f W hi hd hdn hh hS => ?_, fun L f W hi hd hdn hh hS => ?_, fun L f W hi hd hdn hh hS => ?_, fun L f W hi hd hdn hh hS => ?_, fun L f W hi hd hdn hh hS => ?_, fun L f W hi hd hdn hh hS => ?_, fun L f W hi hd hdn hh hS => ?_, fun L f W hi hd hdn hh hS => ?_, fun L f W hi hd hdn hh hS => ?_, fun L f W hi hd hdn hh hS => ?_, trivial⟩
          · -- 0: Op.load 26 (Operand.tmp 6)
            unfold stStep
            rw [if_pos (by simp [Region.wanted])]
            intro K Q hK
            simp only [puts, List.foldr_nil]
            have hS' := hS
            rw [hSd] at hS'
            obtain ⟨q0, q1, -, -⟩ := hS'.2.1.cells
            go_step
            refine st_ex hK rfl rfl (by simp only [Act.put, List.setIfInBounds_toArray, List.set_cons_succ, List.set_cons_zero, Array.getD_eq_getD_getElem?, List.getElem?_toArray, List.getElem?_cons_succ, List.getElem?_cons_zero, Option.getD_some] <;> rfl) rfl (by rw [hSd] at hS ⊢; exact hS)
          · -- 1: Op.move (Operand.tmp 0)
            unfold stStep
            rw [if_pos (by simp [Region.wanted])]
            intro K Q hK
            simp only [puts, List.foldr_nil]
            go_step
            refine st_ex hK rfl rfl (by simp only [Act.put, List.setIfInBounds_toArray, List.set_cons_succ, List.set_cons_zero, Array.getD_eq_getD_getElem?, List.getElem?_toArray, List.getElem?_cons_succ, List.getElem?_cons_zero, Option.getD_some] <;> rfl) rfl (by rw [hSd] at hS ⊢; exact hS)
          · -- 2: Op.move (Operand.tmp 7)
            unfold stStep
            rw [if_pos (by simp [Region.wanted])]
            intro K Q hK
            simp only [puts, List.foldr_nil]
            go_step
            refine st_ex hK rfl rfl (by simp only [Act.put, List.setIfInBounds_toArray, List.set_cons_succ, List.set_cons_zero, Array.getD_eq_getD_getElem?, List.getElem?_toArray, List.getElem?_cons_succ, List.getElem?_cons_zero, Option.getD_some] <;> rfl) rfl (by rw [hSd] at hS ⊢; exact hS)
          · -- 3: Op.indexAddr 30 (Operand.tmp 23) (Operand.tmp 24)
            obtain ⟨h1, h2, -⟩ := hh
            have g1 : f 1 = _ := h1
            have g2 : f 2 = _ := h2
            unfold stStep
            rw [if_pos (by simp [Region.wanted])]
            intro K Q hK
            simp only [puts, List.foldr_cons, List.foldr_nil, List.setIfInBounds_toArray, List.set_cons_succ, List.set_cons_zero, g1, g2]
            go_step
            refine st_ex hK rfl rfl (by simp only [Act.put, List.setIfInBounds_toArray, List.set_cons_succ, List.set_cons_zero, Array.getD_eq_getD_getElem?, List.getElem?_toArray, List.getElem?_cons_succ, List.getElem?_cons_zero, Option.getD_some] <;> rfl) rfl (by rw [hSd] at hS ⊢; exact hS)
          · -- 4: Op.load 24 (Operand.tmp 25)
            obtain ⟨h3, -⟩ := hh
            have g3 : f 3 = _ := h3
            unfold stStep
            rw [if_pos (by simp [Region.wanted])]
            intro K Q hK
            simp only [puts, List.foldr_cons, List.foldr_nil, List.setIfInBounds_toArray, List.set_cons_succ, List.set_cons_zero, g3]
            have hS' := hS
            rw [hSd] at hS'
            have hc4 := (hS'.1.cell (p := ⟨b, off + k, none⟩) hbl').trans hcell
            go_step
            refine st_ex hK rfl rfl (by simp only [Act.put, List.setIfInBounds_toArray, List.set_cons_succ, List.set_cons_zero, Array.getD_eq_getD_getElem?, List.getElem?_toArray, List.getElem?_cons_succ, List.getElem?_cons_zero, Option.getD_some] <;> rfl) rfl (by rw [hSd] at hS ⊢; exact hS)
          · -- 5: Op.call { callee := Callee.value (Operand.func 11), args := #[Operand.tmp 22, Operand.tmp 
            obtain ⟨h0, h4, -⟩ := hh
            have g0 : f 0 = _ := h0
            have g4 : f 4 = _ := h4
            have l6 : L 6 = false := Bool.eq_false_iff.2 fun h => by have q := hdn 6 _ h rfl 5 (by decide); rw [show L 5 = false from hi] at q; cases q
            have l7 : L 7 = false := Bool.eq_false_iff.2 fun h => by have q := hdn 7 _ h rfl 6 (by decide); rw [show L 6 = false from l6] at q; cases q
            have l10 : L 10 = false := Bool.eq_false_iff.2 fun h => by have q := hdn 10 _ h rfl 7 (by decide); rw [show L 7 = false from l7] at q; cases q
            unfold stStep
            rw [if_pos (by simp [Region.wanted])]
            intro K Q hK
            simp only [puts, List.foldr_cons, List.foldr_nil, List.setIfInBounds_toArray, List.set_cons_succ, List.set_cons_zero, g0, g4]
            rw [hSd] at hS hK
            have l5 : L 5 = false := hi
            simp only [stage, l6, l7, l10, l5, if_true, if_false, Bool.false_eq_true] at hS
            obtain ⟨hB, hX, hR0, ⟨ho, hsz⟩, hst1, hst2⟩ := hS
            go_step
            go_at_call 11
            refine (append_any _ _ _ _ _ _ _ _ _ _ (IsInts.of_owns ho).1 hPo (hrow.later hB) hrb (by omega) (by omega)).mono ?_
            rintro e w' ⟨⟨a', n', c', rfl, hown', hn'⟩, hb'⟩
            rw [hnl] at hn'
            subst hn'
            refine hK.out _ _ rfl ⟨_, _, rfl⟩ ?_
            refine ⟨hB.trans (hb'.mono hB.size), hX.later hb', hR0.later hb', ⟨ho.kept_below hb', Nat.le_trans hsz hb'.size⟩, ?_, ?_⟩
            · simp only [stage, l6, l7, l10]
              exact ⟨_, _, rfl, hown'.from_mono hsz⟩
            · by_cases h9 : L 9 = true
              · simp only [stage, l10, h9] at hst2 ⊢
                obtain ⟨g, e1, e2, e3⟩ := hst2
                exact ⟨g, e1, e2, (hb'.block g (Array.getElem?_eq_some_iff.1 e3).1).trans e3⟩
              · rw [Bool.not_eq_true] at h9
                simp only [stage, l10, h9]
                trivial
          · -- 6: Op.move (Operand.tmp 27)
            obtain ⟨h5, -⟩ := hh
            obtain ⟨a5, c5, g5⟩ := h5
            have l5 : L 5 = true := hd 5 (by decide)
            have l7 : L 7 = false := Bool.eq_false_iff.2 fun h => by have q := hdn 7 _ h rfl 6 (by decide); rw [show L 6 = false from hi] at q; cases q
            have l10 : L 10 = false := Bool.eq_false_iff.2 fun h => by have q := hdn 10 _ h rfl 7 (by decide); rw [show L 7 = false from l7] at q; cases q
            unfold stStep
            rw [if_pos (by simp [Region.wanted])]
            intro K Q hK
            simp only [puts, List.foldr_cons, List.foldr_nil, List.setIfInBounds_toArray, List.set_cons_succ, List.set_cons_zero, g5]
            rw [hSd] at hS hK
            have l6 : L 6 = false := hi
            simp only [stage, l7, l10, l6, l5, if_true, if_false, Bool.false_eq_true] at hS
            obtain ⟨hB, hX, hR0, ho, hst1, hst2⟩ := hS
            go_step
            refine hK.out _ _ rfl ⟨_, _, rfl⟩ ?_
            refine ⟨hB, hX, hR0, ho, ?_, ?_⟩
            · simp only [stage, l5, l6, l7, l10] at hst1 ⊢
              obtain ⟨a, c, e1, e2⟩ := hst1
              refine ⟨a, c, ?_, e2⟩
              have e5 : f 5 = _ := g5
              rw [e5] at e1
              rw [← e1]
              rfl
            · by_cases h9 : L 9 = true
              · simp only [stage, l10, h9] at hst2 ⊢
                obtain ⟨g, e1, e2, e3⟩ := hst2
                exact ⟨g, e1, e2, e3⟩
              · rw [Bool.not_eq_true] at h9
                simp only [stage, l10, h9]
                trivial
          · -- 7: Op.extract (Operand.tmp 21) 0
            obtain ⟨h6, -⟩ := hh
            obtain ⟨a6, c6, g6⟩ := h6
            have l6 : L 6 = true := hd 6 (by decide)
            have l10 : L 10 = false := Bool.eq_false_iff.2 fun h => by have q := hdn 10 _ h rfl 7 (by decide); rw [show L 7 = false from hi] at q; cases q
            unfold stStep
            rw [if_pos (by simp [Region.wanted])]
            intro K Q hK
            simp only [puts, List.foldr_cons, List.foldr_nil, List.setIfInBounds_toArray, List.set_cons_succ, List.set_cons_zero, g6]
            rw [hSd] at hS hK
            have l7 : L 7 = false := hi
            simp only [stage, l10, l7, l6, if_true, if_false, Bool.false_eq_true] at hS
            obtain ⟨hB, hX, hR0, ho, hst1, hst2⟩ := hS
            go_step
            refine hK.out _ _ rfl ⟨_, _, rfl⟩ ?_
            refine ⟨hB, hX, hR0, ho, ?_, ?_⟩
            · simp only [stage, l6, l7, l10] at hst1 ⊢
              obtain ⟨a, c, e1, e2⟩ := hst1
              refine ⟨a, c, ?_, e2⟩
              have e6 : f 6 = _ := g6
              rw [e6] at e1
              simp only [Value.tuple.injEq, Array.mk.injEq, List.cons.injEq, Value.agg.injEq, Value.slice.injEq, and_true, true_and] at e1
              obtain ⟨rfl, rfl⟩ := e1
              rfl
            · by_cases h9 : L 9 = true
              · simp only [stage, l10, h9] at hst2 ⊢
                obtain ⟨g, e1, e2, e3⟩ := hst2
                exact ⟨g, e1, e2, e3⟩
              · rw [Bool.not_eq_true] at h9
                simp only [stage, l10, h9]
                trivial
          · -- 8: Op.extract (Operand.tmp 21) 1
            obtain ⟨h6, -⟩ := hh
            obtain ⟨a6, c6, g6⟩ := h6
            unfold stStep
            rw [if_pos (by simp [Region.wanted])]
            intro K Q hK
            simp only [puts, List.foldr_cons, List.foldr_nil, List.setIfInBounds_toArray, List.set_cons_succ, List.set_cons_zero, g6]
            go_step
            refine st_ex hK rfl rfl (by simp only [Act.put, List.setIfInBounds_toArray, List.set_cons_succ, List.set_cons_zero, Array.getD_eq_getD_getElem?, List.getElem?_toArray, List.getElem?_cons_succ, List.getElem?_cons_zero, Option.getD_some] <;> rfl) rfl (by rw [hSd] at hS ⊢; exact hS)
          · -- 9: Op.alloc 26
            have l10 : L 10 = false := Bool.eq_false_iff.2 fun h => by have q := hdn 10 _ h rfl 9 (by decide); rw [show L 9 = false from hi] at q; cases q
            unfold stStep
            rw [if_pos (by simp [Region.wanted])]
            intro K Q hK
            simp only [puts, List.foldr_nil]
            rw [hSd] at hS hK
            have l9 : L 9 = false := hi
            simp only [stage, l10, l9, if_true, if_false, Bool.false_eq_true] at hS
            obtain ⟨hB, hX, hR0, ⟨ho, hsz⟩, hst1, hst2⟩ := hS
            go_step
            have hb' : Below W.heap.size W (W.alloc (.cells #[.slice none 0 0, .int .i64 0] 26)) := (Below.refl _ _).alloc (Nat.le_refl _) _
            refine hK.out _ _ rfl ⟨_, rfl⟩ ?_
            refine ⟨hB.trans (hb'.mono hB.size), hX.later hb', hR0.later hb', ⟨ho.kept_below hb', Nat.le_trans hsz hb'.size⟩, ?_, ?_⟩
            · by_cases h7 : L 7 = true
              · simp only [stage, l10, h7] at hst1 ⊢
                obtain ⟨a, c, e1, e2⟩ := hst1
                exact ⟨a, c, e1, e2.kept_below hb'⟩
              · rw [Bool.not_eq_true] at h7
                by_cases h6 : L 6 = true
                · simp only [stage, l10, h7, h6] at hst1 ⊢
                  obtain ⟨a, c, e1, e2⟩ := hst1
                  exact ⟨a, c, e1, e2.kept_below hb'⟩
                · rw [Bool.not_eq_true] at h6
                  by_cases h5 : L 5 = true
                  · simp only [stage, l10, h7, h6, h5] at hst1 ⊢
                    obtain ⟨a, c, e1, e2⟩ := hst1
                    exact ⟨a, c, e1, e2.kept_below hb'⟩
                  · rw [Bool.not_eq_true] at h5
                    simp only [stage, l10, h7, h6, h5]
                    trivial
            · simp only [stage, l10]
              exact ⟨_, rfl, hsz, heap_alloc_new W _⟩
          · -- 10: Op.store 26 (Operand.tmp 8) (Operand.tmp 28)
            obtain ⟨h9, h7, h5, h0, h1, h2, h3, h4, _, h6, _, _, -⟩ := hh
            obtain ⟨q9, g9⟩ := h9
            obtain ⟨a7, c7, g7⟩ := h7
            obtain ⟨a5, c5, g5⟩ := h5
            have g0 : f 0 = _ := h0
            have g1 : f 1 = _ := h1
            have g2 : f 2 = _ := h2
            have g3 : f 3 = _ := h3
            have g4 : f 4 = _ := h4
            obtain ⟨a6, c6, g6⟩ := h6
            have l7 : L 7 = true := hd 7 (by decide)
            have l9 : L 9 = true := hd 9 (by decide)
            unfold stStep
            rw [if_pos (by simp [Region.wanted])]
            intro K Q hK
            simp only [puts, List.foldr_cons, List.foldr_nil, List.setIfInBounds_toArray, List.set_cons_succ, List.set_cons_zero, g9, g7, g5, g0, g1, g2, g3, g4, g6]
            rw [hSd] at hS hK
            have l10 : L 10 = false := hi
            simp only [stage, l10, l7, l9, if_true, if_false, Bool.false_eq_true] at hS
            obtain ⟨hB, hX, hR0, ⟨ho, hsz⟩, hst1, hst2⟩ := hS
            obtain ⟨a, c, e1, e2⟩ := hst1
            obtain ⟨g, e3, e4, e5⟩ := hst2
            have e7 : f 7 = _ := g7
            have e9 : f 9 = _ := g9
            rw [e7] at e1
            rw [e9] at e3
            simp only [Value.agg.injEq, Array.mk.injEq, List.cons.injEq, Value.slice.injEq, and_true, true_and] at e1
            obtain ⟨rfl, rfl⟩ := e1
            simp only [Value.pointer.injEq, Option.some.injEq, Addr.mk.injEq, and_true] at e3
            subst e3
            have e5b : Box2 W q9 (.slice none 0 0) (.int .i64 0) := ⟨_, e5⟩
            obtain ⟨q0, q1, q2, q3⟩ := e5b.cells
            go_step
            refine hK.out _ _ rfl trivial ?_
            have k1 := owns_set2 ho e5 (by decide) (.slice a7 nl c7) (.int .i64 sy)
            have k2 := owns_set2 e2 e5 (by decide) (.slice a7 nl c7) (.int .i64 sy)
            refine ⟨(hB.setCell (p := ⟨q9, 0, none⟩) (by show _ ≤ q9; omega) _).setCell (p := ⟨q9, 1, none⟩) (by show _ ≤ q9; omega) _, (hX.other _ (by show _ ≠ q9; omega) _).other _ (by show _ ≠ q9; omega) _, (hR0.other _ (by show _ ≠ q9; omega) _).other _ (by show _ ≠ q9; omega) _, ⟨k1, by rw [World.size_setCell, World.size_setCell]; exact hsz⟩, ?_, trivial⟩
            show ∃ a c g', f 9 = .pointer (some ⟨g', 0, none⟩) ∧ w.heap.size + 2 ≤ g' ∧ Box2 _ g' (.slice a nl c) (.int .i64 sy) ∧ World.ownsRow _ (w.heap.size + 2) _ _ (.slice a nl c) nl _
            exact ⟨_, _, q9, e9, e4, e5b.store _ _, k2⟩
          · -- 11: Op.assign (Operand.tmp 29)
            obtain ⟨h8, h0, h1, h2, h3, h4, h5, h6, h7, _, h9, -⟩ := hh
            have g8 : f 8 = _ := h8
            have g0 : f 0 = _ := h0
            have g1 : f 1 = _ := h1
            have g2 : f 2 = _ := h2
            have g3 : f 3 = _ := h3
            have g4 : f 4 = _ := h4
            obtain ⟨a5, c5, g5⟩ := h5
            obtain ⟨a6, c6, g6⟩ := h6
            obtain ⟨a7, c7, g7⟩ := h7
            obtain ⟨q9, g9⟩ := h9
            unfold stStep
            rw [if_pos (by simp [Region.wanted])]
            intro K Q hK
            simp only [puts, List.foldr_cons, List.foldr_nil, List.setIfInBounds_toArray, List.set_cons_succ, List.set_cons_zero, g8, g0, g1, g2, g3, g4, g5, g6, g7, g9]
            go_step
            refine st_ex hK rfl rfl (by simp only [Act.put, List.setIfInBounds_toArray, List.set_cons_succ, List.set_cons_zero, Array.getD_eq_getD_getElem?, List.getElem?_toArray, List.getElem?_cons_succ, List.getElem?_cons_zero, Option.getD_some] <;> rfl) rfl (by rw [hSd] at hS ⊢; exact hS)
        case yrest =>
          intro L f W2 hL hh hS
          rw [hSd] at hS
          clear hSd
          have l10 : L 10 = true := hL 10 (by decide)
          simp only [stage, l10, if_true] at hS
          clear hL l10
          obtain ⟨h0, h1, h2, h3, h4, h5, h6, h7, h8, h9, h11, -⟩ := hh
          have g0 : f 0 = _ := h0
          have g1 : f 1 = _ := h1
          have g2 : f 2 = _ := h2
          have g3 : f 3 = _ := h3
          have g4 : f 4 = _ := h4
          obtain ⟨a5, c5, g5⟩ := h5
          obtain ⟨a6, c6, g6⟩ := h6
          obtain ⟨a7, c7, g7⟩ := h7
          have g8 : f 8 = _ := h8
          obtain ⟨q9, g9⟩ := h9
          have g11 : f 11 = _ := h11
          simp only [puts, List.foldr_cons, List.foldr_nil, List.setIfInBounds_toArray, List.set_cons_succ, List.set_cons_zero, g0, g1, g2, g3, g4, g5, g6, g7, g8, g9, g11]
          clear h0 h1 h2 h3 h4 h8 h11 g0 g1 g2 g3 g4 g8 g11
          obtain ⟨hB, hX, hR0, ⟨ho, hsz⟩, hst1, hst2⟩ := hS
          obtain ⟨a2, c2, g, e3, e4, hG, hrow2⟩ := hst1
          have e9 : f 9 = _ := g9
          rw [e3] at e9
          simp only [Value.pointer.injEq, Option.some.injEq, Addr.mk.injEq, and_true] at e9
          subst e9
          obtain ⟨z0, z1, -, -⟩ := hG.cells
          obtain ⟨v0, v1, v2, v3⟩ := hX.cells
          go_wp2
          have hX2 := hX.store (.slice a2 nl c2) (.int .i64 sy)
          have hsub : (if k < k + 1 then ((32 * (allP (rs.take k)).length : Nat) : Int) else 0) = sy := by rw [if_pos (Nat.lt_succ_self k), hfl]; exact hsy'
          have hnl2 : 32 * (allP (rs.take (k + 1))).length = nl := by rw [HPn.out, List.length_append, partsL_length, hlr, ← hnl, ← hfl, hP]; omega
          go_roundw
          case rel => exact ⟨k + 1, a2, c2, hlt, by go_num, (hB.setCell (p := ⟨w.heap.size + 1, 0, none⟩) (Nat.le_succ _) _).setCell (p := ⟨w.heap.size + 1, 1, none⟩) (Nat.le_succ _) _, (hR0.other _ (by show _ ≠ w.heap.size + 1; omega) _).other _ (by show _ ≠ w.heap.size + 1; omega) _, by rw [World.size_setCell, World.size_setCell]; exact hsz, by rw [hsub, hnl2]; exact hX2, by rw [hnl2, HPn.out]; exact ownsRow_setCell_below (ownsRow_setCell_below hrow2 (by show w.heap.size + 1 < _; omega) _) (by show w.heap.size + 1 < _; omega) _⟩
          case measure => simp [intOf]; omega
      · have dsk : ((k : Int) == (synced : Int)) = false := by simp; omega
        obtain ⟨sy, hsy'⟩ : ∃ sy : Int, (if synced < k then ((32 * (allP (rs.take synced)).length : Nat) : Int) else 0) = sy := ⟨_, rfl⟩
        rw [hsy'] at hX q1
        obtain ⟨nl, hnl⟩ : ∃ nl, fl + 32 * cellsN lr = nl := ⟨_, rfl⟩
        go_wp2
        obtain ⟨S, hSd⟩ : ∃ S : (Nat → Bool) → (Nat → Value) → World → Prop, S = fun L f W' => (Below w.heap.size w W' ∧ Box2 W' (w.heap.size + 1) (.slice fa fl fc) (.int .i64 sy) ∧ Box2 W' w.heap.size (.slice none 0 0) (.int .i64 0) ∧ (W'.ownsRow (w.heap.size + 2) 5 1 (.slice fa fl fc) fl (ivs .u8 (encP basis P)) ∧ w.heap.size + 2 ≤ W'.heap.size) ∧ (stage L f W' (fun _ => True) [(10, fun f W' => ∃ a c g, f 9 = .pointer (some ⟨g, 0, none⟩) ∧ w.heap.size + 2 ≤ g ∧ Box2 W' g (.slice a nl c) (.int .i64 sy) ∧ W'.ownsRow (w.heap.size + 2) 5 1 (.slice a nl c) nl (ivs .u8 (encP basis (P ++ partsL r)))), (7, fun f W' => ∃ a c, f 7 = .agg #[.slice a nl c, .int .i64 sy] ∧ W'.ownsRow (w.heap.size + 2) 5 1 (.slice a nl c) nl (ivs .u8 (encP basis (P ++ partsL r)))), (6, fun f W' => ∃ a c, f 6 = .tuple #[.agg #[.slice a nl c, .int .i64 sy], .int .i64 0] ∧ W'.ownsRow (w.heap.size + 2) 5 1 (.slice a nl c) nl (ivs .u8 (encP basis (P ++ partsL r)))), (5, fun f W' => ∃ a c, f 5 = .tuple #[.agg #[.slice a nl c, .int .i64 sy], .int .i64 0] ∧ W'.ownsRow (w.heap.size + 2) 5 1 (.slice a nl c) nl (ivs .u8 (encP basis (P ++ partsL r))))]) ∧ (stage L f W' (fun _ => True) [(10, fun _ _ => True), (9, fun f W' => ∃ g, f 9 = .pointer (some ⟨g, 0, none⟩) ∧ w.heap.size + 2 ≤ g ∧ W'.heap[g]? = some (.cells #[.slice none 0 0, .int .i64 0] 26 (0, 0)))])) := ⟨_, rfl⟩
        refine wp_region_st mixed (by kernel_rfl) [[], [], [], [(1, 23), (2, 24)], [(3, 25)], [(0, 22), (4, 26)], [(5, 27)], [(6, 21)], [(6, 21)], [], [(9, 8), (7, 28), (5, 27), (0, 22), (1, 23), (2, 24), (3, 25), (4, 26), (5, 27), (6, 21), (7, 28), (9, 8)], [(8, 29), (0, 22), (1, 23), (2, 24), (3, 25), (4, 26), (5, 27), (6, 21), (7, 28), (8, 29), (9, 8)]] [(0, 22), (1, 23), (2, 24), (3, 25), (4, 26), (5, 27), (6, 21), (7, 28), (8, 29), (9, 8), (11, 9)] rfl rfl [EV ?e0, EV ?e1, EV ?e2, EV ?e3, EV ?e4, fun v => ∃ a c, v = .tuple #[.agg #[.slice a nl c, .int .i64 sy], .int .i64 0], fun v => ∃ a c, v = .tuple #[.agg #[.slice a nl c, .int .i64 sy], .int .i64 0], fun v => ∃ a c, v = .agg #[.slice a nl c, .int .i64 sy], EV ?e8, fun v => ∃ g, v = .pointer (some ⟨g, 0, none⟩), fun _ => True, EV ?e11] S ?start ?steps ?rest
        case start =>
          intro f
          rw [hSd]
          exact ⟨hB.drew, hX, hR, ⟨ho, hsz⟩, trivial, trivial⟩
        case steps =>
          refine ⟨fun L f W hi hd hdn hh hS => ?_, fun L f W hi hd hdn hh hS => ?_, fun L f W hi hd hdn hh hS => ?_, fun L f W hi hd hdn hh hS => ?_, fun L f W hi hd hdn hh hS => ?_, fun L f W hi hd hdn hh hS => ?_, fun L f W hi hd hdn hh hS => ?_, fun L f W hi hd hdn hh hS => ?_, fun L f W hi hd hdn hh hS => ?_, fun L f W hi hd hdn hh hS => ?_, fun L f W hi hd hdn hh hS => ?_, fun L f W hi hd hdn hh hS => ?_, trivial⟩
          · -- 0: Op.load 26 (Operand.tmp 6)
            unfold stStep
            rw [if_pos (by simp [Region.wanted])]
            intro K Q hK
            simp only [puts, List.foldr_nil]
            have hS' := hS
            rw [hSd] at hS'
            obtain ⟨q0, q1, -, -⟩ := hS'.2.1.cells
            go_step
            refine st_ex hK rfl rfl (by simp only [Act.put, List.setIfInBounds_toArray, List.set_cons_succ, List.set_cons_zero, Array.getD_eq_getD_getElem?, List.getElem?_toArray, List.getElem?_cons_succ, List.getElem?_cons_zero, Option.getD_some] <;> rfl) rfl (by rw [hSd] at hS ⊢; exact hS)
          · -- 1: Op.move (Operand.tmp 0)
            unfold stStep
            rw [if_pos (by simp [Region.wanted])]
            intro K Q hK
            simp only [puts, List.foldr_nil]
            go_step
            refine st_ex hK rfl rfl (by simp only [Act.put, List.setIfInBounds_toArray, List.set_cons_succ, List.set_cons_zero, Array.getD_eq_getD_getElem?, List.getElem?_toArray, List.getElem?_cons_succ, List.getElem?_cons_zero, Option.getD_some] <;> rfl) rfl (by rw [hSd] at hS ⊢; exact hS)
          · -- 2: Op.move (Operand.tmp 7)
            unfold stStep
            rw [if_pos (by simp [Region.wanted])]
            intro K Q hK
            simp only [puts, List.foldr_nil]
            go_step
            refine st_ex hK rfl rfl (by simp only [Act.put, List.setIfInBounds_toArray, List.set_cons_succ, List.set_cons_zero, Array.getD_eq_getD_getElem?, List.getElem?_toArray, List.getElem?_cons_succ, List.getElem?_cons_zero, Option.getD_some] <;> rfl) rfl (by rw [hSd] at hS ⊢; exact hS)
          · -- 3: Op.indexAddr 30 (Operand.tmp 23) (Operand.tmp 24)
            obtain ⟨h1, h2, -⟩ := hh
            have g1 : f 1 = _ := h1
            have g2 : f 2 = _ := h2
            unfold stStep
            rw [if_pos (by simp [Region.wanted])]
            intro K Q hK
            simp only [puts, List.foldr_cons, List.foldr_nil, List.setIfInBounds_toArray, List.set_cons_succ, List.set_cons_zero, g1, g2]
            go_step
            refine st_ex hK rfl rfl (by simp only [Act.put, List.setIfInBounds_toArray, List.set_cons_succ, List.set_cons_zero, Array.getD_eq_getD_getElem?, List.getElem?_toArray, List.getElem?_cons_succ, List.getElem?_cons_zero, Option.getD_some] <;> rfl) rfl (by rw [hSd] at hS ⊢; exact hS)
          · -- 4: Op.load 24 (Operand.tmp 25)
            obtain ⟨h3, -⟩ := hh
            have g3 : f 3 = _ := h3
            unfold stStep
            rw [if_pos (by simp [Region.wanted])]
            intro K Q hK
            simp only [puts, List.foldr_cons, List.foldr_nil, List.setIfInBounds_toArray, List.set_cons_succ, List.set_cons_zero, g3]
            have hS' := hS
            rw [hSd] at hS'
            have hc4 := (hS'.1.cell (p := ⟨b, off + k, none⟩) hbl').trans hcell
            go_step
            refine st_ex hK rfl rfl (by simp only [Act.put, List.setIfInBounds_toArray, List.set_cons_succ, List.set_cons_zero, Array.getD_eq_getD_getElem?, List.getElem?_toArray, List.getElem?_cons_succ, List.getElem?_cons_zero, Option.getD_some] <;> rfl) rfl (by rw [hSd] at hS ⊢; exact hS)
          · -- 5: Op.call { callee := Callee.value (Operand.func 11), args := #[Operand.tmp 22, Operand.tmp 
            obtain ⟨h0, h4, -⟩ := hh
            have g0 : f 0 = _ := h0
            have g4 : f 4 = _ := h4
            have l6 : L 6 = false := Bool.eq_false_iff.2 fun h => by have q := hdn 6 _ h rfl 5 (by decide); rw [show L 5 = false from hi] at q; cases q
            have l7 : L 7 = false := Bool.eq_false_iff.2 fun h => by have q := hdn 7 _ h rfl 6 (by decide); rw [show L 6 = false from l6] at q; cases q
            have l10 : L 10 = false := Bool.eq_false_iff.2 fun h => by have q := hdn 10 _ h rfl 7 (by decide); rw [show L 7 = false from l7] at q; cases q
            unfold stStep
            rw [if_pos (by simp [Region.wanted])]
            intro K Q hK
            simp only [puts, List.foldr_cons, List.foldr_nil, List.setIfInBounds_toArray, List.set_cons_succ, List.set_cons_zero, g0, g4]
            rw [hSd] at hS hK
            have l5 : L 5 = false := hi
            simp only [stage, l6, l7, l10, l5, if_true, if_false, Bool.false_eq_true] at hS
            obtain ⟨hB, hX, hR0, ⟨ho, hsz⟩, hst1, hst2⟩ := hS
            go_step
            go_at_call 11
            refine (append_any _ _ _ _ _ _ _ _ _ _ (IsInts.of_owns ho).1 hPo (hrow.later hB) hrb (by omega) (by omega)).mono ?_
            rintro e w' ⟨⟨a', n', c', rfl, hown', hn'⟩, hb'⟩
            rw [hnl] at hn'
            subst hn'
            refine hK.out _ _ rfl ⟨_, _, rfl⟩ ?_
            refine ⟨hB.trans (hb'.mono hB.size), hX.later hb', hR0.later hb', ⟨ho.kept_below hb', Nat.le_trans hsz hb'.size⟩, ?_, ?_⟩
            · simp only [stage, l6, l7, l10]
              exact ⟨_, _, rfl, hown'.from_mono hsz⟩
            · by_cases h9 : L 9 = true
              · simp only [stage, l10, h9] at hst2 ⊢
                obtain ⟨g, e1, e2, e3⟩ := hst2
                exact ⟨g, e1, e2, (hb'.block g (Array.getElem?_eq_some_iff.1 e3).1).trans e3⟩
              · rw [Bool.not_eq_true] at h9
                simp only [stage, l10, h9]
                trivial
          · -- 6: Op.move (Operand.tmp 27)
            obtain ⟨h5, -⟩ := hh
            obtain ⟨a5, c5, g5⟩ := h5
            have l5 : L 5 = true := hd 5 (by decide)
            have l7 : L 7 = false := Bool.eq_false_iff.2 fun h => by have q := hdn 7 _ h rfl 6 (by decide); rw [show L 6 = false from hi] at q; cases q
            have l10 : L 10 = false := Bool.eq_false_iff.2 fun h => by have q := hdn 10 _ h rfl 7 (by decide); rw [show L 7 = false from l7] at q; cases q
            unfold stStep
            rw [if_pos (by simp [Region.wanted])]
            intro K Q hK
            simp only [puts, List.foldr_cons, List.foldr_nil, List.setIfInBounds_toArray, List.set_cons_succ, List.set_cons_zero, g5]
            rw [hSd] at hS hK
            have l6 : L 6 = false := hi
            simp only [stage, l7, l10, l6, l5, if_true, if_false, Bool.false_eq_true] at hS
            obtain ⟨hB, hX, hR0, ho, hst1, hst2⟩ := hS
            go_step
            refine hK.out _ _ rfl ⟨_, _, rfl⟩ ?_
            refine ⟨hB, hX, hR0, ho, ?_, ?_⟩
            · simp only [stage, l5, l6, l7, l10] at hst1 ⊢
              obtain ⟨a, c, e1, e2⟩ := hst1
              refine ⟨a, c, ?_, e2⟩
              have e5 : f 5 = _ := g5
              rw [e5] at e1
              rw [← e1]
              rfl
            · by_cases h9 : L 9 = true
              · simp only [stage, l10, h9] at hst2 ⊢
                obtain ⟨g, e1, e2, e3⟩ := hst2
                exact ⟨g, e1, e2, e3⟩
              · rw [Bool.not_eq_true] at h9
                simp only [stage, l10, h9]
                trivial
          · -- 7: Op.extract (Operand.tmp 21) 0
            obtain ⟨h6, -⟩ := hh
            obtain ⟨a6, c6, g6⟩ := h6
            have l6 : L 6 = true := hd 6 (by decide)
            have l10 : L 10 = false := Bool.eq_false_iff.2 fun h => by have q := hdn 10 _ h rfl 7 (by decide); rw [show L 7 = false from hi] at q; cases q
            unfold stStep
            rw [if_pos (by simp [Region.wanted])]
            intro K Q hK
            simp only [puts, List.foldr_cons, List.foldr_nil, List.setIfInBounds_toArray, List.set_cons_succ, List.set_cons_zero, g6]
            rw [hSd] at hS hK
            have l7 : L 7 = false := hi
            simp only [stage, l10, l7, l6, if_true, if_false, Bool.false_eq_true] at hS
            obtain ⟨hB, hX, hR0, ho, hst1, hst2⟩ := hS
            go_step
            refine hK.out _ _ rfl ⟨_, _, rfl⟩ ?_
            refine ⟨hB, hX, hR0, ho, ?_, ?_⟩
            · simp only [stage, l6, l7, l10] at hst1 ⊢
              obtain ⟨a, c, e1, e2⟩ := hst1
              refine ⟨a, c, ?_, e2⟩
              have e6 : f 6 = _ := g6
              rw [e6] at e1
              simp only [Value.tuple.injEq, Array.mk.injEq, List.cons.injEq, Value.agg.injEq, Value.slice.injEq, and_true, true_and] at e1
              obtain ⟨rfl, rfl⟩ := e1
              rfl
            · by_cases h9 : L 9 = true
              · simp only [stage, l10, h9] at hst2 ⊢
                obtain ⟨g, e1, e2, e3⟩ := hst2
                exact ⟨g, e1, e2, e3⟩
              · rw [Bool.not_eq_true] at h9
                simp only [stage, l10, h9]
                trivial
          · -- 8: Op.extract (Operand.tmp 21) 1
            obtain ⟨h6, -⟩ := hh
            obtain ⟨a6, c6, g6⟩ := h6
            unfold stStep
            rw [if_pos (by simp [Region.wanted])]
            intro K Q hK
            simp only [puts, List.foldr_cons, List.foldr_nil, List.setIfInBounds_toArray, List.set_cons_succ, List.set_cons_zero, g6]
            go_step
            refine st_ex hK rfl rfl (by simp only [Act.put, List.setIfInBounds_toArray, List.set_cons_succ, List.set_cons_zero, Array.getD_eq_getD_getElem?, List.getElem?_toArray, List.getElem?_cons_succ, List.getElem?_cons_zero, Option.getD_some] <;> rfl) rfl (by rw [hSd] at hS ⊢; exact hS)
          · -- 9: Op.alloc 26
            have l10 : L 10 = false := Bool.eq_false_iff.2 fun h => by have q := hdn 10 _ h rfl 9 (by decide); rw [show L 9 = false from hi] at q; cases q
            unfold stStep
            rw [if_pos (by simp [Region.wanted])]
            intro K Q hK
            simp only [puts, List.foldr_nil]
            rw [hSd] at hS hK
            have l9 : L 9 = false := hi
            simp only [stage, l10, l9, if_true, if_false, Bool.false_eq_true] at hS
            obtain ⟨hB, hX, hR0, ⟨ho, hsz⟩, hst1, hst2⟩ := hS
            go_step
            have hb' : Below W.heap.size W (W.alloc (.cells #[.slice none 0 0, .int .i64 0] 26)) := (Below.refl _ _).alloc (Nat.le_refl _) _
            refine hK.out _ _ rfl ⟨_, rfl⟩ ?_
            refine ⟨hB.trans (hb'.mono hB.size), hX.later hb', hR0.later hb', ⟨ho.kept_below hb', Nat.le_trans hsz hb'.size⟩, ?_, ?_⟩
            · by_cases h7 : L 7 = true
              · simp only [stage, l10, h7] at hst1 ⊢
                obtain ⟨a, c, e1, e2⟩ := hst1
                exact ⟨a, c, e1, e2.kept_below hb'⟩
              · rw [Bool.not_eq_true] at h7
                by_cases h6 : L 6 = true
                · simp only [stage, l10, h7, h6] at hst1 ⊢
                  obtain ⟨a, c, e1, e2⟩ := hst1
                  exact ⟨a, c, e1, e2.kept_below hb'⟩
                · rw [Bool.not_eq_true] at h6
                  by_cases h5 : L 5 = true
                  · simp only [stage, l10, h7, h6, h5] at hst1 ⊢
                    obtain ⟨a, c, e1, e2⟩ := hst1
                    exact ⟨a, c, e1, e2.kept_below hb'⟩
                  · rw [Bool.not_eq_true] at h5
                    simp only [stage, l10, h7, h6, h5]
                    trivial
            · simp only [stage, l10]
              exact ⟨_, rfl, hsz, heap_alloc_new W _⟩
          · -- 10: Op.store 26 (Operand.tmp 8) (Operand.tmp 28)
            obtain ⟨h9, h7, h5, h0, h1, h2, h3, h4, _, h6, _, _, -⟩ := hh
            obtain ⟨q9, g9⟩ := h9
            obtain ⟨a7, c7, g7⟩ := h7
            obtain ⟨a5, c5, g5⟩ := h5
            have g0 : f 0 = _ := h0
            have g1 : f 1 = _ := h1
            have g2 : f 2 = _ := h2
            have g3 : f 3 = _ := h3
            have g4 : f 4 = _ := h4
            obtain ⟨a6, c6, g6⟩ := h6
            have l7 : L 7 = true := hd 7 (by decide)
            have l9 : L 9 = true := hd 9 (by decide)
            unfold stStep
            rw [if_pos (by simp [Region.wanted])]
            intro K Q hK
            simp only [puts, List.foldr_cons, List.foldr_nil, List.setIfInBounds_toArray, List.set_cons_succ, List.set_cons_zero, g9, g7, g5, g0, g1, g2, g3, g4, g6]
            rw [hSd] at hS hK
            have l10 : L 10 = false := hi
            simp only [stage, l10, l7, l9, if_true, if_false, Bool.false_eq_true] at hS
            obtain ⟨hB, hX, hR0, ⟨ho, hsz⟩, hst1, hst2⟩ := hS
            obtain ⟨a, c, e1, e2⟩ := hst1
            obtain ⟨g, e3, e4, e5⟩ := hst2
            have e7 : f 7 = _ := g7
            have e9 : f 9 = _ := g9
            rw [e7] at e1
            rw [e9] at e3
            simp only [Value.agg.injEq, Array.mk.injEq, List.cons.injEq, Value.slice.injEq, and_true, true_and] at e1
            obtain ⟨rfl, rfl⟩ := e1
            simp only [Value.pointer.injEq, Option.some.injEq, Addr.mk.injEq, and_true] at e3
            subst e3
            have e5b : Box2 W q9 (.slice none 0 0) (.int .i64 0) := ⟨_, e5⟩
            obtain ⟨q0, q1, q2, q3⟩ := e5b.cells
            go_step
            refine hK.out _ _ rfl trivial ?_
            have k1 := owns_set2 ho e5 (by decide) (.slice a7 nl c7) (.int .i64 sy)
            have k2 := owns_set2 e2 e5 (by decide) (.slice a7 nl c7) (.int .i64 sy)
            refine ⟨(hB.setCell (p := ⟨q9, 0, none⟩) (by show _ ≤ q9; omega) _).setCell (p := ⟨q9, 1, none⟩) (by show _ ≤ q9; omega) _, (hX.other _ (by show _ ≠ q9; omega) _).other _ (by show _ ≠ q9; omega) _, (hR0.other _ (by show _ ≠ q9; omega) _).other _ (by show _ ≠ q9; omega) _, ⟨k1, by rw [World.size_setCell, World.size_setCell]; exact hsz⟩, ?_, trivial⟩
            show ∃ a c g', f 9 = .pointer (some ⟨g', 0, none⟩) ∧ w.heap.size + 2 ≤ g' ∧ Box2 _ g' (.slice a nl c) (.int .i64 sy) ∧ World.ownsRow _ (w.heap.size + 2) _ _ (.slice a nl c) nl _
            exact ⟨_, _, q9, e9, e4, e5b.store _ _, k2⟩
          · -- 11: Op.assign (Operand.tmp 29)
            obtain ⟨h8, h0, h1, h2, h3, h4, h5, h6, h7, _, h9, -⟩ := hh
            have g8 : f 8 = _ := h8
            have g0 : f 0 = _ := h0
            have g1 : f 1 = _ := h1
            have g2 : f 2 = _ := h2
            have g3 : f 3 = _ := h3
            have g4 : f 4 = _ := h4
            obtain ⟨a5, c5, g5⟩ := h5
            obtain ⟨a6, c6, g6⟩ := h6
            obtain ⟨a7, c7, g7⟩ := h7
            obtain ⟨q9, g9⟩ := h9
            unfold stStep
            rw [if_pos (by simp [Region.wanted])]
            intro K Q hK
            simp only [puts, List.foldr_cons, List.foldr_nil, List.setIfInBounds_toArray, List.set_cons_succ, List.set_cons_zero, g8, g0, g1, g2, g3, g4, g5, g6, g7, g9]
            go_step
            refine st_ex hK rfl rfl (by simp only [Act.put, List.setIfInBounds_toArray, List.set_cons_succ, List.set_cons_zero, Array.getD_eq_getD_getElem?, List.getElem?_toArray, List.getElem?_cons_succ, List.getElem?_cons_zero, Option.getD_some] <;> rfl) rfl (by rw [hSd] at hS ⊢; exact hS)
        case rest =>
          intro L f W2 hL hh hS
          rw [hSd] at hS
          clear hSd
          have l10 : L 10 = true := hL 10 (by decide)
          simp only [stage, l10, if_true] at hS
          clear hL l10
          obtain ⟨h0, h1, h2, h3, h4, h5, h6, h7, h8, h9, h11, -⟩ := hh
          have g0 : f 0 = _ := h0
          have g1 : f 1 = _ := h1
          have g2 : f 2 = _ := h2
          have g3 : f 3 = _ := h3
          have g4 : f 4 = _ := h4
          obtain ⟨a5, c5, g5⟩ := h5
          obtain ⟨a6, c6, g6⟩ := h6
          obtain ⟨a7, c7, g7⟩ := h7
          have g8 : f 8 = _ := h8
          obtain ⟨q9, g9⟩ := h9
          have g11 : f 11 = _ := h11
          simp only [puts, List.foldr_cons, List.foldr_nil, List.setIfInBounds_toArray, List.set_cons_succ, List.set_cons_zero, g0, g1, g2, g3, g4, g5, g6, g7, g8, g9, g11]
          clear h0 h1 h2 h3 h4 h8 h11 g0 g1 g2 g3 g4 g8 g11
          obtain ⟨hB, hX, hR0, ⟨ho, hsz⟩, hst1, hst2⟩ := hS
          obtain ⟨a2, c2, g, e3, e4, hG, hrow2⟩ := hst1
          have e9 : f 9 = _ := g9
          rw [e3] at e9
          simp only [Value.pointer.injEq, Option.some.injEq, Addr.mk.injEq, and_true] at e9
          subst e9
          obtain ⟨z0, z1, -, -⟩ := hG.cells
          obtain ⟨v0, v1, v2, v3⟩ := hX.cells
          go_wp2
          have hX2 := hX.store (.slice a2 nl c2) (.int .i64 sy)
          have hsub : (if synced < k + 1 then ((32 * (allP (rs.take synced)).length : Nat) : Int) else 0) = sy := by rw [← hsy']; split <;> split <;> first | rfl | omega
          have hnl2 : 32 * (allP (rs.take (k + 1))).length = nl := by rw [HPn.out, List.length_append, partsL_length, hlr, ← hnl, ← hfl, hP]; omega
          go_roundw
          case rel => exact ⟨k + 1, a2, c2, hlt, by go_num, (hB.setCell (p := ⟨w.heap.size + 1, 0, none⟩) (Nat.le_succ _) _).setCell (p := ⟨w.heap.size + 1, 1, none⟩) (Nat.le_succ _) _, (hR0.other _ (by show _ ≠ w.heap.size + 1; omega) _).other _ (by show _ ≠ w.heap.size + 1; omega) _, by rw [World.size_setCell, World.size_setCell]; exact hsz, by rw [hsub, hnl2]; exact hX2, by rw [hnl2, HPn.out]; exact ownsRow_setCell_below (ownsRow_setCell_below hrow2 (by show w.heap.size + 1 < _; omega) _) (by show w.heap.size + 1 < _; omega) _⟩
          case measure => simp [intOf]; omega
    · obtain rfl : k = len := by omega
      have hall : rs.take k = rs := List.take_of_length_le (by rw [HL.out]; exact Nat.le_refl _)
      rw [hall] at hfl hP
      have dlt : decide ((k : Int) < k) = false := decide_eq_false (by omega)
      by_cases hsk : k ≤ synced
      · have dsk : decide ((k : Int) ≤ synced) = true := decide_eq_true (by omega)
        rw [if_neg (by omega)] at hX q1
        have hsub : rs.take synced = rs := List.take_of_length_le (by rw [HL.out]; exact hsk)
        go_wp2_with (fail)
        go_at_call 31
        refine (Sync_any _ _ _ _ _ _ (IsInts.of_owns ho).1 (by omega)).mono ?_
        rintro e wr2 ⟨⟨fa2, fc2, rfl, ho2⟩, hb2⟩
        obtain ⟨p0, p1, p2, p3⟩ := (hX.later hb2).cells
        obtain ⟨r0, r1, r2, r3⟩ := (hR.later hb2).cells
        go_wp2
        have hX2 := (hX.later hb2).store (.slice fa2 fl fc2) (.int .i64 (fl : Int))
        have hR2 := ((hR.later hb2).other (⟨w.heap.size + 1, 0, none⟩) (by show w.heap.size ≠ w.heap.size + 1; omega) (.slice fa2 fl fc2)).other (⟨w.heap.size + 1, 1, none⟩) (by show w.heap.size ≠ w.heap.size + 1; omega) (.int .i64 (fl : Int))
        have hfin := hR2.store (.slice fa2 fl fc2) (.int .i64 (fl : Int))
        have hown := ownsRow_setCell_below (ownsRow_setCell_below (ownsRow_setCell_below (ownsRow_setCell_below (ho2.from_mono hsz) (a := ⟨w.heap.size + 1, 0, none⟩) (by show w.heap.size + 1 < _; omega) (.slice fa2 fl fc2)) (a := ⟨w.heap.size + 1, 1, none⟩) (by show w.heap.size + 1 < _; omega) (.int .i64 (fl : Int))) (a := ⟨w.heap.size, 0, none⟩) (by show w.heap.size < _; omega) (.slice fa2 fl fc2)) (a := ⟨w.heap.size, 1, none⟩) (by show w.heap.size < _; omega) (.int .i64 (fl : Int))
        have hB2 := ((((hB.trans (hb2.mono hB.size)).setCell (p := ⟨w.heap.size + 1, 0, none⟩) (Nat.le_succ _) (.slice fa2 fl fc2)).setCell (p := ⟨w.heap.size + 1, 1, none⟩) (Nat.le_succ _) (.int .i64 (fl : Int))).setCell (p := ⟨w.heap.size, 0, none⟩) (Nat.le_refl _) (.slice fa2 fl fc2)).setCell (p := ⟨w.heap.size, 1, none⟩) (Nat.le_refl _) (.int .i64 (fl : Int))
        exact bodyPost_ret (res_log_tmp rfl rfl rfl hfin) rfl ⟨⟨fa2, fl, fc2, by rw [hsub, hfl]; rfl, hfl.symm, by rw [hP]; exact hown.from_mono (by omega)⟩, hB2⟩
      · have dsk : decide ((k : Int) ≤ synced) = false := decide_eq_false (by omega)
        rw [if_pos (by omega)] at hX q1
        obtain ⟨r0, r1, r2, r3⟩ := hR.cells
        go_wp2
        have hfin := hR.store (.slice fa fl fc) (.int .i64 ((32 * (allP (rs.take synced)).length : Nat) : Int))
        have hown := ownsRow_setCell_below (ownsRow_setCell_below ho (a := ⟨w.heap.size, 0, none⟩) (by show w.heap.size < _; omega) (.slice fa fl fc)) (a := ⟨w.heap.size, 1, none⟩) (by show w.heap.size < _; omega) (.int .i64 ((32 * (allP (rs.take synced)).length : Nat) : Int))
        have hB2 := (hB.setCell (p := ⟨w.heap.size, 0, none⟩) (Nat.le_refl _) (.slice fa fl fc)).setCell (p := ⟨w.heap.size, 1, none⟩) (Nat.le_refl _) (.int .i64 ((32 * (allP (rs.take synced)).length : Nat) : Int))
        exact bodyPost_ret (res_log_tmp rfl rfl rfl hfin) rfl ⟨⟨fa, fl, fc, rfl, hfl.symm, by rw [hP]; exact hown.from_mono (by omega)⟩, hB2⟩
end Go.Proofs.Ytpmhnmkpmkeadaa
