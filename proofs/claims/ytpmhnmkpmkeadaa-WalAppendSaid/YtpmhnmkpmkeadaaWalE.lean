/-
  The walks of Read, Open, Valid, Sync, Crash, Cells, Few, SameAll; bytes.Clone, slices.Contains.
-/
import Derived.Test.YtpmhnmkpmkeadaaWalD
import Derived.Test.YtpmhnmkpmkeadaaBox
set_option linter.unusedSimpArgs false
set_option linter.unusedVariables false
set_option maxHeartbeats 4000000
namespace Go.Proofs.Ytpmhnmkpmkeadaa
open Go.RowKit

theorem clone_any (a : Option Addr) (len cap : Nat) (zs : List Int) (w : World) (hs : IsInts .u8 w a len cap zs) (hlen : len ≤ 100000) :
    Calls Try.prog 32 #[.slice a len cap] w fun e w' => (∃ a' c', e = .returned (.slice a' len c') ∧ w'.ownsRow w.heap.size 5 1 (.slice a' len c') len (ivs .u8 zs)) ∧ Below w.heap.size w w' := by
  rcases hs with ⟨rfl, rfl, rfl, rfl⟩ | ⟨b, off, rfl, h1, h2, hz, hc⟩
  · have he : ∀ w : World, (binOp .eql 24 (.slice none 0 0) (.slice none 0 0)).run Try.prog w = .ok (.bool true) w := fun _ => rfl
    go_enter Try.func32, Try.ntmps32
    go_wp2
    go_ret
    exact ⟨⟨_, _, rfl, World.ownsRow_nil _ _ _ _⟩, Below.refl _ _⟩
  · have hs : IsInts .u8 w (some ⟨b, off, none⟩) len cap zs := .inr ⟨b, off, rfl, h1, h2, hz, hc⟩
    have hs1 := hs.later ((Below.refl _ w).alloc (Nat.le_refl _) (.cells #[] 5))
    clear hz hc
    have he : ∀ w : World, (binOp .eql 24 (.slice (some ⟨b, off, none⟩) len cap) (.slice none 0 0)).run Try.prog w = .ok (.bool false) w := fun _ => rfl
    go_enter Try.func32, Try.ntmps32
    go_wp2_with (at_builtin; refine app_ints0 (k := .u8) (v := .slice (some ⟨w.heap.size, 0, none⟩) 0 0) elU8 rfl _ _ rfl rfl (World.ownsRow_made _ _ _ (Nat.le_refl _) (by decide) rfl) rfl hs1 (by omega) (by simp) ?_; intro a' c' w1 hown hgr hbel hnil; clear hnil)
    go_ret
    exact ⟨⟨_, _, rfl, hown⟩, ((Below.refl _ _).alloc (Nat.le_refl _) _).trans hbel⟩

theorem index_any (a : Option Addr) (len cap : Nat) (zs : List Int) (x : Int) (w : World) (hs : IsInts .i64 w a len cap zs) :
    Calls Try.prog 42 #[.slice a len cap, .int .i64 x] w fun e w' => ∃ r : Int, e = .returned (.int .i64 r) ∧ w = w' ∧ (0 ≤ r ↔ x ∈ zs) := by
  have hcap := hs.cap
  unfold maxLen at hcap
  have HZ := Lib.hid hs.length
  go_enter Try.func42, Try.ntmps42
  go_wp2
  go_loop [8] (fun i => ∃ k : Nat, k ≤ len ∧ i = .int .i64 k ∧ ∀ j, j < k → gi zs j ≠ x) (fun i => len - (intOf i).toNat)
  case atStart => exact ⟨0, Nat.zero_le _, rfl, fun j hj => absurd hj (by omega)⟩
  case round =>
    obtain ⟨k, hk, rfl, hz⟩ := hrel
    by_cases hlt : k < len
    · have dlt : decide ((k : Int) < len) = true := decide_eq_true (by omega)
      obtain ⟨b, off, rfl, -, hcell⟩ := hs.at w (Below.refl _ _) k hlt
      by_cases h0 : x = gi zs k
      · have d0 : (x == gi zs k) = true := by simpa using h0
        have H0 := Lib.hid h0
        clear h0
        go_wp2
        go_ret
        exact ⟨_, rfl, rfl, fun _ => by rw [H0.out]; exact gi_mem zs k (by rw [HZ.out]; exact hlt), fun _ => by omega⟩
      · have d0 : (x == gi zs k) = false := by simpa using h0
        have H0 := Lib.hid h0
        clear h0
        go_wp2
        go_round
        case rel => exact ⟨k + 1, by omega, by go_num, fun j hj => by rcases Nat.lt_succ_iff_lt_or_eq.1 hj with h | rfl; exact hz j h; exact fun e => H0.out e.symm⟩
        case measure => simp [intOf]; omega
    · have dlt : decide ((k : Int) < len) = false := decide_eq_false (by omega)
      go_wp2
      go_ret
      refine ⟨_, rfl, rfl, (fun h => absurd h (by decide)), fun hm => ?_⟩
      obtain ⟨i, hi, e⟩ := List.mem_iff_getElem.1 hm
      exact absurd (by rw [gi_eq zs i hi, e]) (hz i (by rw [HZ.out] at hi; omega))

theorem contains_any (a : Option Addr) (len cap : Nat) (zs : List Int) (x : Int) (w : World) (hs : IsInts .i64 w a len cap zs) :
    Calls Try.prog 36 #[.slice a len cap, .int .i64 x] w fun e w' => e = .returned (.bool (decide (x ∈ zs))) ∧ w = w' := by
  go_enter Try.func36, Try.ntmps36
  go_wp2_with (go_at_call 42; refine (index_any _ _ _ _ _ _ hs).mono ?_; rintro e w' ⟨r, rfl, rfl, hr0⟩; have hr := Lib.hid hr0; clear hr0)
  go_ret
  exact ⟨congrArg (fun b => Ending.returned (.bool b)) (decide_eq_decide.2 hr.out), rfl⟩

theorem Read_any (a : Option Addr) (len cap : Nat) (zs : List Int) (w : World) (hs : IsInts .u8 w a len cap zs) (hb : Bytes zs) (hlen : len ≤ 100000) :
    Calls Try.prog 12 #[.slice a len cap] w fun e w' => ∃ k e' rv ev, e = .returned (.tuple #[rv, .int .i64 (lastD (stB zs k).ends), .int .i64 e']) ∧ ReadIs zs k e' ∧ RecSt w' w.heap.size w'.heap.size rv (stB zs k).recs ev (stB zs k).ends ∧ Below w.heap.size w w' := by
  go_enter Try.func12, Try.ntmps12
  go_wp2_with (first | (go_at_call 29; refine (read_any _ _ _ _ _ hs hb hlen).mono ?_; rintro e w' ⟨k, e', rv, ev, rfl, hR, hS, hb1⟩; obtain ⟨ar, cr, hrv, hrec⟩ := hS.recs; subst hrv; obtain ⟨ae, ce, hev, -⟩ := owns_slice hS.2; subst hev; have hint := (IsInts.of_owns hS.2).1) | (go_at_call 30; refine (last_any _ _ _ _ _ hint).mono ?_; rintro e w3 ⟨rfl, rfl⟩))
  go_ret3
  exact ⟨k, e', _, _, rfl, hR, hS, hb1⟩

theorem lastD_le (zs : List Int) (k : Nat) (h : 32 * k ≤ zs.length) : 0 ≤ lastD (stB zs k).ends ∧ lastD (stB zs k).ends ≤ zs.length := by
  obtain ⟨h1, h2, _⟩ := lastD_ends zs k
  omega
theorem ReadIs.cells {b : List Int} {k : Nat} {e : Int} (h : ReadIs b k e) : 32 * k ≤ b.length := by
  cases k with
  | zero => exact Nat.zero_le _
  | succ k => exact (h.1 k (Nat.lt_succ_self k)).1

theorem load_log {W : World} {b : Nat} {u v : Value} (h : Box2 W b u v) : (loadVar 26 ⟨b, 0, none⟩).run Try.prog W = .ok (.agg #[u, v]) W := by
  obtain ⟨T, h⟩ := h
  exact run_loadVar_row W b T 26 #[u, v] (0, 0) _ h Try.underlying26 rfl (by kernel_rfl)
/-- A log and a value are handed back. -/
theorem res_log_tmp {fn : Func} {p t : Tmp} (hf : fn.results = #[.cell p 26, .tmp t]) {W : World} {tmps : Array Value} {b : Nat} {u v x : Value} (hp : tmps[p]?.getD undef = .pointer (some ⟨b, 0, none⟩)) (hx : tmps[t]?.getD undef = x) (h : Box2 W b u v) :
    (results fn tmps).run Try.prog W = .ok (.tuple #[.agg #[u, v], x]) W := by
  simp [results, hf, hp, hx, asAddr, load_log h]
theorem res_log {fn : Func} {p : Tmp} (hf : fn.results = #[.cell p 26]) {W : World} {tmps : Array Value} {b : Nat} {u v : Value} (hp : tmps[p]?.getD undef = .pointer (some ⟨b, 0, none⟩)) (h : Box2 W b u v) :
    (results fn tmps).run Try.prog W = .ok (.agg #[u, v]) W := by
  simp [results, hf, hp, asAddr, load_log h]

theorem RecSt.base_mono {W : World} {n0 n1 T : Nat} {rv ev : Value} {rs : List (List Int)} {es : List Int} (h : RecSt W n0 T rv rs ev es) (hb : n1 ≤ n0) : RecSt W n1 T rv rs ev es := by
  obtain ⟨⟨vs, h1, h2, h3⟩, h4⟩ := h
  exact ⟨⟨vs, h1.from_mono hb, h2, fun i v hv => ⟨(h3 i v hv).1.from_mono hb, (h3 i v hv).2⟩⟩, h4.from_mono hb⟩
theorem RecSt.setBelow {W : World} {n0 T : Nat} {rv ev : Value} {rs : List (List Int)} {es : List Int} (h : RecSt W n0 T rv rs ev es) {p : Addr} (hp : p.block < n0) (x : Value) : RecSt (W.setCell p x) n0 T rv rs ev es := by
  obtain ⟨⟨vs, h1, h2, h3⟩, h4⟩ := h
  exact ⟨⟨vs, ownsRow_setCell_below h1 hp x, h2, fun i v hv => ⟨ownsRow_setCell_below (h3 i v hv).1 hp x, (h3 i v hv).2⟩⟩, ownsRow_setCell_below h4 hp x⟩

theorem Open_any (a : Option Addr) (len cap : Nat) (zs : List Int) (w : World) (hs : IsInts .u8 w a len cap zs) (hb : Bytes zs) (hlen : len ≤ 100000) :
    Calls Try.prog 17 #[.slice a len cap] w fun e w' => ∃ k e' rv ev af cf U, e = .returned (.tuple #[.agg #[.slice af U cf, .int .i64 U], rv]) ∧ ReadIs zs k e' ∧ (U : Int) = lastD (stB zs k).ends ∧ w'.ownsRow w.heap.size 5 1 (.slice af U cf) U (ivs .u8 (zs.take U)) ∧ RecSt w' w.heap.size w'.heap.size rv (stB zs k).recs ev (stB zs k).ends ∧ Below w.heap.size w w' := by
  have hcap := hs.cap
  unfold maxLen at hcap
  have hz := hs.length
  have hs1 := hs.later ((Below.refl _ w).alloc (Nat.le_refl _) (.cells #[.slice none 0 0, .int .i64 0] 26))
  go_enter Try.func17, Try.ntmps17
  have hbA : Below w.heap.size w (w.alloc (.cells #[.slice none 0 0, .int .i64 0] 26)) := (Below.refl _ w).alloc (Nat.le_refl _) _
  go_wp2_with (first | (go_at_call 12; refine (Read_any _ _ _ _ _ hs1 hb hlen).mono ?_; rintro e w1 ⟨k, e', rv, ev, rfl, hR, hS, hb1⟩; obtain ⟨ar, cr, hrv, hrec⟩ := hS.recs; subst hrv; obtain ⟨l0, l1⟩ := lastD_le zs k hR.cells; obtain ⟨U, hU0⟩ : ∃ U : Nat, lastD (stB zs k).ends = U := ⟨(lastD (stB zs k).ends).toNat, by omega⟩; have hU := Lib.hid hU0; rw [hU0] at l1 ⊢; clear hU0 l0) | fail)
  have hsU : IsInts .u8 w1 a U cap (zs.take U) := by
    have := (hs1.later hb1).slice 0 U cap (by omega) (by omega) (by omega) (by omega) (a' := a) (fun h => (by cases a with | none => rfl | some x => simp [Addr.add])) (fun _ => rfl)
    simpa using this
  have hb1' : Below w.heap.size w w1 := hbA.trans (hb1.mono hbA.size)
  have hbx := ((Box2.new w (.slice none 0 0) (.int .i64 0) 26).later hb1)
  go_wp2_with (first | (go_at_call 32; refine (clone_any _ _ _ _ _ hsU (by omega)).mono ?_; rintro e w2 ⟨⟨a2, c2, rfl, h2⟩, hb2⟩; have hbx2 := hbx.later hb2; obtain ⟨q0, q1, q2, q3⟩ := hbx2.cells) | fail)
  have hst := hbx2.store (.slice a2 U c2) (.int .i64 (U : Int))
  have hB : Below w.heap.size w2 ((w2.setCell ⟨w.heap.size, 0, none⟩ (.slice a2 U c2)).setCell ⟨w.heap.size, 1, none⟩ (.int .i64 (U : Int))) := ((Below.refl _ _).setCell (p := ⟨w.heap.size, 0, none⟩) (Nat.le_refl _) _).setCell (p := ⟨w.heap.size, 1, none⟩) (Nat.le_refl _) _
  have hlt : w.heap.size < w1.heap.size := by have := hb1.size; simp at this; omega
  have hlt0 : w.heap.size < (w.alloc (.cells #[.slice none 0 0, .int .i64 0] 26)).heap.size := by simp
  have hfin := ownsRow_setCell_below (ownsRow_setCell_below h2 (a := ⟨w.heap.size, 0, none⟩) hlt (.slice a2 U c2)) (a := ⟨w.heap.size, 1, none⟩) hlt (.int .i64 (U : Int))
  have hSf := ((hS.later hb2).setBelow (p := ⟨w.heap.size, 0, none⟩) hlt0 (.slice a2 U c2)).setBelow (p := ⟨w.heap.size, 1, none⟩) hlt0 (.int .i64 (U : Int))
  exact bodyPost_ret (res_log_tmp rfl rfl rfl hst) rfl ⟨k, e', _, _, _, _, U, rfl, hR, hU.out.symm, hfin.from_mono (Nat.le_of_lt hlt), (hSf.base_mono (Nat.le_of_lt hlt0)).mono (by simpa using hb2.size), (hb1'.trans (hb2.mono hb1'.size)).trans hB⟩

theorem Valid_any (a : Option Addr) (len cap : Nat) (zs : List Int) (s : Int) (w : World) (hs : IsInts .u8 w a len cap zs) (hb : Bytes zs) (hlen : len ≤ 100000) :
    Calls Try.prog 21 #[.agg #[.slice a len cap, .int .i64 s]] w fun e w' => ∃ k e', e = .returned (.bool (decide (e' = 0 ∧ (s = 0 ∨ s ∈ (stB zs k).ends)))) ∧ ReadIs zs k e' ∧ Below w.heap.size w w' := by
  have hbA : Below w.heap.size w (w.alloc (.cells #[.slice a len cap, .int .i64 s] 26)) := (Below.refl _ w).alloc (Nat.le_refl _) _
  have hs1 := hs.later hbA
  have hbx := Box2.new w (.slice a len cap) (.int .i64 s) 26
  have hc0 := hbx.cells.1
  go_enter Try.func21, Try.ntmps21
  go_wp2_with (fail)
  go_at_call 29
  refine (read_any _ _ _ _ _ hs1 hb hlen).mono ?_
  rintro e w1 ⟨k, e', rv, ev, rfl, hR, hS, hb1⟩
  have hbx1 := hbx.later hb1
  have hc1 := hbx1.cells.2.1
  have hb1' : Below w.heap.size w w1 := hbA.trans (hb1.mono hbA.size)
  obtain ⟨ae, ce, hev, -⟩ := owns_slice hS.2
  subst hev
  have hint := (IsInts.of_owns hS.2).1
  by_cases he : e' = 0
  · subst he
    by_cases h0 : s = 0
    · subst h0
      go_wp2
      go_ret
      exact ⟨k, 0, by simp, hR, hb1'⟩
    · have d0 : (s == 0) = false := by simpa using h0
      have H0 := Lib.hid h0
      clear h0
      go_wp2_with (go_at_call 36; refine (contains_any _ _ _ _ _ _ hint).mono ?_; rintro e w2 ⟨rfl, rfl⟩)
      go_ret
      exact ⟨k, 0, by simp [H0.out], hR, hb1'⟩
  · have d0 : (e' == 0) = false := by simpa using he
    have H0 := Lib.hid he
    clear he
    go_wp2
    go_ret
    exact ⟨k, e', by simp [H0.out], hR, hb1'⟩

theorem Sync_any (a : Option Addr) (len cap : Nat) (zs : List Int) (s : Int) (w : World) (hs : IsInts .u8 w a len cap zs) (hlen : len ≤ 100000) :
    Calls Try.prog 31 #[.agg #[.slice a len cap, .int .i64 s]] w fun e w' => (∃ a' c', e = .returned (.agg #[.slice a' len c', .int .i64 len]) ∧ w'.ownsRow w.heap.size 5 1 (.slice a' len c') len (ivs .u8 zs)) ∧ Below w.heap.size w w' := by
  obtain ⟨W1, hW1⟩ : ∃ W1, (w.alloc (.cells #[.slice a len cap, .int .i64 s] 26)).alloc (.cells #[.slice none 0 0, .int .i64 0] 26) = W1 := ⟨_, rfl⟩
  have hbA : Below w.heap.size w W1 := by rw [← hW1]; exact ((Below.refl _ w).alloc (Nat.le_refl _) _).alloc (by simp) _
  have hsz : W1.heap.size = w.heap.size + 2 := by rw [← hW1]; simp
  have hs1 := hs.later hbA
  have hbx : Box2 W1 w.heap.size (.slice a len cap) (.int .i64 s) := by rw [← hW1]; exact (Box2.new w _ _ _).later ((Below.refl _ _).alloc (Nat.le_refl _) _)
  have hbr : Box2 W1 (w.heap.size + 1) (.slice none 0 0) (.int .i64 0) := by
    have := Box2.new (w.alloc (.cells #[.slice a len cap, .int .i64 s] 26)) (.slice none 0 0) (.int .i64 0) 26
    rw [World.size_alloc, hW1] at this
    exact this
  go_enter Try.func31, Try.ntmps31
  go_wp2
  try rw [hW1]
  clear hs1 hW1
  obtain ⟨S, hSd⟩ : ∃ S : (Nat → Bool) → (Nat → Value) → World → Prop, S = fun L f W => (Below w.heap.size w W ∧ W1.heap.size ≤ W.heap.size ∧ Below W1.heap.size W1 W1 ∧ Box2 W w.heap.size (.slice a len cap) (.int .i64 s) ∧ (stage L f W (fun W => Box2 W (w.heap.size + 1) (.slice none 0 0) (.int .i64 0)) [(7, fun f W => Box2 W (w.heap.size + 1) (f 2) (.int .i64 len) ∧ W.ownsRow (w.heap.size + 2) 5 1 (f 2) len (ivs .u8 zs)), (6, fun f W => Box2 W (w.heap.size + 1) (.slice none 0 0) (.int .i64 0) ∧ W.ownsRow (w.heap.size + 2) 5 1 (f 2) len (ivs .u8 zs) ∧ f 6 = .agg #[f 2, .int .i64 len]), (2, fun f W => Box2 W (w.heap.size + 1) (.slice none 0 0) (.int .i64 0) ∧ W.ownsRow (w.heap.size + 2) 5 1 (f 2) len (ivs .u8 zs))])) := ⟨_, rfl⟩
  refine wp_region_st mixed (by kernel_rfl) [[], [(0, 3)], [(1, 4)], [], [(3, 6)], [(4, 7)], [(2, 5), (5, 8)], [(6, 9), (2, 5), (0, 3), (1, 4), (2, 5), (3, 6), (4, 7), (5, 8), (6, 9)]] [(0, 3), (1, 4), (2, 5), (3, 6), (4, 7), (5, 8), (6, 9)] rfl rfl [EV ?e0, EV ?e1, fun v => ∃ a c, v = .slice a len c, EV ?e3, EV ?e4, EV ?e5, fun v => ∃ a c, v = .agg #[.slice a len c, .int .i64 len], fun _ => True] S ?start ?steps ?rest
  case start =>
    intro f
    rw [hSd]
    exact ⟨hbA.drew, Nat.le_refl _, Below.refl _ _, hbx, hbr⟩
  case steps =>
    refine ⟨fun L f W hi hd hdn hh hS => ?_, fun L f W hi hd hdn hh hS => ?_, fun L f W hi hd hdn hh hS => ?_, fun L f W hi hd hdn hh hS => ?_, fun L f W hi hd hdn hh hS => ?_, fun L f W hi hd hdn hh hS => ?_, fun L f W hi hd hdn hh hS => ?_, fun L f W hi hd hdn hh hS => ?_, trivial⟩
    · -- 0: Op.fieldAddr 26 (Operand.tmp 1) 0
      unfold stStep
      rw [if_pos (by simp [Region.wanted])]
      intro K Q hK
      simp only [puts, List.foldr_nil]
      go_step
      refine st_ex hK rfl rfl (by simp only [Act.put, List.setIfInBounds_toArray, List.set_cons_succ, List.set_cons_zero, Array.getD_eq_getD_getElem?, List.getElem?_toArray, List.getElem?_cons_succ, List.getElem?_cons_zero, Option.getD_some] <;> rfl) rfl (by rw [hSd] at hS ⊢; exact hS)
    · -- 1: Op.load 24 (Operand.tmp 3)
      obtain ⟨h0, -⟩ := hh
      have g0 : f 0 = _ := h0
      unfold stStep
      rw [if_pos (by simp [Region.wanted])]
      intro K Q hK
      simp only [puts, List.foldr_cons, List.foldr_nil, List.setIfInBounds_toArray, List.set_cons_succ, List.set_cons_zero, g0]
      have hS' := hS
      rw [hSd] at hS'
      have hc1 := hS'.2.2.2.1.cells.1
      go_step
      refine st_ex hK rfl rfl (by simp only [Act.put, List.setIfInBounds_toArray, List.set_cons_succ, List.set_cons_zero, Array.getD_eq_getD_getElem?, List.getElem?_toArray, List.getElem?_cons_succ, List.getElem?_cons_zero, Option.getD_some] <;> rfl) rfl (by rw [hSd] at hS ⊢; exact hS)
    · -- 2: Op.call { callee := Callee.value (Operand.func 32), args := #[Operand.tmp 4], argTypes := 
      obtain ⟨h1, -⟩ := hh
      have g1 : f 1 = _ := h1
      have l7 : L 7 = false := Bool.eq_false_iff.2 fun h => by have q := hdn 7 _ h rfl 2 (by decide); rw [show L 2 = false from hi] at q; cases q
      have l6 : L 6 = false := Bool.eq_false_iff.2 fun h => by have q := hdn 6 _ h rfl 2 (by decide); rw [show L 2 = false from hi] at q; cases q
      unfold stStep
      rw [if_pos (by simp [Region.wanted])]
      intro K Q hK
      simp only [puts, List.foldr_cons, List.foldr_nil, List.setIfInBounds_toArray, List.set_cons_succ, List.set_cons_zero, g1]
      rw [hSd] at hS hK
      have l2 : L 2 = false := hi
      simp only [stage, l7, l6, l2, if_true, if_false, Bool.false_eq_true] at hS
      obtain ⟨hC, hC2, hC3, hB0, hB1⟩ := hS
      go_step
      go_at_call 32
      refine (clone_any _ _ _ _ _ (hs.later hC) hlen).mono ?_
      rintro e w' ⟨⟨a', c', rfl, hown⟩, hb'⟩
      refine hK.out _ _ rfl ⟨_, _, rfl⟩ ?_
      simp only [stage, l6, l7]
      exact ⟨hC.trans (hb'.mono hC.size), Nat.le_trans hC2 hb'.size, hC3, hB0.later hb', hB1.later hb', hown.from_mono (by omega)⟩
    · -- 3: Op.fieldAddr 26 (Operand.tmp 1) 0
      unfold stStep
      rw [if_pos (by simp [Region.wanted])]
      intro K Q hK
      simp only [puts, List.foldr_nil]
      go_step
      refine st_ex hK rfl rfl (by simp only [Act.put, List.setIfInBounds_toArray, List.set_cons_succ, List.set_cons_zero, Array.getD_eq_getD_getElem?, List.getElem?_toArray, List.getElem?_cons_succ, List.getElem?_cons_zero, Option.getD_some] <;> rfl) rfl (by rw [hSd] at hS ⊢; exact hS)
    · -- 4: Op.load 24 (Operand.tmp 6)
      obtain ⟨h3, -⟩ := hh
      have g3 : f 3 = _ := h3
      unfold stStep
      rw [if_pos (by simp [Region.wanted])]
      intro K Q hK
      simp only [puts, List.foldr_cons, List.foldr_nil, List.setIfInBounds_toArray, List.set_cons_succ, List.set_cons_zero, g3]
      have hS' := hS
      rw [hSd] at hS'
      have hc1 := hS'.2.2.2.1.cells.1
      go_step
      refine st_ex hK rfl rfl (by simp only [Act.put, List.setIfInBounds_toArray, List.set_cons_succ, List.set_cons_zero, Array.getD_eq_getD_getElem?, List.getElem?_toArray, List.getElem?_cons_succ, List.getElem?_cons_zero, Option.getD_some] <;> rfl) rfl (by rw [hSd] at hS ⊢; exact hS)
    · -- 5: Op.call { callee := Callee.builtin Builtin.len, args := #[Operand.tmp 7], argTypes := #[24
      obtain ⟨h4, -⟩ := hh
      have g4 : f 4 = _ := h4
      unfold stStep
      rw [if_pos (by simp [Region.wanted])]
      intro K Q hK
      simp only [puts, List.foldr_cons, List.foldr_nil, List.setIfInBounds_toArray, List.set_cons_succ, List.set_cons_zero, g4]
      go_step
      refine st_ex hK rfl rfl (by simp only [Act.put, List.setIfInBounds_toArray, List.set_cons_succ, List.set_cons_zero, Array.getD_eq_getD_getElem?, List.getElem?_toArray, List.getElem?_cons_succ, List.getElem?_cons_zero, Option.getD_some] <;> rfl) rfl (by rw [hSd] at hS ⊢; exact hS)
    · -- 6: Op.build 26 #[(0, Operand.tmp 5), (1, Operand.tmp 8)]
      obtain ⟨h2, h5, -⟩ := hh
      obtain ⟨a2, c2, g2⟩ := h2
      have g5 : f 5 = _ := h5
      have l2 : L 2 = true := hd 2 (by decide)
      have l7 : L 7 = false := Bool.eq_false_iff.2 fun h => by have q := hdn 7 _ h rfl 6 (by decide); rw [show L 6 = false from hi] at q; cases q
      unfold stStep
      rw [if_pos (by simp [Region.wanted])]
      intro K Q hK
      simp only [puts, List.foldr_cons, List.foldr_nil, List.setIfInBounds_toArray, List.set_cons_succ, List.set_cons_zero, g2, g5]
      rw [hSd] at hS hK
      have l6 : L 6 = false := hi
      simp only [stage, l7, l6, l2, if_true, if_false, Bool.false_eq_true] at hS
      obtain ⟨hC, hC2, hC3, hB0, hB1, ho⟩ := hS
      rw [g2] at ho
      go_step
      refine hK.out _ _ rfl ⟨_, _, rfl⟩ ?_
      simp only [stage, l7]
      refine ⟨hC, hC2, hC3, hB0, hB1, ?_, ?_⟩
      · show W.ownsRow _ _ _ (f 2) _ _
        have e2 : f 2 = _ := g2
        rw [e2]
        exact ho
      · show _ = Value.agg #[f 2, _]
        have e2 : f 2 = _ := g2
        rw [e2]
        rfl
    · -- 7: Op.store 26 (Operand.tmp 2) (Operand.tmp 9)
      obtain ⟨h6, h2, h0, h1, _, h3, h4, h5, _, -⟩ := hh
      obtain ⟨a6, c6, g6⟩ := h6
      obtain ⟨a2, c2, g2⟩ := h2
      have g0 : f 0 = _ := h0
      have g1 : f 1 = _ := h1
      have g3 : f 3 = _ := h3
      have g4 : f 4 = _ := h4
      have g5 : f 5 = _ := h5
      have l2 : L 2 = true := hd 2 (by decide)
      have l6 : L 6 = true := hd 6 (by decide)
      unfold stStep
      rw [if_pos (by simp [Region.wanted])]
      intro K Q hK
      simp only [puts, List.foldr_cons, List.foldr_nil, List.setIfInBounds_toArray, List.set_cons_succ, List.set_cons_zero, g6, g2, g0, g1, g3, g4, g5]
      rw [hSd] at hS hK
      have l7 : L 7 = false := hi
      simp only [stage, l7, l2, l6, if_true, if_false, Bool.false_eq_true] at hS
      obtain ⟨hC, hC2, hC3, hB0, hB1, ho, h6⟩ := hS
      obtain ⟨q0, q1, q2, q3⟩ := hB1.cells
      go_step
      refine hK.out _ _ rfl trivial ?_
      refine ⟨(hC.setCell (p := ⟨w.heap.size + 1, 0, none⟩) (by show _ ≤ w.heap.size + 1; omega) _).setCell (p := ⟨w.heap.size + 1, 1, none⟩) (by show _ ≤ w.heap.size + 1; omega) _, by rw [World.size_setCell, World.size_setCell]; exact hC2, hC3, (hB0.other _ (by show w.heap.size ≠ w.heap.size + 1; omega) _).other _ (by show w.heap.size ≠ w.heap.size + 1; omega) _, ?_⟩
      have e2 : f 2 = _ := g2
      have e6 : f 6 = _ := g6
      rw [e6, e2] at h6
      simp only [Value.agg.injEq, Array.mk.injEq, List.cons.injEq, Value.slice.injEq, and_true, true_and] at h6
      obtain ⟨rfl, rfl⟩ := h6
      rw [e2] at ho
      show Box2 _ _ (f 2) _ ∧ World.ownsRow _ _ _ _ (f 2) _ _
      rw [e2]
      exact ⟨hB1.store _ _, ownsRow_setCell_below (ownsRow_setCell_below ho (by show w.heap.size + 1 < _; omega) _) (by show w.heap.size + 1 < _; omega) _⟩
  case rest =>
    intro L f W2 hL hh hS
    rw [hSd] at hS
    clear hSd
    have l7 : L 7 = true := hL 7 (by decide)
    simp only [stage, l7, if_true] at hS
    clear hL l7
    obtain ⟨h0, h1, h2, h3, h4, h5, h6, -⟩ := hh
    have g0 : f 0 = _ := h0
    have g1 : f 1 = _ := h1
    obtain ⟨a2, c2, g2⟩ := h2
    have g3 : f 3 = _ := h3
    have g4 : f 4 = _ := h4
    have g5 : f 5 = _ := h5
    obtain ⟨a6, c6, g6⟩ := h6
    simp only [puts, List.foldr_cons, List.foldr_nil, List.setIfInBounds_toArray, List.set_cons_succ, List.set_cons_zero, g0, g1, g2, g3, g4, g5, g6]
    clear h0 h1 h3 h4 h5 g0 g1 g3 g4 g5
    obtain ⟨hC, -, -, -, hB1, ho⟩ := hS
    have e2 : f 2 = _ := g2
    rw [e2] at hB1 ho
    go_wp2
    exact bodyPost_ret (res_log rfl rfl hB1) rfl ⟨⟨_, _, rfl, ho.from_mono (by omega)⟩, hC⟩

/-- How much is left after a crash. -/
def keepN (n s keep : Int) : Int := s + (max 0 keep) % (n - s + 1)
def crashL (zs : List Int) (s keep : Int) : List Int := if s < 0 ∨ (zs.length : Int) < s then [] else zs.take (keepN zs.length s keep).toNat
theorem crashL_lo {zs : List Int} {s keep : Int} (h : s < 0) : crashL zs s keep = [] := if_pos (.inl h)
theorem crashL_hi {zs : List Int} {s keep : Int} (h : (zs.length : Int) < s) : crashL zs s keep = [] := if_pos (.inr h)
theorem crashL_in {zs : List Int} {s keep : Int} (h : 0 ≤ s) (h' : s ≤ zs.length) : crashL zs s keep = zs.take (keepN zs.length s keep).toNat := if_neg (by omega)
theorem Crash_any (a : Option Addr) (len cap : Nat) (zs : List Int) (s keep : Int) (w : World) (hs : IsInts .u8 w a len cap zs) (hlen : len ≤ 100000) (h0 : -9223372036854775808 ≤ keep) (h1 : keep ≤ 9223372036854775807) :
    Calls Try.prog 18 #[.agg #[.slice a len cap, .int .i64 s], .int .i64 keep] w fun e w' => (∃ a' n' c', e = .returned (.slice a' n' c') ∧ w'.ownsRow w.heap.size 5 1 (.slice a' n' c') n' (ivs .u8 (crashL zs s keep))) ∧ Below w.heap.size w w' := by
  have hbA : Below w.heap.size w (w.alloc (.cells #[.slice a len cap, .int .i64 s] 26)) := (Below.refl _ w).alloc (Nat.le_refl _) _
  have hs1 := hs.later hbA
  have hcap := hs.cap
  unfold maxLen at hcap
  have hbx := Box2.new w (.slice a len cap) (.int .i64 s) 26
  obtain ⟨hc0, hc1, -, -⟩ := hbx.cells
  by_cases hs0 : s < 0
  · have d0 : decide (s < 0) = true := decide_eq_true hs0
    go_enter Try.func18, Try.ntmps18
    go_wp2
    go_ret
    exact ⟨⟨none, 0, 0, rfl, by rw [crashL_lo hs0]; exact World.ownsRow_nil _ _ _ _⟩, hbA⟩
  have d0 : decide (s < 0) = false := decide_eq_false hs0
  by_cases hsl : (len : Int) < s
  · have d1 : decide ((len : Int) < s) = true := decide_eq_true hsl
    go_enter Try.func18, Try.ntmps18
    go_wp2
    go_ret
    exact ⟨⟨none, 0, 0, rfl, by rw [crashL_hi (by rw [hs.length]; exact hsl)]; exact World.ownsRow_nil _ _ _ _⟩, hbA⟩
  have d1 : decide ((len : Int) < s) = false := decide_eq_false hsl
  obtain ⟨S, rfl⟩ := Int.eq_ofNat_of_zero_le (show 0 ≤ s by omega)
  obtain ⟨mx, hmx⟩ : ∃ mx : Int, (if 0 < keep then keep else 0) = mx := ⟨_, rfl⟩
  have hmx0 : 0 ≤ mx ∧ mx ≤ 9223372036854775807 := by rw [← hmx]; split <;> omega
  obtain ⟨Q, hQ⟩ : ∃ Q : Nat, mx % ((len : Int) - S + 1) = Q := ⟨(mx % ((len : Int) - S + 1)).toNat, by have := Int.emod_nonneg mx (show (len : Int) - S + 1 ≠ 0 by omega); omega⟩
  have hQ1 : S + Q ≤ len := by have := Int.emod_lt_of_pos mx (show 0 < (len : Int) - S + 1 by omega); omega
  have hcut : IsInts .u8 (w.alloc (.cells #[.slice a len cap, .int .i64 (S : Int)] 26)) a (S + Q) cap (zs.take (S + Q)) := by
    have := hs1.slice 0 (S + Q) cap (by omega) (by omega) (by omega) (by omega) (a' := a) (fun h => (by cases a with | none => rfl | some x => simp [Addr.add])) (fun _ => rfl)
    simpa using this
  have hfin : Hid (crashL zs S keep = zs.take (S + Q)) := Lib.hid (by
    rw [crashL_in (by omega) (by rw [hs.length]; omega), keepN, hs.length, show max 0 keep = mx by rw [← hmx]; split <;> omega, hQ]
    congr 1)
  go_enter Try.func18, Try.ntmps18
  go_wp2_with (go_at_call 32; refine (clone_any _ _ _ _ _ hcut (by omega)).mono ?_; rintro e w2 ⟨⟨a2, c2, rfl, h2⟩, hb2⟩)
  go_ret
  exact ⟨⟨_, _, _, rfl, by rw [hfin.out]; exact h2.from_mono hbA.size⟩, hbA.trans (hb2.mono hbA.size)⟩

theorem Cells_any (a : Option Addr) (len cap : Nat) (w : World) (hlen : len ≤ 1000000000) :
    Calls Try.prog 13 #[.slice a len cap] w fun e w' => e = .returned (.int .i64 (cellsN len)) ∧ w = w' := by
  go_enter Try.func13, Try.ntmps13
  go_wp2
  all_goals
    go_ret
    exact ⟨ret_int (by unfold cellsN; split <;> omega), rfl⟩
end Go.Proofs.Ytpmhnmkpmkeadaa
