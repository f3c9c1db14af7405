/-
  Package order: Valid, Before, Concurrent, Linear.
-/
import Derived.Test.YtofnbndpoiohhaaDoorOrdC
import Derived.Deep.WholeRow
set_option linter.unusedSimpArgs false
set_option linter.unusedVariables false
namespace Go.Proofs.YtofnbndpoiohhaaDoor
open Go.RowKit Go.Shelf
attribute [local go_sem] Oper.semAt_some

variable {n : Int} {a : Option Addr} {len cap : Nat} {es : List (Int × Int)} {w : World}

theorem closed_no (he : IsPairs w a len cap es) (hT : TabAt 0 Lib.deBruijn64tab w) (hv : ¬ ValidO n es) :
    Calls Tryd.prog 33 #[.agg #[.int .i64 n, .slice a len cap]] w fun e w' => ∃ zs : List Int, e = .returned (.tuple #[.agg (ivs .u64 zs).toArray, .slice none 0 0, .bool false]) ∧ zs.length = 60 ∧ Below w.heap.size w w' := by
  refine (closed_any n a len cap es w he hT).mono ?_
  rintro e w' ⟨hb, ⟨_, h⟩ | ⟨h, _⟩⟩
  · exact ⟨zero60, h, rfl, hb⟩
  · exact absurd h hv
theorem closed_yes (he : IsPairs w a len cap es) (hT : TabAt 0 Lib.deBruijn64tab w) (hv : ValidO n es) :
    Calls Tryd.prog 33 #[.agg #[.int .i64 n, .slice a len cap]] w fun e w' => ∃ ps l ao co, e = .returned (.tuple #[.agg (ivs .u64 ps).toArray, .slice ao l.length co, .bool true]) ∧ PastOf es ps ∧ KL (Ed es) n.toNat l ∧ l.length = n.toNat ∧ w'.ownsRow w.heap.size 3 1 (.slice ao l.length co) l.length (ivs .i64 (l.map Int.ofNat)) ∧ Below w.heap.size w w' := by
  refine (closed_any n a len cap es w he hT).mono ?_
  rintro e w' ⟨hb, ⟨h, _⟩ | ⟨_, ps, l, ao, co, h1, h2, h3, h4, h5⟩⟩
  · exact absurd hv h
  · exact ⟨ps, l, ao, co, h1, h2, h3, h4, h5, hb⟩

/-- The box in which a function keeps its order. -/
theorem boxO (n : Int) (a : Option Addr) (len cap : Nat) (w : World) :
    Below w.heap.size w (w.alloc (.cells #[.int .i64 n, .slice a len cap] 27)) ∧ (w.alloc (.cells #[.int .i64 n, .slice a len cap] 27)).heap.size = w.heap.size + 1 ∧
    ∀ W, Below (w.heap.size + 1) (w.alloc (.cells #[.int .i64 n, .slice a len cap] 27)) W → W.cell? ⟨w.heap.size, 0, none⟩ = some (.int .i64 n) ∧ W.cell? ⟨w.heap.size, 1, none⟩ = some (.slice a len cap) := by
  refine ⟨(Below.refl _ _).alloc (Nat.le_refl _) _, by simp, fun W hb => ?_⟩
  have := hb.block w.heap.size (Nat.lt_succ_self _)
  rw [heap_alloc_new] at this
  exact ⟨cell_of_row W _ 0 _ _ _ this, cell_of_row W _ 1 _ _ _ this⟩

theorem exist_yes {x y : Nat} (hx : (x : Int) < n) (hy : (y : Int) < n) :
    Calls Tryd.prog 35 #[.agg #[.int .i64 n, .slice a len cap], .int .i64 (x : Int), .int .i64 (y : Int)] w fun e w' => e = .returned (.bool true) ∧ Below w.heap.size w w' := by
  obtain ⟨mn, hmn, hmn0⟩ : ∃ mn : Int, (if y < x then (y : Int) else (x : Int)) = mn ∧ 0 ≤ mn := ⟨_, rfl, by split <;> omega⟩
  obtain ⟨mx, hmx, hmxN⟩ : ∃ mx : Int, (if x < y then (y : Int) else (x : Int)) = mx ∧ mx < n := ⟨_, rfl, by split <;> omega⟩
  have t1 : decide (0 ≤ mn) = true := decide_eq_true hmn0
  have t2 : decide (mx < n) = true := decide_eq_true hmxN
  obtain ⟨hb1, hs1, hO⟩ := boxO n a len cap w
  go_enter Tryd.func35, Tryd.ntmps35
  go_wp2
  go_ret
  exact ⟨rfl, hb1⟩
theorem exist_no {x y : Int} (h : ¬ ((0 ≤ x ∧ x < n) ∧ 0 ≤ y ∧ y < n)) :
    Calls Tryd.prog 35 #[.agg #[.int .i64 n, .slice a len cap], .int .i64 x, .int .i64 y] w fun e w' => e = .returned (.bool false) ∧ Below w.heap.size w w' := by
  obtain ⟨mn, hmn⟩ : ∃ mn : Int, (if y < x then y else x) = mn := ⟨_, rfl⟩
  obtain ⟨mx, hmx⟩ : ∃ mx : Int, (if x < y then y else x) = mx := ⟨_, rfl⟩
  obtain ⟨hb1, hs1, hO⟩ := boxO n a len cap w
  by_cases h0 : 0 ≤ mn
  · have t1 : decide (0 ≤ mn) = true := decide_eq_true h0
    have t2 : decide (mx < n) = false := decide_eq_false (by rw [← hmx]; rw [← hmn] at h0; split <;> split at h0 <;> omega)
    clear h
    go_enter Tryd.func35, Tryd.ntmps35
    go_wp2
    go_ret
    exact ⟨rfl, hb1⟩
  · have t1 : decide (0 ≤ mn) = false := decide_eq_false h0
    clear h
    go_enter Tryd.func35, Tryd.ntmps35
    go_wp2
    go_ret
    exact ⟨rfl, hb1⟩

theorem tab_later {w w' : World} (h : TabAt 0 Lib.deBruijn64tab w) (hb : Below w.heap.size w w') : TabAt 0 Lib.deBruijn64tab w' :=
  fun j hj => (hb.cell (p := ⟨0, j, none⟩) (lt_of_cell (h j hj))).trans (h j hj)

open Classical in
noncomputable def validB (n : Int) (es : List (Int × Int)) : Bool := decide (ValidO n es)
open Classical in
theorem validB_yes (h : ValidO n es) : validB n es = true := by unfold validB; exact decide_eq_true h
open Classical in
theorem validB_no (h : ¬ ValidO n es) : validB n es = false := by unfold validB; exact decide_eq_false h

/-- A row of words into the block that was made last. -/
theorem store_past {ops : Array Oper} {rest : List Oper} {o : Oper} {a : Act} {w2 : World} {Q : Exit → Act → World → Prop} (hgd : o.guard = none) (x y : Operand) (ho : o.op = .store 56 x y) {C : Array Value} {ps : List Int}
    (hx : a.eval x = .pointer (some ⟨w2.heap.size, 0, none⟩)) (hy : a.eval y = .agg (ivs .u64 ps).toArray) (hC : C.size = 60) (hps : ps.length = 60)
    (h : ∀ w3, w3.heap.size = w2.heap.size + 1 → Below w2.heap.size w2 w3 → PastIs w3 w2.heap.size ps → wpList Tryd.prog ops Q rest (a.put o.dst undef) w3) : wpList Tryd.prog ops Q (o :: rest) a (w2.alloc (.cells C 56)) := by
  refine wpList_store_row hgd 56 x y ho w2.heap.size (ivs .u64 ps).toArray hx hy _ _ (heap_alloc_new w2 _) (past_i hps) (by rw [hC, past_size hps]) (past_one _) ?_
  rw [World.setRow_alloc_new]
  exact h _ (by simp) ((Below.refl _ _).alloc (Nat.le_refl _) _) (heap_alloc_new w2 _)

theorem valid_any (he : IsPairs w a len cap es) (hT : TabAt 0 Lib.deBruijn64tab w) :
    Calls Tryd.prog 13 #[.agg #[.int .i64 n, .slice a len cap]] w fun e w' => e = .returned (.bool (validB n es)) ∧ Below w.heap.size w w' := by
  obtain ⟨hb1, hs1, hO⟩ := boxO n a len cap w
  obtain ⟨c0, c1⟩ := hO _ (Below.refl _ _)
  have he1 := he.later hb1
  have hT1 := tab_later hT hb1
  by_cases hv : ValidO n es
  · rw [validB_yes hv]
    have hc := closed_yes he1 hT1 hv
    clear hv
    go_enter Tryd.func13, Tryd.ntmps13
    go_wp2_with (first | (go_at_call 33; refine hc.mono ?_; rintro e w2 ⟨ps, l, ao, co, rfl, hps, hK, hl, hrow, hb2⟩; have hpl := hps.1) | (show wpList _ _ _ (⟨_, .store 56 _ _, _, _, _, _⟩ :: _) _ _; refine store_past rfl _ _ rfl rfl rfl rfl hpl ?_; intro w3 hs3 hb3 hP3))
    go_ret
    exact ⟨rfl, hb1.trans ((hb2.trans (hb3.mono hb2.size)).mono (by omega))⟩
  · rw [validB_no hv]
    have hc := closed_no he1 hT1 hv
    clear hv
    go_enter Tryd.func13, Tryd.ntmps13
    go_wp2_with (first | (go_at_call 33; refine hc.mono ?_; rintro e w2 ⟨ps, rfl, hpl, hb2⟩) | (show wpList _ _ _ (⟨_, .store 56 _ _, _, _, _, _⟩ :: _) _ _; refine store_past rfl _ _ rfl rfl rfl rfl hpl ?_; intro w3 hs3 hb3 hP3))
    go_ret
    exact ⟨rfl, hb1.trans ((hb2.trans (hb3.mono hb2.size)).mono (by omega))⟩

open Classical in
noncomputable def beforeB (n : Int) (es : List (Int × Int)) (x y : Int) : Bool := decide (ValidO n es ∧ ((0 ≤ x ∧ x < n) ∧ 0 ≤ y ∧ y < n) ∧ Path (Ed es) x.toNat y.toNat)
open Classical in
theorem beforeB_no {x y : Int} (h : ¬ (ValidO n es ∧ (0 ≤ x ∧ x < n) ∧ 0 ≤ y ∧ y < n)) : beforeB n es x y = false := by
  unfold beforeB
  exact decide_eq_false fun hh => h ⟨hh.1, hh.2.1⟩
open Classical in
theorem beforeB_bit {x y : Nat} {ps : List Int} (hv : ValidO n es) (hx : (x : Int) < n) (hy : (y : Int) < n) (hps : PastOf es ps) : beforeB n es x y = (bits .and .u64 (gi ps y / 2 ^ x) 1 == 1) := by
  have hg := hps.2.1.gi y
  have hn := hv.1.2
  have e : (bits .and .u64 (gi ps y / 2 ^ x) 1 == 1) = tb (gi ps y) x := bitI_tb hg.1 hg.2 x
  rw [e, Bool.eq_iff_iff, hps.2.2 y (by omega) x (by omega)]
  unfold beforeB
  rw [decide_eq_true_iff]
  exact ⟨fun h => h.2.2, fun h => ⟨hv, ⟨by omega, by omega⟩, h⟩⟩

theorem before_any (x y : Int) (he : IsPairs w a len cap es) (hT : TabAt 0 Lib.deBruijn64tab w) :
    Calls Tryd.prog 15 #[.agg #[.int .i64 n, .slice a len cap], .int .i64 x, .int .i64 y] w fun e w' => e = .returned (.bool (beforeB n es x y)) ∧ Below w.heap.size w w' := by
  obtain ⟨hb1, hs1, hO⟩ := boxO n a len cap w
  obtain ⟨c0, c1⟩ := hO _ (Below.refl _ _)
  have he1 := he.later hb1
  have hT1 := tab_later hT hb1
  by_cases hv : ValidO n es
  · have hc := closed_yes he1 hT1 hv
    by_cases hin : (0 ≤ x ∧ x < n) ∧ 0 ≤ y ∧ y < n
    · obtain ⟨x, rfl⟩ := Int.eq_ofNat_of_zero_le hin.1.1
      obtain ⟨y, rfl⟩ := Int.eq_ofNat_of_zero_le hin.2.1
      have hx := hin.1.2
      have hy := hin.2.2
      have hy60 : y < 60 := by have := hv.1.2; omega
      have hx60 : x < 60 := by have := hv.1.2; omega
      have hbit := fun ps h => Lib.hid (beforeB_bit (n := n) (es := es) (ps := ps) hv hx hy h)
      clear hv hin
      go_enter Tryd.func15, Tryd.ntmps15
      go_wp2_with (first | (go_at_call 33; refine hc.mono ?_; rintro e w2 ⟨ps, l, ao, co, rfl, hps, hK, hl, hrow, hb2⟩; have hpl := hps.1) | (show wpList _ _ _ (⟨_, .store 56 _ _, _, _, _, _⟩ :: _) _ _; refine store_past rfl _ _ rfl rfl rfl rfl hpl ?_; intro w3 hs3 hb3 hP3; have hb13 := hb2.trans (hb3.mono hb2.size); obtain ⟨d0, d1⟩ := hO w3 (by rw [← hs1]; exact hb13)) | (go_at_call 35; refine (exist_yes hx hy).mono ?_; rintro e w4 ⟨rfl, hb4⟩; have hP4 := hP3.later hb4; have hc4 := (hP4.cell y (by omega)).1))
      go_ret
      exact ⟨by rw [(hbit ps hps).out]; rfl, hb1.trans ((hb13.trans (hb4.mono hb13.size)).mono (by omega))⟩
    · rw [beforeB_no (fun h => hin h.2)]
      clear hv
      go_enter Tryd.func15, Tryd.ntmps15
      go_wp2_with (first | (go_at_call 33; refine hc.mono ?_; rintro e w2 ⟨ps, l, ao, co, rfl, hps, hK, hl, hrow, hb2⟩; have hpl := hps.1) | (show wpList _ _ _ (⟨_, .store 56 _ _, _, _, _, _⟩ :: _) _ _; refine store_past rfl _ _ rfl rfl rfl rfl hpl ?_; intro w3 hs3 hb3 hP3; have hb13 := hb2.trans (hb3.mono hb2.size); obtain ⟨d0, d1⟩ := hO w3 (by rw [← hs1]; exact hb13)) | (go_at_call 35; refine (exist_no hin).mono ?_; rintro e w4 ⟨rfl, hb4⟩))
      go_ret
      exact ⟨rfl, hb1.trans ((hb13.trans (hb4.mono hb13.size)).mono (by omega))⟩
  · rw [beforeB_no (fun h => hv h.1)]
    have hc := closed_no he1 hT1 hv
    clear hv
    go_enter Tryd.func15, Tryd.ntmps15
    go_wp2_with (first | (go_at_call 33; refine hc.mono ?_; rintro e w2 ⟨ps, rfl, hpl, hb2⟩) | (show wpList _ _ _ (⟨_, .store 56 _ _, _, _, _, _⟩ :: _) _ _; refine store_past rfl _ _ rfl rfl rfl rfl hpl ?_; intro w3 hs3 hb3 hP3))
    go_ret
    exact ⟨rfl, hb1.trans ((hb2.trans (hb3.mono hb2.size)).mono (by omega))⟩
end Go.Proofs.YtofnbndpoiohhaaDoor
