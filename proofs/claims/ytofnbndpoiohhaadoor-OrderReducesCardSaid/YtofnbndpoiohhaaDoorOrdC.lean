/-
  Package order: closed.
-/
import Derived.Test.YtofnbndpoiohhaaDoorOrdD

set_option linter.unusedSimpArgs false
set_option linter.unusedVariables false
namespace Go.Proofs.YtofnbndpoiohhaaDoor
open Go.RowKit Go.Shelf
attribute [local go_sem] Oper.semAt_some

def Inv2 (es : List (Int × Int)) (N B : Nat) (W1 : World) (k : Nat) (l D : Value) (W : World) : Prop :=
  ∃ (ls : List Nat) (dv : Int) (ps : List Int) (ao : Option Addr) (co : Nat), l = .slice ao k co ∧ D = .int .u64 dv ∧ ls.length = k ∧ KL (Ed es) N ls ∧ (0 ≤ dv ∧ dv < 18446744073709551616) ∧ (∀ i, i < 64 → (tb dv i = true ↔ i ∈ ls)) ∧ PastK es ls ps ∧
    PastIs W (B + 1) ps ∧ PastIs W (B + 2) (dirs es) ∧ W.ownsRow (B + 3) 3 1 (.slice ao k co) k (ivs .i64 (ls.map Int.ofNat)) ∧ B + 3 ≤ W.heap.size ∧ Below (B + 1) W1 W
theorem rdy_test {es : List (Int × Int)} (hR : InR 60 es) (hDW : W64 (dirs es)) (hDb : ∀ b a : Nat, b < 60 → tb (gi (dirs es) b) a = decide (((a : Int), (b : Int)) ∈ es)) :
    (∀ (ls : List Nat) (dv : Int), (0 ≤ dv ∧ dv < 18446744073709551616) → (∀ i, i < 64 → (tb dv i = true ↔ i ∈ ls)) → ∀ j, j < 60 → j ∉ ls → (bits .and .u64 (dv / 2 ^ j) 1 == 0) = true) ∧
    (∀ (ls : List Nat) (dv : Int), (0 ≤ dv ∧ dv < 18446744073709551616) → (∀ i, i < 64 → (tb dv i = true ↔ i ∈ ls)) → ∀ j, j < 60 → (∀ a, Ed es a j → a ∈ ls) → (bits .andNot .u64 (gi (dirs es) j) dv == 0) = true) ∧
    (∀ (ls : List Nat) (dv : Int), (0 ≤ dv ∧ dv < 18446744073709551616) → (∀ i, i < 64 → (tb dv i = true ↔ i ∈ ls)) → ∀ j, j < 60 → j ∈ ls → (bits .and .u64 (dv / 2 ^ j) 1 == 0) = false) ∧
    (∀ (ls : List Nat) (dv : Int), (0 ≤ dv ∧ dv < 18446744073709551616) → (∀ i, i < 64 → (tb dv i = true ↔ i ∈ ls)) → ∀ j, j < 60 → ¬ (∀ a, Ed es a j → a ∈ ls) → (bits .andNot .u64 (gi (dirs es) j) dv == 0) = false) := by
  refine ⟨fun ls dv hdv hdb j hj h => ?_, fun ls dv hdv hdb j hj h => ?_, fun ls dv hdv hdb j hj h => ?_, fun ls dv hdv hdb j hj h => ?_⟩
  · rw [and1_eq hdv, Bool.not_eq_true', Bool.eq_false_iff]
    exact fun hh => h ((hdb j (by omega)).1 hh)
  · rw [andNot_eq (hDW.gi j) hdv]
    intro r hr h1
    rw [hDb j r hj, decide_eq_true_iff] at h1
    exact (hdb r hr).2 (h r h1)
  · rw [and1_eq hdv, (hdb j (by omega)).2 h]
    rfl
  · rw [Bool.eq_false_iff]
    intro hh
    rw [andNot_eq (hDW.gi j) hdv] at hh
    refine h fun a e => ?_
    have ha : a < 64 := by have := hR _ e; simp only at this; omega
    exact (hdb a ha).1 (hh a ha (by rw [hDb j a hj]; exact decide_eq_true e))

theorem closed_res {W : World} {tmps : Array Value} {b : Nat} {zs : List Int} {v3 v4 : Value} (hz : zs.length = 60) (hp : tmps[2]?.getD undef = .pointer (some ⟨b, 0, none⟩)) (h3 : tmps[3]?.getD undef = v3) (h4 : tmps[4]?.getD undef = v4) (hg : PastIs W b zs) :
    (results Tryd.f33 tmps).run Tryd.prog W = .ok (.tuple #[.agg (ivs .u64 zs).toArray, v3, v4]) W := by
  have hl := run_loadVar_row (P := Tryd.prog) W b 56 56 (ivs .u64 zs).toArray (0, 0) _ hg past_u rfl (past_i hz)
  simp [results, show Tryd.f33.results = #[.cell 2 56, .tmp 3, .tmp 4] from rfl, hp, h3, h4, asAddr, hl]

set_option maxRecDepth 100000 in
set_option maxHeartbeats 4000000 in
theorem closed_any (n : Int) (a : Option Addr) (len cap : Nat) (es : List (Int × Int)) (w : World) (he : IsPairs w a len cap es) (hT : TabAt 0 Lib.deBruijn64tab w) :
    Calls Tryd.prog 33 #[.agg #[.int .i64 n, .slice a len cap]] w (ClosedRes n es w) := by
  obtain ⟨W1, hW1⟩ : ∃ W1, w.alloc (.cells #[.int .i64 n, .slice a len cap] 27) = W1 := ⟨_, rfl⟩
  have hs1 : W1.heap.size = w.heap.size + 1 := by rw [← hW1]; simp
  have hO1 : W1.heap[w.heap.size]? = some (.cells #[.int .i64 n, .slice a len cap] 27 (0, 0)) := by rw [← hW1]; exact heap_alloc_new w _
  have hB1 : Below w.heap.size w W1 := by rw [← hW1]; exact (Below.refl _ _).alloc (Nat.le_refl _) _
  obtain ⟨W2, hW2⟩ : ∃ W2, W1.alloc (.cells (ivs .u64 zero60).toArray 56) = W2 := ⟨_, rfl⟩
  have hs2 : W2.heap.size = w.heap.size + 2 := by rw [← hW2]; simp [hs1]
  have hP : PastIs W2 (w.heap.size + 1) zero60 := by rw [← hW2, ← hs1]; exact heap_alloc_new W1 _
  have hB2 : Below (w.heap.size + 1) W1 W2 := by rw [← hW2]; exact (Below.refl _ _).alloc (by omega) _
  obtain ⟨W3, hW3⟩ : ∃ W3, W2.alloc (.cells (ivs .u64 zero60).toArray 56) = W3 := ⟨_, rfl⟩
  have hs3 : W3.heap.size = w.heap.size + 3 := by rw [← hW3]; simp [hs2]
  have hD3 : PastIs W3 (w.heap.size + 2) zero60 := by rw [← hW3, ← hs2]; exact heap_alloc_new W2 _
  have hb3 : Below W2.heap.size W2 W3 := by rw [← hW3]; exact (Below.refl _ _).alloc (Nat.le_refl _) _
  have hP3 : PastIs W3 (w.heap.size + 1) zero60 := hP.later hb3
  have hB3 : Below (w.heap.size + 1) W1 W3 := hB2.trans (hb3.mono (by omega))
  have hOc : ∀ W, Below (w.heap.size + 1) W1 W → W.cell? ⟨w.heap.size, 0, none⟩ = some (.int .i64 n) ∧ W.cell? ⟨w.heap.size, 1, none⟩ = some (.slice a len cap) := by
    intro W hb
    have := hb.block w.heap.size (by omega)
    rw [hO1] at this
    exact ⟨cell_of_row W _ 0 _ _ _ this, cell_of_row W _ 1 _ _ _ this⟩
  have hN2 := (hOc W2 hB2).1
  have hS2 := (hOc W2 hB2).2
  have hN3 := (hOc W3 hB3).1
  have hS3 := (hOc W3 hB3).2
  have hBw : ∀ W, Below (w.heap.size + 1) W1 W → Below w.heap.size w W := fun W h => hB1.trans (h.mono (by omega))
  have hlen := he.length
  rw [show (ivs .u64 zero60).toArray = _ from rfl] at hW2 hW3
  simp only [ivs, zero60, List.replicate, List.map] at hW2 hW3
  by_cases h0 : n < 0
  · --<P1
    have d0 : decide (n < 0) = true := decide_eq_true h0
    have hP' := Lib.hid (hP.row zero60)
    go_enter Tryd.func33, Tryd.ntmps33
    go_wp2_with (show wpList _ _ _ (⟨_, .store 56 _ _, _, _, _, _⟩ :: _) _ _; refine wpList_store_row rfl 56 _ _ rfl (w.heap.size + 1) (ivs .u64 zero60).toArray rfl rfl _ _ hP (past_i rfl) rfl (past_one _) ?_)
    try simp only [Exit.inBlock, Exit.then]
    refine bodyPost_ret (closed_res (zs := zero60) rfl rfl rfl rfl hP'.out) rfl ?_
    exact ⟨hBw _ (below_setRow hB2 (Nat.le_refl _) _), .inl ⟨fun h => by have := h.1; omega, rfl⟩⟩
  have d0 : decide (n < 0) = false := decide_eq_false h0
  by_cases h60 : 60 < n
  · --<P1
    have d6 : decide (60 < n) = true := decide_eq_true h60
    have hP' := Lib.hid (hP.row zero60)
    go_enter Tryd.func33, Tryd.ntmps33
    go_wp2_with (show wpList _ _ _ (⟨_, .store 56 _ _, _, _, _, _⟩ :: _) _ _; refine wpList_store_row rfl 56 _ _ rfl (w.heap.size + 1) (ivs .u64 zero60).toArray rfl rfl _ _ hP (past_i rfl) rfl (past_one _) ?_)
    try simp only [Exit.inBlock, Exit.then]
    refine bodyPost_ret (closed_res (zs := zero60) rfl rfl rfl rfl hP'.out) rfl ?_
    exact ⟨hBw _ (below_setRow hB2 (Nat.le_refl _) _), .inl ⟨fun h => by have := h.1; omega, rfl⟩⟩
  have d6 : decide (60 < n) = false := decide_eq_false h60
  by_cases h36 : 3600 < len
  · --<P1
    have d3 : decide (3600 < (len : Int)) = true := decide_eq_true (by omega)
    have hP' := Lib.hid (hP.row zero60)
    go_enter Tryd.func33, Tryd.ntmps33
    go_wp2_with (show wpList _ _ _ (⟨_, .store 56 _ _, _, _, _, _⟩ :: _) _ _; refine wpList_store_row rfl 56 _ _ rfl (w.heap.size + 1) (ivs .u64 zero60).toArray rfl rfl _ _ hP (past_i rfl) rfl (past_one _) ?_)
    try simp only [Exit.inBlock, Exit.then]
    refine bodyPost_ret (closed_res (zs := zero60) rfl rfl rfl rfl hP'.out) rfl ?_
    exact ⟨hBw _ (below_setRow hB2 (Nat.le_refl _) _), .inl ⟨fun h => by have := h.2.1; omega, rfl⟩⟩
  have d3 : decide (3600 < (len : Int)) = false := decide_eq_false (by omega)
  obtain ⟨N, rfl⟩ := Int.eq_ofNat_of_zero_le (show 0 ≤ n by omega)
  go_enter Tryd.func33, Tryd.ntmps33
  go_wp2_with (fail)
  clear hW1 hW2 hW3 hP hB2 hN2 hS2 hb3 hs2 hO1 hB1
  go_loopw [3, 30] (fun l c W => ∃ k : Nat, k ≤ len ∧ c = .int .i64 (k : Int) ∧ l = .slice none 0 0 ∧ PastIs W (w.heap.size + 1) zero60 ∧ PastIs W (w.heap.size + 2) (dirs (es.take k)) ∧ InR N (es.take k) ∧ w.heap.size + 3 ≤ W.heap.size ∧ Below (w.heap.size + 1) W1 W) (fun _ c _ => len - (intOf c).toNat)
  case atStart => exact ⟨0, Nat.zero_le _, rfl, rfl, hP3, hD3, (fun e h => by cases h), by omega, hB3⟩
  case round =>
    obtain ⟨k, hk, rfl, rfl, hP, hD, hR, hsz, hb⟩ := hrel
    obtain ⟨hN, hS⟩ := hOc wr hb
    clear hP3 hD3 hN3 hS3 hB3 hs3
    rcases Nat.lt_or_ge k len with hlt | hge
    · obtain ⟨ba, off, rfl, hbl, c1, c2⟩ := he.at wr (hBw wr hb) k hlt
      obtain ⟨x, hx⟩ : ∃ x, (gp es k).1 = x := ⟨_, rfl⟩
      obtain ⟨y, hy⟩ : ∃ y, (gp es k).2 = y := ⟨_, rfl⟩
      rw [hx] at c1
      rw [hy] at c2
      replace hx := Lib.hid hx
      replace hy := Lib.hid hy
      obtain ⟨Wn, hWn⟩ : ∃ Wn, wr.alloc (.cells #[.int .i64 x, .int .i64 y] 39) = Wn := ⟨_, rfl⟩
      have hbn : Below wr.heap.size wr Wn := by rw [← hWn]; exact (Below.refl _ _).alloc (Nat.le_refl _) _
      have hsn : Wn.heap.size = wr.heap.size + 1 := by rw [← hWn]; simp
      have hXn : Wn.heap[wr.heap.size]? = some (.cells #[.int .i64 x, .int .i64 y] 39 (0, 0)) := by rw [← hWn]; exact heap_alloc_new wr _
      have hcx : Wn.cell? ⟨wr.heap.size, 0, none⟩ = some (.int .i64 x) := cell_of_row Wn _ 0 _ _ _ hXn
      have hcy : Wn.cell? ⟨wr.heap.size, 1, none⟩ = some (.int .i64 y) := cell_of_row Wn _ 1 _ _ _ hXn
      have hPn := hP.later hbn
      have hDn := hD.later hbn
      have hb' := hb.trans (hbn.mono (by omega))
      have hNn := (hOc Wn hb').1
      by_cases hin : (0 ≤ x ∧ x < N) ∧ 0 ≤ y ∧ y < N
      · obtain ⟨X, rfl⟩ := Int.eq_ofNat_of_zero_le hin.1.1
        obtain ⟨Y, rfl⟩ := Int.eq_ofNat_of_zero_le hin.2.1
        obtain ⟨mn, hmn, hmn0⟩ : ∃ mn : Int, (if Y < X then (Y : Int) else (X : Int)) = mn ∧ 0 ≤ mn := ⟨_, rfl, by split <;> omega⟩
        obtain ⟨mx, hmx, hmxN⟩ : ∃ mx : Int, (if X < Y then (Y : Int) else (X : Int)) = mx ∧ mx < N := ⟨_, rfl, by split <;> omega⟩
        have t1 : decide (mn < 0) = false := decide_eq_false (by omega)
        have t2 : decide ((N : Int) ≤ mx) = false := decide_eq_false (by omega)
        have hX : X < 60 := by omega
        have hY : Y < 60 := by omega
        have hRn : Hid (InR N (es.take (k + 1))) := Lib.hid (by rw [take_succ_gp es k (by omega)]; exact hR.snoc (by rw [hx.out, hy.out]; exact hin))
        clear hP hD hb hN hS hbn hXn
        go_wp2
        obtain ⟨S, hSd⟩ : ∃ S : (Nat → Bool) → (Nat → Value) → World → Prop, S = fun L f W => (Below (w.heap.size + 1) W1 W ∧ PastIs W (w.heap.size + 1) zero60 ∧ (W.cell? ⟨wr.heap.size, 0, none⟩ = some (.int .i64 (X : Int)) ∧ W.cell? ⟨wr.heap.size, 1, none⟩ = some (.int .i64 (Y : Int)) ∧ W.heap.size = wr.heap.size + 1) ∧ (stage L f W (fun W => PastIs W (w.heap.size + 2) (dirs (es.take k))) [(9, fun _ W => PastIs W (w.heap.size + 2) (dirStep (dirs (es.take k)) (gp es k)))])) := ⟨_, rfl⟩
        refine wp_region_st mixed (by kernel_rfl) [[], [(0, 51)], [(1, 52)], [(2, 53)], [], [(4, 55)], [(5, 56)], [(3, 54), (6, 57)], [(1, 52), (0, 51), (1, 52), (2, 53), (3, 54), (4, 55), (5, 56), (6, 57), (7, 58)], [(8, 59), (7, 58), (0, 51), (1, 52), (2, 53), (3, 54), (4, 55), (5, 56), (6, 57), (7, 58)]] [(0, 51), (1, 52), (2, 53), (3, 54), (4, 55), (5, 56), (6, 57), (7, 58), (8, 59)] rfl rfl [EV ?e0, EV ?e1, EV ?e2, EV ?e3, EV ?e4, EV ?e5, EV ?e6, EV ?e7, EV ?e8, fun _ => True] S ?start ?steps ?rest
        case start =>
          intro f
          rw [hSd]
          exact ⟨hb'.drew, hPn, ⟨hcx, hcy, hsn⟩, hDn⟩
        case steps =>
          refine ⟨fun L f W hi hd hdn hh hS => ?_, fun L f W hi hd hdn hh hS => ?_, fun L f W hi hd hdn hh hS => ?_, fun L f W hi hd hdn hh hS => ?_, fun L f W hi hd hdn hh hS => ?_, fun L f W hi hd hdn hh hS => ?_, fun L f W hi hd hdn hh hS => ?_, fun L f W hi hd hdn hh hS => ?_, fun L f W hi hd hdn hh hS => ?_, fun L f W hi hd hdn hh hS => ?_, trivial⟩
          · -- 0: Op.indexAddr 39 (Operand.tmp 7) (Operand.const (Value.int IntKind.i64 1))
            unfold stStep
            rw [if_pos (by simp [Region.wanted])]
            intro K Q hK
            simp only [puts, List.foldr_nil]
            go_step
            refine st_ex hK rfl rfl (by simp only [Act.put, List.setIfInBounds_toArray, List.set_cons_succ, List.set_cons_zero, Array.getD_eq_getD_getElem?, List.getElem?_toArray, List.getElem?_cons_succ, List.getElem?_cons_zero, Option.getD_some] <;> rfl) rfl (by rw [hSd] at hS ⊢; exact hS)
          · -- 1: Op.load 3 (Operand.tmp 51)
            obtain ⟨h0, -⟩ := hh
            have g0 : f 0 = _ := h0
            unfold stStep
            rw [if_pos (by simp [Region.wanted])]
            intro K Q hK
            simp only [puts, List.foldr_cons, List.foldr_nil, List.setIfInBounds_toArray, List.set_cons_succ, List.set_cons_zero, g0]
            have hS' := hS
            rw [hSd] at hS'
            have hc1 := hS'.2.2.1.2.1
            go_step
            refine st_ex hK rfl rfl (by simp only [Act.put, List.setIfInBounds_toArray, List.set_cons_succ, List.set_cons_zero, Array.getD_eq_getD_getElem?, List.getElem?_toArray, List.getElem?_cons_succ, List.getElem?_cons_zero, Option.getD_some] <;> rfl) rfl (by rw [hSd] at hS ⊢; exact hS)
          · -- 2: Op.indexAddr 56 (Operand.tmp 5) (Operand.tmp 52)
            obtain ⟨h1, -⟩ := hh
            have g1 : f 1 = _ := h1
            unfold stStep
            rw [if_pos (by simp [Region.wanted])]
            intro K Q hK
            simp only [puts, List.foldr_cons, List.foldr_nil, List.setIfInBounds_toArray, List.set_cons_succ, List.set_cons_zero, g1]
            go_step
            refine st_ex hK rfl rfl (by simp only [Act.put, List.setIfInBounds_toArray, List.set_cons_succ, List.set_cons_zero, Array.getD_eq_getD_getElem?, List.getElem?_toArray, List.getElem?_cons_succ, List.getElem?_cons_zero, Option.getD_some] <;> rfl) rfl (by rw [hSd] at hS ⊢; exact hS)
          · -- 3: Op.load 54 (Operand.tmp 53)
            obtain ⟨h2, -⟩ := hh
            have g2 : f 2 = _ := h2
            have l7 : L 7 = false := Bool.eq_false_iff.2 fun h => by have q := hdn 7 _ h rfl 3 (by decide); rw [show L 3 = false from hi] at q; cases q
            have l9 : L 9 = false := Bool.eq_false_iff.2 fun h => by have q := hdn 9 _ h rfl 7 (by decide); rw [show L 7 = false from l7] at q; cases q
            unfold stStep
            rw [if_pos (by simp [Region.wanted])]
            intro K Q hK
            simp only [puts, List.foldr_cons, List.foldr_nil, List.setIfInBounds_toArray, List.set_cons_succ, List.set_cons_zero, g2]
            have hS' := hS
            rw [hSd] at hS'
            simp only [stage, l9, if_false, Bool.false_eq_true] at hS'
            have hc3 := (hS'.2.2.2.cell Y (by rw [dirs_length]; exact hY)).1
            go_step
            refine st_ex hK rfl rfl (by simp only [Act.put, List.setIfInBounds_toArray, List.set_cons_succ, List.set_cons_zero, Array.getD_eq_getD_getElem?, List.getElem?_toArray, List.getElem?_cons_succ, List.getElem?_cons_zero, Option.getD_some] <;> rfl) rfl (by rw [hSd] at hS ⊢; exact hS)
          · -- 4: Op.indexAddr 39 (Operand.tmp 7) (Operand.const (Value.int IntKind.i64 0))
            unfold stStep
            rw [if_pos (by simp [Region.wanted])]
            intro K Q hK
            simp only [puts, List.foldr_nil]
            go_step
            refine st_ex hK rfl rfl (by simp only [Act.put, List.setIfInBounds_toArray, List.set_cons_succ, List.set_cons_zero, Array.getD_eq_getD_getElem?, List.getElem?_toArray, List.getElem?_cons_succ, List.getElem?_cons_zero, Option.getD_some] <;> rfl) rfl (by rw [hSd] at hS ⊢; exact hS)
          · -- 5: Op.load 3 (Operand.tmp 55)
            obtain ⟨h4, -⟩ := hh
            have g4 : f 4 = _ := h4
            unfold stStep
            rw [if_pos (by simp [Region.wanted])]
            intro K Q hK
            simp only [puts, List.foldr_cons, List.foldr_nil, List.setIfInBounds_toArray, List.set_cons_succ, List.set_cons_zero, g4]
            have hS' := hS
            rw [hSd] at hS'
            have hc5 := hS'.2.2.1.1
            go_step
            refine st_ex hK rfl rfl (by simp only [Act.put, List.setIfInBounds_toArray, List.set_cons_succ, List.set_cons_zero, Array.getD_eq_getD_getElem?, List.getElem?_toArray, List.getElem?_cons_succ, List.getElem?_cons_zero, Option.getD_some] <;> rfl) rfl (by rw [hSd] at hS ⊢; exact hS)
          · -- 6: Op.binOp BinOp.shl 54 (Operand.const (Value.int IntKind.u64 1)) (Operand.tmp 56) 3
            obtain ⟨h5, -⟩ := hh
            have g5 : f 5 = _ := h5
            unfold stStep
            rw [if_pos (by simp [Region.wanted])]
            intro K Q hK
            simp only [puts, List.foldr_cons, List.foldr_nil, List.setIfInBounds_toArray, List.set_cons_succ, List.set_cons_zero, g5]
            go_step
            refine st_ex hK rfl rfl (by simp only [Act.put, List.setIfInBounds_toArray, List.set_cons_succ, List.set_cons_zero, Array.getD_eq_getD_getElem?, List.getElem?_toArray, List.getElem?_cons_succ, List.getElem?_cons_zero, Option.getD_some] <;> rfl) rfl (by rw [hSd] at hS ⊢; exact hS)
          · -- 7: Op.binOp BinOp.or 54 (Operand.tmp 54) (Operand.tmp 57) 54
            obtain ⟨h3, h6, -⟩ := hh
            have g3 : f 3 = _ := h3
            have g6 : f 6 = _ := h6
            unfold stStep
            rw [if_pos (by simp [Region.wanted])]
            intro K Q hK
            simp only [puts, List.foldr_cons, List.foldr_nil, List.setIfInBounds_toArray, List.set_cons_succ, List.set_cons_zero, g3, g6]
            go_step
            refine st_ex hK rfl rfl (by simp only [Act.put, List.setIfInBounds_toArray, List.set_cons_succ, List.set_cons_zero, Array.getD_eq_getD_getElem?, List.getElem?_toArray, List.getElem?_cons_succ, List.getElem?_cons_zero, Option.getD_some] <;> rfl) rfl (by rw [hSd] at hS ⊢; exact hS)
          · -- 8: Op.indexAddr 56 (Operand.tmp 5) (Operand.tmp 52)
            obtain ⟨h1, h0, _, h2, h3, h4, h5, h6, h7, -⟩ := hh
            have g1 : f 1 = _ := h1
            have g0 : f 0 = _ := h0
            have g2 : f 2 = _ := h2
            have g3 : f 3 = _ := h3
            have g4 : f 4 = _ := h4
            have g5 : f 5 = _ := h5
            have g6 : f 6 = _ := h6
            have g7 : f 7 = _ := h7
            unfold stStep
            rw [if_pos (by simp [Region.wanted])]
            intro K Q hK
            simp only [puts, List.foldr_cons, List.foldr_nil, List.setIfInBounds_toArray, List.set_cons_succ, List.set_cons_zero, g1, g0, g2, g3, g4, g5, g6, g7]
            go_step
            refine st_ex hK rfl rfl (by simp only [Act.put, List.setIfInBounds_toArray, List.set_cons_succ, List.set_cons_zero, Array.getD_eq_getD_getElem?, List.getElem?_toArray, List.getElem?_cons_succ, List.getElem?_cons_zero, Option.getD_some] <;> rfl) rfl (by rw [hSd] at hS ⊢; exact hS)
          · -- 9: Op.store 54 (Operand.tmp 59) (Operand.tmp 58)
            obtain ⟨h8, h7, h0, h1, h2, h3, h4, h5, h6, _, -⟩ := hh
            have g8 : f 8 = _ := h8
            have g7 : f 7 = _ := h7
            have g0 : f 0 = _ := h0
            have g1 : f 1 = _ := h1
            have g2 : f 2 = _ := h2
            have g3 : f 3 = _ := h3
            have g4 : f 4 = _ := h4
            have g5 : f 5 = _ := h5
            have g6 : f 6 = _ := h6
            unfold stStep
            rw [if_pos (by simp [Region.wanted])]
            intro K Q hK
            simp only [puts, List.foldr_cons, List.foldr_nil, List.setIfInBounds_toArray, List.set_cons_succ, List.set_cons_zero, g8, g7, g0, g1, g2, g3, g4, g5, g6]
            rw [hSd] at hS hK
            have l9 : L 9 = false := hi
            try simp only [stage, l9, if_true, if_false, Bool.false_eq_true] at hS
            obtain ⟨hbW, hPW, ⟨hx0, hy0, hsW⟩, hDW⟩ := hS
            obtain ⟨hc9, hf9⟩ := hDW.cell Y (by rw [dirs_length]; exact hY)
            go_step
            refine hK.out _ _ rfl trivial ?_
            refine ⟨hbW.setCell (by show _ ≤ w.heap.size + 2; omega) _, hPW.other _ (by show w.heap.size + 1 ≠ w.heap.size + 2; omega) _, ⟨(cell_other hx0 (by show wr.heap.size ≠ w.heap.size + 2; omega) _), (cell_other hy0 (by show wr.heap.size ≠ w.heap.size + 2; omega) _), by rw [size_setCell']; exact hsW⟩, ?_⟩
            have hst := hDW.store Y (bits .or .u64 (gi (dirs (es.take k)) Y) (IntKind.u64.wrap (2 ^ X)))
            unfold dirStep
            rw [hx.out, hy.out]
            exact hst
        case rest =>
          intro L f W2 hL hh hS
          rw [hSd] at hS
          clear hSd
          have l9 : L 9 = true := hL 9 (by decide)
          simp only [stage, l9, if_true] at hS
          clear hL l9
          obtain ⟨h0, h1, h2, h3, h4, h5, h6, h7, h8, -⟩ := hh
          have g0 : f 0 = _ := h0
          have g1 : f 1 = _ := h1
          have g2 : f 2 = _ := h2
          have g3 : f 3 = _ := h3
          have g4 : f 4 = _ := h4
          have g5 : f 5 = _ := h5
          have g6 : f 6 = _ := h6
          have g7 : f 7 = _ := h7
          have g8 : f 8 = _ := h8
          simp only [puts, List.foldr_cons, List.foldr_nil, List.setIfInBounds_toArray, List.set_cons_succ, List.set_cons_zero, g0, g1, g2, g3, g4, g5, g6, g7, g8]
          clear h0 h1 h2 h3 h4 h5 h6 h7 h8 g0 g1 g2 g3 g4 g5 g6 g7 g8
          obtain ⟨hbW, hPW, ⟨hx0, hy0, hsW⟩, hDW⟩ := hS
          go_wp2
          go_roundw
          case rel => exact ⟨k + 1, hlt, by go_num, rfl, hPW, by rw [dirs_snoc es k (by omega)]; exact hDW, hRn.out, by omega, hbW⟩
          case measure => simp [intOf]; omega
      · --<P3
        have hbad : Hid (¬ ValidO N es) := Lib.hid (fun h => hin (by have := h.2.2.1 _ (gp_mem es k (by omega)); rw [hx.out, hy.out] at this; exact this))
        have hP' := Lib.hid (hPn.row zero60)
        have hbr := below_setRow hb' (Nat.le_refl _) (ivs .u64 zero60).toArray
        clear hP hD hb hN hS hbn hXn
        obtain ⟨mn, hmn⟩ : ∃ mn, min x y = mn := ⟨_, rfl⟩
        obtain ⟨mx, hmx⟩ : ∃ mx, max x y = mx := ⟨_, rfl⟩
        by_cases hm0 : mn < 0
        · have t1 : decide (mn < 0) = true := decide_eq_true hm0
          go_wp2_with (show wpList _ _ _ (⟨_, .store 56 _ _, _, _, _, _⟩ :: _) _ _; refine wpList_store_row rfl 56 _ _ rfl (w.heap.size + 1) (ivs .u64 zero60).toArray rfl rfl _ _ hPn (past_i rfl) rfl (past_one _) ?_)
          all_goals
            try simp only [Exit.inBlock, Exit.then]
            refine bodyPost_ret (closed_res (zs := zero60) rfl rfl rfl rfl hP'.out) rfl ?_
            exact ⟨hBw _ hbr, .inl ⟨hbad.out, rfl⟩⟩
        · have t1 : decide (mn < 0) = false := decide_eq_false hm0
          have t2 : decide ((N : Int) ≤ mx) = true := decide_eq_true (by omega)
          go_wp2_with (show wpList _ _ _ (⟨_, .store 56 _ _, _, _, _, _⟩ :: _) _ _; refine wpList_store_row rfl 56 _ _ rfl (w.heap.size + 1) (ivs .u64 zero60).toArray rfl rfl _ _ hPn (past_i rfl) rfl (past_one _) ?_)
          all_goals
            try simp only [Exit.inBlock, Exit.then]
            refine bodyPost_ret (closed_res (zs := zero60) rfl rfl rfl rfl hP'.out) rfl ?_
            exact ⟨hBw _ hbr, .inl ⟨hbad.out, rfl⟩⟩
    · --<P4
      have e : k = len := by omega
      subst e
      rw [List.take_of_length_le (by omega)] at hD hR
      obtain ⟨hDW, hDb⟩ := dirs_is (es := es) (fun e h => by have := hR e h; omega)
      have hDl := dirs_length es
      have hE := hR.ed
      have hN60 : N ≤ 60 := by omega
      have hTb : ∀ W, Below (w.heap.size + 1) W1 W → TabAt 0 Lib.deBruijn64tab W := fun W h j hj => ((hBw W h).cell (p := ⟨0, j, none⟩) (lt_of_cell (hT j hj))).trans (hT j hj)
      have hrd := Lib.hid (rdy_test (fun e h => by have := hR e h; omega) hDW hDb)
      have hl36 : Hid (k ≤ 3600) := Lib.hid (by omega)
      replace hlen := Lib.hid hlen
      clear he d0 d6 d3 h36 hS h0 h60 hk hge
      go_wp2_with (fail)
      go_loopw [3, 8, 63] (fun l D c W => ∃ k : Nat, k ≤ N ∧ c = .int .i64 (k : Int) ∧ Inv2 es N w.heap.size W1 k l D W) (fun _ _ c _ => N - (intOf c).toNat)
      case atStart => exact ⟨0, Nat.zero_le _, rfl, [], 0, zero60, none, 0, rfl, rfl, rfl, .nil, by decide, (fun i _ => by rw [tb_zero]; simp), PastK.nil es, hP, hD, World.ownsRow_nil _ _ _ _, hsz, hb⟩
      case round =>
        clear hP hD hsz hb hN
        obtain ⟨k, hk, rfl, ls, dv, ps, ao, co, rfl, rfl, hll, hK, hdv, hdb, hps, hP, hD, hrow, hsz, hb⟩ := hrel
        rcases Nat.lt_or_ge k N with hlt | hge
        · have hN := (hOc wr hb).1
          go_wp2_with (fail)
          obtain ⟨wo, hwo⟩ : ∃ wo, wo = wr := ⟨_, rfl⟩
          go_loopw [9, 67] (fun nx c W => ∃ j : Nat, j ≤ N ∧ c = .int .i64 (j : Int) ∧ nx = .int .i64 (-1) ∧ W = wo ∧ ∀ i, i < j → ¬ Rdy es ls i) (fun _ c _ => N - (intOf c).toNat)
          case atStart => exact ⟨0, Nat.zero_le _, rfl, rfl, hwo.symm, (fun i hi => by omega)⟩
          case round =>
            subst hwo
            obtain ⟨j, hj, rfl, rfl, rfl, hnr⟩ := hrel
            rcases Nat.lt_or_ge j N with hjl | hjg
            · obtain ⟨hcd, hfd⟩ := hD.cell j (by omega)
              by_cases hr : Rdy es ls j
              · --<P6
                obtain ⟨z0, hz0⟩ : ∃ z0 : Nat, gi (dirs es) j = (z0 : Int) := ⟨(gi (dirs es) j).toNat, by have := hDW.gi j; omega⟩
                have hz0b : z0 < 18446744073709551616 := by have := hDW.gi j; omega
                have q1 := hrd.out.1 ls dv hdv hdb j (by omega) hr.1
                have q2 := hrd.out.2.1 ls dv hdv hdb j (by omega) hr.2
                rw [hz0] at q2 hcd
                have hj0 : decide ((j : Int) < 0) = false := decide_eq_false (by omega)
                obtain ⟨hov, hob⟩ := orBit_spec hdv (show j < 64 by omega)
                have hob := Lib.hid hob
                have hnr := Lib.hid hnr
                have hDb' := hDb j
                have hacc := Lib.hid (Acc.start (x := j) (fun e h => by have := hR e h; omega) hz0b (fun a => by rw [← hz0]; exact hDb j a (by omega)))
                have hupl : Hid (∀ c ∈ upB 64 0 z0, c ∈ ls) := Lib.hid (fun c hc => hr.2 c (by have := (mem_upB.1 hc).2; rw [← hz0, hDb j c (by omega), decide_eq_true_iff] at this; exact this))
                clear hDb'
                have hpl := hps.1
                go_wp2_with (at_builtin; refine app_one (k := .i64) elI64 rfl _ _ rfl rfl hrow rfl (by omega) hsz ?_; intro a1 c1 w1 hrow1 hb1; have hP1 := hP.kept hb1 (by omega); have hD1 := hD.kept hb1 (by omega); obtain ⟨hcp1, hfp1⟩ := hP1.cell j (by omega); have hcd1 := (hD1.cell j (by omega)).1; rw [hz0] at hcd1; have hD2 := hD1.other ⟨w.heap.size + 1, j, none⟩ (by show w.heap.size + 2 ≠ w.heap.size + 1; omega) (.int .u64 (z0 : Int)); have hcd2 := (hD2.cell j (by omega)).1; rw [hz0] at hcd2)
                have hP2 := hP1.store j (z0 : Int)
                have hrow2 := ownsRow_setCell_below hrow1 (a := ⟨w.heap.size + 1, j, none⟩) (by show w.heap.size + 1 < _; omega) (.int .u64 (z0 : Int))
                have hb2 := (hb.trans (hb1.mono (by omega))).setCell (p := ⟨w.heap.size + 1, j, none⟩) (Nat.le_refl _) (.int .u64 (z0 : Int))
                have hsz2 : w.heap.size + 3 ≤ (w1.setCell ⟨w.heap.size + 1, j, none⟩ (.int .u64 (z0 : Int))).heap.size := by rw [size_setCell']; have := hb1.size; omega
                generalize w1.setCell ⟨w.heap.size + 1, j, none⟩ (.int .u64 (z0 : Int)) = w2 at hP2 hD2 hcd2 hrow2 hb2 hsz2 ⊢
                clear hcp1 hfp1 hcd1 hP1 hD1 hb1 hrow1 hrow hP hD hcd hfd hN hsz hb q1 q2
                go_loopw [11] (fun d W => ∃ (z : Nat) (v : Int), d = .int .u64 (z : Int) ∧ z < 18446744073709551616 ∧ Acc es j z v ∧ (∀ c ∈ upB 64 0 z, c ∈ ls) ∧ PastIs W (w.heap.size + 1) (ps.set j v) ∧ PastIs W (w.heap.size + 2) (dirs es) ∧ W.ownsRow (w.heap.size + 3) 3 1 (.slice a1 (k + 1) c1) (k + 1) (ivs .i64 (ls.map Int.ofNat ++ [(j : Int)])) ∧ w.heap.size + 3 ≤ W.heap.size ∧ Below (w.heap.size + 1) W1 W) (fun d _ => (intOf d).toNat)
                case atStart => exact ⟨z0, z0, rfl, hz0b, hacc.out, hupl.out, hP2, hD2, hrow2, hsz2, hb2⟩
                case round =>
                  clear hP2 hD2 hrow2 hsz2 hb2 hacc hupl hcd2
                  obtain ⟨z, v, rfl, hz, hacc, hupl, hP, hD, hrow, hsz, hb⟩ := hrel
                  by_cases hzz : z = 0
                  · --<PA
                    subst hzz
                    have hfin := Lib.hid (hps.snoc (show j < 60 by omega) hr.1 hacc.1 hacc.done)
                    have hK2 := Lib.hid (KL.snoc hK hr.1 hjl hr.2 (fun i hi hil => by
                      refine Classical.byContradiction fun hc => hnr.out i hi ⟨hil, fun a e => Classical.byContradiction fun ha => hc ⟨a, e, ha⟩⟩))
                    have hbits : Hid (∀ i, i < 64 → (tb (bits .or .u64 dv (IntKind.u64.wrap (2 ^ j))) i = true ↔ i ∈ ls ++ [j])) := Lib.hid (fun i hi => by rw [hob.out, Bool.or_eq_true, hdb i hi, decide_eq_true_iff, List.mem_append, List.mem_singleton])
                    clear hupl hnr hr hK hacc
                    go_wp2_with (fail)
                    go_roundw
                    case rel => exact ⟨k + 1, hlt, by go_num, ls ++ [j], _, ps.set j v, a1, c1, rfl, rfl, by rw [List.length_append, hll]; rfl, hK2.out, hov, hbits.out, hfin.out, hP, hD, by rw [List.map_append]; exact hrow, hsz, hb⟩
                    case measure => simp [intOf]; omega
                  · --<PB
                    obtain ⟨c, hcz⟩ : ∃ c : Nat, Lib.ctz 64 z = c := ⟨_, rfl⟩
                    have hcm : c ∈ ls := hupl c (by rw [upB_ctz z hzz hz, hcz]; exact List.mem_cons_self)
                    have hcN := hK.topo.lt c hcm
                    have hcj : c ≠ j := fun e => hr.1 (by rw [← e]; exact hcm)
                    have hacc2 := Lib.hid (hacc.step hzz hz hps (by rw [hcz]; exact hcm) (by omega))
                    rw [hcz] at hacc2
                    have hupl2 : Hid (∀ c ∈ upB 64 0 (z &&& (z - 1)), c ∈ ls) := Lib.hid (fun c hc => hupl c (by rw [upB_ctz z hzz hz]; exact List.mem_cons_of_mem _ hc))
                    have hne : ((z : Int) != 0) = true := by simp; omega
                    have hband : bits BinOp.and IntKind.u64 (z : Int) ((z : Int) - 1) = ((z &&& (z - 1) : Nat) : Int) := by
                      rw [show ((z : Int) - 1) = ((z - 1 : Nat) : Int) by omega]
                      exact bits_and_u64_nat z (z - 1) hz (by omega)
                    have hlow : z &&& (z - 1) < z := by
                      have := Nat.and_le_right (n := z) (m := z - 1)
                      omega
                    have hgj : gi (ps.set j v) j = v := by rw [gi_set _ _ _ _ (by omega), if_pos rfl]
                    have hgc : gi (ps.set j v) c = gi ps c := by rw [gi_set _ _ _ _ (by omega), if_neg hcj]
                    have hpl2 : (ps.set j v).length = 60 := by rw [List.length_set]; exact hpl
                    have hset : Hid ((ps.set j v).set j (bits .or .u64 v (gi ps c)) = ps.set j (bits .or .u64 v (gi ps c))) := Lib.hid (by rw [List.set_set])
                    have hctz := Lib.hid hcz
                    clear hcz hacc hupl hnr hr hdb hob hov hdv hz0
                    go_wp2
                    obtain ⟨S, hSd⟩ : ∃ S : (Nat → Bool) → (Nat → Value) → World → Prop, S = fun L f W => (Below (w.heap.size + 1) W1 W ∧ PastIs W (w.heap.size + 2) (dirs es) ∧ (W.ownsRow (w.heap.size + 3) 3 1 (.slice a1 (k + 1) c1) (k + 1) (ivs .i64 (ls.map Int.ofNat ++ [(j : Int)])) ∧ w.heap.size + 3 ≤ W.heap.size) ∧ (stage L f W (fun W => PastIs W (w.heap.size + 1) (ps.set j v)) [(9, fun _ W => PastIs W (w.heap.size + 1) (ps.set j (bits .or .u64 v (gi ps c))))])) := ⟨_, rfl⟩
                    refine wp_region_st mixed (by kernel_rfl) [[], [(0, 110)], [(1, 111)], [], [(3, 113)], [(4, 114)], [(5, 115)], [(2, 112), (6, 116)], [(0, 110), (0, 110), (1, 111), (2, 112), (3, 113), (4, 114), (5, 115), (6, 116), (7, 117)], [(8, 118), (7, 117), (4, 114), (0, 110), (1, 111), (2, 112), (3, 113), (4, 114), (5, 115), (6, 116), (7, 117)]] [(0, 110), (1, 111), (2, 112), (3, 113), (4, 114), (5, 115), (6, 116), (7, 117), (8, 118)] rfl rfl [EV ?eb0, EV ?eb1, EV ?eb2, EV ?eb3, EV ?eb4, EV ?eb5, EV ?eb6, EV ?eb7, EV ?eb8, fun _ => True] S ?bstart ?bsteps ?brest
                    case bstart =>
                      intro f
                      rw [hSd]
                      exact ⟨hb.drew, hD, ⟨hrow, hsz⟩, hP⟩
                    case bsteps =>
                      refine ⟨fun L f W hi hd hdn hh hS => ?_, fun L f W hi hd hdn hh hS => ?_, fun L f W hi hd hdn hh hS => ?_, fun L f W hi hd hdn hh hS => ?_, fun L f W hi hd hdn hh hS => ?_, fun L f W hi hd hdn hh hS => ?_, fun L f W hi hd hdn hh hS => ?_, fun L f W hi hd hdn hh hS => ?_, fun L f W hi hd hdn hh hS => ?_, fun L f W hi hd hdn hh hS => ?_, trivial⟩
                      · -- 0: Op.move (Operand.tmp 9)
                        unfold stStep
                        rw [if_pos (by simp [Region.wanted])]
                        intro K Q hK
                        simp only [puts, List.foldr_nil]
                        go_step
                        refine st_ex hK rfl rfl (by simp only [Act.put, List.setIfInBounds_toArray, List.set_cons_succ, List.set_cons_zero, Array.getD_eq_getD_getElem?, List.getElem?_toArray, List.getElem?_cons_succ, List.getElem?_cons_zero, Option.getD_some] <;> rfl) rfl (by rw [hSd] at hS ⊢; exact hS)
                      · -- 1: Op.indexAddr 56 (Operand.tmp 2) (Operand.tmp 110)
                        obtain ⟨h0, -⟩ := hh
                        have g0 : f 0 = _ := h0
                        unfold stStep
                        rw [if_pos (by simp [Region.wanted])]
                        intro K Q hK
                        simp only [puts, List.foldr_cons, List.foldr_nil, List.setIfInBounds_toArray, List.set_cons_succ, List.set_cons_zero, g0]
                        go_step
                        refine st_ex hK rfl rfl (by simp only [Act.put, List.setIfInBounds_toArray, List.set_cons_succ, List.set_cons_zero, Array.getD_eq_getD_getElem?, List.getElem?_toArray, List.getElem?_cons_succ, List.getElem?_cons_zero, Option.getD_some] <;> rfl) rfl (by rw [hSd] at hS ⊢; exact hS)
                      · -- 2: Op.load 54 (Operand.tmp 111)
                        obtain ⟨h1, -⟩ := hh
                        have g1 : f 1 = _ := h1
                        have l7 : L 7 = false := Bool.eq_false_iff.2 fun h => by have q := hdn 7 _ h rfl 2 (by decide); rw [show L 2 = false from hi] at q; cases q
                        have l9 : L 9 = false := Bool.eq_false_iff.2 fun h => by have q := hdn 9 _ h rfl 7 (by decide); rw [show L 7 = false from l7] at q; cases q
                        unfold stStep
                        rw [if_pos (by simp [Region.wanted])]
                        intro K Q hK
                        simp only [puts, List.foldr_cons, List.foldr_nil, List.setIfInBounds_toArray, List.set_cons_succ, List.set_cons_zero, g1]
                        have hS' := hS
                        rw [hSd] at hS'
                        simp only [stage, l9, if_false, Bool.false_eq_true] at hS'
                        have hc2 := (hS'.2.2.2.cell j (by rw [hpl2]; omega)).1
                        rw [hgj] at hc2
                        go_step
                        refine st_ex hK rfl rfl (by simp only [Act.put, List.setIfInBounds_toArray, List.set_cons_succ, List.set_cons_zero, Array.getD_eq_getD_getElem?, List.getElem?_toArray, List.getElem?_cons_succ, List.getElem?_cons_zero, Option.getD_some] <;> rfl) rfl (by rw [hSd] at hS ⊢; exact hS)
                      · -- 3: Op.move (Operand.tmp 11)
                        unfold stStep
                        rw [if_pos (by simp [Region.wanted])]
                        intro K Q hK
                        simp only [puts, List.foldr_nil]
                        go_step
                        refine st_ex hK rfl rfl (by simp only [Act.put, List.setIfInBounds_toArray, List.set_cons_succ, List.set_cons_zero, Array.getD_eq_getD_getElem?, List.getElem?_toArray, List.getElem?_cons_succ, List.getElem?_cons_zero, Option.getD_some] <;> rfl) rfl (by rw [hSd] at hS ⊢; exact hS)
                      · -- 4: Op.call { callee := Callee.value (Operand.func 39), args := #[Operand.tmp 113], argTypes :
                        obtain ⟨h3, -⟩ := hh
                        have g3 : f 3 = _ := h3
                        unfold stStep
                        rw [if_pos (by simp [Region.wanted])]
                        intro K Q hK
                        simp only [puts, List.foldr_cons, List.foldr_nil, List.setIfInBounds_toArray, List.set_cons_succ, List.set_cons_zero, g3]
                        have hS' := hS
                        rw [hSd] at hS'
                        have htz := tz_any z hz W (hTb W hS'.1)
                        rw [hctz.out] at htz
                        go_step
                        go_at_call 39
                        refine htz.mono ?_
                        rintro e w' ⟨rfl, rfl⟩
                        refine st_ex hK rfl rfl (by simp only [Act.put, List.setIfInBounds_toArray, List.set_cons_succ, List.set_cons_zero, Array.getD_eq_getD_getElem?, List.getElem?_toArray, List.getElem?_cons_succ, List.getElem?_cons_zero, Option.getD_some] <;> rfl) rfl (by rw [hSd] at hS ⊢; exact hS)
                      · -- 5: Op.indexAddr 56 (Operand.tmp 2) (Operand.tmp 114)
                        obtain ⟨h4, -⟩ := hh
                        have g4 : f 4 = _ := h4
                        unfold stStep
                        rw [if_pos (by simp [Region.wanted])]
                        intro K Q hK
                        simp only [puts, List.foldr_cons, List.foldr_nil, List.setIfInBounds_toArray, List.set_cons_succ, List.set_cons_zero, g4]
                        go_step
                        refine st_ex hK rfl rfl (by simp only [Act.put, List.setIfInBounds_toArray, List.set_cons_succ, List.set_cons_zero, Array.getD_eq_getD_getElem?, List.getElem?_toArray, List.getElem?_cons_succ, List.getElem?_cons_zero, Option.getD_some] <;> rfl) rfl (by rw [hSd] at hS ⊢; exact hS)
                      · -- 6: Op.load 54 (Operand.tmp 115)
                        obtain ⟨h5, -⟩ := hh
                        have g5 : f 5 = _ := h5
                        have l7 : L 7 = false := Bool.eq_false_iff.2 fun h => by have q := hdn 7 _ h rfl 6 (by decide); rw [show L 6 = false from hi] at q; cases q
                        have l9 : L 9 = false := Bool.eq_false_iff.2 fun h => by have q := hdn 9 _ h rfl 7 (by decide); rw [show L 7 = false from l7] at q; cases q
                        unfold stStep
                        rw [if_pos (by simp [Region.wanted])]
                        intro K Q hK
                        simp only [puts, List.foldr_cons, List.foldr_nil, List.setIfInBounds_toArray, List.set_cons_succ, List.set_cons_zero, g5]
                        have hS' := hS
                        rw [hSd] at hS'
                        simp only [stage, l9, if_false, Bool.false_eq_true] at hS'
                        have hc6 := (hS'.2.2.2.cell c (by rw [hpl2]; omega)).1
                        rw [hgc] at hc6
                        go_step
                        refine st_ex hK rfl rfl (by simp only [Act.put, List.setIfInBounds_toArray, List.set_cons_succ, List.set_cons_zero, Array.getD_eq_getD_getElem?, List.getElem?_toArray, List.getElem?_cons_succ, List.getElem?_cons_zero, Option.getD_some] <;> rfl) rfl (by rw [hSd] at hS ⊢; exact hS)
                      · -- 7: Op.binOp BinOp.or 54 (Operand.tmp 112) (Operand.tmp 116) 54
                        obtain ⟨h2, h6, -⟩ := hh
                        have g2 : f 2 = _ := h2
                        have g6 : f 6 = _ := h6
                        unfold stStep
                        rw [if_pos (by simp [Region.wanted])]
                        intro K Q hK
                        simp only [puts, List.foldr_cons, List.foldr_nil, List.setIfInBounds_toArray, List.set_cons_succ, List.set_cons_zero, g2, g6]
                        go_step
                        refine st_ex hK rfl rfl (by simp only [Act.put, List.setIfInBounds_toArray, List.set_cons_succ, List.set_cons_zero, Array.getD_eq_getD_getElem?, List.getElem?_toArray, List.getElem?_cons_succ, List.getElem?_cons_zero, Option.getD_some] <;> rfl) rfl (by rw [hSd] at hS ⊢; exact hS)
                      · -- 8: Op.indexAddr 56 (Operand.tmp 2) (Operand.tmp 110)
                        obtain ⟨h0, _, h1, h2, h3, h4, h5, h6, h7, -⟩ := hh
                        have g0 : f 0 = _ := h0
                        have g1 : f 1 = _ := h1
                        have g2 : f 2 = _ := h2
                        have g3 : f 3 = _ := h3
                        have g4 : f 4 = _ := h4
                        have g5 : f 5 = _ := h5
                        have g6 : f 6 = _ := h6
                        have g7 : f 7 = _ := h7
                        unfold stStep
                        rw [if_pos (by simp [Region.wanted])]
                        intro K Q hK
                        simp only [puts, List.foldr_cons, List.foldr_nil, List.setIfInBounds_toArray, List.set_cons_succ, List.set_cons_zero, g0, g1, g2, g3, g4, g5, g6, g7]
                        go_step
                        refine st_ex hK rfl rfl (by simp only [Act.put, List.setIfInBounds_toArray, List.set_cons_succ, List.set_cons_zero, Array.getD_eq_getD_getElem?, List.getElem?_toArray, List.getElem?_cons_succ, List.getElem?_cons_zero, Option.getD_some] <;> rfl) rfl (by rw [hSd] at hS ⊢; exact hS)
                      · -- 9: Op.store 54 (Operand.tmp 118) (Operand.tmp 117)
                        obtain ⟨h8, h7, h4, h0, h1, h2, h3, _, h5, h6, _, -⟩ := hh
                        have g8 : f 8 = _ := h8
                        have g7 : f 7 = _ := h7
                        have g4 : f 4 = _ := h4
                        have g0 : f 0 = _ := h0
                        have g1 : f 1 = _ := h1
                        have g2 : f 2 = _ := h2
                        have g3 : f 3 = _ := h3
                        have g5 : f 5 = _ := h5
                        have g6 : f 6 = _ := h6
                        unfold stStep
                        rw [if_pos (by simp [Region.wanted])]
                        intro K Q hK
                        simp only [puts, List.foldr_cons, List.foldr_nil, List.setIfInBounds_toArray, List.set_cons_succ, List.set_cons_zero, g8, g7, g4, g0, g1, g2, g3, g5, g6]
                        rw [hSd] at hS hK
                        have l9 : L 9 = false := hi
                        try simp only [stage, l9, if_true, if_false, Bool.false_eq_true] at hS
                        obtain ⟨hbW, hDW2, ⟨hrowW, hsW⟩, hPW⟩ := hS
                        obtain ⟨hc9, hf9⟩ := hPW.cell j (by rw [hpl2]; omega)
                        go_step
                        refine hK.out _ _ rfl trivial ?_
                        refine ⟨hbW.setCell (Nat.le_refl _) _, hDW2.other _ (by show w.heap.size + 2 ≠ w.heap.size + 1; omega) _, ⟨ownsRow_setCell_below hrowW (by show w.heap.size + 1 < _; omega) _, by rw [size_setCell']; exact hsW⟩, ?_⟩
                        have hst := hPW.store j (bits .or .u64 v (gi ps c))
                        rw [hset.out] at hst
                        exact hst
                    case brest =>
                      intro L f W2 hL hh hS
                      rw [hSd] at hS
                      clear hSd
                      have l9 : L 9 = true := hL 9 (by decide)
                      simp only [stage, l9, if_true] at hS
                      clear hL l9
                      obtain ⟨h0, h1, h2, h3, h4, h5, h6, h7, h8, -⟩ := hh
                      have g0 : f 0 = _ := h0
                      have g1 : f 1 = _ := h1
                      have g2 : f 2 = _ := h2
                      have g3 : f 3 = _ := h3
                      have g4 : f 4 = _ := h4
                      have g5 : f 5 = _ := h5
                      have g6 : f 6 = _ := h6
                      have g7 : f 7 = _ := h7
                      have g8 : f 8 = _ := h8
                      simp only [puts, List.foldr_cons, List.foldr_nil, List.setIfInBounds_toArray, List.set_cons_succ, List.set_cons_zero, g0, g1, g2, g3, g4, g5, g6, g7, g8]
                      clear h0 h1 h2 h3 h4 h5 h6 h7 h8 g0 g1 g2 g3 g4 g5 g6 g7 g8
                      obtain ⟨hbW, hDW2, ⟨hrowW, hsW⟩, hPW⟩ := hS
                      go_wp2
                      go_roundw
                      case rel => exact ⟨z &&& (z - 1), _, rfl, by omega, hacc2.out, hupl2.out, hPW, hDW2, hrowW, hsW, hbW⟩
                      case measure => simp [intOf]; omega
              · --<P5
                by_cases hjm : j ∈ ls
                · have q1 := hrd.out.2.2.1 ls dv hdv hdb j (by omega) hjm
                  have hnr2 : Hid (∀ i, i < j + 1 → ¬ Rdy es ls i) := Lib.hid (fun i hi => by rcases Nat.lt_or_ge i j with h | h; exact hnr i h; rw [show i = j by omega]; exact hr)
                  clear hnr hr
                  go_wp2_with (fail)
                  go_roundw
                  case rel => exact ⟨j + 1, hjl, by go_num, by first | rfl | trivial, by first | rfl | trivial, hnr2.out⟩
                  case measure => simp [intOf]; omega
                · have q1 := hrd.out.1 ls dv hdv hdb j (by omega) hjm
                  have q2 := hrd.out.2.2.2 ls dv hdv hdb j (by omega) (fun h => hr ⟨hjm, h⟩)
                  have hnr2 : Hid (∀ i, i < j + 1 → ¬ Rdy es ls i) := Lib.hid (fun i hi => by rcases Nat.lt_or_ge i j with h | h; exact hnr i h; rw [show i = j by omega]; exact hr)
                  clear hnr hr
                  go_wp2_with (fail)
                  go_roundw
                  case rel => exact ⟨j + 1, hjl, by go_num, by first | rfl | trivial, by first | rfl | trivial, hnr2.out⟩
                  case measure => simp [intOf]; omega
            · --<P7
              have e : N = j := by omega
              subst e
              have hbad : Hid (¬ ValidO N es) := Lib.hid (fun h => by
                obtain ⟨i, hi, h1, h2⟩ := hK.topo.next (by omega) hE h.2.2.2
                exact hnr i hi ⟨h1, h2⟩)
              have hP' := Lib.hid (hP.row zero60)
              have hbr := below_setRow hb (Nat.le_refl _) (ivs .u64 zero60).toArray
              have hpl : (ivs .u64 ps).toArray.size = (ivs .u64 zero60).toArray.size := by rw [past_size hps.1]; rfl
              clear hnr
              go_wp2_with (show wpList _ _ _ (⟨_, .store 56 _ _, _, _, _, _⟩ :: _) _ _; refine wpList_store_row rfl 56 _ _ rfl (w.heap.size + 1) (ivs .u64 zero60).toArray rfl rfl _ _ hP (past_i rfl) hpl (past_one _) ?_)
              try simp only [Exit.inBlock, Exit.then]
              refine bodyPost_ret (closed_res (zs := zero60) rfl rfl rfl rfl hP'.out) rfl ?_
              exact ⟨hBw _ hbr, .inl ⟨hbad.out, rfl⟩⟩
        · --<P8
          have e : N = k := by omega
          subst e
          have hN := (hOc wr hb).1
          have hval : Hid (ValidO N es) := Lib.hid ⟨⟨by omega, by omega⟩, by rw [hlen.out]; exact hl36.out, hR, hK.topo.acyclic hll hE⟩
          have hpast : Hid (PastOf es ps) := Lib.hid ⟨hps.1, hps.2.1, fun b hb a ha => by
            rw [hps.2.2 b hb a ha]
            exact ⟨And.right, fun p => ⟨hK.topo.full hll b (by rcases p.last with e | ⟨c, _, e⟩; exact (hE _ _ e).2; exact (hE _ _ e).2), p⟩⟩⟩
          have hbr := below_setRow hb (Nat.le_refl _) (ivs .u64 ps).toArray
          have hP' := Lib.hid (hP.row ps)
          have hrowr := Lib.hid (row_setRow hrow (show w.heap.size + 1 < w.heap.size + 3 by omega) (ivs .u64 ps).toArray)
          have hpl := hps.1
          go_wp2_with (first | (show wpList _ _ _ (⟨_, .load 56 _, _, _, _, _⟩ :: _) _ _; refine wpList_load_row rfl 56 _ rfl (w.heap.size + 1) rfl _ (ivs .u64 ps).toArray _ _ hP past_u rfl (past_i hpl) ?_) | (show wpList _ _ _ (⟨_, .store 56 _ _, _, _, _, _⟩ :: _) _ _; refine wpList_store_row rfl 56 _ _ rfl (w.heap.size + 1) (ivs .u64 ps).toArray rfl rfl _ _ hP (past_i hpl) rfl (past_one _) ?_))
          try simp only [Exit.inBlock, Exit.then]
          refine bodyPost_ret (closed_res (zs := ps) hpl rfl rfl rfl hP'.out) rfl ?_
          refine ⟨hBw _ hbr, .inr ⟨hval.out, ps, ls, ao, co, by rw [hll]; rfl, hpast.out, hK, hll, ?_⟩⟩
          have := hrowr.out
          rw [hll]
          exact this.from_mono (by omega)
end Go.Proofs.YtofnbndpoiohhaaDoor
