/-
  Package order: Extensions, the call.
-/
import Derived.Test.YtofnbndpoiohhaaDoorOrdX
import Derived.Laws.EntriesVeiled
set_option linter.unusedSimpArgs false
set_option linter.unusedVariables false
set_option maxHeartbeats 8000000
namespace Go.Proofs.YtofnbndpoiohhaaDoor
open Go.RowKit Go.Shelf
attribute [local go_sem] Oper.semAt_some

variable {n : Int} {a : Option Addr} {len cap : Nat} {es : List (Int × Int)} {w : World}

theorem box1 (x : Int) (w : World) : Below w.heap.size w (w.alloc (.cells #[.int .i64 x] 3)) ∧ (w.alloc (.cells #[.int .i64 x] 3)).heap.size = w.heap.size + 1 ∧
    ∀ W, Below (w.heap.size + 1) (w.alloc (.cells #[.int .i64 x] 3)) W → W.cell? ⟨w.heap.size, 0, none⟩ = some (.int .i64 x) := by
  refine ⟨(Below.refl _ _).alloc (Nat.le_refl _) _, by simp, fun W hb => ?_⟩
  have := hb.block w.heap.size (Nat.lt_succ_self _)
  rw [heap_alloc_new] at this
  exact cell_of_row W _ 0 _ _ _ this

theorem ext_inv (most : Int) (he : IsPairs w a len cap es) (hT : TabAt 0 Lib.deBruijn64tab w) (hv : ¬ ValidO n es) :
    Calls Tryd.prog 26 #[.agg #[.int .i64 n, .slice a len cap], .int .i64 most] w fun e w' => e = .returned (.tuple #[.int .i64 0, .int .i64 1]) ∧ Below w.heap.size w w' := by
  obtain ⟨hb0, hs0, hO⟩ := boxO n a len cap w
  obtain ⟨hbm, hsm, hM⟩ := box1 most (w.alloc (.cells #[.int .i64 n, .slice a len cap] 27))
  obtain ⟨c0, c1⟩ := hO _ (hbm.mono (by omega))
  have hb1 := hb0.trans (hbm.mono (by omega))
  have hc := closed_no (he.later hb1) (tab_later hT hb1) hv
  clear hv he hT
  go_enter Tryd.func26, Tryd.ntmps26
  go_wp2_with (fail)
  go_at_call 33
  refine hc.mono ?_
  rintro e w2 ⟨ps, rfl, hpl, hb2⟩
  clear hc
  go_wp2_with (show wpList _ _ _ (⟨_, .store 56 _ _, _, _, _, _⟩ :: _) _ _; refine store_past rfl _ _ rfl rfl rfl rfl hpl ?_; intro w3 hs3 hb3 hP3)
  go_ret2
  exact ⟨rfl, hb1.trans ((hb2.trans (hb3.mono hb2.size)).mono (by omega))⟩

theorem ext_rng (most : Int) (he : IsPairs w a len cap es) (hT : TabAt 0 Lib.deBruijn64tab w) (hv : ValidO n es) (hm : most < 1 ∨ 1000 < most) :
    Calls Tryd.prog 26 #[.agg #[.int .i64 n, .slice a len cap], .int .i64 most] w fun e w' => e = .returned (.tuple #[.int .i64 0, .int .i64 2]) ∧ Below w.heap.size w w' := by
  obtain ⟨hb0, hs0, hO⟩ := boxO n a len cap w
  obtain ⟨hbm, hsm, hM⟩ := box1 most (w.alloc (.cells #[.int .i64 n, .slice a len cap] 27))
  obtain ⟨c0, c1⟩ := hO _ (hbm.mono (by omega))
  have hb1 := hb0.trans (hbm.mono (by omega))
  have hc := closed_yes (he.later hb1) (tab_later hT hb1) hv
  clear hv he hT
  go_enter Tryd.func26, Tryd.ntmps26
  go_wp2_with (fail)
  go_at_call 33
  refine hc.mono ?_
  rintro e w2 ⟨ps, lo, ao, co, rfl, hps, hK, hlo, hrow, hb2⟩
  have hpl := hps.1
  clear hc hps hK hlo hrow
  by_cases h1 : most < 1
  · have d1 : decide (most < 1) = true := decide_eq_true h1
    go_wp2_with (show wpList _ _ _ (⟨_, .store 56 _ _, _, _, _, _⟩ :: _) _ _; refine store_past rfl _ _ rfl rfl rfl rfl hpl ?_; intro w3 hs3 hb3 hP3; have hb13 := hb2.trans (hb3.mono hb2.size); have m3 := hM w3 (by rw [hs0, ← hs0, ← hsm]; exact hb13); rw [hs0] at m3)
    go_ret2
    exact ⟨rfl, hb1.trans (hb13.mono (by omega))⟩
  · have d1 : decide (most < 1) = false := decide_eq_false h1
    have d2 : decide (1000 < most) = true := decide_eq_true (by omega)
    go_wp2_with (show wpList _ _ _ (⟨_, .store 56 _ _, _, _, _, _⟩ :: _) _ _; refine store_past rfl _ _ rfl rfl rfl rfl hpl ?_; intro w3 hs3 hb3 hP3; have hb13 := hb2.trans (hb3.mono hb2.size); have m3 := hM w3 (by rw [hs0, ← hs0, ← hsm]; exact hb13); rw [hs0] at m3)
    go_ret2
    exact ⟨rfl, hb1.trans (hb13.mono (by omega))⟩

theorem ext_yes (M : Nat) (he : IsPairs w a len cap es) (hT : TabAt 0 Lib.deBruijn64tab w) (hv : ValidO n es) (hm : 1 ≤ M ∧ M ≤ 1000) :
    Calls Tryd.prog 26 #[.agg #[.int .i64 n, .slice a len cap], .int .i64 (M : Int)] w fun e w' => e = .returned (.tuple #[.int .i64 ((min M (cntE es n.toNat n.toNat []) : Nat) : Int), .int .i64 0]) ∧ Below w.heap.size w w' := by
  obtain ⟨N, rfl⟩ := Int.eq_ofNat_of_zero_le hv.1.1
  rw [Int.toNat_natCast]
  obtain ⟨hb0, hs0, hO⟩ := boxO N a len cap w
  obtain ⟨hbm, hsm, hM⟩ := box1 M (w.alloc (.cells #[.int .i64 N, .slice a len cap] 27))
  obtain ⟨c0, c1⟩ := hO _ (hbm.mono (by omega))
  have hb1 := hb0.trans (hbm.mono (by omega))
  have hc := closed_yes (he.later hb1) (tab_later hT hb1) hv
  have hN60 : N ≤ 60 := by have := hv.1.2; omega
  have HV := Lib.hid hv
  clear hv he hT
  have d1 : decide ((M : Int) < 1) = false := decide_eq_false (by omega)
  have d2 : decide (1000 < (M : Int)) = false := decide_eq_false (by omega)
  have hmf : ∀ (fn : Fn) (first cap : Array Value) (w : World), (Instr.makeFunc fn first cap).run Tryd.prog w = .ok (.func fn first cap) w := fun _ _ _ _ => rfl
  go_enter Tryd.func26, Tryd.ntmps26
  go_wp2_with (fail)
  go_at_call 33
  refine hc.mono ?_
  rintro e w2 ⟨ps, lo, ao, co, rfl, hps, hK, hlo, hrow, hb2⟩
  have hpl := hps.1
  have HPS := Lib.hid hps
  clear hc hps hK hlo hrow
  have hE : ∀ w3 : World, w3.heap.size = w2.heap.size + 1 → Below w2.heap.size w2 w3 → PastIs w3 w2.heap.size ps →
      ExtW ((w3.alloc (.cells #[.int .i64 0] 3)).alloc (.cells #[cntFn (w2.heap.size + 1) w.heap.size w2.heap.size (w.heap.size + 1)] 63)) (w2.heap.size + 1) w.heap.size w2.heap.size (w.heap.size + 1) N M 0 ps ∧
      Below w3.heap.size w3 ((w3.alloc (.cells #[.int .i64 0] 3)).alloc (.cells #[cntFn (w2.heap.size + 1) w.heap.size w2.heap.size (w.heap.size + 1)] 63)) := by
    intro w3 hs3 hb3 hP3
    have hb13 := hb2.trans (hb3.mono hb2.size)
    have hbA : Below w3.heap.size w3 (w3.alloc (.cells #[.int .i64 0] 3)) := (Below.refl _ _).alloc (Nat.le_refl _) _
    have hbB := hbA.alloc hbA.size (.cells #[cntFn (w2.heap.size + 1) w.heap.size w2.heap.size (w.heap.size + 1)] 63)
    have hsz := hb2.size
    have h14 := hb13.trans (hbB.mono hb13.size)
    refine ⟨⟨⟨by omega, by omega, by omega⟩, (hO _ ((hbm.mono (by omega)).trans (h14.mono (by omega)))).1, hP3.later hbB, ?_, ?_, ?_⟩, hbB⟩
    · have := hM _ (h14.mono (by omega))
      rw [hs0] at this
      exact this
    · have := (Box1.new w3 (.int .i64 0) 3).later ((Below.refl _ (w3.alloc (.cells #[.int .i64 0] 3))).alloc (Nat.le_refl _) (.cells #[cntFn (w2.heap.size + 1) w.heap.size w2.heap.size (w.heap.size + 1)] 63))
      rw [hs3] at this
      exact this
    · have := Box1.new (w3.alloc (.cells #[.int .i64 0] 3)) (cntFn (w2.heap.size + 1) w.heap.size w2.heap.size (w.heap.size + 1)) 63
      rw [World.size_alloc, hs3] at this
      exact this
  have HE := Lib.hid hE
  clear hE
  go_wp2_with (show wpList _ _ _ (⟨_, .store 56 _ _, _, _, _, _⟩ :: _) _ _; refine store_past rfl _ _ rfl rfl rfl rfl hpl ?_; intro w3 hs3 hb3 hP3; have hb13 := hb2.trans (hb3.mono hb2.size); have m3 := hM w3 (by rw [hs0, ← hs0, ← hsm]; exact hb13); rw [hs0] at m3; have k5 : Box1 ((w3.alloc (.cells #[.int .i64 0] 3)).alloc (.cells #[.nilFunc] 63)) (w2.heap.size + 1 + 1) .nilFunc := (by have := Box1.new (w3.alloc (.cells #[.int .i64 0] 3)) Value.nilFunc 63; rw [World.size_alloc, hs3] at this; exact this); obtain ⟨r0, r1⟩ := k5.cells; obtain ⟨hE, hbE⟩ := HE.out w3 hs3 hb3 hP3; have cE := hE.2.1; have HX := Lib.hid hE; have HB := Lib.hid hbE; clear hE hbE; unfold cntFn at cE)
  go_at_call 38
  refine (count_any HV.out HPS.out hm.2 N [] 0 0 _ hN60 BitsOf.zero (by omega) HX.out).mono ?_
  rintro e w5 ⟨rfl, hX5, hb5⟩
  obtain ⟨z0, -⟩ := hX5.2.2.2.2.1.cells
  rw [Nat.zero_add] at z0
  go_wp2
  go_ret2
  exact ⟨rfl, hb1.trans ((hb13.trans ((HB.out.mono (by have := hb13.size; omega)).trans (hb5.mono (by have := hb2.size; omega)))).mono (by omega))⟩

theorem extensions_any (most : Int) (he : IsPairs w a len cap es) (hT : TabAt 0 Lib.deBruijn64tab w) :
    Calls Tryd.prog 26 #[.agg #[.int .i64 n, .slice a len cap], .int .i64 most] w fun e w' => (∃ v c : Int, e = .returned (.tuple #[.int .i64 v, .int .i64 c]) ∧
      ((¬ ValidO n es ∧ v = 0 ∧ c = 1) ∨ (ValidO n es ∧ (most < 1 ∨ 1000 < most) ∧ v = 0 ∧ c = 2) ∨ (ValidO n es ∧ 1 ≤ most ∧ most ≤ 1000 ∧ v = ((min most.toNat (cntE es n.toNat n.toNat []) : Nat) : Int) ∧ c = 0))) ∧ Below w.heap.size w w' := by
  by_cases hv : ValidO n es
  · by_cases hm : most < 1 ∨ 1000 < most
    · refine (ext_rng most he hT hv hm).mono ?_
      rintro e w' ⟨rfl, hb⟩
      exact ⟨⟨0, 2, rfl, .inr (.inl ⟨hv, hm, rfl, rfl⟩)⟩, hb⟩
    · obtain ⟨M, rfl⟩ := Int.eq_ofNat_of_zero_le (show 0 ≤ most by omega)
      refine (ext_yes M he hT hv (by omega)).mono ?_
      rintro e w' ⟨rfl, hb⟩
      exact ⟨⟨_, 0, rfl, .inr (.inr ⟨hv, by omega, by omega, rfl, rfl⟩)⟩, hb⟩
  · refine (ext_inv most he hT hv).mono ?_
    rintro e w' ⟨rfl, hb⟩
    exact ⟨⟨0, 1, rfl, .inl ⟨hv, rfl, rfl⟩⟩, hb⟩
end Go.Proofs.YtofnbndpoiohhaaDoor
