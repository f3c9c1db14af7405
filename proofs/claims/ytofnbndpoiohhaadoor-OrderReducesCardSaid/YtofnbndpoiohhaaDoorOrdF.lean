/-
  Package order: Concurrent, Linear.
-/
import Derived.Test.YtofnbndpoiohhaaDoorOrdE
set_option linter.unusedSimpArgs false
set_option linter.unusedVariables false
namespace Go.Proofs.YtofnbndpoiohhaaDoor
open Go.RowKit Go.Shelf
attribute [local go_sem] Oper.semAt_some

variable {n : Int} {a : Option Addr} {len cap : Nat} {es : List (Int × Int)} {w : World}

def ConcP (n : Int) (es : List (Int × Int)) (x y : Int) : Prop := ValidO n es ∧ ((0 ≤ x ∧ x < n) ∧ 0 ≤ y ∧ y < n) ∧ x ≠ y ∧ ¬ Path (Ed es) x.toNat y.toNat ∧ ¬ Path (Ed es) y.toNat x.toNat
open Classical in
noncomputable def concB (n : Int) (es : List (Int × Int)) (x y : Int) : Bool := decide (ConcP n es x y)
open Classical in
theorem concB_no {x y : Int} (h : ¬ ConcP n es x y) : concB n es x y = false := by
  unfold concB
  exact decide_eq_false h
open Classical in
theorem concB_yes {x y : Int} (h : ConcP n es x y) : concB n es x y = true := by
  unfold concB
  exact decide_eq_true h
theorem past_bit0 {x y : Nat} {ps : List Int} (hx : x < 60) (hy : y < 60) (hps : PastOf es ps) : (Path (Ed es) x y → (bits .and .u64 (gi ps y / 2 ^ x) 1 == 0) = false) ∧ (¬ Path (Ed es) x y → (bits .and .u64 (gi ps y / 2 ^ x) 1 == 0) = true) := by
  have h := hps.2.2 y hy x (by omega)
  rw [and1_eq (hps.2.1.gi y)]
  exact ⟨fun p => by rw [h.2 p]; rfl, fun p => by rw [Bool.not_eq_true', Bool.eq_false_iff]; exact fun hh => p (h.1 hh)⟩

def ConcCalls (n : Int) (a : Option Addr) (len cap : Nat) (w : World) (x y : Int) (r : Bool) : Prop :=
  Calls Tryd.prog 17 #[.agg #[.int .i64 n, .slice a len cap], .int .i64 x, .int .i64 y] w fun e w' => e = .returned (.bool r) ∧ Below w.heap.size w w'

set_option maxHeartbeats 8000000 in
theorem conc_same {x y : Nat} (he : IsPairs w a len cap es) (hT : TabAt 0 Lib.deBruijn64tab w) (hv : ValidO n es) (hx : (x : Int) < n) (hy : (y : Int) < n) (hxy : x = y) : ConcCalls n a len cap w x y false := by
  have hx60 : x < 60 := by have := hv.1.2; omega
  have hy60 : y < 60 := by have := hv.1.2; omega
  have hex := fun W => exist_yes (a := a) (len := len) (cap := cap) (w := W) hx hy
  obtain ⟨hb1, hs1, hO⟩ := boxO n a len cap w
  obtain ⟨c0, c1⟩ := hO _ (Below.refl _ _)
  have he1 := he.later hb1
  have hT1 := tab_later hT hb1
  have hc := closed_yes he1 hT1 hv
  clear hv he hT he1 hT1
  clear hx hy
  have hne : ((x : Int) != (y : Int)) = false := by simp; omega
  clear hxy
  unfold ConcCalls
  go_enter Tryd.func17, Tryd.ntmps17
  go_wp2_with (fail)
  go_at_call 33
  refine hc.mono ?_
  rintro e w2 ⟨ps, l, ao, co, rfl, hps, hK, hl, hrow, hb2⟩
  have hpl := hps.1
  clear hc
  replace hps := Lib.hid hps
  clear hK hl hrow
  go_wp2_with (show wpList _ _ _ (⟨_, .store 56 _ _, _, _, _, _⟩ :: _) _ _; refine store_past rfl _ _ rfl rfl rfl rfl hpl ?_; intro w3 hs3 hb3 hP3; have hb13 := hb2.trans (hb3.mono hb2.size); obtain ⟨d0, d1⟩ := hO w3 (by rw [← hs1]; exact hb13))
  go_at_call 35
  refine (hex _).mono ?_
  rintro e w4 ⟨rfl, hb4⟩
  have hP4 := hP3.later hb4
  have hc4 := (hP4.cell y (by omega)).1
  have hc4' := (hP4.cell x (by omega)).1
  clear hP3 hP4 hex hO d0 d1 c0 c1 hps hpl hs3
  go_wp2
  go_ret
  exact ⟨rfl, hb1.trans ((hb13.trans (hb4.mono hb13.size)).mono (by omega))⟩

set_option maxHeartbeats 8000000 in
theorem conc_p1 {x y : Nat} (he : IsPairs w a len cap es) (hT : TabAt 0 Lib.deBruijn64tab w) (hv : ValidO n es) (hx : (x : Int) < n) (hy : (y : Int) < n) (hxy : x ≠ y) (p1 : Path (Ed es) x y) : ConcCalls n a len cap w x y false := by
  have hx60 : x < 60 := by have := hv.1.2; omega
  have hy60 : y < 60 := by have := hv.1.2; omega
  have hex := fun W => exist_yes (a := a) (len := len) (cap := cap) (w := W) hx hy
  obtain ⟨hb1, hs1, hO⟩ := boxO n a len cap w
  obtain ⟨c0, c1⟩ := hO _ (Below.refl _ _)
  have he1 := he.later hb1
  have hT1 := tab_later hT hb1
  have hc := closed_yes he1 hT1 hv
  clear hv he hT he1 hT1
  clear hx hy
  have hne : ((x : Int) != (y : Int)) = true := by simp; omega
  clear hxy
  unfold ConcCalls
  go_enter Tryd.func17, Tryd.ntmps17
  go_wp2_with (fail)
  go_at_call 33
  refine hc.mono ?_
  rintro e w2 ⟨ps, l, ao, co, rfl, hps, hK, hl, hrow, hb2⟩
  have hpl := hps.1
  clear hc
  have q1 := (past_bit0 hx60 hy60 hps).1 p1
  clear p1
  replace hps := Lib.hid hps
  clear hK hl hrow
  go_wp2_with (show wpList _ _ _ (⟨_, .store 56 _ _, _, _, _, _⟩ :: _) _ _; refine store_past rfl _ _ rfl rfl rfl rfl hpl ?_; intro w3 hs3 hb3 hP3; have hb13 := hb2.trans (hb3.mono hb2.size); obtain ⟨d0, d1⟩ := hO w3 (by rw [← hs1]; exact hb13))
  go_at_call 35
  refine (hex _).mono ?_
  rintro e w4 ⟨rfl, hb4⟩
  have hP4 := hP3.later hb4
  have hc4 := (hP4.cell y (by omega)).1
  have hc4' := (hP4.cell x (by omega)).1
  clear hP3 hP4 hex hO d0 d1 c0 c1 hps hpl hs3
  go_wp2
  go_ret
  exact ⟨rfl, hb1.trans ((hb13.trans (hb4.mono hb13.size)).mono (by omega))⟩

set_option maxHeartbeats 8000000 in
theorem conc_p2 {x y : Nat} (he : IsPairs w a len cap es) (hT : TabAt 0 Lib.deBruijn64tab w) (hv : ValidO n es) (hx : (x : Int) < n) (hy : (y : Int) < n) (hxy : x ≠ y) (p1 : ¬ Path (Ed es) x y) (p2 : Path (Ed es) y x) : ConcCalls n a len cap w x y false := by
  have hx60 : x < 60 := by have := hv.1.2; omega
  have hy60 : y < 60 := by have := hv.1.2; omega
  have hex := fun W => exist_yes (a := a) (len := len) (cap := cap) (w := W) hx hy
  obtain ⟨hb1, hs1, hO⟩ := boxO n a len cap w
  obtain ⟨c0, c1⟩ := hO _ (Below.refl _ _)
  have he1 := he.later hb1
  have hT1 := tab_later hT hb1
  have hc := closed_yes he1 hT1 hv
  clear hv he hT he1 hT1
  clear hx hy
  have hne : ((x : Int) != (y : Int)) = true := by simp; omega
  clear hxy
  unfold ConcCalls
  go_enter Tryd.func17, Tryd.ntmps17
  go_wp2_with (fail)
  go_at_call 33
  refine hc.mono ?_
  rintro e w2 ⟨ps, l, ao, co, rfl, hps, hK, hl, hrow, hb2⟩
  have hpl := hps.1
  clear hc
  have q1 := (past_bit0 hx60 hy60 hps).2 p1
  have q2 := (past_bit0 hy60 hx60 hps).1 p2
  clear p1 p2
  replace hps := Lib.hid hps
  clear hK hl hrow
  go_wp2_with (show wpList _ _ _ (⟨_, .store 56 _ _, _, _, _, _⟩ :: _) _ _; refine store_past rfl _ _ rfl rfl rfl rfl hpl ?_; intro w3 hs3 hb3 hP3; have hb13 := hb2.trans (hb3.mono hb2.size); obtain ⟨d0, d1⟩ := hO w3 (by rw [← hs1]; exact hb13))
  go_at_call 35
  refine (hex _).mono ?_
  rintro e w4 ⟨rfl, hb4⟩
  have hP4 := hP3.later hb4
  have hc4 := (hP4.cell y (by omega)).1
  have hc4' := (hP4.cell x (by omega)).1
  clear hP3 hP4 hex hO d0 d1 c0 c1 hps hpl hs3
  go_wp2
  go_ret
  exact ⟨rfl, hb1.trans ((hb13.trans (hb4.mono hb13.size)).mono (by omega))⟩

set_option maxHeartbeats 8000000 in
theorem conc_yes {x y : Nat} (he : IsPairs w a len cap es) (hT : TabAt 0 Lib.deBruijn64tab w) (hv : ValidO n es) (hx : (x : Int) < n) (hy : (y : Int) < n) (hxy : x ≠ y) (p1 : ¬ Path (Ed es) x y) (p2 : ¬ Path (Ed es) y x) : ConcCalls n a len cap w x y true := by
  have hx60 : x < 60 := by have := hv.1.2; omega
  have hy60 : y < 60 := by have := hv.1.2; omega
  have hex := fun W => exist_yes (a := a) (len := len) (cap := cap) (w := W) hx hy
  obtain ⟨hb1, hs1, hO⟩ := boxO n a len cap w
  obtain ⟨c0, c1⟩ := hO _ (Below.refl _ _)
  have he1 := he.later hb1
  have hT1 := tab_later hT hb1
  have hc := closed_yes he1 hT1 hv
  clear hv he hT he1 hT1
  clear hx hy
  have hne : ((x : Int) != (y : Int)) = true := by simp; omega
  clear hxy
  unfold ConcCalls
  go_enter Tryd.func17, Tryd.ntmps17
  go_wp2_with (fail)
  go_at_call 33
  refine hc.mono ?_
  rintro e w2 ⟨ps, l, ao, co, rfl, hps, hK, hl, hrow, hb2⟩
  have hpl := hps.1
  clear hc
  have q1 := (past_bit0 hx60 hy60 hps).2 p1
  have q2 := (past_bit0 hy60 hx60 hps).2 p2
  clear p1 p2
  replace hps := Lib.hid hps
  clear hK hl hrow
  go_wp2_with (show wpList _ _ _ (⟨_, .store 56 _ _, _, _, _, _⟩ :: _) _ _; refine store_past rfl _ _ rfl rfl rfl rfl hpl ?_; intro w3 hs3 hb3 hP3; have hb13 := hb2.trans (hb3.mono hb2.size); obtain ⟨d0, d1⟩ := hO w3 (by rw [← hs1]; exact hb13))
  go_at_call 35
  refine (hex _).mono ?_
  rintro e w4 ⟨rfl, hb4⟩
  have hP4 := hP3.later hb4
  have hc4 := (hP4.cell y (by omega)).1
  have hc4' := (hP4.cell x (by omega)).1
  clear hP3 hP4 hex hO d0 d1 c0 c1 hps hpl hs3
  go_wp2
  go_ret
  exact ⟨rfl, hb1.trans ((hb13.trans (hb4.mono hb13.size)).mono (by omega))⟩

theorem conc_out {x y : Int} (he : IsPairs w a len cap es) (hT : TabAt 0 Lib.deBruijn64tab w) (hv : ValidO n es) (hin : ¬ ((0 ≤ x ∧ x < n) ∧ 0 ≤ y ∧ y < n)) : ConcCalls n a len cap w x y false := by
  have hex := fun W => exist_no (a := a) (len := len) (cap := cap) (w := W) hin
  obtain ⟨hb1, hs1, hO⟩ := boxO n a len cap w
  obtain ⟨c0, c1⟩ := hO _ (Below.refl _ _)
  have he1 := he.later hb1
  have hT1 := tab_later hT hb1
  have hc := closed_yes he1 hT1 hv
  clear hv he hT he1 hT1
  clear hin
  unfold ConcCalls
  go_enter Tryd.func17, Tryd.ntmps17
  go_wp2_with (fail)
  go_at_call 33
  refine hc.mono ?_
  rintro e w2 ⟨ps, l, ao, co, rfl, hps, hK, hl, hrow, hb2⟩
  have hpl := hps.1
  clear hc hps hK hl hrow
  go_wp2_with (show wpList _ _ _ (⟨_, .store 56 _ _, _, _, _, _⟩ :: _) _ _; refine store_past rfl _ _ rfl rfl rfl rfl hpl ?_; intro w3 hs3 hb3 hP3; have hb13 := hb2.trans (hb3.mono hb2.size); obtain ⟨d0, d1⟩ := hO w3 (by rw [← hs1]; exact hb13))
  go_at_call 35
  refine (hex _).mono ?_
  rintro e w4 ⟨rfl, hb4⟩
  clear hex
  go_wp2
  go_ret
  exact ⟨rfl, hb1.trans ((hb13.trans (hb4.mono hb13.size)).mono (by omega))⟩

theorem conc_inv {x y : Int} (he : IsPairs w a len cap es) (hT : TabAt 0 Lib.deBruijn64tab w) (hv : ¬ ValidO n es) : ConcCalls n a len cap w x y false := by
  obtain ⟨hb1, hs1, hO⟩ := boxO n a len cap w
  obtain ⟨c0, c1⟩ := hO _ (Below.refl _ _)
  have he1 := he.later hb1
  have hT1 := tab_later hT hb1
  have hc := closed_no he1 hT1 hv
  clear hv he hT he1 hT1
  unfold ConcCalls
  go_enter Tryd.func17, Tryd.ntmps17
  go_wp2_with (fail)
  go_at_call 33
  refine hc.mono ?_
  rintro e w2 ⟨ps, rfl, hpl, hb2⟩
  clear hc
  go_wp2_with (show wpList _ _ _ (⟨_, .store 56 _ _, _, _, _, _⟩ :: _) _ _; refine store_past rfl _ _ rfl rfl rfl rfl hpl ?_; intro w3 hs3 hb3 hP3; have hb13 := hb2.trans (hb3.mono hb2.size); obtain ⟨d0, d1⟩ := hO w3 (by rw [← hs1]; exact hb13))
  go_ret
  exact ⟨rfl, hb1.trans (hb13.mono (by omega))⟩

theorem concurrent_any (x y : Int) (he : IsPairs w a len cap es) (hT : TabAt 0 Lib.deBruijn64tab w) :
    Calls Tryd.prog 17 #[.agg #[.int .i64 n, .slice a len cap], .int .i64 x, .int .i64 y] w fun e w' => e = .returned (.bool (concB n es x y)) ∧ Below w.heap.size w w' := by
  show ConcCalls n a len cap w x y (concB n es x y)
  by_cases hv : ValidO n es
  · by_cases hin : (0 ≤ x ∧ x < n) ∧ 0 ≤ y ∧ y < n
    · obtain ⟨x, rfl⟩ := Int.eq_ofNat_of_zero_le hin.1.1
      obtain ⟨y, rfl⟩ := Int.eq_ofNat_of_zero_le hin.2.1
      have hx := hin.1.2
      have hy := hin.2.2
      by_cases hxy : x = y
      · rw [concB_no (fun h => h.2.2.1 (by rw [hxy]))]
        exact conc_same he hT hv hx hy hxy
      · by_cases p1 : Path (Ed es) x y
        · rw [concB_no (fun h => h.2.2.2.1 p1)]
          exact conc_p1 he hT hv hx hy hxy p1
        · by_cases p2 : Path (Ed es) y x
          · rw [concB_no (fun h => h.2.2.2.2 p2)]
            exact conc_p2 he hT hv hx hy hxy p1 p2
          · rw [concB_yes ⟨hv, hin, fun e => hxy (Int.ofNat_inj.1 e), p1, p2⟩]
            exact conc_yes he hT hv hx hy hxy p1 p2
    · rw [concB_no (fun h => hin h.2.1)]
      exact conc_out he hT hv hin
  · rw [concB_no (fun h => hv h.1)]
    exact conc_inv he hT hv

theorem linear_yes (he : IsPairs w a len cap es) (hT : TabAt 0 Lib.deBruijn64tab w) (hv : ValidO n es) :
    Calls Tryd.prog 19 #[.agg #[.int .i64 n, .slice a len cap]] w fun e w' => ∃ l ao co, e = .returned (.tuple #[.slice ao l.length co, .int .i64 0]) ∧ KL (Ed es) n.toNat l ∧ l.length = n.toNat ∧ w'.ownsRow w.heap.size 3 1 (.slice ao l.length co) l.length (ivs .i64 (l.map Int.ofNat)) ∧ Below w.heap.size w w' := by
  obtain ⟨hb1, hs1, hO⟩ := boxO n a len cap w
  obtain ⟨c0, c1⟩ := hO _ (Below.refl _ _)
  have he1 := he.later hb1
  have hT1 := tab_later hT hb1
  have hc := closed_yes he1 hT1 hv
  clear hv he hT he1 hT1
  go_enter Tryd.func19, Tryd.ntmps19
  go_wp2_with (fail)
  go_at_call 33
  refine hc.mono ?_
  rintro e w2 ⟨ps, l, ao, co, rfl, hps, hK, hl, hrow, hb2⟩
  have hpl := hps.1
  replace hl := Lib.hid hl
  obtain ⟨L, hL⟩ : ∃ L, l.length = L := ⟨_, rfl⟩
  rw [hL] at hrow ⊢
  have HL := Lib.hid hL
  clear hL
  go_wp2_with (show wpList _ _ _ (⟨_, .store 56 _ _, _, _, _, _⟩ :: _) _ _; refine store_past rfl _ _ rfl rfl rfl rfl hpl ?_; intro w3 hs3 hb3 hP3; have hrow3 := hrow.kept_below hb3)
  go_ret2
  rw [← HL.out] at *
  exact ⟨l, ao, co, rfl, hK, hl.out, hrow3.from_mono (by omega), hb1.trans ((hb2.trans (hb3.mono hb2.size)).mono (by omega))⟩
theorem linear_no (he : IsPairs w a len cap es) (hT : TabAt 0 Lib.deBruijn64tab w) (hv : ¬ ValidO n es) :
    Calls Tryd.prog 19 #[.agg #[.int .i64 n, .slice a len cap]] w fun e w' => e = .returned (.tuple #[.slice none 0 0, .int .i64 1]) ∧ Below w.heap.size w w' := by
  obtain ⟨hb1, hs1, hO⟩ := boxO n a len cap w
  obtain ⟨c0, c1⟩ := hO _ (Below.refl _ _)
  have he1 := he.later hb1
  have hT1 := tab_later hT hb1
  have hc := closed_no he1 hT1 hv
  clear hv he hT he1 hT1
  go_enter Tryd.func19, Tryd.ntmps19
  go_wp2_with (fail)
  go_at_call 33
  refine hc.mono ?_
  rintro e w2 ⟨ps, rfl, hpl, hb2⟩
  go_wp2_with (show wpList _ _ _ (⟨_, .store 56 _ _, _, _, _, _⟩ :: _) _ _; refine store_past rfl _ _ rfl rfl rfl rfl hpl ?_; intro w3 hs3 hb3 hP3)
  go_ret2
  exact ⟨rfl, hb1.trans ((hb2.trans (hb3.mono hb2.size)).mono (by omega))⟩
end Go.Proofs.YtofnbndpoiohhaaDoor

