/-
  Reach and Dist from one node; what they say of paths. The laws' words for valid graphs.
-/
import Derived.Test.YtlogmgkjikamaaaGraLw
import Derived.OpenShut
set_option linter.unusedSimpArgs false
set_option linter.unusedVariables false
set_option maxHeartbeats 4000000
namespace Go.Proofs.Ytlogmgkjikamaaa
open Go.RowKit Go.ChangeShapes

variable {a : Option Addr} {len cap : Nat} {g : List (List Int)} {w : World}
theorem reach_one {x : Int} (hg : IsRows w a len cap g) :
    Calls Try.prog 24 #[.slice a len cap, .slice (some ⟨w.heap.size, 0, none⟩) 1 1] (w.alloc (.cells #[.int .i64 x] 3)) fun e w' => (LRes (rcR g [x]) (checkV g [x]) e w' ∧ Hid (checkV g [x] = 0 → DistL g [x] (dsR g [x]))) ∧ Below w.heap.size w w' := by
  have hbA : Below w.heap.size w (w.alloc (.cells #[.int .i64 x] 3)) := (Below.refl _ _).alloc (Nat.le_refl _) _
  exact (reach_l (hg.later hbA) (new_ints .i64 w 3 [x] 1 rfl (by decide)).row).mono fun _ _ h => ⟨h.1, hbA.trans (h.2.mono hbA.size)⟩
theorem dist_one {x : Int} (hg : IsRows w a len cap g) :
    Calls Try.prog 22 #[.slice a len cap, .slice (some ⟨w.heap.size, 0, none⟩) 1 1] (w.alloc (.cells #[.int .i64 x] 3)) fun e w' => (LRes (dsR g [x]) (checkV g [x]) e w' ∧ Hid (checkV g [x] = 0 → DistL g [x] (dsR g [x]))) ∧ Below w.heap.size w w' := by
  have hbA : Below w.heap.size w (w.alloc (.cells #[.int .i64 x] 3)) := (Below.refl _ _).alloc (Nat.le_refl _) _
  exact (dist_l (hg.later hbA) (new_ints .i64 w 3 [x] 1 rfl (by decide)).row).mono fun _ _ h => ⟨h.1, hbA.trans (h.2.mono hbA.size)⟩
theorem checkV_one (hv : ValidG g) {x : Nat} (hx : x < g.length) : checkV g [(x : Int)] = 0 := checkV_zero.2 ⟨hv, fun z hz => by rw [List.mem_singleton.1 hz]; omega⟩
theorem GE.both (hv : ValidG g) : ∀ a b, GE g a b → a < g.length ∧ b < g.length := fun a b h => h.lt hv
theorem mem_reachL {zs : List Int} {n y : Nat} : (y : Int) ∈ reachL zs n ↔ y < n ∧ 0 ≤ gi zs y := by
  unfold reachL
  rw [mem_rowE]
  constructor
  · rintro ⟨i, h1, h2, h3⟩
    have : y = i := by omega
    subst this
    exact ⟨h1, of_decide_eq_true h2⟩
  · rintro ⟨h1, h2⟩
    exact ⟨y, h1, decide_eq_true h2, rfl⟩
/-- Reach tells what is reachable. -/
theorem mem_rcR {l : List Int} (hv : ValidG g) (hc : checkV g l = 0) (hd : DistL g l (dsR g l)) {y : Nat} (hy : y < g.length) : (y : Int) ∈ rcR g l ↔ ∃ s : Nat, (s : Int) ∈ l ∧ Rch (GE g) s y := by
  unfold rcR
  rw [if_pos hc, mem_reachL]
  have := hd.2.reach_iff (GE.both hv) (fun s hs => by have := (checkV_zero.1 hc).2 _ hs; omega) hy
  rw [this]
  exact ⟨fun h => h.2, fun h => ⟨hy, h⟩⟩
theorem mem_rcR_one (hv : ValidG g) {x y : Nat} (hx : x < g.length) (hd : Hid (checkV g [(x : Int)] = 0 → DistL g [(x : Int)] (dsR g [(x : Int)]))) (hy : y < g.length) : (y : Int) ∈ rcR g [(x : Int)] ↔ Rch (GE g) x y := by
  have hc := checkV_one hv hx
  rw [mem_rcR hv hc (hd.out hc) hy]
  constructor
  · rintro ⟨s, h1, h2⟩
    have : s = x := by rw [List.mem_singleton] at h1; omega
    rw [← this]; exact h2
  · intro h
    exact ⟨x, by simp, h⟩
theorem bkR_yes (hv : ValidG g) : bkR g = backG g := by unfold bkR; rw [validGB_yes hv, if_pos rfl]
theorem bkE_yes (hv : ValidG g) : bkE g = 0 := by unfold bkE; rw [validGB_yes hv, if_pos rfl]
theorem backG_length (g : List (List Int)) : (backG g).length = g.length := graphE_length _ _
theorem backG_valid (hv : ValidG g) : ValidG (backG g) := graphE_valid hv.1 _
theorem rch_back (hv : ValidG g) {x y : Nat} : Rch (GE (backG g)) y x ↔ Rch (GE g) x y := by
  constructor
  · intro h
    exact (h.rev).mono fun a b e => (backG_edge hv).1 e
  · intro h
    exact (h.rev).mono fun a b e => (backG_edge hv).2 e
theorem has_any {al : Option Addr} {ll cl : Nat} {l : List Int} {n : Int} (h : IsRow .i64 w al ll cl l) (hs : ll ≤ 1000000) :
    Calls Try.prog 14 #[.slice al ll cl, .int .i64 n] w fun e w' => e = .returned (.bool (decide (n ∈ l))) ∧ w = w' := refHas_any _ _ _ _ _ _ h (by omega)
theorem u8_node {z : Int} (hz : (Lit.int .u8 z).wf = true) {N : Nat} (hN : 0 < N) : ∃ x : Nat, x < N ∧ Int.tmod z (N : Int) = (x : Int) ∧ 0 ≤ z ∧ z ≤ 255 := by
  have h := bounds_u8 hz
  obtain ⟨m, rfl⟩ := Int.eq_ofNat_of_zero_le h.1
  exact ⟨m % N, Nat.mod_lt _ hN, rfl, h.1, h.2⟩
theorem back_yes (hv : ValidG g) (hg : IsRows w a len cap g) :
    Calls Try.prog 30 #[.slice a len cap] w fun e w' => GRes (backG g) 0 e w' ∧ Below w.heap.size w w' := (back_g hg).mono fun _ _ h => ⟨by have := h.1; rwa [bkR_yes hv, bkE_yes hv] at this, h.2⟩
theorem back_back (hv : ValidG g) (hg : IsRows w a len cap (backG g)) :
    Calls Try.prog 30 #[.slice a len cap] w fun e w' => GRes g 0 e w' ∧ Below w.heap.size w w' := (back_yes (backG_valid hv) hg).mono fun _ _ h => ⟨by have := h.1; rwa [backG_back hv] at this, h.2⟩
theorem reach_yes {x : Nat} (hv : ValidG g) (hx : x < g.length) (hg : IsRows w a len cap g) :
    Calls Try.prog 24 #[.slice a len cap, .slice (some ⟨w.heap.size, 0, none⟩) 1 1] (w.alloc (.cells #[.int .i64 (x : Int)] 3)) fun e w' => (LRes (rcR g [(x : Int)]) 0 e w' ∧ Hid (∀ y, y < g.length → ((y : Int) ∈ rcR g [(x : Int)] ↔ Rch (GE g) x y))) ∧ Below w.heap.size w w' :=
  (reach_one hg).mono fun _ _ h => ⟨⟨by have := h.1.1; rwa [checkV_one hv hx] at this, Lib.hid fun y hy => mem_rcR_one hv hx h.1.2 hy⟩, h.2⟩
open Classical in
noncomputable def yes (p : Prop) : Bool := decide p
open Classical in
theorem yes_iff {p : Prop} : yes p = true ↔ p := by unfold yes; exact decide_eq_true_iff
theorem yes_of {p q : Prop} [Decidable q] (h : q ↔ p) : decide q = yes p := by rw [Bool.eq_iff_iff, yes_iff]; exact decide_eq_true_iff.trans h
theorem has_yes {al : Option Addr} {ll cl : Nat} {l : List Int} {n : Int} (p : Prop) (h : IsRow .i64 w al ll cl l) (hs : ll ≤ 1000000) (e : n ∈ l ↔ p) :
    Calls Try.prog 14 #[.slice al ll cl, .int .i64 n] w fun e w' => e = .returned (.bool (yes p)) ∧ w = w' := (has_any h hs).mono fun _ _ h => ⟨h.1.trans (by rw [yes_of e]), h.2⟩
theorem dist_yes {x : Nat} (hv : ValidG g) (hx : x < g.length) (hg : IsRows w a len cap g) :
    Calls Try.prog 22 #[.slice a len cap, .slice (some ⟨w.heap.size, 0, none⟩) 1 1] (w.alloc (.cells #[.int .i64 (x : Int)] 3)) fun e w' => (LRes (dsR g [(x : Int)]) 0 e w' ∧ Hid (DistL g [(x : Int)] (dsR g [(x : Int)]))) ∧ Below w.heap.size w w' :=
  (dist_one hg).mono fun _ _ h => ⟨⟨by have := h.1.1; rwa [checkV_one hv hx] at this, Lib.hid (h.1.2.out (checkV_one hv hx))⟩, h.2⟩
end Go.Proofs.Ytlogmgkjikamaaa
