/-
  check, Dist, Reach.
-/
import Derived.Test.YtlogmgkjikamaaaGraJ
import Derived.Test.YtlogmgkjikamaaaGraE
set_option linter.unusedSimpArgs false
set_option linter.unusedVariables false
set_option maxHeartbeats 4000000
namespace Go.Proofs.Ytlogmgkjikamaaa
open Go.RowKit
attribute [local go_sem] Oper.semAt_some

variable {a : Option Addr} {len cap : Nat} {g : List (List Int)} {w : World}

/-- The first place of a row at which a test holds. -/
def IdxAt (P : Int → Bool) (l : List Int) (r : Int) : Prop := (r = -1 ∧ ∀ k, k < l.length → P (gi l k) = false) ∨ ∃ i : Nat, i < l.length ∧ r = (i : Int) ∧ P (gi l i) = true ∧ ∀ k, k < i → P (gi l k) = false

set_option maxRecDepth 20000 in
theorem indexFunc_any (fn : Nat) (C : Array Value) (A : Int → Array Value) (hA : ∀ z : Int, #[.int .i64 z] ++ C = A z) (P : Int → Bool) {al : Option Addr} {ll cl : Nat} {l : List Int} (hl : IsRow .i64 w al ll cl l) (eg : Enters Try.prog fn)
    (hF : ∀ (k : Nat) (W : World), k < l.length → Below w.heap.size w W → Calls Try.prog fn (A (gi l k)) W fun e W' => e = .returned (.bool (P (gi l k))) ∧ Below W.heap.size W W') :
    Calls Try.prog 42 #[.slice al ll cl, .func (.func fn) #[] C] w fun e w' => (∃ r, e = .returned (.int .i64 r) ∧ IdxAt P l r) ∧ Below w.heap.size w w' := by
  have hcap := hl.cap
  unfold maxLen at hcap
  have HL := Lib.hid hl.length
  simp only [← hA] at hF
  have HF := Lib.hid hF
  clear hA hF
  have eg' : ∀ (args : Array Value) (w : World), (callFunc fn args).run Try.prog w = .ok (.enter fn args) w := eg
  go_enter Try.func42, Try.ntmps42
  go_wp2_with (fail)
  go_loopw [8] (fun c W => ∃ k : Nat, k ≤ ll ∧ c = .int .i64 (k : Int) ∧ Hid (∀ r, r < k → P (gi l r) = false) ∧ Below w.heap.size w W) (fun c _ => ll - (intOf c).toNat)
  case atStart => exact ⟨0, Nat.zero_le _, rfl, Lib.hid (fun r hr => by omega), Below.refl _ _⟩
  case round =>
    obtain ⟨k, hk, rfl, HG, hB⟩ := hrel
    rcases Nat.lt_or_ge k ll with hlt | hge
    · have t1 : decide ((k : Int) < ll) = true := decide_eq_true (by omega)
      obtain ⟨b, off, rfl, hcell⟩ := hl.fix k hlt
      have hc := hcell wr hB
      have hf := HF.out k wr (by rw [HL.out]; exact hlt) hB
      obtain ⟨z, hz⟩ : ∃ z, gi l k = z := ⟨_, rfl⟩
      rw [hz] at hc hf
      cases hp : P z with
      | true =>
        rw [hp] at hf
        have HE : Hid (IdxAt P l k) := Lib.hid (.inr ⟨k, by rw [HL.out]; exact hlt, rfl, by rw [hz]; exact hp, HG.out⟩)
        clear hp hz hcell
        go_wp2_with (go_at_fn fn; refine hf.mono ?_; rintro e w2 ⟨rfl, hb2⟩)
        go_ret
        exact ⟨⟨_, rfl, HE.out⟩, hB.trans (hb2.mono hB.size)⟩
      | false =>
        rw [hp] at hf
        have HN : Hid (∀ r, r < k + 1 → P (gi l r) = false) := Lib.hid (fun r hr => by
          rcases Nat.lt_or_ge r k with h | h
          · exact HG.out r h
          · rw [show r = k by omega, hz]; exact hp)
        clear hp hz hcell
        go_wp2_with (go_at_fn fn; refine hf.mono ?_; rintro e w2 ⟨rfl, hb2⟩)
        go_roundw
        case rel => exact ⟨k + 1, hlt, by go_num, HN, hB.trans (hb2.mono hB.size)⟩
        case measure => simp [intOf]; omega
    · obtain rfl : k = ll := by omega
      have t1 : decide ((k : Int) < k) = false := decide_eq_false (by omega)
      go_wp2
      go_ret
      exact ⟨⟨_, rfl, .inl ⟨rfl, fun r hr => HG.out r (by rw [← HL.out]; exact hr)⟩⟩, hB⟩

/-- Whether a test holds somewhere in a row. -/
theorem containsFunc_any (fn : Nat) (C : Array Value) (A : Int → Array Value) (hA : ∀ z : Int, #[.int .i64 z] ++ C = A z) (P : Int → Bool) {al : Option Addr} {ll cl : Nat} {l : List Int} (hl : IsRow .i64 w al ll cl l) (eg : Enters Try.prog fn)
    (hF : ∀ (k : Nat) (W : World), k < l.length → Below w.heap.size w W → Calls Try.prog fn (A (gi l k)) W fun e W' => e = .returned (.bool (P (gi l k))) ∧ Below W.heap.size W W') :
    Calls Try.prog 53 #[.slice al ll cl, .func (.func fn) #[] C] w fun e w' => (∃ u, e = .returned (.bool u) ∧ Hid (u = true ↔ ∃ k, k < l.length ∧ P (gi l k) = true)) ∧ Below w.heap.size w w' := by
  have hif := indexFunc_any fn C A hA P hl eg hF
  clear hF hl
  go_enter Try.func53, Try.ntmps53
  go_wp2_with (fail)
  go_at_call 42
  refine hif.mono ?_
  rintro e w2 ⟨⟨r, rfl, hr⟩, hb2⟩
  clear hif
  rcases hr with ⟨rfl, hr⟩ | ⟨i, hi, rfl, hp, -⟩
  · have HE : Hid (false = true ↔ ∃ k, k < l.length ∧ P (gi l k) = true) := Lib.hid ⟨fun h => (by cases h), fun ⟨k, hk, h⟩ => by rw [hr k hk] at h; exact h⟩
    clear hr
    go_wp2
    go_ret
    exact ⟨⟨_, rfl, Lib.hid (by simpa using HE.out)⟩, hb2⟩
  · have HE : Hid (true = true ↔ ∃ k, k < l.length ∧ P (gi l k) = true) := Lib.hid ⟨fun _ => ⟨i, hi, hp⟩, fun _ => rfl⟩
    have t1 : decide (0 ≤ (i : Int)) = true := decide_eq_true (by omega)
    clear hp hi
    go_wp2
    go_ret
    exact ⟨⟨_, rfl, Lib.hid (by simpa using HE.out)⟩, hb2⟩

theorem check1_any {p : Nat} {z : Int} (hp : w.cell? ⟨p, 0, none⟩ = some (.slice a len cap)) (hN : len ≤ 9223372036854775807) :
    Calls Try.prog 54 #[.int .i64 z, .pointer (some ⟨p, 0, none⟩)] w fun e w' => e = .returned (.bool (!decide (0 ≤ z ∧ z < (len : Int)))) ∧ Below w.heap.size w w' := by
  have hn := node_any a len cap z w hN
  obtain ⟨u, hu⟩ : ∃ u, decide (0 ≤ z ∧ z < (len : Int)) = u := ⟨_, rfl⟩
  rw [hu] at hn ⊢
  clear hu
  go_enter Try.func54, Try.ntmps54
  go_wp2_with (go_at_call 48; refine hn.mono ?_; rintro e w' ⟨rfl, rfl⟩)
  go_ret
  exact ⟨rfl, Below.refl _ _⟩

open Classical in
noncomputable def checkV (g : List (List Int)) (l : List Int) : Int := if ValidG g then (if NodesOk g.length l then 0 else 2) else 1

set_option maxRecDepth 20000 in
theorem check_any {al : Option Addr} {ll cl : Nat} {l : List Int} (hg : IsRows w a len cap g) (hl : IsRow .i64 w al ll cl l) :
    Calls Try.prog 39 #[.slice a len cap, .slice al ll cl] w fun e w' => e = .returned (.int .i64 (checkV g l)) ∧ Below w.heap.size w w' := by
  have hgl := hg.length
  have hcap := hg.cap
  unfold maxLen at hcap
  obtain ⟨W0, hW0⟩ : ∃ W0, w.alloc (.cells #[.slice a len cap] 33) = W0 := ⟨_, rfl⟩
  have hb0 : Below w.heap.size w W0 := by rw [← hW0]; exact (Below.refl _ _).alloc (Nat.le_refl _) _
  have hs0 : W0.heap.size = w.heap.size + 1 := by rw [← hW0]; simp
  have hc0 : ∀ W, Below W0.heap.size W0 W → W.cell? ⟨w.heap.size, 0, none⟩ = some (.slice a len cap) := fun W h => by
    have h1 : W0.cell? ⟨w.heap.size, 0, none⟩ = some (.slice a len cap) := by
      rw [← hW0]; exact cell_of_row _ w.heap.size 0 _ _ _ (heap_alloc_new w _)
    exact (h.cell (p := ⟨w.heap.size, 0, none⟩) (by show w.heap.size < _; omega)).trans h1
  have hg0 := hg.later hb0
  have hl0 := hl.later hb0
  have hval := valid_any hg0
  have hc := hc0 W0 (Below.refl _ _)
  have HC := Lib.hid hc0
  have HW := Lib.hid hW0
  by_cases hv : ValidG g
  · rw [validGB_yes hv] at hval
    have hif := containsFunc_any 54 #[.pointer (some ⟨w.heap.size, 0, none⟩)] (fun z => #[.int .i64 z, .pointer (some ⟨w.heap.size, 0, none⟩)]) (fun z => rfl) (fun z => !decide (0 ≤ z ∧ z < (len : Int))) hl0 (enters_of Try.func54 (by kernel_rfl) rfl)
      (fun k W hk hb => check1_any (hc0 W hb) (by omega))
    have HV : Hid (checkV g l = if NodesOk len l then 0 else 2) := Lib.hid (by unfold checkV; rw [if_pos hv, hgl])
    have HLL := Lib.hid hl.length
    have hmf : ∀ (fn : Fn) (first cap : Array Value) (w : World), (Instr.makeFunc fn first cap).run Try.prog w = .ok (.func fn first cap) w := fun _ _ _ _ => rfl
    clear hv hW0 hc0 hg hl hg0 hl0
    go_enter Try.func39, Try.ntmps39
    go_wp2_with (fail)
    rw [HW.out]
    go_at_call 32
    refine hval.mono ?_
    rintro e w' ⟨rfl, rfl⟩
    clear hval
    go_wp2_with (fail)
    go_at_call 53
    refine hif.mono ?_
    rintro e w2 ⟨⟨u, rfl, HU⟩, hb2⟩
    clear hif
    cases u with
    | false =>
      have HE : Hid (checkV g l = 0) := Lib.hid (by
        rw [HV.out, if_pos]
        refine nodesOk_iff.2 fun k hk => ?_
        refine Classical.byContradiction fun h => ?_
        have := HU.out.2 ⟨k, hk, by rw [decide_eq_false h]; rfl⟩
        cases this)
      go_wp2
      go_ret
      exact ⟨by rw [HE.out] <;> rfl, hb0.trans (hb2.mono hb0.size)⟩
    | true =>
      have HE : Hid (checkV g l = 2) := Lib.hid (by
        rw [HV.out, if_neg]
        intro h
        obtain ⟨k, hk, hp⟩ := HU.out.1 rfl
        have := nodesOk_iff.1 h k hk
        simp [this] at hp)
      go_wp2
      go_ret
      exact ⟨by rw [HE.out] <;> rfl, hb0.trans (hb2.mono hb0.size)⟩
  · rw [validGB_no hv] at hval
    have HV : Hid (checkV g l = 1) := Lib.hid (by unfold checkV; rw [if_neg hv])
    clear hv hW0 hc0
    go_enter Try.func39, Try.ntmps39
    go_wp2_with (fail)
    rw [HW.out]
    go_at_call 32
    refine hval.mono ?_
    rintro e w' ⟨rfl, rfl⟩
    go_wp2
    go_ret
    exact ⟨by rw [HV.out] <;> rfl, hb0⟩

/-- What Dist returns. -/
def DistRes (g : List (List Int)) (l : List Int) (len B : Nat) (e : Ending) (w' : World) : Prop :=
  (checkV g l ≠ 0 ∧ e = .returned (.tuple #[.slice none 0 0, .int .i64 (checkV g l)])) ∨ (checkV g l = 0 ∧ ∃ ad cd zs, e = .returned (.tuple #[.slice ad len cd, .int .i64 0]) ∧ w'.ownsRow B 3 1 (.slice ad len cd) len (ivs .i64 zs) ∧ DistL g l zs)
theorem checkV_zero {l : List Int} : checkV g l = 0 ↔ ValidG g ∧ NodesOk g.length l := by
  unfold checkV
  constructor
  · intro h
    split at h
    · rename_i h1
      split at h
      · rename_i h2; exact ⟨h1, h2⟩
      · cases h
    · cases h
  · rintro ⟨h1, h2⟩
    rw [if_pos h1, if_pos h2]

theorem dist_any {al : Option Addr} {ll cl : Nat} {l : List Int} (hg : IsRows w a len cap g) (hl : IsRow .i64 w al ll cl l) :
    Calls Try.prog 22 #[.slice a len cap, .slice al ll cl] w fun e w' => DistRes g l len w.heap.size e w' ∧ Below w.heap.size w w' := by
  have hck := check_any hg hl
  obtain ⟨c, hc⟩ : ∃ c, checkV g l = c := ⟨_, rfl⟩
  rw [hc] at hck
  by_cases h0 : c = 0
  · subst h0
    obtain ⟨hv, hok⟩ := checkV_zero.1 hc
    rw [hg.length] at hok
    have HC := Lib.hid hc
    have HD := Lib.hid (fun W (h : Below w.heap.size w W) => distances_any (hg.later h) hv (hl.later h) hok)
    clear hv hok hc
    go_enter Try.func22, Try.ntmps22
    go_wp2_with (fail)
    go_at_call 39
    refine hck.mono ?_
    rintro e w1 ⟨rfl, hb1⟩
    clear hck
    have hd := HD.out w1 hb1
    go_wp2_with (fail)
    go_at_call 40
    refine hd.mono ?_
    rintro e w2 ⟨ad, cd, zs, rfl, ho, hz, hb2⟩
    have HZ := Lib.hid hz
    clear hd hz
    go_wp2
    go_ret2
    exact ⟨.inr ⟨HC.out, ad, cd, zs, rfl, ho.from_mono hb1.size, HZ.out⟩, hb1.trans (hb2.mono hb1.size)⟩
  · have d0 : (c != 0) = true := by simpa using h0
    have HC : Hid (checkV g l = c ∧ c ≠ 0) := Lib.hid ⟨hc, h0⟩
    clear hc h0
    go_enter Try.func22, Try.ntmps22
    go_wp2_with (fail)
    go_at_call 39
    refine hck.mono ?_
    rintro e w1 ⟨rfl, hb1⟩
    clear hck
    go_wp2
    go_ret2
    exact ⟨.inl ⟨by rw [HC.out.1]; exact HC.out.2, by rw [HC.out.1] <;> rfl⟩, hb1⟩

theorem rowE_snoc (N : Nat) (p : Nat → Bool) : rowE (N + 1) p = rowE N p ++ if p N = true then [(N : Int)] else [] := by
  unfold rowE
  rw [List.range_succ, List.filter_append, List.map_append]
  by_cases h : p N = true <;> simp [h]
/-- The nodes that are reached. -/
def reachL (zs : List Int) (k : Nat) : List Int := rowE k fun n => decide (0 ≤ gi zs n)
theorem reachL_yes {zs : List Int} {k : Nat} (h : 0 ≤ gi zs k) : reachL zs (k + 1) = reachL zs k ++ [(k : Int)] := by
  unfold reachL
  rw [rowE_snoc, if_pos (decide_eq_true h)]
theorem reachL_no {zs : List Int} {k : Nat} (h : ¬ 0 ≤ gi zs k) : reachL zs (k + 1) = reachL zs k := by
  unfold reachL
  rw [rowE_snoc, if_neg (by simp [h]), List.append_nil]
/-- What Reach returns. -/
def ReachRes (g : List (List Int)) (l : List Int) (len B : Nat) (e : Ending) (w' : World) : Prop :=
  (checkV g l ≠ 0 ∧ e = .returned (.tuple #[.slice none 0 0, .int .i64 (checkV g l)])) ∨ (checkV g l = 0 ∧ ∃ ad k cd zs, e = .returned (.tuple #[.slice ad k cd, .int .i64 0]) ∧ k = (reachL zs len).length ∧ w'.ownsRow B 3 1 (.slice ad k cd) k (ivs .i64 (reachL zs len)) ∧ DistL g l zs)

set_option maxRecDepth 20000 in
theorem reach_any {al : Option Addr} {ll cl : Nat} {l : List Int} (hg : IsRows w a len cap g) (hl : IsRow .i64 w al ll cl l) :
    Calls Try.prog 24 #[.slice a len cap, .slice al ll cl] w fun e w' => ReachRes g l len w.heap.size e w' ∧ Below w.heap.size w w' := by
  have hd := dist_any hg hl
  have HL := Lib.hid hg.length
  go_enter Try.func24, Try.ntmps24
  go_wp2_with (fail)
  go_at_call 22
  refine hd.mono ?_
  rintro e w1 ⟨hR, hb1⟩
  clear hd
  rcases hR with ⟨h0, rfl⟩ | ⟨h0, ad, cd, zs, rfl, ho, hz⟩
  · have HC := Lib.hid h0
    clear h0
    go_wp2_with (fail)
    go_loopw [8, 19] (fun v c W => v = .slice none 0 0 ∧ c = .int .i64 0 ∧ W = w1) (fun _ c _ => 0)
    case atStart => exact ⟨rfl, rfl, rfl⟩
    case round =>
      obtain ⟨rfl, rfl, rfl⟩ := hrel
      go_wp2
      go_ret2
      exact ⟨.inl ⟨HC.out, rfl⟩, hb1⟩
  · have HC : Hid (checkV g l = 0 ∧ DistL g l zs) := Lib.hid ⟨h0, hz⟩
    have hzl : zs.length = len := by rw [hz.1, HL.out]
    have hN4 : len ≤ 400 := by rw [← HL.out]; exact (checkV_zero.1 h0).1.1
    have HZ1 : Hid (w.heap.size ≤ w1.heap.size) := Lib.hid hb1.size
    have hI := (IsInts.of_owns ho).1
    clear h0 hz ho
    go_wp2_with (fail)
    go_loopw [8, 19] (fun v c W => ∃ (k n : Nat) (ar : Option Addr) (cr : Nat), k ≤ len ∧ c = .int .i64 (k : Int) ∧ v = .slice ar n cr ∧ n ≤ k ∧ Hid (n = (reachL zs k).length) ∧ W.ownsRow w1.heap.size 3 1 (.slice ar n cr) n (ivs .i64 (reachL zs k)) ∧ Below w1.heap.size w1 W) (fun _ c _ => len - (intOf c).toNat)
    case atStart => exact ⟨0, 0, none, 0, Nat.zero_le _, rfl, rfl, Nat.le_refl _, Lib.hid rfl, World.ownsRow_nil _ _ _ _, Below.refl _ _⟩
    case round =>
      obtain ⟨k, n, ar, cr, hk, rfl, rfl, hnk, HN, ho, hB⟩ := hrel
      rcases Nat.lt_or_ge k len with hlt | hge
      · have t1 : decide ((k : Int) < len) = true := decide_eq_true (by omega)
        obtain ⟨bz, oz, rfl, -, hc⟩ := hI.at wr hB k hlt
        obtain ⟨z, hz⟩ : ∃ z, gi zs k = z := ⟨_, rfl⟩
        rw [hz] at hc
        by_cases h0 : 0 ≤ z
        · have d0 : decide (0 ≤ z) = true := decide_eq_true h0
          have HS := Lib.hid (reachL_yes (zs := zs) (k := k) (by rw [hz]; exact h0))
          clear h0 hz
          go_wp2_with (at_builtin; refine app_one (k := .i64) elI64 rfl _ _ rfl rfl ho rfl (by omega) hB.size ?_; intro a6 c6 w6 ho6 hb6)
          go_roundw
          case rel => exact ⟨k + 1, n + 1, a6, c6, hlt, by go_num, rfl, by omega, Lib.hid (by rw [HS.out, List.length_append, ← HN.out]; rfl), by rw [HS.out]; exact ho6, hB.trans hb6⟩
          case measure => simp [intOf]; omega
        · have d0 : decide (0 ≤ z) = false := decide_eq_false h0
          have HS := Lib.hid (reachL_no (zs := zs) (k := k) (by rw [hz]; exact h0))
          clear h0 hz
          go_wp2_with (fail)
          go_roundw
          case rel => exact ⟨k + 1, n, ar, cr, hlt, by go_num, rfl, by omega, Lib.hid (by rw [HS.out]; exact HN.out), by rw [HS.out]; exact ho, hB⟩
          case measure => simp [intOf]; omega
      · obtain rfl : k = len := by omega
        have t1 : decide ((k : Int) < k) = false := decide_eq_false (by omega)
        go_wp2
        go_ret2
        exact ⟨.inr ⟨HC.out.1, ar, n, cr, zs, rfl, HN.out, ho.from_mono HZ1.out, HC.out.2⟩, hb1.trans (hB.mono hb1.size)⟩
end Go.Proofs.Ytlogmgkjikamaaa
