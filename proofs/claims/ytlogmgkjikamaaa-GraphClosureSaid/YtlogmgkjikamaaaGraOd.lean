/-
  Order of the document's answer.
-/
import Derived.Test.YtlogmgkjikamaaaGraLx
import Derived.Deep.LoopGhost
set_option linter.unusedSimpArgs false
set_option linter.unusedVariables false
set_option maxHeartbeats 4000000
namespace Go.Proofs.Ytlogmgkjikamaaa
open Go.RowKit
attribute [local go_sem] Oper.semAt_some

variable {a : Option Addr} {len cap : Nat} {g : List (List Int)} {w : World}
theorem sub_yes {al al' : Option Addr} {ll cl ll' cl' : Nat} {l l' : List Int} (p : Prop) (h : IsRow .i64 w al ll cl l) (h' : IsRow .i64 w al' ll' cl' l') (hs : ll ≤ 100000) (hs' : ll' ≤ 100000) (e : (∀ z ∈ l, z ∈ l') ↔ p) :
    Calls Try.prog 29 #[.slice al ll cl, .slice al' ll' cl'] w fun e w' => e = .returned (.bool (yes p)) ∧ Below w.heap.size w w' := by
  refine (refSub_any _ _ _ _ _ _ _ _ _ h h' hs hs').mono fun _ _ h => ⟨h.1.trans ?_, h.2⟩
  congr 2
  rw [Bool.eq_iff_iff, yes_iff, ← e, beq_iff_eq, List.length_eq_zero_iff, List.filter_eq_nil_iff]
  simp
/-- The search for the least free node. -/
def FirstF (g : List (List Int)) (N : Nat) (o : List Nat) (i : Nat) (r : Int) : Prop := (r = -1 ∧ ∀ k, k < i → ¬ Free g N o k) ∨ ∃ k : Nat, r = (k : Int) ∧ k < N ∧ Free g N o k ∧ ∀ j, j < k → ¬ Free g N o j
theorem free_back {N i : Nat} {o : List Nat} (hv : ValidG g) (hN : g.length = N) (hi : i < N) : Free g N o i ↔ ((i : Int) ∉ o.map Int.ofNat ∧ ∀ z ∈ gr (backG g) i, z ∈ o.map Int.ofNat) := by
  have hm : ∀ n : Nat, (n : Int) ∈ o.map Int.ofNat ↔ n ∈ o := fun n => by
    rw [List.mem_map]
    constructor
    · rintro ⟨k, hk, e⟩
      have e2 : (k : Int) = (n : Int) := e
      have : k = n := by omega
      rw [← this]; exact hk
    · intro h; exact ⟨n, h, rfl⟩
  unfold Free
  rw [hm]
  refine and_congr_right fun _ => ⟨fun h z hz => ?_, fun h m hmN e => ?_⟩
  · obtain ⟨x, hx, rfl, he⟩ := backG_row (by rw [hN]; exact hi) hz
    exact (hm x).2 (h x (by rw [← hN]; exact hx) he)
  · exact (hm m).1 (h _ (backG_in (by rw [hN]; exact hi) (by rw [hN]; exact hmN) e))

set_option maxRecDepth 20000 in
theorem refOrder_ok (hg : IsRows w a len cap g) (hv : ValidG g) :
    Calls Try.prog 19 #[.slice a len cap] w fun e w' => OrdRes g w.heap.size e w' ∧ Below w.heap.size w w' := by
  have HL := Lib.hid hg.length
  have hN4 : len ≤ 400 := by rw [← HL.out]; exact hv.1
  have HV := Lib.hid hv
  have hbk0 := refBack_g hg
  rw [bkR_yes hv, bkE_yes hv] at hbk0
  clear hv
  go_enter Try.func19, Try.ntmps19
  go_wp2_with (fail)
  refine hbk0.mono ?_
  rintro e w1 ⟨⟨ab, lb, cb, rfl, hbk, -⟩, hb1⟩
  have hlb : lb = len := by rw [← hbk.length, backG_length, HL.out]
  subst hlb
  have HB1 := Lib.hid hb1
  clear hbk0 hg hb1
  go_wp2_with (fail)
  go_loopg [6] lb (fun q v W => ∃ (o : List Nat) (ao : Option Addr) (co : Nat), o.length + q = lb ∧ v = .slice ao o.length co ∧ Hid (OrdB g lb o) ∧ W.ownsRow w1.heap.size 3 1 (.slice ao o.length co) o.length (ivs .i64 (o.map Int.ofNat)) ∧ Below w1.heap.size w1 W)
  case atStart => exact ⟨[], none, 0, by simp, rfl, Lib.hid .nil, World.ownsRow_nil _ _ _ _, Below.refl _ _⟩
  case round =>
    obtain ⟨o, ao, co, hoq, rfl, HO, hW, hB⟩ := hrel
    rcases Nat.lt_or_ge o.length lb with hol | hol
    · have t0 : decide ((o.length : Int) < lb) = true := decide_eq_true (by omega)
      go_wp2_with (fail)
      go_loopw [7, 8] (fun v c W => ∃ (i : Nat) (r : Int), i ≤ lb ∧ c = .int .i64 (i : Int) ∧ v = .int .i64 r ∧ Hid (FirstF g lb o i r) ∧ W.ownsRow w1.heap.size 3 1 (.slice ao o.length co) o.length (ivs .i64 (o.map Int.ofNat)) ∧ Below w1.heap.size w1 W) (fun _ c _ => lb - (intOf c).toNat)
      case atStart => exact ⟨0, -1, Nat.zero_le _, rfl, rfl, Lib.hid (.inl ⟨rfl, fun k hk => absurd hk (Nat.not_lt_zero _)⟩), hW, hB⟩
      case round =>
        clear hW hB
        obtain ⟨i, r, hi, rfl, rfl, HF, hW, hB⟩ := hrel
        have hsW := hB.size
        rcases Nat.lt_or_ge i lb with hlt | hge
        · have t1 : decide ((i : Int) < lb) = true := decide_eq_true (by omega)
          by_cases h0 : r < 0
          · have hr1 : r = -1 := by
              rcases HF.out with ⟨h, -⟩ | ⟨k, h, -⟩
              · exact h
              · omega
            subst hr1
            have d0 : decide ((-1 : Int) < 0) = true := by decide
            have HFN : Hid (∀ k, k < i → ¬ Free g lb o k) := Lib.hid (by
              rcases HF.out with ⟨-, h⟩ | ⟨k, h, -⟩
              · exact h
              · omega)
            have hI := (IsInts.of_owns hW).1.row
            obtain ⟨bb, ob, ai, li, ci, rfl, hcell, hrow⟩ := (hbk.later hB).fix i hlt
            have hli : li ≤ 400 := by rw [← hrow.length]; exact row_len4 (backG_valid HV.out) (by rw [backG_length, HL.out]; exact hlt)
            have hc1 := hcell wr (Below.refl _ _)
            have hfb := free_back (o := o) HV.out HL.out hlt
            by_cases hm : (i : Int) ∈ o.map Int.ofNat
            · have hhas := has_yes True hI (by omega) (iff_true_intro hm)
              rw [show yes True = true from yes_iff.2 trivial] at hhas
              have HF2 : Hid (FirstF g lb o (i + 1) (-1)) := Lib.hid (.inl ⟨rfl, fun k hk hf => by
                rcases Nat.lt_or_ge k i with h | h
                · exact HFN.out k h hf
                · rw [show k = i by omega] at hf
                  exact (hfb.1 hf).1 hm⟩)
              clear hcell hrow hfb hm hI
              go_wp2_with (go_at_call 14; refine hhas.mono ?_; rintro e w' ⟨rfl, rfl⟩)
              go_roundw
              case rel => exact ⟨i + 1, -1, hlt, by go_num, rfl, HF2, hW, hB⟩
              case measure => simp [intOf]; omega
            · have hhas := has_yes False hI (by omega) (iff_false_intro hm)
              rw [show yes False = false from Bool.eq_false_iff.2 fun h => yes_iff.1 h] at hhas
              by_cases hs : ∀ z ∈ gr (backG g) i, z ∈ o.map Int.ofNat
              · have hsub := sub_yes True hrow hI (by omega) (by omega) (iff_true_intro hs)
                rw [show yes True = true from yes_iff.2 trivial] at hsub
                have HF2 : Hid (FirstF g lb o (i + 1) (i : Int)) := Lib.hid (.inr ⟨i, rfl, hlt, hfb.2 ⟨hm, hs⟩, HFN.out⟩)
                clear hcell hrow hfb hm hI hs
                go_wp2_with (first | (go_at_call 14; refine hhas.mono ?_; rintro e w' ⟨rfl, rfl⟩) | (go_at_call 29; refine hsub.mono ?_; rintro e w3 ⟨rfl, hb3⟩))
                go_roundw
                case rel => exact ⟨i + 1, (i : Int), hlt, by go_num, rfl, HF2, hW.kept_below hb3, hB.trans (hb3.mono hB.size)⟩
                case measure => simp [intOf]; omega
              · have hsub := sub_yes False hrow hI (by omega) (by omega) (iff_false_intro hs)
                rw [show yes False = false from Bool.eq_false_iff.2 fun h => yes_iff.1 h] at hsub
                have HF2 : Hid (FirstF g lb o (i + 1) (-1)) := Lib.hid (.inl ⟨rfl, fun k hk hf => by
                  rcases Nat.lt_or_ge k i with h | h
                  · exact HFN.out k h hf
                  · rw [show k = i by omega] at hf
                    exact hs (hfb.1 hf).2⟩)
                clear hcell hrow hfb hm hI hs
                go_wp2_with (first | (go_at_call 14; refine hhas.mono ?_; rintro e w' ⟨rfl, rfl⟩) | (go_at_call 29; refine hsub.mono ?_; rintro e w3 ⟨rfl, hb3⟩))
                go_roundw
                case rel => exact ⟨i + 1, -1, hlt, by go_num, rfl, HF2, hW.kept_below hb3, hB.trans (hb3.mono hB.size)⟩
                case measure => simp [intOf]; omega
          · have d0 : decide (r < 0) = false := decide_eq_false h0
            have hk : ∃ k : Nat, r = (k : Int) ∧ OrdB g lb (o ++ [k]) := by
              rcases HF.out with ⟨h, -⟩ | ⟨k, h1, h2, h3, h4⟩
              · omega
              · exact ⟨k, h1, .snoc HO.out h2 h3 h4⟩
            obtain ⟨k, rfl, hk⟩ := hk
            have HO2 := Lib.hid hk
            clear hk h0
            go_wp2_with (at_builtin; refine app_one (k := .i64) elI64 rfl _ _ rfl rfl hW rfl (by omega) hsW ?_; intro a6 c6 w6 ho6 hb6)
            go_roundg (gk - 1)
            case rel => exact ⟨o ++ [k], a6, c6, by rw [List.length_append, List.length_singleton]; omega, by rw [List.length_append]; rfl, HO2.out, by rw [List.length_append, List.map_append]; exact ho6, hB.trans hb6⟩
            case measure => omega
        · obtain rfl : i = lb := by omega
          have t1 : decide ((i : Int) < i) = false := decide_eq_false (by omega)
          by_cases h0 : r < 0
          · have d0 : decide (r < 0) = true := decide_eq_true h0
            have HE : Hid (OrdAns g i none) := Lib.hid (by
              rcases HF.out with ⟨-, h⟩ | ⟨k, h, -⟩
              · exact .inr ⟨rfl, o, HO.out, hol, h⟩
              · omega)
            have hbF := HB1.out.trans (hB.mono HB1.out.size)
            clear h0
            go_wp2
            go_ret2
            exact ⟨.inr ⟨HV.out, .inl ⟨by rw [HL.out]; exact HE.out, rfl⟩⟩, hbF⟩
          · have d0 : decide (r < 0) = false := decide_eq_false h0
            have hk : ∃ k : Nat, r = (k : Int) ∧ OrdB g i (o ++ [k]) := by
              rcases HF.out with ⟨h, -⟩ | ⟨k, h1, h2, h3, h4⟩
              · omega
              · exact ⟨k, h1, .snoc HO.out h2 h3 h4⟩
            obtain ⟨k, rfl, hk⟩ := hk
            have HO2 := Lib.hid hk
            clear hk h0
            go_wp2_with (at_builtin; refine app_one (k := .i64) elI64 rfl _ _ rfl rfl hW rfl (by omega) hsW ?_; intro a6 c6 w6 ho6 hb6)
            go_roundg (gk - 1)
            case rel => exact ⟨o ++ [k], a6, c6, by rw [List.length_append, List.length_singleton]; omega, by rw [List.length_append]; rfl, HO2.out, by rw [List.length_append, List.map_append]; exact ho6, hB.trans hb6⟩
            case measure => omega
    · have t0 : decide ((o.length : Int) < lb) = false := decide_eq_false (by omega)
      have HE : Hid (OrdAns g lb (some o)) := Lib.hid (.inl ⟨o, rfl, HO.out, by omega⟩)
      have hbF := HB1.out.trans (hB.mono HB1.out.size)
      have hWm := hW.from_mono HB1.out.size
      go_wp2
      go_ret2
      exact ⟨.inr ⟨HV.out, .inr ⟨ao, co, o, by rw [HL.out]; exact HE.out, rfl, hWm⟩⟩, hbF⟩

theorem refOrder_any (hg : IsRows w a len cap g) :
    Calls Try.prog 19 #[.slice a len cap] w fun e w' => OrdRes g w.heap.size e w' ∧ Below w.heap.size w w' := by
  by_cases hv : ValidG g
  · exact refOrder_ok hg hv
  · have hbk0 := refBack_g hg
    have hE : bkE g = 1 := by unfold bkE; rw [validGB_no hv]; rfl
    rw [hE] at hbk0
    have HV := Lib.hid hv
    clear hv hE
    go_enter Try.func19, Try.ntmps19
    go_wp2_with (fail)
    refine hbk0.mono ?_
    rintro e w1 ⟨⟨ab, lb, cb, rfl, -, -⟩, hb1⟩
    clear hbk0
    go_wp2
    go_ret2
    exact ⟨.inl ⟨HV.out, rfl⟩, hb1⟩
theorem refOrder_l (hg : IsRows w a len cap g) :
    Calls Try.prog 19 #[.slice a len cap] w fun e w' => (LRes (orR g) (orE g) e w' ∧ Hid (ValidG g → OrdAns g g.length (orA g))) ∧ Below w.heap.size w w' := (refOrder_any hg).mono fun _ _ h => ⟨⟨h.1.lres.1, Lib.hid h.1.lres.2⟩, h.2⟩
end Go.Proofs.Ytlogmgkjikamaaa
