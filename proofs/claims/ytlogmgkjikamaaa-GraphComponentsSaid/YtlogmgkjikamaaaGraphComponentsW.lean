/-
  GraphComponents: the walk.
-/
import Derived.Test.YtlogmgkjikamaaaGraCy
import Derived.Test.YtlogmgkjikamaaaGraPb
import Derived.Deep.QuietTactic
import Derived.BigQuiet
import Derived.Deep.DeepCutAuto
set_option linter.unusedSimpArgs false
set_option linter.unusedVariables false
set_option maxHeartbeats 4000000
namespace Go.Proofs.Ytlogmgkjikamaaa
open Go.RowKit
attribute [local go_sem] Oper.semAt_some

theorem comp_asc (g : List (List Int)) (i : Nat) : Asc (gr (compG g) i) := by
  rcases Nat.lt_or_ge i (compG g).length with hi | hi
  · rw [comp_row (by rw [← compG_length]; exact hi)]
    exact memb_asc _ _ _
  · rw [gr_over hi]; exact List.Pairwise.nil
theorem comps_yes {a : Option Addr} {len cap : Nat} {g : List (List Int)} {w : World} (hv : ValidG g) (hg : IsRows w a len cap g) :
    Calls Try.prog 15 #[.slice a len cap] w fun e w' => GRes (compG g) 0 e w' ∧ Below w.heap.size w w' := (comps_g hg).mono fun _ _ h => ⟨by have := h.1; unfold cpR at this; rwa [validGB_yes hv, if_pos rfl, bkE_yes hv] at this, h.2⟩
theorem condense_yes {a : Option Addr} {len cap : Nat} {g : List (List Int)} {w : World} (hv : ValidG g) (hg : IsRows w a len cap g) :
    Calls Try.prog 17 #[.slice a len cap] w fun e w' => GRes (condG g) 0 e w' ∧ Below w.heap.size w w' := condense_ok hg hv

set_option maxRecDepth 20000 in
theorem graphComponents_walk (a : Option Addr) (len cap : Nat) (g : List (List Int)) (za zb : Int) (w : World) (hg : IsRows w a len cap g) (hA : (Lit.int .u8 za).wf = true) (hB : (Lit.int .u8 zb).wf = true) :
    Calls Try.prog 8 #[.slice a len cap, .int .u8 za, .int .u8 zb] w fun e w' => e = .returned (.bool true) ∧ Below w.heap.size w w' := by
  have HN := Lib.hid hg.length
  by_cases hf : FewG g
  rotate_left
  · have hg := hg
    go_enter Try.func8, Try.ntmps8
    have HB := Below.refl w.heap.size w
    go_wp2_with (fail)
    refine (awake_any _).mono ?_
    rintro e w1 ⟨rfl, hb⟩
    replace hg := hg.later hb
    replace HB := HB.trans (hb.mono HB.size)
    clear hb
    go_wp2_with (fail)
    refine (few_no hg hf).mono ?_
    rintro e w2 ⟨rfl, rfl⟩
    go_wp2_with (fail)
    go_ret
    exact ⟨rfl, HB⟩
  by_cases hv : ValidG g
  rotate_left
  · have hg := hg
    go_enter Try.func8, Try.ntmps8
    have HB := Below.refl w.heap.size w
    go_wp2_with (fail)
    refine (awake_any _).mono ?_
    rintro e w3 ⟨rfl, hb⟩
    replace hg := hg.later hb
    replace HB := HB.trans (hb.mono HB.size)
    clear hb
    go_wp2_with (fail)
    refine (few_yes hg hf).mono ?_
    rintro e w4 ⟨rfl, rfl⟩
    go_wp2_with (fail)
    refine (refValid_no hg hv).mono ?_
    rintro e w5 ⟨rfl, hb⟩
    replace hg := hg.later hb
    replace HB := HB.trans (hb.mono HB.size)
    clear hb
    go_wp2_with (fail)
    go_ret
    exact ⟨rfl, HB⟩
  have h60 : len ≤ 60 := by rw [← HN.out]; exact hf.1
  go_enter Try.func8, Try.ntmps8
  have HB := Below.refl w.heap.size w
  go_wp2_with (fail)
  refine (awake_any _).mono ?_
  rintro e w6 ⟨rfl, hb⟩
  replace hg := hg.later hb
  replace HB := HB.trans (hb.mono HB.size)
  clear hb
  go_wp2_with (fail)
  refine (few_yes hg hf).mono ?_
  rintro e w7 ⟨rfl, rfl⟩
  go_wp2_with (fail)
  refine (refValid_yes hg hv).mono ?_
  rintro e w8 ⟨rfl, hb⟩
  replace hg := hg.later hb
  replace HB := HB.trans (hb.mono HB.size)
  clear hb
  go_wp2_with (fail)
  refine (comps_yes hv hg).mono ?_
  rintro e w9 ⟨⟨a1, n1, c1, rfl, i1, l1⟩, hb⟩
  replace hg := hg.later hb
  replace HB := HB.trans (hb.mono HB.size)
  clear hb
  have hM : (compG g).length = n1 := i1.length
  obtain ⟨f, hf'⟩ : ∃ f, ix (both (GE g)) = f := ⟨_, rfl⟩
  have HV := Lib.hid hv
  have HM := Lib.hid hM
  have HFF := Lib.hid hf'
  have HFM : Hid (∀ x, x < len → f x < n1) := Lib.hid (fun x hx => by rw [← hf', ← hM, compG_length]; exact ix_lt (eqv_both _) (by rw [HN.out]; exact hx))
  have HMM : Hid (∀ i x : Nat, i < n1 → x < len → ((x : Int) ∈ gr (compG g) i ↔ f x = i)) := Lib.hid (fun i x hi hx => by rw [← hf']; exact comp_mem (by rw [hM]; exact hi) (by rw [HN.out]; exact hx))
  have HG0 : Hid (∀ W, Below w9.heap.size w9 W → IsRows W a len cap g ∧ IsRows W a1 n1 c1 (compG g) ∧ Below w.heap.size w W) := Lib.hid (fun W h => ⟨hg.later h, i1.later h, HB.trans (h.mono HB.size)⟩)
  have HUV := Lib.hid (And.intro hA hB)
  clear hM hf' hf hv HB hg i1 hA hB
  have hr2 : len * (8 + 1) ≤ 140737488355328 := by omega
  go_wp2_with (refine make_ints (k := .i64) elI64 rfl _ _ rfl rfl rfl rfl rfl hr2 (Nat.le_refl _) ?_; intro w1 ho1 hb1 hs1)
  obtain ⟨B, hBe⟩ : ∃ B, w9.heap.size = B := ⟨_, rfl⟩
  rw [hBe] at ho1 hb1 hs1 HG0
  rw [hBe]
  have HBE := Lib.hid hBe
  clear hBe
  go_loopw [50] (fun c W => ∃ (k : Nat) (zs : List Int), k ≤ len ∧ c = .int .i64 (k : Int) ∧ zs.length = len ∧ Hid (∀ i, i < k → gi zs i = -1) ∧ W.ownsRow B 3 1 (.slice (some ⟨B, 0, none⟩) len len) len (ivs .i64 zs) ∧ Below B w9 W) (fun c _ => len - (intOf c).toNat)
  case atStart => exact ⟨0, _, Nat.zero_le _, rfl, by simp, Lib.hid (fun i hi => by omega), ho1, hb1⟩
  case round =>
    clear ho1 hb1 hs1
    obtain ⟨k, zs, hk, rfl, hzl, HZ, ho, hB⟩ := hrel
    rcases Nat.lt_or_ge k len with hlt | hge
    · have t1 : decide ((k : Int) < len) = true := decide_eq_true (by omega)
      obtain ⟨hc, hf⟩ := own_cell ho k hlt hzl
      have ho2 := own_store ho k (-1)
      have hB2 := hB.setCell (p := ⟨B, k, none⟩) (Nat.le_refl _) (.int .i64 (-1))
      have HZ2 : Hid (∀ i, i < k + 1 → gi (zs.set k (-1)) i = -1) := Lib.hid (fun i hi => by
        rw [gi_put (by omega)]
        split
        · rfl
        · exact HZ.out i (by omega))
      clear ho hB
      go_wp2
      go_roundw
      case rel => exact ⟨k + 1, _, hlt, by go_num, by rw [List.length_set]; exact hzl, HZ2, ho2, hB2⟩
      case measure => simp [intOf]; omega
    · obtain rfl : k = len := by omega
      have t1 : decide ((k : Int) < k) = false := decide_eq_false (by omega)
      have HA : Hid (OfAll f k (gr (compG g) 0) 0 0 (gi zs)) := Lib.hid (OfAll.start HZ.out)
      clear HZ
      go_wp2_with (fail)
      go_loopw [11, 59] (fun b c W => ∃ (i : Nat) (sb : Bool) (zs : List Int), i ≤ n1 ∧ c = .int .i64 (i : Int) ∧ b = .bool sb ∧ zs.length = k ∧ Hid ((sb = true ↔ ∀ r, r < i → (gr (compG g) r).length = 1) ∧ OfAll f k (gr (compG g) i) i 0 (gi zs)) ∧ W.ownsRow B 3 1 (.slice (some ⟨B, 0, none⟩) k k) k (ivs .i64 zs) ∧ Below B w9 W) (fun _ c _ => n1 - (intOf c).toNat)
      case atStart => exact ⟨0, true, zs, Nat.zero_le _, rfl, rfl, hzl, Lib.hid ⟨⟨fun _ r hr => absurd hr (Nat.not_lt_zero _), fun _ => rfl⟩, HA.out⟩, ho, hB⟩
      case round =>
        clear ho hB HA hzl
        obtain ⟨i, sb, zs, hi, rfl, rfl, hzl, HS, ho, hB⟩ := hrel
        rcases Nat.lt_or_ge i n1 with hlt | hge
        · have t2 : decide ((i : Int) < n1) = true := decide_eq_true (by omega)
          obtain ⟨b, off, au, lu, cu, rfl, hcell, hrow⟩ := (HG0.out _ (Below.refl _ _)).2.1.fix i hlt
          have hcu := hcell wr (by rw [HBE.out]; exact hB)
          have HRL : Hid ((gr (compG g) i).length = lu) := Lib.hid hrow.length
          have hlu : lu ≤ 60 := by rw [← HRL.out]; have := comp_rowlen g i; rw [HN.out] at this; omega
          have HROW : Hid (∀ W, Below B w9 W → IsRow .i64 W au lu cu (gr (compG g) i)) := Lib.hid (fun W h => hrow.later (by rw [HBE.out]; exact h))
          obtain ⟨e1, he1⟩ : ∃ e1, ((lu : Int) == 1) = e1 := ⟨_, rfl⟩
          have HSB : Hid ((sb && e1) = true ↔ ∀ r, r < i + 1 → (gr (compG g) r).length = 1) := Lib.hid (by
            rw [Bool.and_eq_true, HS.out.1, ← he1]
            constructor
            · rintro ⟨h1, h2⟩ r hr
              rcases Nat.lt_or_ge r i with h | h
              · exact h1 r h
              · rw [show r = i by omega, HRL.out]
                have := beq_iff_eq.1 h2
                omega
            · intro h
              refine ⟨fun r hr => h r (by omega), ?_⟩
              have := h i (Nat.lt_succ_self i)
              rw [HRL.out] at this
              rw [this]; rfl)
          have HOF : Hid (OfAll f k (gr (compG g) i) i 0 (gi zs)) := Lib.hid HS.out.2
          clear hcell hrow HS
          have hsb2 : ∃ s2, (sb && e1) = s2 := ⟨_, rfl⟩
          obtain ⟨s2, hs2⟩ := hsb2
          rw [hs2] at HSB
          cases sb with
          | true =>
            have he2 : e1 = s2 := by rw [← hs2]; rfl
            subst he2
            clear hs2
            go_wp2_with (fail)
            clear hcu
            go_loopw [76] (fun c W => ∃ (j : Nat) (zs : List Int), j ≤ lu ∧ c = .int .i64 (j : Int) ∧ zs.length = k ∧ Hid (OfAll f k (gr (compG g) i) i j (gi zs)) ∧ W.ownsRow B 3 1 (.slice (some ⟨B, 0, none⟩) k k) k (ivs .i64 zs) ∧ Below B w9 W) (fun c _ => lu - (intOf c).toNat)
            case atStart => exact ⟨0, zs, Nat.zero_le _, rfl, hzl, HOF, ho, hB⟩
            case round =>
              clear ho hB HOF hzl
              obtain ⟨j, zs, hj, rfl, hzl, HO, ho, hB⟩ := hrel
              rcases Nat.lt_or_ge j lu with hjl | hjg
              · have t3 : decide ((j : Int) < lu) = true := decide_eq_true (by omega)
                obtain ⟨br, orr, rfl, hcz⟩ := (HROW.out _ hB).fix j hjl
                have hcx := hcz wr (Below.refl _ _)
                have hjL : j < (gr (compG g) i).length := by rw [HRL.out]; exact hjl
                have hmem := gi_mem (gr (compG g) i) j hjL
                obtain ⟨x, hx, hxg⟩ := comp_node (by rw [HM.out]; exact hlt) hmem
                have hxk : x < k := by rw [← HN.out]; exact hxg
                rw [hx] at hcx hmem
                have hfx := (HMM.out i x hlt hxk).1 hmem
                have hfr := HO.out.fresh hjL (comp_asc g i) hx hxk hfx
                have HO2 : Hid (OfAll f k (gr (compG g) i) i (j + 1) (gi (zs.set x (i : Int)))) := Lib.hid (HO.out.step hjL hx hfx fun n hn => gi_put (by omega) _ n)
                obtain ⟨hc, hfz⟩ := own_cell ho x hxk hzl
                rw [hfr] at hc
                have x1 : decide ((x : Int) < 0) = false := decide_eq_false (by omega)
                have x2 : decide ((k : Int) ≤ (x : Int)) = false := decide_eq_false (by omega)
                have ho2 := own_store ho x (i : Int)
                have hB2 := hB.setCell (p := ⟨B, x, none⟩) (Nat.le_refl _) (.int .i64 (i : Int))
                clear hcz hx hxg hmem hfx hfr hjL ho hB
                go_wp2
                go_roundw
                case rel => exact ⟨j + 1, _, hjl, by go_num, by rw [List.length_set]; exact hzl, HO2, ho2, hB2⟩
                case measure => simp [intOf]; omega
              · obtain rfl : j = lu := by omega
                have t3 : decide ((j : Int) < j) = false := decide_eq_false (by omega)
                have HO2 : Hid ((e1 = true ↔ ∀ r, r < i + 1 → (gr (compG g) r).length = 1) ∧ OfAll f k (gr (compG g) (i + 1)) (i + 1) 0 (gi zs)) := Lib.hid ⟨HSB.out, HO.out.next (by rw [HRL.out]; exact Nat.le_refl _) fun x hx => HMM.out i x hlt hx⟩
                go_wp2_with (fail)
                go_roundw
                case rel => exact ⟨i + 1, e1, zs, hlt, by go_num, rfl, hzl, HO2, ho, hB⟩
                case measure => simp [intOf]; omega
          | false =>
            have he2 : s2 = false := by rw [← hs2]; rfl
            subst he2
            clear hs2 he1
            go_wp2_with (fail)
            clear hcu
            go_loopw [76] (fun c W => ∃ (j : Nat) (zs : List Int), j ≤ lu ∧ c = .int .i64 (j : Int) ∧ zs.length = k ∧ Hid (OfAll f k (gr (compG g) i) i j (gi zs)) ∧ W.ownsRow B 3 1 (.slice (some ⟨B, 0, none⟩) k k) k (ivs .i64 zs) ∧ Below B w9 W) (fun c _ => lu - (intOf c).toNat)
            case atStart => exact ⟨0, zs, Nat.zero_le _, rfl, hzl, HOF, ho, hB⟩
            case round =>
              clear ho hB HOF hzl
              obtain ⟨j, zs, hj, rfl, hzl, HO, ho, hB⟩ := hrel
              rcases Nat.lt_or_ge j lu with hjl | hjg
              · have t3 : decide ((j : Int) < lu) = true := decide_eq_true (by omega)
                obtain ⟨br, orr, rfl, hcz⟩ := (HROW.out _ hB).fix j hjl
                have hcx := hcz wr (Below.refl _ _)
                have hjL : j < (gr (compG g) i).length := by rw [HRL.out]; exact hjl
                have hmem := gi_mem (gr (compG g) i) j hjL
                obtain ⟨x, hx, hxg⟩ := comp_node (by rw [HM.out]; exact hlt) hmem
                have hxk : x < k := by rw [← HN.out]; exact hxg
                rw [hx] at hcx hmem
                have hfx := (HMM.out i x hlt hxk).1 hmem
                have hfr := HO.out.fresh hjL (comp_asc g i) hx hxk hfx
                have HO2 : Hid (OfAll f k (gr (compG g) i) i (j + 1) (gi (zs.set x (i : Int)))) := Lib.hid (HO.out.step hjL hx hfx fun n hn => gi_put (by omega) _ n)
                obtain ⟨hc, hfz⟩ := own_cell ho x hxk hzl
                rw [hfr] at hc
                have x1 : decide ((x : Int) < 0) = false := decide_eq_false (by omega)
                have x2 : decide ((k : Int) ≤ (x : Int)) = false := decide_eq_false (by omega)
                have ho2 := own_store ho x (i : Int)
                have hB2 := hB.setCell (p := ⟨B, x, none⟩) (Nat.le_refl _) (.int .i64 (i : Int))
                clear hcz hx hxg hmem hfx hfr hjL ho hB
                go_wp2
                go_roundw
                case rel => exact ⟨j + 1, _, hjl, by go_num, by rw [List.length_set]; exact hzl, HO2, ho2, hB2⟩
                case measure => simp [intOf]; omega
              · obtain rfl : j = lu := by omega
                have t3 : decide ((j : Int) < j) = false := decide_eq_false (by omega)
                have HO2 : Hid ((false = true ↔ ∀ r, r < i + 1 → (gr (compG g) r).length = 1) ∧ OfAll f k (gr (compG g) (i + 1)) (i + 1) 0 (gi zs)) := Lib.hid ⟨HSB.out, HO.out.next (by rw [HRL.out]; exact Nat.le_refl _) fun x hx => HMM.out i x hlt hx⟩
                go_wp2_with (fail)
                go_roundw
                case rel => exact ⟨i + 1, false, zs, hlt, by go_num, rfl, hzl, HO2, ho, hB⟩
                case measure => simp [intOf]; omega
        · obtain rfl : i = n1 := by omega
          have t2 : decide ((i : Int) < i) = false := decide_eq_false (by omega)
          have HZF : Hid (∀ x, x < k → gi zs x = ((f x : Nat) : Int)) := Lib.hid (fun x hx => (HS.out.2 x hx).1 (.inl (HFM.out x hx)))
          have HSA : Hid (sb = true ↔ (∀ r, r < i → (gr (compG g) r).length = 1) ∧ ∀ r, r < 0 → (r : Int) ∉ gr g r) := Lib.hid (HS.out.1.trans ⟨fun h => ⟨h, fun r hr => absurd hr (Nat.not_lt_zero _)⟩, fun h => h.1⟩)
          clear HS
          go_wp2_with (fail)
          go_loopw [11, 103] (fun b c W => ∃ (j : Nat) (sb : Bool), j ≤ k ∧ c = .int .i64 (j : Int) ∧ b = .bool sb ∧ Hid (sb = true ↔ (∀ r, r < i → (gr (compG g) r).length = 1) ∧ ∀ r, r < j → (r : Int) ∉ gr g r) ∧ W.ownsRow B 3 1 (.slice (some ⟨B, 0, none⟩) k k) k (ivs .i64 zs) ∧ Below B w9 W) (fun _ c _ => k - (intOf c).toNat)
          case atStart => exact ⟨0, sb, Nat.zero_le _, rfl, rfl, HSA, ho, hB⟩
          case round =>
            clear ho hB HSA
            obtain ⟨j, sb, hj, rfl, rfl, HSA, ho, hB⟩ := hrel
            rcases Nat.lt_or_ge j k with hjl | hjg
            · have t3 : decide ((j : Int) < k) = true := decide_eq_true (by omega)
              obtain ⟨hcj, -⟩ := own_cell ho j hjl hzl
              rw [HZF.out j hjl] at hcj
              have e3 : decide (((f j : Nat) : Int) < 0) = false := decide_eq_false (by omega)
              cases sb with
              | false =>
                have HS2 : Hid (false = true ↔ (∀ r, r < i → (gr (compG g) r).length = 1) ∧ ∀ r, r < j + 1 → (r : Int) ∉ gr g r) := Lib.hid ⟨fun h => (by cases h), fun h => HSA.out.2 ⟨h.1, fun r hr => h.2 r (by omega)⟩⟩
                go_wp2_with (fail)
                go_roundw
                case rel => exact ⟨j + 1, false, hjl, by go_num, rfl, HS2, ho, hB⟩
                case measure => simp [intOf]; omega
              | true =>
                obtain ⟨b, off, au, lu, cu, rfl, hcell, hrow⟩ := (HG0.out _ hB).1.fix j hjl
                have hcu := hcell wr (Below.refl _ _)
                have hlu : lu ≤ 400 := by rw [← hrow.length]; exact row_len4 HV.out (by rw [HN.out]; exact hjl)
                have hhas := has_any (n := (j : Int)) hrow (by omega)
                obtain ⟨u, hu⟩ : ∃ u, decide ((j : Int) ∈ gr g j) = u := ⟨_, rfl⟩
                rw [hu] at hhas
                have HS2 : Hid ((!u) = true ↔ (∀ r, r < i → (gr (compG g) r).length = 1) ∧ ∀ r, r < j + 1 → (r : Int) ∉ gr g r) := Lib.hid (by
                  have h0 := HSA.out.1 rfl
                  rw [← hu, Bool.not_eq_true', decide_eq_false_iff_not]
                  constructor
                  · intro h
                    refine ⟨h0.1, fun r hr => ?_⟩
                    rcases Nat.lt_or_ge r j with h1 | h1
                    · exact h0.2 r h1
                    · rw [show r = j by omega]; exact h
                  · intro h
                    exact h.2 j (Nat.lt_succ_self j))
                clear hcell hrow hu
                go_wp2_with (go_at_call 14; refine hhas.mono ?_; rintro e w' ⟨rfl, rfl⟩)
                go_roundw
                case rel => exact ⟨j + 1, !u, hjl, by go_num, rfl, HS2, ho, hB⟩
                case measure => simp [intOf]; omega
            · obtain rfl : j = k := by omega
              have t3 : decide ((j : Int) < j) = false := decide_eq_false (by omega)
              obtain ⟨hgW, -, hBF⟩ := HG0.out _ hB
              have hIo := (IsInts.of_owns ho).1.row
              have HSG : Hid (sb = true ↔ SingleG g) := Lib.hid (by unfold SingleG; rw [HM.out, HN.out]; exact HSA.out)
              clear ho HSA hB
              go_wp2_with (fail)
              refine (condense_yes HV.out hgW).mono ?_
              rintro e w2 ⟨⟨a2, n2, c2, rfl, i2, l2⟩, hb2⟩
              have hn2 : n2 = i := by rw [← i2.length, condG_length, HM.out]
              subst hn2
              replace hgW := hgW.later hb2
              replace hIo := hIo.later hb2
              replace hBF := hBF.trans (hb2.mono hBF.size)
              clear hb2
              go_wp2_with (fail)
              refine (order_l i2).mono ?_
              rintro e w3 ⟨⟨⟨a3, n3, c3, rfl, -, -⟩, -⟩, hb3⟩
              rw [ord_ok (condG_valid HV.out) (cond_acyclic HV.out)]
              replace hgW := hgW.later hb3
              replace hIo := hIo.later hb3
              replace hBF := hBF.trans (hb3.mono hBF.size)
              clear hb3 i2
              go_wp2_with (fail)
              refine (order_l hgW).mono ?_
              rintro e w4 ⟨⟨⟨a4, n4, c4, rfl, -, -⟩, HO4⟩, hb4⟩
              have hes := ord_single HV.out (HO4.out HV.out) sb HSG.out
              obtain ⟨eg, heg⟩ : ∃ eg, orE g = eg := ⟨_, rfl⟩
              rw [heg] at hes ⊢
              replace hgW := hgW.later hb4
              replace hIo := hIo.later hb4
              replace hBF := hBF.trans (hb4.mono hBF.size)
              have d3 : ((n2 : Int) != (n2 : Int)) = false := by simp
              have d4 : (sb != sb) = false := by simp
              clear hb4 heg HO4
              by_cases h0 : j = 0
              · have d0 : ((j : Int) == 0) = true := by rw [h0]; rfl
                clear h0
                go_wp2_with (fail)
                go_ret
                exact ⟨rfl, hBF⟩
              have d0 : ((j : Int) == 0) = false := by simpa using h0
              obtain ⟨x, hx, ex, hA1, hA2⟩ := u8_node HUV.out.1 (N := j) (by omega)
              obtain ⟨y, hy, ey, hB1, hB2⟩ := u8_node HUV.out.2 (N := j) (by omega)
              have HT := Lib.hid (And.intro ex (And.intro ey (And.intro hA1 (And.intro hA2 (And.intro hB1 hB2)))))
              have HXY := Lib.hid (And.intro hx (And.intro hy h0))
              clear ex ey hA1 hA2 hB1 hB2 hx hy h0
              go_upto_region 41 with (fail)
              obtain ⟨ex, ey, hA1, hA2, hB1, hB2⟩ := HT.out
              have h0 := HXY.out.2.2
              go_quiet (fail)
              have hdn := below_drewN w4 nq
              replace hgW := hgW.later hdn
              replace hIo := hIo.later hdn
              replace hBF := hBF.trans (hdn.mono hBF.size)
              have hxg : x < g.length := by rw [HN.out]; exact HXY.out.1
              have hyg : y < g.length := by rw [HN.out]; exact HXY.out.2.1
              clear ex ey hA1 hA2 hB1 hB2 hdn h0 HT
              go_wp2_with (fail)
              refine (path_l hgW).mono ?_
              rintro e w5 ⟨⟨a5, n5, c5, rfl, -, -⟩, hb5⟩
              replace hgW := hgW.later hb5
              replace hIo := hIo.later hb5
              replace hBF := hBF.trans (hb5.mono hBF.size)
              clear hb5
              go_wp2_with (fail)
              refine (path_l hgW).mono ?_
              rintro e w6 ⟨⟨a6, n6, c6, rfl, -, -⟩, hb6⟩
              replace hIo := hIo.later hb6
              replace hBF := hBF.trans (hb6.mono hBF.size)
              clear hb6 hgW
              have hzx := hIo.get x HXY.out.1
              have hzy := hIo.get y HXY.out.2.1
              rw [Nat.zero_add, HZF.out x HXY.out.1] at hzx
              rw [Nat.zero_add, HZF.out y HXY.out.2.1] at hzy
              have hq := eqv_both (GE g)
              have hff : (f x = f y) ↔ (Rch (GE g) x y ∧ Rch (GE g) y x) := by
                rw [← HFF.out]
                exact ⟨fun e => both_iff.1 (ix_inj hq e), fun h => ix_same hq (both_iff.2 h)⟩
              obtain ⟨X, hX⟩ : ∃ X : Int, ((f x : Nat) : Int) = X := ⟨_, rfl⟩
              obtain ⟨Y, hY⟩ : ∃ Y : Int, ((f y : Nat) : Int) = Y := ⟨_, rfl⟩
              rw [hX] at hzx
              rw [hY] at hzy
              have hXY : X = Y ↔ (Rch (GE g) x y ∧ Rch (GE g) y x) := by rw [← hff]; omega
              have p1 := pt_zero HV.out hxg hyg
              have p2 := pt_zero HV.out hyg hxg
              obtain ⟨E1, hE1⟩ : ∃ E1, ptE g (x : Int) (y : Int) = E1 := ⟨_, rfl⟩
              obtain ⟨E2, hE2⟩ : ∃ E2, ptE g (y : Int) (x : Int) = E2 := ⟨_, rfl⟩
              rw [hE1] at p1 ⊢
              rw [hE2] at p2 ⊢
              have HIO := Lib.hid hzx
              have HIO2 := Lib.hid hzy
              clear hIo hff hX hY hE1 hE2 hq hzx hzy
              rcases p1 with ⟨rfl, q1⟩ | ⟨rfl, q1⟩
              · rcases p2 with ⟨rfl, q2⟩ | ⟨rfl, q2⟩
                · have e9 : (X == Y) = true := by rw [beq_iff_eq]; exact hXY.2 ⟨q1, q2⟩
                  clear hXY
                  go_wp2_with (fail)
                  have hzx := HIO.out
                  have hzy := HIO2.out
                  have hx1 := HXY.out.1
                  have hy1 := HXY.out.2.1
                  go_quiet (fail)
                  go_wp2
                  go_ret
                  exact ⟨rfl, hBF.trans ((below_drewN _ _).mono hBF.size)⟩
                · have e9 : (X == Y) = false := by rw [beq_eq_false_iff_ne]; exact fun h => q2 (hXY.1 h).2
                  clear hXY
                  go_wp2_with (fail)
                  have hzx := HIO.out
                  have hzy := HIO2.out
                  have hx1 := HXY.out.1
                  have hy1 := HXY.out.2.1
                  go_quiet (fail)
                  go_wp2
                  go_ret
                  exact ⟨rfl, hBF.trans ((below_drewN _ _).mono hBF.size)⟩
              · have e9 : (X == Y) = false := by rw [beq_eq_false_iff_ne]; exact fun h => q1 (hXY.1 h).1
                clear hXY
                rcases p2 with ⟨rfl, q2⟩ | ⟨rfl, q2⟩
                · skip
                  go_wp2_with (fail)
                  have hzx := HIO.out
                  have hzy := HIO2.out
                  have hx1 := HXY.out.1
                  have hy1 := HXY.out.2.1
                  go_quiet (fail)
                  go_wp2
                  go_ret
                  exact ⟨rfl, hBF.trans ((below_drewN _ _).mono hBF.size)⟩
                · skip
                  go_wp2_with (fail)
                  have hzx := HIO.out
                  have hzy := HIO2.out
                  have hx1 := HXY.out.1
                  have hy1 := HXY.out.2.1
                  go_quiet (fail)
                  go_wp2
                  go_ret
                  exact ⟨rfl, hBF.trans ((below_drewN _ _).mono hBF.size)⟩
end Go.Proofs.Ytlogmgkjikamaaa
