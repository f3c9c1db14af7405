/-
  The reference: Dist, Reach.
-/
import Derived.Test.YtlogmgkjikamaaaGraK
import Derived.Test.YtlogmgkjikamaaaGraCr
set_option linter.unusedSimpArgs false
set_option linter.unusedVariables false
set_option maxHeartbeats 4000000
namespace Go.Proofs.Ytlogmgkjikamaaa
open Go.RowKit
attribute [local go_sem] Oper.semAt_some

variable {a : Option Addr} {len cap : Nat} {g : List (List Int)} {w : World}

set_option maxRecDepth 20000 in
theorem refDist_bad {al : Option Addr} {ll cl : Nat} {l : List Int} (hg : IsRows w a len cap g) (hl : IsRow .i64 w al ll cl l) (h0 : checkV g l ≠ 0) :
    Calls Try.prog 26 #[.slice a len cap, .slice al ll cl] w fun e w' => DistRes g l len w.heap.size e w' ∧ Below w.heap.size w w' := by
  have hval := refValid_any hg
  have hcap := hg.cap
  unfold maxLen at hcap
  have hgl := hg.length
  by_cases hv : ValidG g
  · rw [validGB_yes hv] at hval
    have hno : ¬ NodesOk len l := fun h => h0 (checkV_zero.2 ⟨hv, by rw [hgl]; exact h⟩)
    have HC : Hid (checkV g l = 2 ∧ checkV g l ≠ 0) := Lib.hid ⟨by unfold checkV; rw [if_pos hv, hgl, if_neg hno], h0⟩
    have HN := Lib.hid (fun W (h : Below w.heap.size w W) => (by have := refNodes_any (a := a) (len := len) (cap := cap) (hl.later h) (by omega); rwa [decide_eq_false hno] at this : Calls Try.prog 44 #[.slice a len cap, .slice al ll cl] W fun e w' => e = .returned (.bool false) ∧ W = w'))
    clear hv hno h0
    go_enter Try.func26, Try.ntmps26
    go_wp2_with (fail)
    go_at_call 12
    refine hval.mono ?_
    rintro e w1 ⟨rfl, hb1⟩
    clear hval
    have hn := HN.out w1 hb1
    go_wp2_with (fail)
    go_at_call 44
    refine hn.mono ?_
    rintro e w2 ⟨rfl, rfl⟩
    go_wp2
    go_ret2
    exact ⟨.inl ⟨HC.out.2, by rw [HC.out.1] <;> rfl⟩, hb1⟩
  · rw [validGB_no hv] at hval
    have HC : Hid (checkV g l = 1 ∧ checkV g l ≠ 0) := Lib.hid ⟨by unfold checkV; rw [if_neg hv], h0⟩
    clear hv h0
    go_enter Try.func26, Try.ntmps26
    go_wp2_with (fail)
    go_at_call 12
    refine hval.mono ?_
    rintro e w1 ⟨rfl, hb1⟩
    clear hval
    go_wp2
    go_ret2
    exact ⟨.inl ⟨HC.out.2, by rw [HC.out.1] <;> rfl⟩, hb1⟩

set_option maxRecDepth 20000 in
theorem refDist_ok {al : Option Addr} {ll cl : Nat} {l : List Int} (hg : IsRows w a len cap g) (hl : IsRow .i64 w al ll cl l) (h0 : checkV g l = 0) :
    Calls Try.prog 26 #[.slice a len cap, .slice al ll cl] w fun e w' => DistRes g l len w.heap.size e w' ∧ Below w.heap.size w w' := by
  have hval := refValid_any hg
  obtain ⟨hv, hok⟩ := checkV_zero.1 h0
  rw [hg.length] at hok
  rw [validGB_yes hv] at hval
  have HL := Lib.hid hg.length
  have HLL := Lib.hid hl.length
  have hN4 : len ≤ 400 := by rw [← hg.length]; exact hv.1
  have hlc := hl.cap
  unfold maxLen at hlc
  have HN := Lib.hid (fun W (h : Below w.heap.size w W) => (by have := refNodes_any (a := a) (len := len) (cap := cap) (hl.later h) (by omega); rwa [decide_eq_true hok] at this : Calls Try.prog 44 #[.slice a len cap, .slice al ll cl] W fun e w' => e = .returned (.bool true) ∧ W = w'))
  have HN4 := Lib.hid hN4
  have HV := Lib.hid hv
  have HOK := Lib.hid hok
  have HC0 := Lib.hid h0
  have HE : Hid (∀ x y, GE g x y → x < len ∧ y < len) := Lib.hid (fun x y h => by have := h.lt hv; rw [hg.length] at this; exact this)
  clear hv hok h0
  go_enter Try.func26, Try.ntmps26
  go_wp2_with (fail)
  go_at_call 12
  refine hval.mono ?_
  rintro e wv ⟨rfl, hbv⟩
  clear hval
  have hn := HN.out wv hbv
  go_wp2_with (fail)
  go_at_call 44
  refine hn.mono ?_
  rintro e wn ⟨rfl, rfl⟩
  clear hn
  have HBV := Lib.hid hbv
  go_wp2_with (refine make_ints (k := .i64) (B := wv.heap.size) elI64 rfl _ _ rfl rfl rfl rfl rfl (by omega) (Nat.le_refl _) ?_; intro w1 ho1 hb1 hs1)
  have hg' := hg.later hbv
  have hl' := hl.later hbv
  clear hg hl hs1 hbv
  go_loopw [7] (fun c W => ∃ (k : Nat) (zs : List Int), k ≤ len ∧ c = .int .i64 (k : Int) ∧ zs.length = len ∧ Hid (∀ i, i < k → gi zs i = -1) ∧ W.ownsRow wv.heap.size 3 1 (.slice (some ⟨wv.heap.size, 0, none⟩) len len) len (ivs .i64 zs) ∧ Below wv.heap.size wv W) (fun c _ => len - (intOf c).toNat)
  case atStart => exact ⟨0, _, Nat.zero_le _, rfl, by simp, Lib.hid (fun i hi => by omega), ho1, hb1⟩
  case round =>
    clear ho1 hb1
    obtain ⟨k, zs, hk, rfl, hzl, HZ, ho, hB⟩ := hrel
    rcases Nat.lt_or_ge k len with hlt | hge
    · have t1 : decide ((k : Int) < len) = true := decide_eq_true (by omega)
      obtain ⟨hc, hf⟩ := own_cell ho k hlt hzl
      have ho2 := own_store ho k (-1)
      have hB2 := hB.setCell (p := ⟨wv.heap.size, k, none⟩) (Nat.le_refl _) (.int .i64 (-1))
      have HZ2 : Hid (∀ i, i < k + 1 → gi (zs.set k (-1)) i = -1) := Lib.hid (fun i hi => by
        rw [gi_put (by omega)]
        split
        · rfl
        · exact HZ.out i (by omega))
      clear ho hB
      go_wp2
      go_roundw
      case rel => exact ⟨k + 1, _, hlt, by go_num, by rw [List.length_set]; exact hzl, HZ2, ho2, hB2⟩
      case measure => simp [intOf]; omega
    · obtain rfl : k = len := by omega
      have t1 : decide ((k : Int) < k) = false := decide_eq_false (by omega)
      have HB0 : Hid (∀ n, n < k → (gi zs n = -1 ∨ gi zs n = 0) ∧ (gi zs n = 0 ↔ (n : Int) ∈ l.take 0)) := Lib.hid (fun n hn => ⟨.inl (HZ.out n hn), by rw [HZ.out n hn, List.take_zero]; simp⟩)
      go_wp2_with (fail)
      go_loopw [8] (fun c W => ∃ (j : Nat) (zs : List Int), j ≤ ll ∧ c = .int .i64 (j : Int) ∧ zs.length = k ∧ Hid (∀ n, n < k → (gi zs n = -1 ∨ gi zs n = 0) ∧ (gi zs n = 0 ↔ (n : Int) ∈ l.take j)) ∧ W.ownsRow wv.heap.size 3 1 (.slice (some ⟨wv.heap.size, 0, none⟩) k k) k (ivs .i64 zs) ∧ Below wv.heap.size wv W) (fun c _ => ll - (intOf c).toNat)
      case atStart => exact ⟨0, zs, Nat.zero_le _, rfl, hzl, HB0, ho, hB⟩
      case round =>
        clear ho hB HB0 HZ hzl
        obtain ⟨j, zs, hj, rfl, hzl, HBF, ho, hB⟩ := hrel
        rcases Nat.lt_or_ge j ll with hjl | hjg
        · have t2 : decide ((j : Int) < ll) = true := decide_eq_true (by omega)
          obtain ⟨bl, ol, rfl, hcl⟩ := hl'.fix j hjl
          have hcx := hcl wr hB
          have hjL : j < l.length := by rw [HLL.out]; exact hjl
          have hxr := HOK.out _ (gi_mem l j hjL)
          obtain ⟨x, hx⟩ := Int.eq_ofNat_of_zero_le hxr.1
          rw [hx] at hxr hcx
          have hxk : x < k := by omega
          obtain ⟨hc, hf⟩ := own_cell ho x hxk hzl
          have HN2 : Hid (∀ n, n < k → (gi (zs.set x 0) n = -1 ∨ gi (zs.set x 0) n = 0) ∧ (gi (zs.set x 0) n = 0 ↔ (n : Int) ∈ l.take (j + 1))) := Lib.hid (fun n hn => by
            have h1 := HBF.out n hn
            rw [gi_put (by omega), take_succ_gi l j hjL, List.mem_append, List.mem_singleton, hx]
            by_cases e : n = x
            · rw [if_pos e]; exact ⟨.inr rfl, ⟨fun _ => .inr (by omega), fun _ => rfl⟩⟩
            · rw [if_neg e]; exact ⟨h1.1, h1.2.trans ⟨.inl, fun h => h.elim id fun h => absurd (by omega) e⟩⟩)
          have ho2 := own_store ho x 0
          have hB2 := hB.setCell (p := ⟨wv.heap.size, x, none⟩) (Nat.le_refl _) (.int .i64 0)
          clear hcl hx hxr ho hB
          go_wp2
          go_roundw
          case rel => exact ⟨j + 1, _, hjl, by go_num, by rw [List.length_set]; exact hzl, HN2, ho2, hB2⟩
          case measure => simp [intOf]; omega
        · obtain rfl : j = ll := by omega
          have t2 : decide ((j : Int) < j) = false := decide_eq_false (by omega)
          have HB1 : Hid (Lev (GE g) (fun n => (n : Int) ∈ l) k 0 (fun _ _ => False) (gi zs)) := Lib.hid (Lev.start (fun n hn => (HBF.out n hn).1) (fun n hn => by
            have := (HBF.out n hn).2
            rwa [List.take_of_length_le (by rw [HLL.out]; exact Nat.le_refl _)] at this) (fun _ _ f => f))
          clear hl' hlc HBF
          go_wp2_with (fail)
          go_loopw [9] (fun v W => ∃ (c : Nat) (zs : List Int), c ≤ k ∧ v = .int .i64 (c : Int) ∧ zs.length = k ∧ Hid (Lev (GE g) (fun n => (n : Int) ∈ l) k c (fun _ _ => False) (gi zs)) ∧ W.ownsRow wv.heap.size 3 1 (.slice (some ⟨wv.heap.size, 0, none⟩) k k) k (ivs .i64 zs) ∧ Below wv.heap.size wv W) (fun v _ => k - (intOf v).toNat)
          case atStart => exact ⟨0, zs, Nat.zero_le _, rfl, hzl, HB1, ho, hB⟩
          case round =>
            clear ho hB HB1 hzl
            obtain ⟨c, zs, hc, rfl, hzl, HLV, ho, hB⟩ := hrel
            rcases Nat.lt_or_ge c k with hlt | hge
            · have t3 : decide ((c : Int) < k) = true := decide_eq_true (by omega)
              have HB1 : Hid (Lev (GE g) (fun n => (n : Int) ∈ l) k c (fun u _ => u < 0) (gi zs)) := Lib.hid (HLV.out.sub fun u v _ _ _ h => absurd h (Nat.not_lt_zero _))
              go_wp2_with (fail)
              go_loopw [10] (fun v W => ∃ (i : Nat) (zs : List Int), i ≤ k ∧ v = .int .i64 (i : Int) ∧ zs.length = k ∧ Hid (Lev (GE g) (fun n => (n : Int) ∈ l) k c (fun u _ => u < i) (gi zs)) ∧ W.ownsRow wv.heap.size 3 1 (.slice (some ⟨wv.heap.size, 0, none⟩) k k) k (ivs .i64 zs) ∧ Below wv.heap.size wv W) (fun v _ => k - (intOf v).toNat)
              case atStart => exact ⟨0, zs, Nat.zero_le _, rfl, hzl, HB1, ho, hB⟩
              case round =>
                clear ho hB HB1 hzl HLV
                obtain ⟨i, zs, hi, rfl, hzl, HLV, ho, hB⟩ := hrel
                rcases Nat.lt_or_ge i k with hil | hig
                · have t4 : decide ((i : Int) < k) = true := decide_eq_true (by omega)
                  obtain ⟨b, off, au, lu, cu, rfl, hcell, hrow⟩ := hg'.fix i hil
                  have HCL := Lib.hid hcell
                  have HRL : Hid ((gr g i).length = lu) := Lib.hid hrow.length
                  have hlu : lu ≤ 400 := by rw [← HRL.out]; exact row_len4 HV.out (by rw [HL.out]; exact hil)
                  have HB1 : Hid (Lev (GE g) (fun n => (n : Int) ∈ l) k c (fun u v => u < i ∨ (u = i ∧ (v : Int) ∈ (gr g i).take 0)) (gi zs)) := Lib.hid (HLV.out.sub fun u v _ _ _ h => h.elim id fun h => by rw [List.take_zero] at h; cases h.2)
                  clear hcell
                  go_wp2_with (fail)
                  go_loopw [11] (fun v W => ∃ (j : Nat) (zs : List Int), j ≤ lu ∧ v = .int .i64 (j : Int) ∧ zs.length = k ∧ Hid (Lev (GE g) (fun n => (n : Int) ∈ l) k c (fun u v => u < i ∨ (u = i ∧ (v : Int) ∈ (gr g i).take j)) (gi zs)) ∧ W.ownsRow wv.heap.size 3 1 (.slice (some ⟨wv.heap.size, 0, none⟩) k k) k (ivs .i64 zs) ∧ Below wv.heap.size wv W) (fun v _ => lu - (intOf v).toNat)
                  case atStart => exact ⟨0, zs, Nat.zero_le _, rfl, hzl, HB1, ho, hB⟩
                  case round =>
                    clear ho hB HB1 hzl HLV
                    obtain ⟨j, zs, hj, rfl, hzl, HLV, ho, hB⟩ := hrel
                    have hcu := HCL.out wr hB
                    obtain ⟨hci, -⟩ := own_cell ho i hil hzl
                    obtain ⟨di, hdi⟩ : ∃ di, gi zs i = di := ⟨_, rfl⟩
                    rw [hdi] at hci
                    by_cases hq : di = (c : Int)
                    · have d1 : (di == (c : Int)) = true := by simpa using hq
                      rcases Nat.lt_or_ge j lu with hjl | hjg
                      · have t5 : decide ((j : Int) < lu) = true := decide_eq_true (by omega)
                        obtain ⟨br, o2, rfl, hcz⟩ := hrow.fix j hjl
                        have hcx := hcz wr hB
                        have hjL : j < (gr g i).length := by rw [HRL.out]; exact hjl
                        have hmem := gi_mem (gr g i) j hjL
                        have hxr := (HV.out.2 _ (gr_mem (by rw [HL.out]; exact hil))).2 _ hmem
                        rw [HL.out] at hxr
                        obtain ⟨x, hx⟩ := Int.eq_ofNat_of_zero_le hxr.1
                        rw [hx] at hxr hcx hmem
                        have hxk : x < k := by omega
                        have HD : Hid (∀ u v : Nat, (u < i ∨ (u = i ∧ (v : Int) ∈ (gr g i).take (j + 1))) → (u < i ∨ (u = i ∧ (v : Int) ∈ (gr g i).take j)) ∨ (u = i ∧ v = x)) := Lib.hid (fun u v h => by
                          rw [take_succ_gi _ j hjL, List.mem_append, List.mem_singleton, hx] at h
                          rcases h with h | ⟨h1, h2 | h2⟩
                          · exact .inl (.inl h)
                          · exact .inl (.inr ⟨h1, h2⟩)
                          · exact .inr ⟨h1, by omega⟩)
                        obtain ⟨hcc, hf⟩ := own_cell ho x hxk hzl
                        obtain ⟨z, hz⟩ : ∃ z, gi zs x = z := ⟨_, rfl⟩
                        rw [hz] at hcc
                        clear hcz hx hxr
                        by_cases h0 : z < 0
                        · have d0 : decide (z < 0) = true := decide_eq_true h0
                          have HN2 : Hid (Lev (GE g) (fun n => (n : Int) ∈ l) k c (fun u v => u < i ∨ (u = i ∧ (v : Int) ∈ (gr g i).take (j + 1))) (gi (zs.set x ((c : Int) + 1)))) := Lib.hid (HLV.out.see_new HE.out hil (by rw [hdi]; exact hq) hmem hxk (by rw [hz]; exact h0) (fun n hn => gi_put (by omega) _ n) HD.out)
                          have ho2 := own_store ho x ((c : Int) + 1)
                          have hB2 := hB.setCell (p := ⟨wv.heap.size, x, none⟩) (Nat.le_refl _) (.int .i64 ((c : Int) + 1))
                          clear ho hB h0 hz hmem hq hdi
                          go_wp2
                          go_roundw
                          case rel => exact ⟨j + 1, _, hjl, by go_num, by rw [List.length_set]; exact hzl, HN2, ho2, hB2⟩
                          case measure => simp [intOf]; omega
                        · have d0 : decide (z < 0) = false := decide_eq_false h0
                          have HN2 : Hid (Lev (GE g) (fun n => (n : Int) ∈ l) k c (fun u v => u < i ∨ (u = i ∧ (v : Int) ∈ (gr g i).take (j + 1))) (gi zs)) := Lib.hid (HLV.out.see_old hxk (by rw [hz]; omega) HD.out)
                          clear h0 hz hmem hq hdi
                          go_wp2_with (fail)
                          go_roundw
                          case rel => exact ⟨j + 1, zs, hjl, by go_num, hzl, HN2, ho, hB⟩
                          case measure => simp [intOf]; omega
                      · obtain rfl : j = lu := by omega
                        have t5 : decide ((j : Int) < j) = false := decide_eq_false (by omega)
                        have HN2 : Hid (Lev (GE g) (fun n => (n : Int) ∈ l) k c (fun u _ => u < i + 1) (gi zs)) := Lib.hid (HLV.out.sub fun u v _ _ e h => by
                          rcases Nat.lt_or_ge u i with h1 | h1
                          · exact .inl h1
                          · have : u = i := by omega
                            subst this
                            exact .inr ⟨rfl, by rw [List.take_of_length_le (by rw [HRL.out]; exact Nat.le_refl _)]; exact e⟩)
                        clear hq hdi
                        go_wp2_with (fail)
                        go_roundw
                        case rel => exact ⟨i + 1, zs, hil, by go_num, hzl, HN2, ho, hB⟩
                        case measure => simp [intOf]; omega
                    · have d1 : (di == (c : Int)) = false := by simpa using hq
                      have HN2 : Hid (Lev (GE g) (fun n => (n : Int) ∈ l) k c (fun u _ => u < i + 1) (gi zs)) := Lib.hid (HLV.out.sub fun u v _ e _ h => by
                        rcases Nat.lt_or_ge u i with h1 | h1
                        · exact .inl h1
                        · have : u = i := by omega
                          subst this
                          rw [hdi] at e
                          exact absurd e hq)
                      clear hq hdi
                      go_wp2_with (fail)
                      go_roundw
                      case rel => exact ⟨i + 1, zs, hil, by go_num, hzl, HN2, ho, hB⟩
                      case measure => simp [intOf]; omega
                · obtain rfl : i = k := by omega
                  have t4 : decide ((i : Int) < i) = false := decide_eq_false (by omega)
                  have HN2 : Hid (Lev (GE g) (fun n => (n : Int) ∈ l) i (c + 1) (fun _ _ => False) (gi zs)) := Lib.hid (HLV.out.next (fun u _ hu _ _ => hu) (fun _ _ f => f))
                  go_wp2_with (fail)
                  go_roundw
                  case rel => exact ⟨c + 1, zs, hlt, by go_num, hzl, HN2, ho, hB⟩
                  case measure => simp [intOf]; omega
            · obtain rfl : c = k := by omega
              have t3 : decide ((c : Int) < c) = false := decide_eq_false (by omega)
              have HD : Hid (DistL g l zs) := Lib.hid ⟨by rw [hzl, HL.out], by have := HLV.out.fin; rwa [← HL.out] at this⟩
              go_wp2
              go_ret2
              exact ⟨.inr ⟨HC0.out, _, _, zs, rfl, ho.from_mono HBV.out.size, HD.out⟩, HBV.out.trans (hB.mono HBV.out.size)⟩

theorem refDist_any {al : Option Addr} {ll cl : Nat} {l : List Int} (hg : IsRows w a len cap g) (hl : IsRow .i64 w al ll cl l) :
    Calls Try.prog 26 #[.slice a len cap, .slice al ll cl] w fun e w' => DistRes g l len w.heap.size e w' ∧ Below w.heap.size w w' := by
  by_cases h : checkV g l = 0
  · exact refDist_ok hg hl h
  · exact refDist_bad hg hl h

set_option maxRecDepth 20000 in
theorem refReach_any {al : Option Addr} {ll cl : Nat} {l : List Int} (hg : IsRows w a len cap g) (hl : IsRow .i64 w al ll cl l) :
    Calls Try.prog 25 #[.slice a len cap, .slice al ll cl] w fun e w' => ReachRes g l len w.heap.size e w' ∧ Below w.heap.size w w' := by
  have hd := refDist_any hg hl
  have HL := Lib.hid hg.length
  go_enter Try.func25, Try.ntmps25
  go_wp2_with (fail)
  go_at_call 26
  refine hd.mono ?_
  rintro e w1 ⟨hR, hb1⟩
  clear hd
  rcases hR with ⟨h0, rfl⟩ | ⟨h0, ad, cd, zs, rfl, ho, hz⟩
  · have HC := Lib.hid h0
    clear h0
    go_wp2_with (fail)
    go_loopw [8, 9] (fun v c W => v = .slice none 0 0 ∧ c = .int .i64 0 ∧ W = w1) (fun _ c _ => 0)
    case atStart => exact ⟨rfl, rfl, rfl⟩
    case round =>
      obtain ⟨rfl, rfl, rfl⟩ := hrel
      go_wp2
      go_ret2
      exact ⟨.inl ⟨HC.out, rfl⟩, hb1⟩
  · have HC : Hid (checkV g l = 0 ∧ DistL g l zs) := Lib.hid ⟨h0, hz⟩
    have hzl : zs.length = len := by rw [hz.1, HL.out]
    have hN4 : len ≤ 400 := by rw [← HL.out]; exact (checkV_zero.1 h0).1.1
    have HZ1 : Hid (w.heap.size ≤ w1.heap.size) := Lib.hid hb1.size
    have hI := (IsInts.of_owns ho).1
    clear h0 hz ho
    go_wp2_with (fail)
    go_loopw [8, 9] (fun v c W => ∃ (k n : Nat) (ar : Option Addr) (cr : Nat), k ≤ len ∧ c = .int .i64 (k : Int) ∧ v = .slice ar n cr ∧ n ≤ k ∧ Hid (n = (reachL zs k).length) ∧ W.ownsRow w1.heap.size 3 1 (.slice ar n cr) n (ivs .i64 (reachL zs k)) ∧ Below w1.heap.size w1 W) (fun _ c _ => len - (intOf c).toNat)
    case atStart => exact ⟨0, 0, none, 0, Nat.zero_le _, rfl, rfl, Nat.le_refl _, Lib.hid rfl, World.ownsRow_nil _ _ _ _, Below.refl _ _⟩
    case round =>
      obtain ⟨k, n, ar, cr, hk, rfl, rfl, hnk, HN, ho, hB⟩ := hrel
      rcases Nat.lt_or_ge k len with hlt | hge
      · have t1 : decide ((k : Int) < len) = true := decide_eq_true (by omega)
        obtain ⟨bz, oz, rfl, -, hc⟩ := hI.at wr hB k hlt
        obtain ⟨z, hz⟩ : ∃ z, gi zs k = z := ⟨_, rfl⟩
        rw [hz] at hc
        by_cases h0 : 0 ≤ z
        · have d0 : decide (0 ≤ z) = true := decide_eq_true h0
          have HS := Lib.hid (reachL_yes (zs := zs) (k := k) (by rw [hz]; exact h0))
          clear h0 hz
          go_wp2_with (at_builtin; refine app_one (k := .i64) elI64 rfl _ _ rfl rfl ho rfl (by omega) hB.size ?_; intro a6 c6 w6 ho6 hb6)
          go_roundw
          case rel => exact ⟨k + 1, n + 1, a6, c6, hlt, by go_num, rfl, by omega, Lib.hid (by rw [HS.out, List.length_append, ← HN.out]; rfl), by rw [HS.out]; exact ho6, hB.trans hb6⟩
          case measure => simp [intOf]; omega
        · have d0 : decide (0 ≤ z) = false := decide_eq_false h0
          have HS := Lib.hid (reachL_no (zs := zs) (k := k) (by rw [hz]; exact h0))
          clear h0 hz
          go_wp2_with (fail)
          go_roundw
          case rel => exact ⟨k + 1, n, ar, cr, hlt, by go_num, rfl, by omega, Lib.hid (by rw [HS.out]; exact HN.out), by rw [HS.out]; exact ho, hB⟩
          case measure => simp [intOf]; omega
      · obtain rfl : k = len := by omega
        have t1 : decide ((k : Int) < k) = false := decide_eq_false (by omega)
        go_wp2
        go_ret2
        exact ⟨.inr ⟨HC.out.1, ar, n, cr, zs, rfl, HN.out, ho.from_mono HZ1.out, HC.out.2⟩, hb1.trans (hB.mono hb1.size)⟩
end Go.Proofs.Ytlogmgkjikamaaa
