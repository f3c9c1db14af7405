/-
  The reference: free, Linear, Cut, IsLinear.
-/
import Derived.Test.YtofnbndpoiohhaaDoorOrdSm
set_option linter.unusedSimpArgs false
set_option linter.unusedVariables false
set_option maxHeartbeats 8000000
namespace Go.Proofs.YtofnbndpoiohhaaDoor
open Go.RowKit Go.Shelf
attribute [local go_sem] Oper.semAt_some

theorem refFree_any {N Bm g d : Nat} {r : Nat → Nat} {M : Nat → Nat → Bool} {D : Nat → Bool} {w : World} (hN : N ≤ 60) (hM : MatIs w Bm g N r M) (hD : RowIs w d N fun i => .bool (D i)) :
    Calls Tryd.prog 37 #[.slice (some ⟨g, 0, none⟩) N N, .slice (some ⟨d, 0, none⟩) N N] w fun e w' => ∃ ao co, e = .returned (.slice ao (freeTo M D N N).length co) ∧
      w'.ownsRow w.heap.size 3 1 (.slice ao (freeTo M D N N).length co) (freeTo M D N N).length (ivs .i64 ((freeTo M D N N).map Int.ofNat)) ∧ Below w.heap.size w w' := by
  go_enter Tryd.func37, Tryd.ntmps37
  go_wp2_with (fail)
  go_loopw [5, 6] (fun s c W => ∃ (i ln : Nat) (ao : Option Addr) (co : Nat), i ≤ N ∧ c = .int .i64 (i : Int) ∧ s = .slice ao ln co ∧ ln ≤ i ∧ Hid ((freeTo M D N i).length = ln) ∧ W.ownsRow w.heap.size 3 1 (.slice ao ln co) ln (ivs .i64 ((freeTo M D N i).map Int.ofNat)) ∧ Below w.heap.size w W) (fun _ c _ => N - (intOf c).toNat)
  case atStart => exact ⟨0, 0, none, 0, Nat.zero_le _, rfl, rfl, Nat.le_refl _, Lib.hid rfl, World.ownsRow_nil _ _ _ _, Below.refl _ _⟩
  case round =>
    obtain ⟨i, ln, ao, co, hi, rfl, rfl, hln, HL, hrow, hB⟩ := hrel
    rcases Nat.lt_or_ge i N with hlt | hge
    · have hMr := hM.later hB
      have hDr := hD.later hB
      have hdi := (hDr.cell i hlt).1
      have hno := Lib.hid (freeTo_no (M := M) (D := D) (N := N) (j := i))
      have hyes := Lib.hid (freeTo_yes (M := M) (D := D) (N := N) (j := i))
      obtain ⟨di, hdiv⟩ : ∃ di, D i = di := ⟨_, rfl⟩
      have ho0 := okB_zero M D i
      rw [hdiv] at ho0 hdi
      have hst := Lib.hid (okB_succ M D i)
      obtain ⟨O, hO⟩ : ∃ O : Nat → Bool, okB M D i = O := ⟨_, rfl⟩
      rw [hO] at hno hyes ho0 hst
      have HO0 := Lib.hid ho0
      clear hO ho0 hdiv
      go_wp2_with (fail)
      go_loop [7, 8] (fun b c => ∃ k : Nat, k ≤ N ∧ c = .int .i64 (k : Int) ∧ b = .bool (O k)) (fun _ c => N - (intOf c).toNat)
      case atStart => exact ⟨0, Nat.zero_le _, rfl, by rw [HO0.out]⟩
      case round =>
        obtain ⟨k, hk, rfl, rfl⟩ := hrel
        rcases Nat.lt_or_ge k N with hkl | hkg
        · have hs := hst.out k
          have hdk := (hDr.cell k hkl).1
          have hrk := hMr.row k hkl
          have hck := (hMr.cell k i hkl hlt).1
          cases hok : O k with
          | false =>
            rw [hok] at hs
            replace hs := Lib.hid hs
            clear hok
            go_wp2
            go_round
            case rel => exact ⟨k + 1, hkl, by go_num, by rw [hs.out]; rfl⟩
            case measure => simp [intOf]; omega
          | true =>
            rw [hok] at hs
            clear hok
            cases hDk : D k with
            | true =>
              rw [hDk] at hs hdk
              replace hs := Lib.hid hs
              clear hDk
              go_wp2
              go_round
              case rel => exact ⟨k + 1, hkl, by go_num, by rw [hs.out]; rfl⟩
              case measure => simp [intOf]; omega
            | false =>
              rw [hDk] at hs hdk
              clear hDk
              cases hMk : M k i with
              | true =>
                rw [hMk] at hs hck
                replace hs := Lib.hid hs
                clear hMk
                go_wp2
                go_round
                case rel => exact ⟨k + 1, hkl, by go_num, by rw [hs.out]; rfl⟩
                case measure => simp [intOf]; omega
              | false =>
                rw [hMk] at hs hck
                replace hs := Lib.hid hs
                clear hMk
                go_wp2
                go_round
                case rel => exact ⟨k + 1, hkl, by go_num, by rw [hs.out]; rfl⟩
                case measure => simp [intOf]; omega
        · obtain rfl : N = k := by omega
          have dkk : decide ((N : Int) < N) = false := decide_eq_false (by omega)
          have hsz := hB.size
          cases hok : O N with
          | true =>
            have hf := hyes.out hok
            clear hok
            have hHf := Lib.hid hf
            clear hf
            go_wp2_with (at_builtin; refine app_one (k := .i64) elI64 rfl _ _ rfl rfl hrow rfl (by omega) hsz ?_; intro a1 c1 w1 hrow1 hb1)
            go_roundw
            case rel => exact ⟨i + 1, ln + 1, a1, c1, hlt, by go_num, rfl, by omega, Lib.hid (by rw [hHf.out, List.length_append, HL.out]; rfl), by rw [hHf.out, List.map_append]; exact hrow1, hB.trans hb1⟩
            case measure => simp [intOf]; omega
          | false =>
            have hf := hno.out hok
            clear hok
            have hHf := Lib.hid hf
            clear hf
            go_wp2
            go_roundw
            case rel => exact ⟨i + 1, ln, ao, co, hlt, by go_num, rfl, by omega, Lib.hid (by rw [hHf.out, HL.out]), by rw [hHf.out]; exact hrow, hB⟩
            case measure => simp [intOf]; omega
    · obtain rfl : N = i := by omega
      have dii : decide ((N : Int) < N) = false := decide_eq_false (by omega)
      go_wp2
      go_ret
      rw [HL.out]
      exact ⟨ao, co, rfl, hrow, hB⟩

variable {n : Int} {a : Option Addr} {len cap : Nat} {es : List (Int × Int)} {w : World}

theorem refLinear_no (he : IsPairs w a len cap es) (hcap : len ≤ 9223372036854775807) (hv : ¬ ValidO n es) :
    Calls Tryd.prog 20 #[.agg #[.int .i64 n, .slice a len cap]] w fun e w' => e = .returned (.tuple #[.slice none 0 0, .int .i64 1]) ∧ Below w.heap.size w w' := by
  obtain ⟨hb1, hs1, hO⟩ := boxR n a len cap w
  obtain ⟨W1, hW1⟩ : ∃ W1, w.alloc (.cells #[.int .i64 n, .slice a len cap] 24) = W1 := ⟨_, rfl⟩
  rw [hW1] at hb1 hs1 hO
  rw [← hs1] at hO
  have he1 := he.later hb1
  obtain ⟨c0, c1⟩ := hO _ (Below.refl _ _)
  have HLE := Lib.hid he.length
  have HW := Lib.hid hW1
  have HO := Lib.hid hO
  clear hW1 hO
  go_enter Tryd.func20, Tryd.ntmps20
  go_wp2_with (fail)
  rw [HW.out]
  go_at_call 14
  refine (refValid_any he1 hcap).mono ?_
  rintro e w2 ⟨rfl, hb2⟩
  clear c0 c1
  obtain ⟨c0, c1⟩ := HO.out _ hb2
  have hb02 := hb1.trans (hb2.mono hb1.size)
  rw [validB_no hv]
  clear hv
  go_wp2
  go_ret2
  exact ⟨rfl, hb02⟩

theorem refLinear_yes (he : IsPairs w a len cap es) (hcap : len ≤ 9223372036854775807) (hv : ValidO n es) :
    Calls Tryd.prog 20 #[.agg #[.int .i64 n, .slice a len cap]] w fun e w' => ∃ l ao co, e = .returned (.tuple #[.slice ao l.length co, .int .i64 0]) ∧ KL (Ed es) n.toNat l ∧ l.length = n.toNat ∧ w'.ownsRow w.heap.size 3 1 (.slice ao l.length co) l.length (ivs .i64 (l.map Int.ofNat)) ∧ Below w.heap.size w w' := by
  obtain ⟨hb1, hs1, hO⟩ := boxR n a len cap w
  obtain ⟨W1, hW1⟩ : ∃ W1, w.alloc (.cells #[.int .i64 n, .slice a len cap] 24) = W1 := ⟨_, rfl⟩
  rw [hW1] at hb1 hs1 hO
  rw [← hs1] at hO
  have he1 := he.later hb1
  obtain ⟨c0, c1⟩ := hO _ (Below.refl _ _)
  have HLE := Lib.hid he.length
  have HW := Lib.hid hW1
  have HO := Lib.hid hO
  clear hW1 hO
  go_enter Tryd.func20, Tryd.ntmps20
  go_wp2_with (fail)
  rw [HW.out]
  go_at_call 14
  refine (refValid_any he1 hcap).mono ?_
  rintro e w2 ⟨rfl, hb2⟩
  clear c0 c1
  obtain ⟨c0, c1⟩ := HO.out _ hb2
  have hb02 := hb1.trans (hb2.mono hb1.size)
  rw [validB_yes hv]
  obtain ⟨N, rfl⟩ := Int.eq_ofNat_of_zero_le hv.1.1
  have hN60 : N ≤ 60 := by have := hv.1.2; omega
  have h36 : len ≤ 3600 := by rw [← HLE.out]; exact hv.2.1
  have HBH := Lib.hid (fun W h => behind_any N hN60 a len cap es W h hv.2.2.1 h36)
  have HV := Lib.hid hv
  clear hv h36
  go_wp2_with (fail)
  go_at_call 34
  refine (HBH.out _ (he1.later hb2)).mono ?_
  rintro e w4 ⟨g, r, rfl, hM, hb4⟩
  clear c0 c1
  have hB4 := hb2.trans (hb4.mono hb2.size)
  obtain ⟨c0, c1⟩ := HO.out _ hB4
  have hb04 := hb1.trans (hB4.mono hb1.size)
  go_wp2_with (refine make_row elBools rfl rfl _ _ rfl rfl rfl rfl rfl (by omega) ?_; intro w5 hr5 hb5 hs5)
  clear c0 c1
  have hr5' : RowIs w5 w4.heap.size N fun i => .bool (dB [] i) := hr5.congr fun i _ => by rw [dB_nil]
  clear hr5
  have HBN := Lib.hid (fun W (h : Below w5.heap.size w5 W) => hB4.trans ((hb5.trans (h.mono (by omega))).mono hB4.size))
  go_loopw [6, 7] (fun v c W => ∃ (k : Nat) (ls : List Nat) (ao : Option Addr) (co : Nat), k ≤ N ∧ c = .int .i64 (k : Int) ∧ v = .slice ao k co ∧ Hid (KL (Ed es) N ls ∧ ls.length = k) ∧ RowIs W w4.heap.size N (fun i => .bool (dB ls i)) ∧ W.ownsRow w5.heap.size 3 1 (.slice ao k co) k (ivs .i64 (ls.map Int.ofNat)) ∧ w5.heap.size ≤ W.heap.size ∧ Below w4.heap.size w4 W) (fun _ c _ => N - (intOf c).toNat)
  case atStart => exact ⟨0, [], none, 0, Nat.zero_le _, rfl, rfl, Lib.hid ⟨.nil, rfl⟩, hr5', World.ownsRow_nil _ _ _ _, Nat.le_refl _, hb5⟩
  case round =>
    clear hr5'
    obtain ⟨k, ls, ao, co, hk, rfl, rfl, HK, hD, hrow, hB5, hBm⟩ := hrel
    obtain ⟨c0, c1⟩ := HO.out _ (hB4.trans (hBm.mono hB4.size))
    rcases Nat.lt_or_ge k N with hlt | hge
    · have hdlt : decide ((k : Int) < N) = true := decide_eq_true (by omega)
      obtain ⟨x, rest, hfr, hxN, hKx⟩ := free_first HV.out HK.out.1 (by rw [HK.out.2]; exact hlt)
      have hfree := refFree_any hN60 (hM.later hBm) hD
      obtain ⟨fl, hfl⟩ : ∃ fl, freeTo (pathB es) (dB ls) N N = fl := ⟨_, rfl⟩
      rw [hfl] at hfree hfr
      have hflen : 0 < fl.length := by rw [hfr]; exact Nat.succ_pos _
      have hfx : gi (fl.map Int.ofNat) 0 = (x : Int) := by rw [hfr]; rfl
      have HKX := Lib.hid hKx
      clear hfl hfr hKx
      go_wp2_with (fail)
      go_at_call 37
      refine hfree.mono ?_
      rintro e w6 ⟨a6, c6, rfl, hrow6, hb6⟩
      clear hfree c0 c1
      obtain ⟨hI6, -⟩ := IsInts.of_owns hrow6
      obtain ⟨b6, o6, rfl, -, hx6⟩ := hI6.at w6 (Below.refl _ _) 0 hflen
      rw [hfx, Nat.add_zero] at hx6
      have hD6 := hD.later hb6
      obtain ⟨hdx, hdf⟩ := hD6.cell x hxN
      have hrw6 := hrow.kept_below hb6
      have hBm6 := hBm.trans (hb6.mono hBm.size)
      have hsz6 := Nat.le_trans hB5 hb6.size
      have hD7 := hD6.store x (.bool true)
      have hD7' : RowIs (w6.setCell ⟨w4.heap.size, x, none⟩ (.bool true)) w4.heap.size N fun i => .bool (dB (ls ++ [x]) i) := hD7.congr fun i _ => dB_snoc ls x i
      have hrw7 := ownsRow_setCell_below hrw6 (a := ⟨w4.heap.size, x, none⟩) (by show w4.heap.size < _; omega) (.bool true)
      have hBm7 := hBm6.setCell (p := ⟨w4.heap.size, x, none⟩) (Nat.le_refl _) (.bool true)
      have hmap : Hid ((ls ++ [x]).map Int.ofNat = ls.map Int.ofNat ++ [(x : Int)]) := Lib.hid (by rw [List.map_append]; rfl)
      clear hI6 hrow6 hD7 hfx hD6 hrw6 hrow hB5 hBm hD
      obtain ⟨w7, hw7⟩ : ∃ w7, w6.setCell ⟨w4.heap.size, x, none⟩ (.bool true) = w7 := ⟨_, rfl⟩
      rw [hw7] at hD7' hrw7 hBm7
      have hsz7 : w5.heap.size ≤ w7.heap.size := by rw [← hw7, size_setCell']; exact hsz6
      have hs76 : Hid (w7.heap.size = w6.heap.size) := Lib.hid (by rw [← hw7, size_setCell'])
      replace hw7 := Lib.hid hw7
      go_wp2_with (at_builtin; rw [hw7.out]; refine app_one (k := .i64) elI64 rfl _ _ rfl rfl hrw7 (by rw [hs76.out]; rfl) (by omega) hsz7 ?_; intro a8 c8 w8 hrow8 hb8)
      go_roundw
      case rel => exact ⟨k + 1, ls ++ [x], a8, c8, hlt, by go_num, rfl, Lib.hid ⟨HKX.out, by rw [List.length_append, HK.out.2]; rfl⟩, hD7'.kept hb8 (by omega), by rw [hmap.out]; exact hrow8, Nat.le_trans hsz7 hb8.size, hBm7.trans (hb8.mono (by omega))⟩
      case measure => simp [intOf]; omega
    · obtain rfl : N = k := by omega
      have dii : decide ((N : Int) < N) = false := decide_eq_false (by omega)
      go_wp2
      go_ret2
      rw [Int.toNat_natCast]
      refine ⟨ls, ao, co, ?_, HK.out.1, HK.out.2, ?_, ?_⟩
      · rw [HK.out.2] <;> rfl
      · rw [HK.out.2]
        exact hrow.from_mono (by have := hb04.size; have := hb5.size; omega)
      · exact hb04.trans (hBm.mono hb04.size)

theorem refCut_any (al : Option Addr) (ll cl : Nat) (l : List Int) (he : IsPairs w a len cap es) (hcap : len ≤ 9223372036854775807) (hl : IsInts .i64 w al ll cl l) :
    Calls Tryd.prog 25 #[.agg #[.int .i64 n, .slice a len cap], .slice al ll cl] w fun e w' => e = .returned (.bool (cutB n es l)) ∧ Below w.heap.size w w' := by
  have hcl := hl.cap
  unfold maxLen at hcl
  have HLL := Lib.hid hl.length
  obtain ⟨hb1, hs1, hO⟩ := boxR n a len cap w
  obtain ⟨W1, hW1⟩ : ∃ W1, w.alloc (.cells #[.int .i64 n, .slice a len cap] 24) = W1 := ⟨_, rfl⟩
  rw [hW1] at hb1 hs1 hO
  rw [← hs1] at hO
  have he1 := he.later hb1
  obtain ⟨c0, c1⟩ := hO _ (Below.refl _ _)
  have HLE := Lib.hid he.length
  have HW := Lib.hid hW1
  have HO := Lib.hid hO
  clear hW1 hO
  go_enter Tryd.func25, Tryd.ntmps25
  go_wp2_with (fail)
  rw [HW.out]
  go_at_call 14
  refine (refValid_any he1 hcap).mono ?_
  rintro e w2 ⟨rfl, hb2⟩
  clear c0 c1
  obtain ⟨c0, c1⟩ := HO.out _ hb2
  have hb02 := hb1.trans (hb2.mono hb1.size)
  by_cases hv : ValidO n es
  rotate_left
  · rw [validB_no hv]
    have hno := Lib.hid (cutB_no (n := n) (es := es) (l := l) (fun h => hv h.1))
    clear hv
    go_wp2
    go_ret
    exact ⟨by rw [hno.out] <;> rfl, hb02⟩
  rw [validB_yes hv]
  obtain ⟨N, rfl⟩ := Int.eq_ofNat_of_zero_le hv.1.1
  have hN60 : N ≤ 60 := by have := hv.1.2; omega
  have h36 : len ≤ 3600 := by rw [← HLE.out]; exact hv.2.1
  have HBH := Lib.hid (fun W h => behind_any N hN60 a len cap es W h hv.2.2.1 h36)
  have HV := Lib.hid hv
  clear hv h36
  have hl2 := hl.later hb02
  have he2 := he1.later hb2
  go_wp2_with (refine make_row elBools rfl rfl _ _ rfl rfl rfl rfl rfl (by omega) ?_; intro w3 hr3 hb3 hs3)
  have hr3' : RowIs w3 w2.heap.size N fun i => .bool (inB (l.take 0) i) := hr3.congr fun i _ => by rw [List.take_zero, inB_nil]
  clear hr3 c0 c1
  go_loopw [6] (fun c W => ∃ k : Nat, k ≤ ll ∧ c = .int .i64 (k : Int) ∧ Hid (∀ j, j < k → InRng N (l.take j) (gi l j)) ∧ RowIs W w2.heap.size N (fun i => .bool (inB (l.take k) i)) ∧ Below w2.heap.size w2 W) (fun c _ => ll - (intOf c).toNat)
  case atStart => exact ⟨0, Nat.zero_le _, rfl, Lib.hid (fun j hj => by omega), hr3', hb3⟩
  case round =>
    clear hr3'
    obtain ⟨k, hk, rfl, HR, hD, hB⟩ := hrel
    have hB1 := hb2.trans (hB.mono hb2.size)
    have hb0r := hb02.trans (hB.mono hb02.size)
    obtain ⟨c0, c1⟩ := HO.out _ hB1
    by_cases hlt : k < ll
    · have dlt : decide ((k : Int) < ll) = true := decide_eq_true (by omega)
      obtain ⟨ba, off, rfl, hbl, hcx⟩ := hl2.at wr hB k hlt
      obtain ⟨x, hx⟩ : ∃ x, gi l k = x := ⟨_, rfl⟩
      rw [hx] at hcx
      have HX := Lib.hid hx
      clear hx
      by_cases hr : 0 ≤ x ∧ x < N
      rotate_left
      · have hdx := decide_eq_false hr
        have hno : Hid (cutB N es l = false) := Lib.hid (cutB_no fun h => hr (by have := (h.2.1 k (by rw [HLL.out]; exact hlt)).1; rwa [HX.out] at this))
        clear hr
        go_wp2_with (fail)
        refine wp_region_grow mixed (by kernel_rfl) [[], [], [], [(1, 23), (2, 24)], [(3, 25)], [(0, 22), (4, 26)], [(5, 27)], [(6, 28), (5, 27)], [(7, 29)], [(7, 29)], [(7, 29)], [(9, 31), (10, 32), (7, 29)], [(11, 33), (7, 29)], [(8, 30), (12, 34), (7, 29)], [(13, 35), (7, 29)], [(7, 29), (14, 36)]] [(0, 22), (1, 23), (2, 24), (3, 25), (4, 26), (5, 27), (6, 28), (7, 29), (8, 30), (9, 31), (10, 32), (11, 33), (12, 34), (13, 35), (14, 36), (15, 37)] rfl rfl [Ex ?e0, Ex ?e1, Ex ?e2, Ex ?e3, Ex ?e4, Ex (.bool false), Ex ?e6, Ex ?e7, Ex undef, Ex undef, Ex undef, Ex undef, Ex undef, Ex undef, Ex undef, Ex ?e15] ⟨stays_ex _, stays_ex _, stays_ex _, stays_ex _, stays_ex _, stays_ex _, stays_ex _, stays_ex _, stays_ex _, stays_ex _, stays_ex _, stays_ex _, stays_ex _, stays_ex _, stays_ex _, stays_ex _, trivial⟩ ?steps ?rest
        case steps =>
          refine ⟨fun f W hC hh => ?_, fun f W hC hh => ?_, fun f W hC hh => ?_, fun f W hC hh => ?_, fun f W hC hh => ?_, fun f W hC hh => ?_, fun f W hC hh => ?_, fun f W hC hh => ?_, fun f W hC hh => ?_, fun f W hC hh => ?_, fun f W hC hh => ?_, fun f W hC hh => ?_, fun f W hC hh => ?_, fun f W hC hh => ?_, fun f W hC hh => ?_, fun f W hC hh => ?_, trivial⟩
          · -- 0: Op.load 24 (Operand.tmp 2)
            refine tab_plain fun K Q hK => ?_
            simp only [puts, List.foldr_nil]
            obtain ⟨c0, c1⟩ := HO.out W (hB1.trans (hC.mono hB1.size))
            go_step
            refine fam_ex hK rfl rfl (by simp only [Act.put, List.setIfInBounds_toArray, List.set_cons_succ, List.set_cons_zero, Array.getD_eq_getD_getElem?, List.getElem?_toArray, List.getElem?_cons_succ, List.getElem?_cons_zero, Option.getD_some] <;> rfl) rfl (Below.refl _ _) hC
          · -- 1: Op.move (Operand.tmp 1)
            refine tab_plain fun K Q hK => ?_
            simp only [puts, List.foldr_nil]
            go_step
            refine fam_ex hK rfl rfl (by simp only [Act.put, List.setIfInBounds_toArray, List.set_cons_succ, List.set_cons_zero, Array.getD_eq_getD_getElem?, List.getElem?_toArray, List.getElem?_cons_succ, List.getElem?_cons_zero, Option.getD_some] <;> rfl) rfl (Below.refl _ _) hC
          · -- 2: Op.move (Operand.tmp 6)
            refine tab_plain fun K Q hK => ?_
            simp only [puts, List.foldr_nil]
            go_step
            refine fam_ex hK rfl rfl (by simp only [Act.put, List.setIfInBounds_toArray, List.set_cons_succ, List.set_cons_zero, Array.getD_eq_getD_getElem?, List.getElem?_toArray, List.getElem?_cons_succ, List.getElem?_cons_zero, Option.getD_some] <;> rfl) rfl (Below.refl _ _) hC
          · -- 3: Op.indexAddr 31 (Operand.tmp 23) (Operand.tmp 24)
            obtain ⟨h1, h2, -⟩ := hh
            have g1 : f 1 = _ := h1
            have g2 : f 2 = _ := h2
            refine tab_plain fun K Q hK => ?_
            simp only [puts, List.foldr_cons, List.foldr_nil, List.setIfInBounds_toArray, List.set_cons_succ, List.set_cons_zero, g1, g2]
            go_step
            refine fam_ex hK rfl rfl (by simp only [Act.put, List.setIfInBounds_toArray, List.set_cons_succ, List.set_cons_zero, Array.getD_eq_getD_getElem?, List.getElem?_toArray, List.getElem?_cons_succ, List.getElem?_cons_zero, Option.getD_some] <;> rfl) rfl (Below.refl _ _) hC
          · -- 4: Op.load 3 (Operand.tmp 25)
            obtain ⟨h3, -⟩ := hh
            have g3 : f 3 = _ := h3
            refine tab_plain fun K Q hK => ?_
            simp only [puts, List.foldr_cons, List.foldr_nil, List.setIfInBounds_toArray, List.set_cons_succ, List.set_cons_zero, g3]
            have hc4 := (hC.cell (p := ⟨ba, off + k, none⟩) (by have := hB.size; show ba < _; omega)).trans hcx
            go_step
            refine fam_ex hK rfl rfl (by simp only [Act.put, List.setIfInBounds_toArray, List.set_cons_succ, List.set_cons_zero, Array.getD_eq_getD_getElem?, List.getElem?_toArray, List.getElem?_cons_succ, List.getElem?_cons_zero, Option.getD_some] <;> rfl) rfl (Below.refl _ _) hC
          · -- 5: Op.call { callee := Callee.value (Operand.func 36), args := #[Operand.tmp 22, Operand.tmp 
            obtain ⟨h0, h4, -⟩ := hh
            have g0 : f 0 = _ := h0
            have g4 : f 4 = _ := h4
            refine tab_plain fun K Q hK => ?_
            simp only [puts, List.foldr_cons, List.foldr_nil, List.setIfInBounds_toArray, List.set_cons_succ, List.set_cons_zero, g0, g4]
            go_step
            go_at_call 36
            refine (refExists_any x).mono ?_
            rintro e w' ⟨rfl, hb⟩
            rw [hdx]
            exact fam_fin hK rfl rfl hb (hC.trans (hb.mono hC.size))
          · -- 6: Op.unOp UnOp.not 4 (Operand.tmp 27)
            obtain ⟨h5, -⟩ := hh
            have g5 : f 5 = _ := h5
            refine tab_plain fun K Q hK => ?_
            simp only [puts, List.foldr_cons, List.foldr_nil, List.setIfInBounds_toArray, List.set_cons_succ, List.set_cons_zero, g5]
            go_step
            refine fam_ex hK rfl rfl (by simp only [Act.put, List.setIfInBounds_toArray, List.set_cons_succ, List.set_cons_zero, Array.getD_eq_getD_getElem?, List.getElem?_toArray, List.getElem?_cons_succ, List.getElem?_cons_zero, Option.getD_some] <;> rfl) rfl (Below.refl _ _) hC
          · -- 7: Op.move (Operand.tmp 28)
            obtain ⟨h6, h5, -⟩ := hh
            have g6 : f 6 = _ := h6
            have g5 : f 5 = _ := h5
            refine tab_plain fun K Q hK => ?_
            simp only [puts, List.foldr_cons, List.foldr_nil, List.setIfInBounds_toArray, List.set_cons_succ, List.set_cons_zero, g6, g5]
            go_step
            refine fam_ex hK rfl rfl (by simp only [Act.put, List.setIfInBounds_toArray, List.set_cons_succ, List.set_cons_zero, Array.getD_eq_getD_getElem?, List.getElem?_toArray, List.getElem?_cons_succ, List.getElem?_cons_zero, Option.getD_some] <;> rfl) rfl (Below.refl _ _) hC
          · -- 8: Op.move (Operand.tmp 5)
            obtain ⟨h7, -⟩ := hh
            have g7 : f 7 = _ := h7
            exact tab_no rfl g7 (by decide) rfl
          · -- 9: Op.move (Operand.tmp 1)
            obtain ⟨h7, -⟩ := hh
            have g7 : f 7 = _ := h7
            exact tab_no rfl g7 (by decide) rfl
          · -- 10: Op.move (Operand.tmp 6)
            obtain ⟨h7, -⟩ := hh
            have g7 : f 7 = _ := h7
            exact tab_no rfl g7 (by decide) rfl
          · -- 11: Op.indexAddr 31 (Operand.tmp 31) (Operand.tmp 32)
            obtain ⟨h9, h10, h7, -⟩ := hh
            have g9 : f 9 = _ := h9
            have g10 : f 10 = _ := h10
            have g7 : f 7 = _ := h7
            exact tab_no rfl g7 (by decide) rfl
          · -- 12: Op.load 3 (Operand.tmp 33)
            obtain ⟨h11, h7, -⟩ := hh
            have g11 : f 11 = _ := h11
            have g7 : f 7 = _ := h7
            exact tab_no rfl g7 (by decide) rfl
          · -- 13: Op.indexAddr 61 (Operand.tmp 30) (Operand.tmp 34)
            obtain ⟨h8, h12, h7, -⟩ := hh
            have g8 : f 8 = _ := h8
            have g12 : f 12 = _ := h12
            have g7 : f 7 = _ := h7
            exact tab_no rfl g7 (by decide) rfl
          · -- 14: Op.load 4 (Operand.tmp 35)
            obtain ⟨h13, h7, -⟩ := hh
            have g13 : f 13 = _ := h13
            have g7 : f 7 = _ := h7
            exact tab_no rfl g7 (by decide) rfl
          · -- 15: Op.pick (Operand.tmp 29) (Operand.const (Value.bool true)) (Operand.tmp 36)
            obtain ⟨h7, h14, -⟩ := hh
            have g7 : f 7 = _ := h7
            have g14 : f 14 = _ := h14
            refine tab_plain fun K Q hK => ?_
            simp only [puts, List.foldr_cons, List.foldr_nil, List.setIfInBounds_toArray, List.set_cons_succ, List.set_cons_zero, g7, g14]
            go_step
            refine fam_ex hK rfl rfl (by simp only [Act.put, List.setIfInBounds_toArray, List.set_cons_succ, List.set_cons_zero, Array.getD_eq_getD_getElem?, List.getElem?_toArray, List.getElem?_cons_succ, List.getElem?_cons_zero, Option.getD_some] <;> rfl) rfl (Below.refl _ _) hC
        case rest =>
          intro f W2 hC hh
          obtain ⟨h0, h1, h2, h3, h4, h5, h6, h7, h8, h9, h10, h11, h12, h13, h14, h15, -⟩ := hh
          have g0 : f 0 = _ := h0
          have g1 : f 1 = _ := h1
          have g2 : f 2 = _ := h2
          have g3 : f 3 = _ := h3
          have g4 : f 4 = _ := h4
          have g5 : f 5 = _ := h5
          have g6 : f 6 = _ := h6
          have g7 : f 7 = _ := h7
          have g8 : f 8 = _ := h8
          have g9 : f 9 = _ := h9
          have g10 : f 10 = _ := h10
          have g11 : f 11 = _ := h11
          have g12 : f 12 = _ := h12
          have g13 : f 13 = _ := h13
          have g14 : f 14 = _ := h14
          have g15 : f 15 = _ := h15
          simp only [puts, List.foldr_cons, List.foldr_nil, List.setIfInBounds_toArray, List.set_cons_succ, List.set_cons_zero, g0, g1, g2, g3, g4, g5, g6, g7, g8, g9, g10, g11, g12, g13, g14, g15]
          clear h0 h1 h2 h3 h4 h5 h6 h7 h8 h9 h10 h11 h12 h13 h14 h15 g0 g1 g2 g3 g4 g5 g6 g7 g8 g9 g10 g11 g12 g13 g14 g15
          go_wp2
          go_ret
          exact ⟨by rw [hno.out] <;> rfl, hb0r.trans (hC.mono hb0r.size)⟩
      have hdx := decide_eq_true hr
      obtain ⟨X, rfl⟩ := Int.eq_ofNat_of_zero_le hr.1
      have hXN : X < N := by omega
      by_cases hin : (X : Int) ∈ l.take k
      · have hiv : inB (l.take k) X = true := decide_eq_true hin
        have hno : Hid (cutB N es l = false) := Lib.hid (cutB_no fun h => (by have := (h.2.1 k (by rw [HLL.out]; exact hlt)).2; rw [HX.out] at this; exact this hin))
        clear hr hin
        go_wp2_with (fail)
        refine wp_region_grow mixed (by kernel_rfl) [[], [], [], [(1, 23), (2, 24)], [(3, 25)], [(0, 22), (4, 26)], [(5, 27)], [(6, 28), (5, 27)], [(7, 29)], [(7, 29)], [(7, 29)], [(9, 31), (10, 32), (7, 29)], [(11, 33), (7, 29)], [(8, 30), (12, 34), (7, 29)], [(13, 35), (7, 29)], [(7, 29), (14, 36)]] [(0, 22), (1, 23), (2, 24), (3, 25), (4, 26), (5, 27), (6, 28), (7, 29), (8, 30), (9, 31), (10, 32), (11, 33), (12, 34), (13, 35), (14, 36), (15, 37)] rfl rfl [Ex ?ep0, Ex ?ep1, Ex ?ep2, Ex ?ep3, Ex ?ep4, Ex (.bool true), Ex ?ep6, Ex ?ep7, Ex ?ep8, Ex ?ep9, Ex ?ep10, Ex ?ep11, Ex ?ep12, Ex ?ep13, Ex ?ep14, Ex ?ep15] ⟨stays_ex _, stays_ex _, stays_ex _, stays_ex _, stays_ex _, stays_ex _, stays_ex _, stays_ex _, stays_ex _, stays_ex _, stays_ex _, stays_ex _, stays_ex _, stays_ex _, stays_ex _, stays_ex _, trivial⟩ ?psteps ?prest
        case psteps =>
          refine ⟨fun f W hC hh => ?_, fun f W hC hh => ?_, fun f W hC hh => ?_, fun f W hC hh => ?_, fun f W hC hh => ?_, fun f W hC hh => ?_, fun f W hC hh => ?_, fun f W hC hh => ?_, fun f W hC hh => ?_, fun f W hC hh => ?_, fun f W hC hh => ?_, fun f W hC hh => ?_, fun f W hC hh => ?_, fun f W hC hh => ?_, fun f W hC hh => ?_, fun f W hC hh => ?_, trivial⟩
          · -- 0: Op.load 24 (Operand.tmp 2)
            refine tab_plain fun K Q hK => ?_
            simp only [puts, List.foldr_nil]
            obtain ⟨c0, c1⟩ := HO.out W (hB1.trans (hC.mono hB1.size))
            go_step
            refine fam_ex hK rfl rfl (by simp only [Act.put, List.setIfInBounds_toArray, List.set_cons_succ, List.set_cons_zero, Array.getD_eq_getD_getElem?, List.getElem?_toArray, List.getElem?_cons_succ, List.getElem?_cons_zero, Option.getD_some] <;> rfl) rfl (Below.refl _ _) hC
          · -- 1: Op.move (Operand.tmp 1)
            refine tab_plain fun K Q hK => ?_
            simp only [puts, List.foldr_nil]
            go_step
            refine fam_ex hK rfl rfl (by simp only [Act.put, List.setIfInBounds_toArray, List.set_cons_succ, List.set_cons_zero, Array.getD_eq_getD_getElem?, List.getElem?_toArray, List.getElem?_cons_succ, List.getElem?_cons_zero, Option.getD_some] <;> rfl) rfl (Below.refl _ _) hC
          · -- 2: Op.move (Operand.tmp 6)
            refine tab_plain fun K Q hK => ?_
            simp only [puts, List.foldr_nil]
            go_step
            refine fam_ex hK rfl rfl (by simp only [Act.put, List.setIfInBounds_toArray, List.set_cons_succ, List.set_cons_zero, Array.getD_eq_getD_getElem?, List.getElem?_toArray, List.getElem?_cons_succ, List.getElem?_cons_zero, Option.getD_some] <;> rfl) rfl (Below.refl _ _) hC
          · -- 3: Op.indexAddr 31 (Operand.tmp 23) (Operand.tmp 24)
            obtain ⟨h1, h2, -⟩ := hh
            have g1 : f 1 = _ := h1
            have g2 : f 2 = _ := h2
            refine tab_plain fun K Q hK => ?_
            simp only [puts, List.foldr_cons, List.foldr_nil, List.setIfInBounds_toArray, List.set_cons_succ, List.set_cons_zero, g1, g2]
            go_step
            refine fam_ex hK rfl rfl (by simp only [Act.put, List.setIfInBounds_toArray, List.set_cons_succ, List.set_cons_zero, Array.getD_eq_getD_getElem?, List.getElem?_toArray, List.getElem?_cons_succ, List.getElem?_cons_zero, Option.getD_some] <;> rfl) rfl (Below.refl _ _) hC
          · -- 4: Op.load 3 (Operand.tmp 25)
            obtain ⟨h3, -⟩ := hh
            have g3 : f 3 = _ := h3
            refine tab_plain fun K Q hK => ?_
            simp only [puts, List.foldr_cons, List.foldr_nil, List.setIfInBounds_toArray, List.set_cons_succ, List.set_cons_zero, g3]
            have hc4 := (hC.cell (p := ⟨ba, off + k, none⟩) (by have := hB.size; show ba < _; omega)).trans hcx
            go_step
            refine fam_ex hK rfl rfl (by simp only [Act.put, List.setIfInBounds_toArray, List.set_cons_succ, List.set_cons_zero, Array.getD_eq_getD_getElem?, List.getElem?_toArray, List.getElem?_cons_succ, List.getElem?_cons_zero, Option.getD_some] <;> rfl) rfl (Below.refl _ _) hC
          · -- 5: Op.call { callee := Callee.value (Operand.func 36), args := #[Operand.tmp 22, Operand.tmp 
            obtain ⟨h0, h4, -⟩ := hh
            have g0 : f 0 = _ := h0
            have g4 : f 4 = _ := h4
            refine tab_plain fun K Q hK => ?_
            simp only [puts, List.foldr_cons, List.foldr_nil, List.setIfInBounds_toArray, List.set_cons_succ, List.set_cons_zero, g0, g4]
            go_step
            go_at_call 36
            refine (refExists_any X).mono ?_
            rintro e w' ⟨rfl, hb⟩
            rw [hdx]
            exact fam_fin hK rfl rfl hb (hC.trans (hb.mono hC.size))
          · -- 6: Op.unOp UnOp.not 4 (Operand.tmp 27)
            obtain ⟨h5, -⟩ := hh
            have g5 : f 5 = _ := h5
            refine tab_plain fun K Q hK => ?_
            simp only [puts, List.foldr_cons, List.foldr_nil, List.setIfInBounds_toArray, List.set_cons_succ, List.set_cons_zero, g5]
            go_step
            refine fam_ex hK rfl rfl (by simp only [Act.put, List.setIfInBounds_toArray, List.set_cons_succ, List.set_cons_zero, Array.getD_eq_getD_getElem?, List.getElem?_toArray, List.getElem?_cons_succ, List.getElem?_cons_zero, Option.getD_some] <;> rfl) rfl (Below.refl _ _) hC
          · -- 7: Op.move (Operand.tmp 28)
            obtain ⟨h6, h5, -⟩ := hh
            have g6 : f 6 = _ := h6
            have g5 : f 5 = _ := h5
            refine tab_plain fun K Q hK => ?_
            simp only [puts, List.foldr_cons, List.foldr_nil, List.setIfInBounds_toArray, List.set_cons_succ, List.set_cons_zero, g6, g5]
            go_step
            refine fam_ex hK rfl rfl (by simp only [Act.put, List.setIfInBounds_toArray, List.set_cons_succ, List.set_cons_zero, Array.getD_eq_getD_getElem?, List.getElem?_toArray, List.getElem?_cons_succ, List.getElem?_cons_zero, Option.getD_some] <;> rfl) rfl (Below.refl _ _) hC
          · -- 8: Op.move (Operand.tmp 5)
            obtain ⟨h7, -⟩ := hh
            have g7 : f 7 = _ := h7
            refine tab_yes g7 fun K Q hK => ?_
            simp only [puts, List.foldr_cons, List.foldr_nil, List.setIfInBounds_toArray, List.set_cons_succ, List.set_cons_zero, g7]
            go_step
            refine fam_ex hK rfl rfl (by simp only [Act.put, List.setIfInBounds_toArray, List.set_cons_succ, List.set_cons_zero, Array.getD_eq_getD_getElem?, List.getElem?_toArray, List.getElem?_cons_succ, List.getElem?_cons_zero, Option.getD_some] <;> rfl) rfl (Below.refl _ _) hC
          · -- 9: Op.move (Operand.tmp 1)
            obtain ⟨h7, -⟩ := hh
            have g7 : f 7 = _ := h7
            refine tab_yes g7 fun K Q hK => ?_
            simp only [puts, List.foldr_cons, List.foldr_nil, List.setIfInBounds_toArray, List.set_cons_succ, List.set_cons_zero, g7]
            go_step
            refine fam_ex hK rfl rfl (by simp only [Act.put, List.setIfInBounds_toArray, List.set_cons_succ, List.set_cons_zero, Array.getD_eq_getD_getElem?, List.getElem?_toArray, List.getElem?_cons_succ, List.getElem?_cons_zero, Option.getD_some] <;> rfl) rfl (Below.refl _ _) hC
          · -- 10: Op.move (Operand.tmp 6)
            obtain ⟨h7, -⟩ := hh
            have g7 : f 7 = _ := h7
            refine tab_yes g7 fun K Q hK => ?_
            simp only [puts, List.foldr_cons, List.foldr_nil, List.setIfInBounds_toArray, List.set_cons_succ, List.set_cons_zero, g7]
            go_step
            refine fam_ex hK rfl rfl (by simp only [Act.put, List.setIfInBounds_toArray, List.set_cons_succ, List.set_cons_zero, Array.getD_eq_getD_getElem?, List.getElem?_toArray, List.getElem?_cons_succ, List.getElem?_cons_zero, Option.getD_some] <;> rfl) rfl (Below.refl _ _) hC
          · -- 11: Op.indexAddr 31 (Operand.tmp 31) (Operand.tmp 32)
            obtain ⟨h9, h10, h7, -⟩ := hh
            have g9 : f 9 = _ := h9
            have g10 : f 10 = _ := h10
            have g7 : f 7 = _ := h7
            refine tab_yes g7 fun K Q hK => ?_
            simp only [puts, List.foldr_cons, List.foldr_nil, List.setIfInBounds_toArray, List.set_cons_succ, List.set_cons_zero, g9, g10, g7]
            go_step
            refine fam_ex hK rfl rfl (by simp only [Act.put, List.setIfInBounds_toArray, List.set_cons_succ, List.set_cons_zero, Array.getD_eq_getD_getElem?, List.getElem?_toArray, List.getElem?_cons_succ, List.getElem?_cons_zero, Option.getD_some] <;> rfl) rfl (Below.refl _ _) hC
          · -- 12: Op.load 3 (Operand.tmp 33)
            obtain ⟨h11, h7, -⟩ := hh
            have g11 : f 11 = _ := h11
            have g7 : f 7 = _ := h7
            refine tab_yes g7 fun K Q hK => ?_
            simp only [puts, List.foldr_cons, List.foldr_nil, List.setIfInBounds_toArray, List.set_cons_succ, List.set_cons_zero, g11, g7]
            have hc4 := (hC.cell (p := ⟨ba, off + k, none⟩) (by have := hB.size; show ba < _; omega)).trans hcx
            go_step
            refine fam_ex hK rfl rfl (by simp only [Act.put, List.setIfInBounds_toArray, List.set_cons_succ, List.set_cons_zero, Array.getD_eq_getD_getElem?, List.getElem?_toArray, List.getElem?_cons_succ, List.getElem?_cons_zero, Option.getD_some] <;> rfl) rfl (Below.refl _ _) hC
          · -- 13: Op.indexAddr 61 (Operand.tmp 30) (Operand.tmp 34)
            obtain ⟨h8, h12, h7, -⟩ := hh
            have g8 : f 8 = _ := h8
            have g12 : f 12 = _ := h12
            have g7 : f 7 = _ := h7
            refine tab_yes g7 fun K Q hK => ?_
            simp only [puts, List.foldr_cons, List.foldr_nil, List.setIfInBounds_toArray, List.set_cons_succ, List.set_cons_zero, g8, g12, g7]
            go_step
            refine fam_ex hK rfl rfl (by simp only [Act.put, List.setIfInBounds_toArray, List.set_cons_succ, List.set_cons_zero, Array.getD_eq_getD_getElem?, List.getElem?_toArray, List.getElem?_cons_succ, List.getElem?_cons_zero, Option.getD_some] <;> rfl) rfl (Below.refl _ _) hC
          · -- 14: Op.load 4 (Operand.tmp 35)
            obtain ⟨h13, h7, -⟩ := hh
            have g13 : f 13 = _ := h13
            have g7 : f 7 = _ := h7
            refine tab_yes g7 fun K Q hK => ?_
            simp only [puts, List.foldr_cons, List.foldr_nil, List.setIfInBounds_toArray, List.set_cons_succ, List.set_cons_zero, g13, g7]
            have hc5 := ((hD.later hC).cell X hXN).1
            rw [hiv] at hc5
            go_step
            refine fam_ex hK rfl rfl (by simp only [Act.put, List.setIfInBounds_toArray, List.set_cons_succ, List.set_cons_zero, Array.getD_eq_getD_getElem?, List.getElem?_toArray, List.getElem?_cons_succ, List.getElem?_cons_zero, Option.getD_some] <;> rfl) rfl (Below.refl _ _) hC
          · -- 15: Op.pick (Operand.tmp 29) (Operand.const (Value.bool true)) (Operand.tmp 36)
            obtain ⟨h7, h14, -⟩ := hh
            have g7 : f 7 = _ := h7
            have g14 : f 14 = _ := h14
            refine tab_plain fun K Q hK => ?_
            simp only [puts, List.foldr_cons, List.foldr_nil, List.setIfInBounds_toArray, List.set_cons_succ, List.set_cons_zero, g7, g14]
            go_step
            refine fam_ex hK rfl rfl (by simp only [Act.put, List.setIfInBounds_toArray, List.set_cons_succ, List.set_cons_zero, Array.getD_eq_getD_getElem?, List.getElem?_toArray, List.getElem?_cons_succ, List.getElem?_cons_zero, Option.getD_some] <;> rfl) rfl (Below.refl _ _) hC
        case prest =>
          intro f W2 hC hh
          obtain ⟨h0, h1, h2, h3, h4, h5, h6, h7, h8, h9, h10, h11, h12, h13, h14, h15, -⟩ := hh
          have g0 : f 0 = _ := h0
          have g1 : f 1 = _ := h1
          have g2 : f 2 = _ := h2
          have g3 : f 3 = _ := h3
          have g4 : f 4 = _ := h4
          have g5 : f 5 = _ := h5
          have g6 : f 6 = _ := h6
          have g7 : f 7 = _ := h7
          have g8 : f 8 = _ := h8
          have g9 : f 9 = _ := h9
          have g10 : f 10 = _ := h10
          have g11 : f 11 = _ := h11
          have g12 : f 12 = _ := h12
          have g13 : f 13 = _ := h13
          have g14 : f 14 = _ := h14
          have g15 : f 15 = _ := h15
          simp only [puts, List.foldr_cons, List.foldr_nil, List.setIfInBounds_toArray, List.set_cons_succ, List.set_cons_zero, g0, g1, g2, g3, g4, g5, g6, g7, g8, g9, g10, g11, g12, g13, g14, g15]
          clear h0 h1 h2 h3 h4 h5 h6 h7 h8 h9 h10 h11 h12 h13 h14 h15 g0 g1 g2 g3 g4 g5 g6 g7 g8 g9 g10 g11 g12 g13 g14 g15
          go_wp2
          go_ret
          exact ⟨by rw [hno.out] <;> rfl, hb0r.trans (hC.mono hb0r.size)⟩
      have hiv : inB (l.take k) X = false := decide_eq_false hin
      have hRn : Hid (∀ j, j < k + 1 → InRng N (l.take j) (gi l j)) := Lib.hid fun j hj => by
        rcases Nat.lt_or_ge j k with h | h
        · exact HR.out j h
        · obtain rfl : j = k := by omega
          rw [HX.out]
          exact ⟨hr, hin⟩
      have htk : Hid (l.take (k + 1) = l.take k ++ [(X : Int)]) := Lib.hid (by rw [take_succ_gi l k (by rw [HLL.out]; exact hlt), HX.out])
      clear hr hin
      go_wp2_with (fail)
      refine wp_region_grow mixed (by kernel_rfl) [[], [], [], [(1, 23), (2, 24)], [(3, 25)], [(0, 22), (4, 26)], [(5, 27)], [(6, 28), (5, 27)], [(7, 29)], [(7, 29)], [(7, 29)], [(9, 31), (10, 32), (7, 29)], [(11, 33), (7, 29)], [(8, 30), (12, 34), (7, 29)], [(13, 35), (7, 29)], [(7, 29), (14, 36)]] [(0, 22), (1, 23), (2, 24), (3, 25), (4, 26), (5, 27), (6, 28), (7, 29), (8, 30), (9, 31), (10, 32), (11, 33), (12, 34), (13, 35), (14, 36), (15, 37)] rfl rfl [Ex ?eq0, Ex ?eq1, Ex ?eq2, Ex ?eq3, Ex ?eq4, Ex (.bool true), Ex ?eq6, Ex ?eq7, Ex ?eq8, Ex ?eq9, Ex ?eq10, Ex ?eq11, Ex ?eq12, Ex ?eq13, Ex ?eq14, Ex ?eq15] ⟨stays_ex _, stays_ex _, stays_ex _, stays_ex _, stays_ex _, stays_ex _, stays_ex _, stays_ex _, stays_ex _, stays_ex _, stays_ex _, stays_ex _, stays_ex _, stays_ex _, stays_ex _, stays_ex _, trivial⟩ ?qsteps ?qrest
      case qsteps =>
        refine ⟨fun f W hC hh => ?_, fun f W hC hh => ?_, fun f W hC hh => ?_, fun f W hC hh => ?_, fun f W hC hh => ?_, fun f W hC hh => ?_, fun f W hC hh => ?_, fun f W hC hh => ?_, fun f W hC hh => ?_, fun f W hC hh => ?_, fun f W hC hh => ?_, fun f W hC hh => ?_, fun f W hC hh => ?_, fun f W hC hh => ?_, fun f W hC hh => ?_, fun f W hC hh => ?_, trivial⟩
        · -- 0: Op.load 24 (Operand.tmp 2)
          refine tab_plain fun K Q hK => ?_
          simp only [puts, List.foldr_nil]
          obtain ⟨c0, c1⟩ := HO.out W (hB1.trans (hC.mono hB1.size))
          go_step
          refine fam_ex hK rfl rfl (by simp only [Act.put, List.setIfInBounds_toArray, List.set_cons_succ, List.set_cons_zero, Array.getD_eq_getD_getElem?, List.getElem?_toArray, List.getElem?_cons_succ, List.getElem?_cons_zero, Option.getD_some] <;> rfl) rfl (Below.refl _ _) hC
        · -- 1: Op.move (Operand.tmp 1)
          refine tab_plain fun K Q hK => ?_
          simp only [puts, List.foldr_nil]
          go_step
          refine fam_ex hK rfl rfl (by simp only [Act.put, List.setIfInBounds_toArray, List.set_cons_succ, List.set_cons_zero, Array.getD_eq_getD_getElem?, List.getElem?_toArray, List.getElem?_cons_succ, List.getElem?_cons_zero, Option.getD_some] <;> rfl) rfl (Below.refl _ _) hC
        · -- 2: Op.move (Operand.tmp 6)
          refine tab_plain fun K Q hK => ?_
          simp only [puts, List.foldr_nil]
          go_step
          refine fam_ex hK rfl rfl (by simp only [Act.put, List.setIfInBounds_toArray, List.set_cons_succ, List.set_cons_zero, Array.getD_eq_getD_getElem?, List.getElem?_toArray, List.getElem?_cons_succ, List.getElem?_cons_zero, Option.getD_some] <;> rfl) rfl (Below.refl _ _) hC
        · -- 3: Op.indexAddr 31 (Operand.tmp 23) (Operand.tmp 24)
          obtain ⟨h1, h2, -⟩ := hh
          have g1 : f 1 = _ := h1
          have g2 : f 2 = _ := h2
          refine tab_plain fun K Q hK => ?_
          simp only [puts, List.foldr_cons, List.foldr_nil, List.setIfInBounds_toArray, List.set_cons_succ, List.set_cons_zero, g1, g2]
          go_step
          refine fam_ex hK rfl rfl (by simp only [Act.put, List.setIfInBounds_toArray, List.set_cons_succ, List.set_cons_zero, Array.getD_eq_getD_getElem?, List.getElem?_toArray, List.getElem?_cons_succ, List.getElem?_cons_zero, Option.getD_some] <;> rfl) rfl (Below.refl _ _) hC
        · -- 4: Op.load 3 (Operand.tmp 25)
          obtain ⟨h3, -⟩ := hh
          have g3 : f 3 = _ := h3
          refine tab_plain fun K Q hK => ?_
          simp only [puts, List.foldr_cons, List.foldr_nil, List.setIfInBounds_toArray, List.set_cons_succ, List.set_cons_zero, g3]
          have hc4 := (hC.cell (p := ⟨ba, off + k, none⟩) (by have := hB.size; show ba < _; omega)).trans hcx
          go_step
          refine fam_ex hK rfl rfl (by simp only [Act.put, List.setIfInBounds_toArray, List.set_cons_succ, List.set_cons_zero, Array.getD_eq_getD_getElem?, List.getElem?_toArray, List.getElem?_cons_succ, List.getElem?_cons_zero, Option.getD_some] <;> rfl) rfl (Below.refl _ _) hC
        · -- 5: Op.call { callee := Callee.value (Operand.func 36), args := #[Operand.tmp 22, Operand.tmp 
          obtain ⟨h0, h4, -⟩ := hh
          have g0 : f 0 = _ := h0
          have g4 : f 4 = _ := h4
          refine tab_plain fun K Q hK => ?_
          simp only [puts, List.foldr_cons, List.foldr_nil, List.setIfInBounds_toArray, List.set_cons_succ, List.set_cons_zero, g0, g4]
          go_step
          go_at_call 36
          refine (refExists_any X).mono ?_
          rintro e w' ⟨rfl, hb⟩
          rw [hdx]
          exact fam_fin hK rfl rfl hb (hC.trans (hb.mono hC.size))
        · -- 6: Op.unOp UnOp.not 4 (Operand.tmp 27)
          obtain ⟨h5, -⟩ := hh
          have g5 : f 5 = _ := h5
          refine tab_plain fun K Q hK => ?_
          simp only [puts, List.foldr_cons, List.foldr_nil, List.setIfInBounds_toArray, List.set_cons_succ, List.set_cons_zero, g5]
          go_step
          refine fam_ex hK rfl rfl (by simp only [Act.put, List.setIfInBounds_toArray, List.set_cons_succ, List.set_cons_zero, Array.getD_eq_getD_getElem?, List.getElem?_toArray, List.getElem?_cons_succ, List.getElem?_cons_zero, Option.getD_some] <;> rfl) rfl (Below.refl _ _) hC
        · -- 7: Op.move (Operand.tmp 28)
          obtain ⟨h6, h5, -⟩ := hh
          have g6 : f 6 = _ := h6
          have g5 : f 5 = _ := h5
          refine tab_plain fun K Q hK => ?_
          simp only [puts, List.foldr_cons, List.foldr_nil, List.setIfInBounds_toArray, List.set_cons_succ, List.set_cons_zero, g6, g5]
          go_step
          refine fam_ex hK rfl rfl (by simp only [Act.put, List.setIfInBounds_toArray, List.set_cons_succ, List.set_cons_zero, Array.getD_eq_getD_getElem?, List.getElem?_toArray, List.getElem?_cons_succ, List.getElem?_cons_zero, Option.getD_some] <;> rfl) rfl (Below.refl _ _) hC
        · -- 8: Op.move (Operand.tmp 5)
          obtain ⟨h7, -⟩ := hh
          have g7 : f 7 = _ := h7
          refine tab_yes g7 fun K Q hK => ?_
          simp only [puts, List.foldr_cons, List.foldr_nil, List.setIfInBounds_toArray, List.set_cons_succ, List.set_cons_zero, g7]
          go_step
          refine fam_ex hK rfl rfl (by simp only [Act.put, List.setIfInBounds_toArray, List.set_cons_succ, List.set_cons_zero, Array.getD_eq_getD_getElem?, List.getElem?_toArray, List.getElem?_cons_succ, List.getElem?_cons_zero, Option.getD_some] <;> rfl) rfl (Below.refl _ _) hC
        · -- 9: Op.move (Operand.tmp 1)
          obtain ⟨h7, -⟩ := hh
          have g7 : f 7 = _ := h7
          refine tab_yes g7 fun K Q hK => ?_
          simp only [puts, List.foldr_cons, List.foldr_nil, List.setIfInBounds_toArray, List.set_cons_succ, List.set_cons_zero, g7]
          go_step
          refine fam_ex hK rfl rfl (by simp only [Act.put, List.setIfInBounds_toArray, List.set_cons_succ, List.set_cons_zero, Array.getD_eq_getD_getElem?, List.getElem?_toArray, List.getElem?_cons_succ, List.getElem?_cons_zero, Option.getD_some] <;> rfl) rfl (Below.refl _ _) hC
        · -- 10: Op.move (Operand.tmp 6)
          obtain ⟨h7, -⟩ := hh
          have g7 : f 7 = _ := h7
          refine tab_yes g7 fun K Q hK => ?_
          simp only [puts, List.foldr_cons, List.foldr_nil, List.setIfInBounds_toArray, List.set_cons_succ, List.set_cons_zero, g7]
          go_step
          refine fam_ex hK rfl rfl (by simp only [Act.put, List.setIfInBounds_toArray, List.set_cons_succ, List.set_cons_zero, Array.getD_eq_getD_getElem?, List.getElem?_toArray, List.getElem?_cons_succ, List.getElem?_cons_zero, Option.getD_some] <;> rfl) rfl (Below.refl _ _) hC
        · -- 11: Op.indexAddr 31 (Operand.tmp 31) (Operand.tmp 32)
          obtain ⟨h9, h10, h7, -⟩ := hh
          have g9 : f 9 = _ := h9
          have g10 : f 10 = _ := h10
          have g7 : f 7 = _ := h7
          refine tab_yes g7 fun K Q hK => ?_
          simp only [puts, List.foldr_cons, List.foldr_nil, List.setIfInBounds_toArray, List.set_cons_succ, List.set_cons_zero, g9, g10, g7]
          go_step
          refine fam_ex hK rfl rfl (by simp only [Act.put, List.setIfInBounds_toArray, List.set_cons_succ, List.set_cons_zero, Array.getD_eq_getD_getElem?, List.getElem?_toArray, List.getElem?_cons_succ, List.getElem?_cons_zero, Option.getD_some] <;> rfl) rfl (Below.refl _ _) hC
        · -- 12: Op.load 3 (Operand.tmp 33)
          obtain ⟨h11, h7, -⟩ := hh
          have g11 : f 11 = _ := h11
          have g7 : f 7 = _ := h7
          refine tab_yes g7 fun K Q hK => ?_
          simp only [puts, List.foldr_cons, List.foldr_nil, List.setIfInBounds_toArray, List.set_cons_succ, List.set_cons_zero, g11, g7]
          have hc4 := (hC.cell (p := ⟨ba, off + k, none⟩) (by have := hB.size; show ba < _; omega)).trans hcx
          go_step
          refine fam_ex hK rfl rfl (by simp only [Act.put, List.setIfInBounds_toArray, List.set_cons_succ, List.set_cons_zero, Array.getD_eq_getD_getElem?, List.getElem?_toArray, List.getElem?_cons_succ, List.getElem?_cons_zero, Option.getD_some] <;> rfl) rfl (Below.refl _ _) hC
        · -- 13: Op.indexAddr 61 (Operand.tmp 30) (Operand.tmp 34)
          obtain ⟨h8, h12, h7, -⟩ := hh
          have g8 : f 8 = _ := h8
          have g12 : f 12 = _ := h12
          have g7 : f 7 = _ := h7
          refine tab_yes g7 fun K Q hK => ?_
          simp only [puts, List.foldr_cons, List.foldr_nil, List.setIfInBounds_toArray, List.set_cons_succ, List.set_cons_zero, g8, g12, g7]
          go_step
          refine fam_ex hK rfl rfl (by simp only [Act.put, List.setIfInBounds_toArray, List.set_cons_succ, List.set_cons_zero, Array.getD_eq_getD_getElem?, List.getElem?_toArray, List.getElem?_cons_succ, List.getElem?_cons_zero, Option.getD_some] <;> rfl) rfl (Below.refl _ _) hC
        · -- 14: Op.load 4 (Operand.tmp 35)
          obtain ⟨h13, h7, -⟩ := hh
          have g13 : f 13 = _ := h13
          have g7 : f 7 = _ := h7
          refine tab_yes g7 fun K Q hK => ?_
          simp only [puts, List.foldr_cons, List.foldr_nil, List.setIfInBounds_toArray, List.set_cons_succ, List.set_cons_zero, g13, g7]
          have hc5 := ((hD.later hC).cell X hXN).1
          rw [hiv] at hc5
          go_step
          refine fam_ex hK rfl rfl (by simp only [Act.put, List.setIfInBounds_toArray, List.set_cons_succ, List.set_cons_zero, Array.getD_eq_getD_getElem?, List.getElem?_toArray, List.getElem?_cons_succ, List.getElem?_cons_zero, Option.getD_some] <;> rfl) rfl (Below.refl _ _) hC
        · -- 15: Op.pick (Operand.tmp 29) (Operand.const (Value.bool true)) (Operand.tmp 36)
          obtain ⟨h7, h14, -⟩ := hh
          have g7 : f 7 = _ := h7
          have g14 : f 14 = _ := h14
          refine tab_plain fun K Q hK => ?_
          simp only [puts, List.foldr_cons, List.foldr_nil, List.setIfInBounds_toArray, List.set_cons_succ, List.set_cons_zero, g7, g14]
          go_step
          refine fam_ex hK rfl rfl (by simp only [Act.put, List.setIfInBounds_toArray, List.set_cons_succ, List.set_cons_zero, Array.getD_eq_getD_getElem?, List.getElem?_toArray, List.getElem?_cons_succ, List.getElem?_cons_zero, Option.getD_some] <;> rfl) rfl (Below.refl _ _) hC
      case qrest =>
        intro f W2 hC hh
        obtain ⟨h0, h1, h2, h3, h4, h5, h6, h7, h8, h9, h10, h11, h12, h13, h14, h15, -⟩ := hh
        have g0 : f 0 = _ := h0
        have g1 : f 1 = _ := h1
        have g2 : f 2 = _ := h2
        have g3 : f 3 = _ := h3
        have g4 : f 4 = _ := h4
        have g5 : f 5 = _ := h5
        have g6 : f 6 = _ := h6
        have g7 : f 7 = _ := h7
        have g8 : f 8 = _ := h8
        have g9 : f 9 = _ := h9
        have g10 : f 10 = _ := h10
        have g11 : f 11 = _ := h11
        have g12 : f 12 = _ := h12
        have g13 : f 13 = _ := h13
        have g14 : f 14 = _ := h14
        have g15 : f 15 = _ := h15
        simp only [puts, List.foldr_cons, List.foldr_nil, List.setIfInBounds_toArray, List.set_cons_succ, List.set_cons_zero, g0, g1, g2, g3, g4, g5, g6, g7, g8, g9, g10, g11, g12, g13, g14, g15]
        clear h0 h1 h2 h3 h4 h5 h6 h7 h8 h9 h10 h11 h12 h13 h14 h15 g0 g1 g2 g3 g4 g5 g6 g7 g8 g9 g10 g11 g12 g13 g14 g15
        have hD2 := hD.later hC
        obtain ⟨hdX, hdf⟩ := hD2.cell X hXN
        have hc6 := (hC.cell (p := ⟨ba, off + k, none⟩) (by have := hB.size; show ba < _; omega)).trans hcx
        have hD3 := hD2.store X (.bool true)
        have hD4 := hD3.congr (f' := fun i => .bool (inB (l.take (k + 1)) i)) fun i _ => by rw [htk.out]; exact inB_snoc _ X i
        have hB4 := (hB.trans (hC.mono hB.size)).setCell (p := ⟨w2.heap.size, X, none⟩) (Nat.le_refl _) (.bool true)
        clear hD3 hD2 hD hcx
        go_wp2
        go_roundw
        case rel => exact ⟨k + 1, hlt, by go_num, hRn, hD4, hB4⟩
        case measure => simp [intOf]; omega
    · obtain rfl : k = ll := by omega
      have dlt : decide ((k : Int) < k) = false := decide_eq_false (by omega)
      have hD' : RowIs wr w2.heap.size N fun i => .bool (inB l i) := hD.congr fun i _ => by rw [List.take_of_length_le (by rw [HLL.out]; exact Nat.le_refl _)]
      clear hD
      go_wp2_with (fail)
      go_at_call 34
      refine (HBH.out _ (he2.later hB)).mono ?_
      rintro e w4 ⟨g, r, rfl, hM, hb4⟩
      clear c0 c1
      have hB4 := hB1.trans (hb4.mono hB1.size)
      obtain ⟨c0, c1⟩ := HO.out _ hB4
      have hb04 := hb0r.trans (hb4.mono hb0r.size)
      have hD4 := hD'.later hb4
      clear hD'
      go_wp2_with (fail)
      go_loop [8] (fun c => ∃ i : Nat, i ≤ N ∧ c = .int .i64 (i : Int) ∧ Hid (∀ i', i' < i → ∀ k', k' < N → ¬ (pathB es i' k' = true ∧ inB l k' = true ∧ inB l i' = false))) (fun c => N - (intOf c).toNat)
      case atStart => exact ⟨0, Nat.zero_le _, rfl, Lib.hid (fun i hi => by omega)⟩
      case round =>
        obtain ⟨i, hi, rfl, HI⟩ := hrel
        by_cases hi2 : i < N
        · have di : decide ((i : Int) < N) = true := decide_eq_true (by omega)
          go_wp2_with (fail)
          go_loop [9] (fun c => ∃ j : Nat, j ≤ N ∧ c = .int .i64 (j : Int) ∧ Hid (∀ k', k' < j → ¬ (pathB es i k' = true ∧ inB l k' = true ∧ inB l i = false))) (fun c => N - (intOf c).toNat)
          case atStart => exact ⟨0, Nat.zero_le _, rfl, Lib.hid (fun i hi => by omega)⟩
          case round =>
            obtain ⟨j, hj, rfl, HJ⟩ := hrel
            by_cases hj2 : j < N
            · have dj : decide ((j : Int) < N) = true := decide_eq_true (by omega)
              have hrow := hM.row i hi2
              have hpc := (hM.cell i j hi2 hj2).1
              have hij := (hD4.cell j hj2).1
              have hii := (hD4.cell i hi2).1
              have hJn : ¬ (pathB es i j = true ∧ inB l j = true ∧ inB l i = false) → Hid (∀ k', k' < j + 1 → ¬ (pathB es i k' = true ∧ inB l k' = true ∧ inB l i = false)) := fun hn => Lib.hid fun k' hk' => by
                rcases Nat.lt_or_ge k' j with h | h
                · exact HJ.out k' h
                · obtain rfl : k' = j := by omega
                  exact hn
              cases hp : pathB es i j with
              | false =>
                have hJ2 := hJn (by rw [hp]; simp)
                rw [hp] at hpc
                clear hp hJn
                go_wp2
                go_round
                case rel => exact ⟨j + 1, hj2, by go_num, hJ2⟩
                case measure => simp [intOf]; omega
              | true =>
                rw [hp] at hpc
                cases hp2 : inB l j with
                | false =>
                  have hJ2 := hJn (by rw [hp2]; simp)
                  rw [hp2] at hij
                  clear hp hp2 hJn
                  go_wp2
                  go_round
                  case rel => exact ⟨j + 1, hj2, by go_num, hJ2⟩
                  case measure => simp [intOf]; omega
                | true =>
                  rw [hp2] at hij
                  cases hp3 : inB l i with
                  | true =>
                    rw [hp3] at hii
                    clear hp hp2 hp3 hJn
                    go_wp2
                    go_round
                    case rel => exact ⟨j + 1, hj2, by go_num, Lib.hid (fun k' hk' h => by cases h.2.2)⟩
                    case measure => simp [intOf]; omega
                  | false =>
                    have hno := Lib.hid (cut_table_no (N := N) hp hp2 hp3)
                    rw [hp3] at hii
                    clear hp hp2 hp3 hJn
                    go_wp2
                    go_ret
                    exact ⟨by rw [hno.out] <;> rfl, hb04⟩
            · obtain rfl : j = N := by omega
              have dj : decide ((j : Int) < j) = false := decide_eq_false (by omega)
              have hI2 : Hid (∀ i', i' < i + 1 → ∀ k', k' < j → ¬ (pathB es i' k' = true ∧ inB l k' = true ∧ inB l i' = false)) := Lib.hid fun i' hi' => by
                rcases Nat.lt_or_ge i' i with h | h
                · exact HI.out i' h
                · obtain rfl : i' = i := by omega
                  exact HJ.out
              go_wp2
              go_round
              case rel => exact ⟨i + 1, hi2, by go_num, hI2⟩
              case measure => simp [intOf]; omega
        · obtain rfl : i = N := by omega
          have di : decide ((i : Int) < i) = false := decide_eq_false (by omega)
          have hyes := Lib.hid (cut_of_table HV.out (fun k' hk' => HR.out k' (by rw [← HLL.out]; exact hk')) (fun i' k' h1 h2 => HI.out i' h1 k' h2))
          go_wp2
          go_ret
          exact ⟨by rw [hyes.out] <;> rfl, hb04⟩

theorem refIsLinear_any (al : Option Addr) (ll cl : Nat) (l : List Int) (he : IsPairs w a len cap es) (hcap : len ≤ 9223372036854775807) (hl : IsInts .i64 w al ll cl l) :
    Calls Tryd.prog 23 #[.agg #[.int .i64 n, .slice a len cap], .slice al ll cl] w fun e w' => e = .returned (.bool (linB n es l)) ∧ Below w.heap.size w w' := by
  have hcl := hl.cap
  unfold maxLen at hcl
  have HLL := Lib.hid hl.length
  obtain ⟨hb1, hs1, hO⟩ := boxR n a len cap w
  obtain ⟨W1, hW1⟩ : ∃ W1, w.alloc (.cells #[.int .i64 n, .slice a len cap] 24) = W1 := ⟨_, rfl⟩
  rw [hW1] at hb1 hs1 hO
  rw [← hs1] at hO
  have he1 := he.later hb1
  obtain ⟨c0, c1⟩ := hO _ (Below.refl _ _)
  have HLE := Lib.hid he.length
  have HW := Lib.hid hW1
  have HO := Lib.hid hO
  clear hW1 hO
  go_enter Tryd.func23, Tryd.ntmps23
  go_wp2_with (fail)
  rw [HW.out]
  go_at_call 14
  refine (refValid_any he1 hcap).mono ?_
  rintro e w2 ⟨rfl, hb2⟩
  clear c0 c1
  obtain ⟨c0, c1⟩ := HO.out _ hb2
  have hb02 := hb1.trans (hb2.mono hb1.size)
  by_cases hv : ValidO n es
  rotate_left
  · rw [validB_no hv]
    have hno := Lib.hid (linB_no (n := n) (es := es) (l := l) (fun h => hv h.1))
    clear hv
    go_wp2
    go_ret
    exact ⟨by rw [hno.out] <;> rfl, hb02⟩
  rw [validB_yes hv]
  obtain ⟨N, rfl⟩ := Int.eq_ofNat_of_zero_le hv.1.1
  have hN60 : N ≤ 60 := by have := hv.1.2; omega
  have HV := Lib.hid hv
  clear hv
  have hl2 := hl.later hb02
  have he2 := he1.later hb2
  by_cases hq : ll = N
  rotate_left
  · have dq : ((ll : Int) != (N : Int)) = true := by simp; omega
    have hno := Lib.hid (linB_no (n := N) (es := es) (l := l) (fun h => hq (by have := h.2.1; rw [HLL.out] at this; omega)))
    clear hq
    go_wp2
    go_ret
    exact ⟨by rw [hno.out] <;> rfl, hb02⟩
  subst hq
  have dq : ((ll : Int) != (ll : Int)) = false := by simp
  go_wp2_with (fail)
  go_loopw [5] (fun c W => ∃ k : Nat, k ≤ ll + 1 ∧ c = .int .i64 (k : Int) ∧ Hid (∀ j, j < k → cutB ll es (l.take j) = true) ∧ Below w2.heap.size w2 W) (fun c _ => ll + 1 - (intOf c).toNat)
  case atStart => exact ⟨0, Nat.zero_le _, rfl, Lib.hid (fun j hj => by omega), Below.refl _ _⟩
  case round =>
    obtain ⟨k, hk, rfl, HR, hB⟩ := hrel
    have hB1 := hb2.trans (hB.mono hb2.size)
    have hb0r := hb02.trans (hB.mono hb02.size)
    clear c0 c1
    obtain ⟨c0, c1⟩ := HO.out _ hB1
    by_cases hle : k ≤ ll
    · have dle : decide ((k : Int) ≤ ll) = true := decide_eq_true (by omega)
      have hcut : IsInts .i64 wr al k cl (l.take k) := by
        have := (hl2.later hB).slice 0 k cl (Nat.zero_le _) (by omega) (by omega) (Nat.le_refl _) (a' := al) (fun h => (by cases al with | none => rfl | some x => simp [Addr.add])) (fun _ => rfl)
        simpa using this
      cases hcv : cutB ll es (l.take k) with
      | false =>
        have hno := Lib.hid (linB_cut_no hcv)
        go_wp2_with (fail)
        refine wp_region_grow mixed (by kernel_rfl) [[], [], [], [(1, 23), (2, 24)], [(0, 22), (3, 25)], [(4, 26)]] [(0, 22), (1, 23), (2, 24), (3, 25), (4, 26), (5, 27)] rfl rfl [Ex ?e0, Ex ?e1, Ex ?e2, Ex ?e3, Ex (.bool false), Ex ?e5] ⟨stays_ex _, stays_ex _, stays_ex _, stays_ex _, stays_ex _, stays_ex _, trivial⟩ ?steps ?rest
        case steps =>
          refine ⟨fun f W hC hh => ?_, fun f W hC hh => ?_, fun f W hC hh => ?_, fun f W hC hh => ?_, fun f W hC hh => ?_, fun f W hC hh => ?_, trivial⟩
          · -- 0: Op.load 24 (Operand.tmp 2)
            refine tab_plain fun K Q hK => ?_
            simp only [puts, List.foldr_nil]
            obtain ⟨c0, c1⟩ := HO.out W (hB1.trans (hC.mono hB1.size))
            go_step
            refine fam_ex hK rfl rfl (by simp only [Act.put, List.setIfInBounds_toArray, List.set_cons_succ, List.set_cons_zero, Array.getD_eq_getD_getElem?, List.getElem?_toArray, List.getElem?_cons_succ, List.getElem?_cons_zero, Option.getD_some] <;> rfl) rfl (Below.refl _ _) hC
          · -- 1: Op.move (Operand.tmp 1)
            refine tab_plain fun K Q hK => ?_
            simp only [puts, List.foldr_nil]
            go_step
            refine fam_ex hK rfl rfl (by simp only [Act.put, List.setIfInBounds_toArray, List.set_cons_succ, List.set_cons_zero, Array.getD_eq_getD_getElem?, List.getElem?_toArray, List.getElem?_cons_succ, List.getElem?_cons_zero, Option.getD_some] <;> rfl) rfl (Below.refl _ _) hC
          · -- 2: Op.move (Operand.tmp 5)
            refine tab_plain fun K Q hK => ?_
            simp only [puts, List.foldr_nil]
            go_step
            refine fam_ex hK rfl rfl (by simp only [Act.put, List.setIfInBounds_toArray, List.set_cons_succ, List.set_cons_zero, Array.getD_eq_getD_getElem?, List.getElem?_toArray, List.getElem?_cons_succ, List.getElem?_cons_zero, Option.getD_some] <;> rfl) rfl (Below.refl _ _) hC
          · -- 3: Op.slice 31 (Operand.tmp 23) none (some (Operand.tmp 24)) none
            obtain ⟨h1, h2, -⟩ := hh
            have g1 : f 1 = _ := h1
            have g2 : f 2 = _ := h2
            refine tab_plain fun K Q hK => ?_
            simp only [puts, List.foldr_cons, List.foldr_nil, List.setIfInBounds_toArray, List.set_cons_succ, List.set_cons_zero, g1, g2]
            go_step
            refine fam_ex hK rfl rfl (by simp only [Act.put, List.setIfInBounds_toArray, List.set_cons_succ, List.set_cons_zero, Array.getD_eq_getD_getElem?, List.getElem?_toArray, List.getElem?_cons_succ, List.getElem?_cons_zero, Option.getD_some] <;> rfl) rfl (Below.refl _ _) hC
          · -- 4: Op.call { callee := Callee.value (Operand.func 25), args := #[Operand.tmp 22, Operand.tmp 
            obtain ⟨h0, h3, -⟩ := hh
            have g0 : f 0 = _ := h0
            have g3 : f 3 = _ := h3
            refine tab_plain fun K Q hK => ?_
            simp only [puts, List.foldr_cons, List.foldr_nil, List.setIfInBounds_toArray, List.set_cons_succ, List.set_cons_zero, g0, g3]
            go_step
            go_at_call 25
            refine (refCut_any _ _ _ _ (he2.later (hB.trans (hC.mono hB.size))) hcap (hcut.later hC)).mono ?_
            rintro e w' ⟨rfl, hb⟩
            rw [hcv]
            exact fam_fin hK rfl rfl hb (hC.trans (hb.mono hC.size))
          · -- 5: Op.unOp UnOp.not 4 (Operand.tmp 26)
            obtain ⟨h4, -⟩ := hh
            have g4 : f 4 = _ := h4
            refine tab_plain fun K Q hK => ?_
            simp only [puts, List.foldr_cons, List.foldr_nil, List.setIfInBounds_toArray, List.set_cons_succ, List.set_cons_zero, g4]
            go_step
            refine fam_ex hK rfl rfl (by simp only [Act.put, List.setIfInBounds_toArray, List.set_cons_succ, List.set_cons_zero, Array.getD_eq_getD_getElem?, List.getElem?_toArray, List.getElem?_cons_succ, List.getElem?_cons_zero, Option.getD_some] <;> rfl) rfl (Below.refl _ _) hC
        case rest =>
          intro f W2 hC hh
          obtain ⟨h0, h1, h2, h3, h4, h5, -⟩ := hh
          have g0 : f 0 = _ := h0
          have g1 : f 1 = _ := h1
          have g2 : f 2 = _ := h2
          have g3 : f 3 = _ := h3
          have g4 : f 4 = _ := h4
          have g5 : f 5 = _ := h5
          simp only [puts, List.foldr_cons, List.foldr_nil, List.setIfInBounds_toArray, List.set_cons_succ, List.set_cons_zero, g0, g1, g2, g3, g4, g5]
          clear h0 h1 h2 h3 h4 h5 g0 g1 g2 g3 g4 g5
          go_wp2
          go_ret
          exact ⟨by rw [hno.out] <;> rfl, hb0r.trans (hC.mono hb0r.size)⟩
      | true =>
        have hRn : Hid (∀ j, j < k + 1 → cutB ll es (l.take j) = true) := Lib.hid fun j hj => by
          rcases Nat.lt_or_ge j k with h | h
          · exact HR.out j h
          · obtain rfl : j = k := by omega
            exact hcv
        go_wp2_with (fail)
        refine wp_region_grow mixed (by kernel_rfl) [[], [], [], [(1, 23), (2, 24)], [(0, 22), (3, 25)], [(4, 26)]] [(0, 22), (1, 23), (2, 24), (3, 25), (4, 26), (5, 27)] rfl rfl [Ex ?ep0, Ex ?ep1, Ex ?ep2, Ex ?ep3, Ex (.bool true), Ex ?ep5] ⟨stays_ex _, stays_ex _, stays_ex _, stays_ex _, stays_ex _, stays_ex _, trivial⟩ ?psteps ?prest
        case psteps =>
          refine ⟨fun f W hC hh => ?_, fun f W hC hh => ?_, fun f W hC hh => ?_, fun f W hC hh => ?_, fun f W hC hh => ?_, fun f W hC hh => ?_, trivial⟩
          · -- 0: Op.load 24 (Operand.tmp 2)
            refine tab_plain fun K Q hK => ?_
            simp only [puts, List.foldr_nil]
            obtain ⟨c0, c1⟩ := HO.out W (hB1.trans (hC.mono hB1.size))
            go_step
            refine fam_ex hK rfl rfl (by simp only [Act.put, List.setIfInBounds_toArray, List.set_cons_succ, List.set_cons_zero, Array.getD_eq_getD_getElem?, List.getElem?_toArray, List.getElem?_cons_succ, List.getElem?_cons_zero, Option.getD_some] <;> rfl) rfl (Below.refl _ _) hC
          · -- 1: Op.move (Operand.tmp 1)
            refine tab_plain fun K Q hK => ?_
            simp only [puts, List.foldr_nil]
            go_step
            refine fam_ex hK rfl rfl (by simp only [Act.put, List.setIfInBounds_toArray, List.set_cons_succ, List.set_cons_zero, Array.getD_eq_getD_getElem?, List.getElem?_toArray, List.getElem?_cons_succ, List.getElem?_cons_zero, Option.getD_some] <;> rfl) rfl (Below.refl _ _) hC
          · -- 2: Op.move (Operand.tmp 5)
            refine tab_plain fun K Q hK => ?_
            simp only [puts, List.foldr_nil]
            go_step
            refine fam_ex hK rfl rfl (by simp only [Act.put, List.setIfInBounds_toArray, List.set_cons_succ, List.set_cons_zero, Array.getD_eq_getD_getElem?, List.getElem?_toArray, List.getElem?_cons_succ, List.getElem?_cons_zero, Option.getD_some] <;> rfl) rfl (Below.refl _ _) hC
          · -- 3: Op.slice 31 (Operand.tmp 23) none (some (Operand.tmp 24)) none
            obtain ⟨h1, h2, -⟩ := hh
            have g1 : f 1 = _ := h1
            have g2 : f 2 = _ := h2
            refine tab_plain fun K Q hK => ?_
            simp only [puts, List.foldr_cons, List.foldr_nil, List.setIfInBounds_toArray, List.set_cons_succ, List.set_cons_zero, g1, g2]
            go_step
            refine fam_ex hK rfl rfl (by simp only [Act.put, List.setIfInBounds_toArray, List.set_cons_succ, List.set_cons_zero, Array.getD_eq_getD_getElem?, List.getElem?_toArray, List.getElem?_cons_succ, List.getElem?_cons_zero, Option.getD_some] <;> rfl) rfl (Below.refl _ _) hC
          · -- 4: Op.call { callee := Callee.value (Operand.func 25), args := #[Operand.tmp 22, Operand.tmp 
            obtain ⟨h0, h3, -⟩ := hh
            have g0 : f 0 = _ := h0
            have g3 : f 3 = _ := h3
            refine tab_plain fun K Q hK => ?_
            simp only [puts, List.foldr_cons, List.foldr_nil, List.setIfInBounds_toArray, List.set_cons_succ, List.set_cons_zero, g0, g3]
            go_step
            go_at_call 25
            refine (refCut_any _ _ _ _ (he2.later (hB.trans (hC.mono hB.size))) hcap (hcut.later hC)).mono ?_
            rintro e w' ⟨rfl, hb⟩
            rw [hcv]
            exact fam_fin hK rfl rfl hb (hC.trans (hb.mono hC.size))
          · -- 5: Op.unOp UnOp.not 4 (Operand.tmp 26)
            obtain ⟨h4, -⟩ := hh
            have g4 : f 4 = _ := h4
            refine tab_plain fun K Q hK => ?_
            simp only [puts, List.foldr_cons, List.foldr_nil, List.setIfInBounds_toArray, List.set_cons_succ, List.set_cons_zero, g4]
            go_step
            refine fam_ex hK rfl rfl (by simp only [Act.put, List.setIfInBounds_toArray, List.set_cons_succ, List.set_cons_zero, Array.getD_eq_getD_getElem?, List.getElem?_toArray, List.getElem?_cons_succ, List.getElem?_cons_zero, Option.getD_some] <;> rfl) rfl (Below.refl _ _) hC
        case prest =>
          intro f W2 hC hh
          obtain ⟨h0, h1, h2, h3, h4, h5, -⟩ := hh
          have g0 : f 0 = _ := h0
          have g1 : f 1 = _ := h1
          have g2 : f 2 = _ := h2
          have g3 : f 3 = _ := h3
          have g4 : f 4 = _ := h4
          have g5 : f 5 = _ := h5
          simp only [puts, List.foldr_cons, List.foldr_nil, List.setIfInBounds_toArray, List.set_cons_succ, List.set_cons_zero, g0, g1, g2, g3, g4, g5]
          clear h0 h1 h2 h3 h4 h5 g0 g1 g2 g3 g4 g5
          go_wp2
          go_roundw
          case rel => exact ⟨k + 1, by omega, by go_num, hRn, hB.trans (hC.mono hB.size)⟩
          case measure => simp [intOf]; omega
    · have dle : decide ((k : Int) ≤ ll) = false := decide_eq_false (by omega)
      have hyes := Lib.hid (linB_cuts HV.out (by rw [HLL.out]) (fun j hj => HR.out j (by rw [HLL.out] at hj; omega)))
      go_wp2
      go_ret
      exact ⟨by rw [hyes.out] <;> rfl, hb0r⟩
end Go.Proofs.YtofnbndpoiohhaaDoor
