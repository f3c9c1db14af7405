import Derived.Test.YtpcbmhfnefhenaaMG8
import Derived.Test.YtpcbmhfnefhenaaMG9
import Derived.Test.YtpcbmhfnefhenaaMG10
/-
  Rf3, DfaLa
-/
set_option linter.unusedSimpArgs false
set_option linter.unusedVariables false
namespace Go.Proofs.Ytpcbmhfnefhenaa
open List (foldr_cons foldr_nil setIfInBounds_toArray set_cons_succ set_cons_zero)
open Go.RowKit
theorem gi_ne {xs ys : List Int} {k : Nat} (h : gi xs k ≠ gi ys k) : decide (xs = ys) = false := decide_eq_false (fun e => h (by rw [e]))
set_option maxHeartbeats 1000000 in
theorem same_any (a : Option Addr) (len cap : Nat) (xs : List Int) (a' : Option Addr) (len' cap' : Nat) (ys : List Int) (w : World) (hs : IsInts .i64 w a len cap xs) (hs' : IsInts .i64 w a' len' cap' ys) (hl : len ≤ 9223372036854775800) :
    Calls Try.prog 34 #[.slice a len cap, .slice a' len' cap'] w fun e w' => e = .returned (.bool (decide (xs = ys))) ∧ Below w.heap.size w w' := by
  have hxl := hs.length
  have hyl := hs'.length
  by_cases he : len = len'
  · subst he
    have hq : ((len : Int) != (len : Int)) = false := by simp
    go_enter Try.func34, Try.ntmps34
    go_wp2
    go_loopw [5] (fun c W => ∃ k : Nat, k ≤ len ∧ c = .int .i64 (k : Int) ∧ (∀ i, i < k → gi xs i = gi ys i) ∧ Below w.heap.size w W) (fun c _ => len - (intOf c).toNat)
    case atStart => exact ⟨0, Nat.zero_le _, rfl, (fun i hi => by omega), Below.refl _ _⟩
    case round =>
      obtain ⟨k, hk, rfl, hall, hb⟩ := hrel
      have HA := Lib.hid hall
      clear hall
      rcases Nat.lt_or_ge k len with hlt | hge
      · obtain ⟨b, off, rfl, hbl, hc⟩ := hs.at wr hb k hlt
        obtain ⟨b', off', rfl, hbl', hc'⟩ := hs'.at wr hb k hlt
        have hz := hb.size
        clear hs hs'
        go_wp2
        refine wp_region_grow mixed (by kernel_rfl) [[], [], [(0, 17), (1, 18)], [(2, 19)], [], [], [(4, 21), (5, 22)], [(6, 23)], [(3, 20), (7, 24)]] [(0, 17), (1, 18), (2, 19), (3, 20), (4, 21), (5, 22), (6, 23), (7, 24), (8, 25)] rfl rfl [Ex ?e0, Ex ?e1, Ex ?e2, Ex ?e3, Ex ?e4, Ex ?e5, Ex ?e6, Ex ?e7, Ex ?e8] ⟨stays_ex _, stays_ex _, stays_ex _, stays_ex _, stays_ex _, stays_ex _, stays_ex _, stays_ex _, stays_ex _, trivial⟩ ?steps ?rest
        case steps =>
          refine ⟨fun f W hC hh => ?_, fun f W hC hh => ?_, fun f W hC hh => ?_, fun f W hC hh => ?_, fun f W hC hh => ?_, fun f W hC hh => ?_, fun f W hC hh => ?_, fun f W hC hh => ?_, fun f W hC hh => ?_, trivial⟩
          ·
            refine tab_plain fun K Q hK => ?_
            simp only [puts, foldr_nil]
            go_step
            exact fam_e hK rfl rfl (Below.refl _ _) hC
          ·
            refine tab_plain fun K Q hK => ?_
            simp only [puts, foldr_nil]
            go_step
            exact fam_e hK rfl rfl (Below.refl _ _) hC
          ·
            obtain ⟨h0, h1, -⟩ := hh
            have g0 : f 0 = _ := h0
            have g1 : f 1 = _ := h1
            refine tab_plain fun K Q hK => ?_
            simp only [puts, foldr_cons, foldr_nil, setIfInBounds_toArray, set_cons_succ, set_cons_zero, g0, g1]
            go_step
            exact fam_e hK rfl rfl (Below.refl _ _) hC
          ·
            obtain ⟨h2, -⟩ := hh
            have g2 : f 2 = _ := h2
            refine tab_plain fun K Q hK => ?_
            simp only [puts, foldr_cons, foldr_nil, setIfInBounds_toArray, set_cons_succ, set_cons_zero, g2]
            have hc3 := (hC.cell (p := ⟨b, off + k, none⟩) (show b < _ by omega)).trans hc
            go_step
            exact fam_e hK rfl rfl (Below.refl _ _) hC
          ·
            refine tab_plain fun K Q hK => ?_
            simp only [puts, foldr_nil]
            go_step
            exact fam_e hK rfl rfl (Below.refl _ _) hC
          ·
            refine tab_plain fun K Q hK => ?_
            simp only [puts, foldr_nil]
            go_step
            exact fam_e hK rfl rfl (Below.refl _ _) hC
          ·
            obtain ⟨h4, h5, -⟩ := hh
            have g4 : f 4 = _ := h4
            have g5 : f 5 = _ := h5
            refine tab_plain fun K Q hK => ?_
            simp only [puts, foldr_cons, foldr_nil, setIfInBounds_toArray, set_cons_succ, set_cons_zero, g4, g5]
            go_step
            exact fam_e hK rfl rfl (Below.refl _ _) hC
          ·
            obtain ⟨h6, -⟩ := hh
            have g6 : f 6 = _ := h6
            refine tab_plain fun K Q hK => ?_
            simp only [puts, foldr_cons, foldr_nil, setIfInBounds_toArray, set_cons_succ, set_cons_zero, g6]
            have hc3 := (hC.cell (p := ⟨b', off' + k, none⟩) (show b' < _ by omega)).trans hc'
            go_step
            exact fam_e hK rfl rfl (Below.refl _ _) hC
          ·
            obtain ⟨h3, h7, -⟩ := hh
            have g3 : f 3 = _ := h3
            have g7 : f 7 = _ := h7
            refine tab_plain fun K Q hK => ?_
            simp only [puts, foldr_cons, foldr_nil, setIfInBounds_toArray, set_cons_succ, set_cons_zero, g3, g7]
            go_step
            exact fam_e hK rfl rfl (Below.refl _ _) hC
        case rest =>
          intro f W2 hC hh
          obtain ⟨h0, h1, h2, h3, h4, h5, h6, h7, h8, -⟩ := hh
          have g0 : f 0 = _ := h0
          have g1 : f 1 = _ := h1
          have g2 : f 2 = _ := h2
          have g3 : f 3 = _ := h3
          have g4 : f 4 = _ := h4
          have g5 : f 5 = _ := h5
          have g6 : f 6 = _ := h6
          have g7 : f 7 = _ := h7
          have g8 : f 8 = _ := h8
          simp only [puts, foldr_cons, foldr_nil, setIfInBounds_toArray, set_cons_succ, set_cons_zero, g0, g1, g2, g3, g4, g5, g6, g7, g8]
          clear h0 h1 h2 h3 h4 h5 h6 h7 h8 g0 g1 g2 g3 g4 g5 g6 g7 g8
          have hb2 := hb.trans (hC.mono hb.size)
          by_cases h0 : gi xs k = gi ys k
          · have hq : (gi xs k != gi ys k) = false := by simpa using h0
            rw [hq]
            go_wp2
            go_roundw
            case rel => exact ⟨k + 1, by omega, by go_num, (fun i hi => by rcases Nat.lt_or_ge i k with h | h; exact HA.out i h; rw [show i = k by omega]; exact h0), hb2⟩
            case measure => simp [intOf]; omega
          · have hq : (gi xs k != gi ys k) = true := by simpa using h0
            rw [hq]
            have HE := Lib.hid (gi_ne h0)
            clear h0
            go_wp2
            go_ret
            exact ⟨by rw [HE.out]; rfl, hb2⟩
      · have hkm : k = len := by omega
        subst hkm
        have HE : Hid (decide (xs = ys) = true) := Lib.hid (decide_eq_true (gi_ext (by omega) (fun i hi => HA.out i (by omega))))
        go_wp2
        go_ret
        exact ⟨by rw [HE.out]; rfl, hb⟩
  · have hq : ((len : Int) != (len' : Int)) = true := by simp; omega
    have HE : Hid (decide (xs = ys) = false) := Lib.hid (decide_eq_false (fun e => he (by rw [← hxl, ← hyl, e])))
    go_enter Try.func34, Try.ntmps34
    go_wp2
    go_ret
    exact ⟨by rw [HE.out]; rfl, Below.refl _ _⟩
theorem refHas_any (a : Option Addr) (len cap : Nat) (xs : List Int) (n : Int) (w : World) (hs : IsInts .i64 w a len cap xs) (hl : len ≤ 9223372036854775800) :
    Calls Try.prog 43 #[.slice a len cap, .int .i64 n] w fun e w' => e = .returned (.bool (decide (n ∈ xs))) ∧ w = w' := by
  have HX : Hid (xs.length = len) := Lib.hid hs.length
  go_enter Try.func43, Try.ntmps43
  go_wp2
  go_loop [5] (fun c => ∃ k : Nat, k ≤ len ∧ c = .int .i64 (k : Int) ∧ (∀ i, i < k → gi xs i ≠ n)) (fun c => len - (intOf c).toNat)
  case atStart => exact ⟨0, Nat.zero_le _, rfl, (fun i hi => by omega)⟩
  case round =>
    obtain ⟨k, hk, rfl, hall⟩ := hrel
    have HA := Lib.hid hall
    clear hall
    rcases Nat.lt_or_ge k len with hlt | hge
    · obtain ⟨b, off, rfl, hbl, hc⟩ := hs.at w (Below.refl _ _) k hlt
      clear hs
      by_cases h0 : gi xs k = n
      · have hq : (gi xs k == n) = true := by simpa using h0
        have HE : Hid (decide (n ∈ xs) = true) := Lib.hid (decide_eq_true (by rw [← h0]; exact gi_mem xs k (by rw [HX.out]; exact hlt)))
        clear h0
        go_wp2
        go_ret
        exact ⟨by rw [HE.out]; rfl, rfl⟩
      · have hq : (gi xs k == n) = false := by simpa using h0
        have H0 := Lib.hid h0
        clear h0
        go_wp2
        go_round
        case rel => exact ⟨k + 1, by omega, by go_num, (fun i hi => by rcases Nat.lt_or_ge i k with h | h; exact HA.out i h; rw [show i = k by omega]; exact H0.out)⟩
        case measure => simp [intOf]; omega
    · have hkm : k = len := by omega
      subst hkm
      have HE : Hid (decide (n ∈ xs) = false) := Lib.hid (decide_eq_false (fun e => by
        obtain ⟨i, hi, e⟩ := List.getElem_of_mem e
        exact HA.out i (by rw [← HX.out]; exact hi) (by rw [gi_eq xs i hi]; exact e)))
      go_wp2
      go_ret
      exact ⟨by rw [HE.out]; rfl, rfl⟩
def withStep (n : Int) (s : List Int × Bool) (x : Int) : List Int × Bool :=
  if s.2 = false ∧ n ≤ x then ((if n < x then s.1 ++ [n] else s.1) ++ [x], true) else (s.1 ++ [x], s.2)
def withF (l : List Int) (n : Int) : List Int × Bool := l.foldl (withStep n) ([], false)
def withL (l : List Int) (n : Int) : List Int := if (withF l n).2 = true then (withF l n).1 else (withF l n).1 ++ [n]
theorem withF_snoc (l : List Int) (n : Int) (k : Nat) (h : k < l.length) : withF (l.take (k + 1)) n = withStep n (withF (l.take k) n) (gi l k) := by
  rw [take_succ_gi l k h, withF, List.foldl_append]; rfl
set_option maxHeartbeats 2000000 in
theorem refWith_any (a : Option Addr) (len cap : Nat) (xs : List Int) (n : Int) (w : World) (hs : IsInts .i64 w a len cap xs) (hl : len ≤ 1000000) :
    Calls Try.prog 68 #[.slice a len cap, .int .i64 n] w fun e w' => ∃ a3 n3 c3, e = .returned (.slice a3 n3 c3) ∧ w'.ownsRow w.heap.size 3 1 (.slice a3 n3 c3) n3 (ivs .i64 (withL xs n)) ∧ Below w.heap.size w w' := by
  have HX : Hid (xs.length = len) := Lib.hid hs.length
  go_enter Try.func68, Try.ntmps68
  go_wp2
  go_loopw [5, 6, 7] (fun v d c W => ∃ k ao no co D L, k ≤ len ∧ c = .int .i64 (k : Int) ∧ v = .slice ao no co ∧ d = .bool D ∧ no ≤ 2 * k ∧ withF (xs.take k) n = (L, D) ∧ W.ownsRow w.heap.size 3 1 (.slice ao no co) no (ivs .i64 L) ∧ Below w.heap.size w W) (fun _ _ c _ => len - (intOf c).toNat)
  case atStart => exact ⟨0, none, 0, 0, false, [], Nat.zero_le _, rfl, rfl, rfl, Nat.le_refl _, rfl, World.ownsRow_nil _ _ _ _, Below.refl _ _⟩
  case round =>
    obtain ⟨k, ao, no, co, D, L, hk, rfl, rfl, rfl, hno, hF, ho, hb⟩ := hrel
    rcases Nat.lt_or_ge k len with hlt | hge
    · obtain ⟨b, off, rfl, hbl, hc⟩ := hs.at wr hb k hlt
      have hkx : k < xs.length := by rw [HX.out]; exact hlt
      have hS := withF_snoc xs n k hkx
      rw [hF] at hS
      unfold withStep at hS
      simp only at hS
      have hlw := hb.size
      have hcc := fun W (hC : Below wr.heap.size wr W) => (hC.cell (p := ⟨b, off + k, none⟩) (show b < _ by omega)).trans hc
      cases D with
      | true =>
        rw [if_neg (by simp)] at hS
        have HS := Lib.hid hS
        clear hS hF hs
        go_wp2_with (at_builtin; refine app_one (k := .i64) elI64 rfl _ _ rfl rfl ho rfl (by omega) hb.size ?_; clear ho; intro a3 c3 w3 ho hb3; replace hb := hb.trans hb3; clear hb3)
        go_roundw
        case rel => exact ⟨k + 1, a3, no + 1, c3, true, _, hlt, by go_num, rfl, rfl, by omega, HS.out, ho, hb⟩
        case measure => simp [intOf]; omega
      | false =>
        rcases Int.lt_trichotomy n (gi xs k) with hn | hn | hn
        · have hd1 : decide (n ≤ gi xs k) = true := decide_eq_true (by omega)
          have hd2 : decide (n < gi xs k) = true := decide_eq_true hn
          rw [if_pos ⟨rfl, by omega⟩, if_pos hn] at hS
          have HS := Lib.hid hS
          clear hS hF hs hn
          go_wp2_with (at_builtin; refine app_one (k := .i64) elI64 rfl _ _ rfl rfl ho rfl (by omega) hb.size ?_; clear ho; intro a3 c3 w3 ho hb3; have hc2 := (hb3.cell (p := ⟨b, off + k, none⟩) (show b < _ by omega)); replace hb := hb.trans hb3; clear hb3; try (rw [hc] at hc2))
          go_roundw
          case rel => exact ⟨k + 1, a3, no + 1 + 1, c3, true, _, hlt, by go_num, rfl, rfl, by omega, HS.out, ho, hb⟩
          case measure => simp [intOf]; omega
        · have hd1 : decide (n ≤ gi xs k) = true := decide_eq_true (by omega)
          have hd2 : decide (n < gi xs k) = false := decide_eq_false (by omega)
          rw [if_pos ⟨rfl, by omega⟩, if_neg (by omega)] at hS
          have HS := Lib.hid hS
          clear hS hF hs hn
          go_wp2_with (at_builtin; refine app_one (k := .i64) elI64 rfl _ _ rfl rfl ho rfl (by omega) hb.size ?_; clear ho; intro a3 c3 w3 ho hb3; replace hb := hb.trans hb3; clear hb3)
          go_roundw
          case rel => exact ⟨k + 1, a3, no + 1, c3, true, _, hlt, by go_num, rfl, rfl, by omega, HS.out, ho, hb⟩
          case measure => simp [intOf]; omega
        · have hd1 : decide (n ≤ gi xs k) = false := decide_eq_false (by omega)
          rw [if_neg (by omega)] at hS
          have HS := Lib.hid hS
          clear hS hF hs hn
          go_wp2_with (at_builtin; refine app_one (k := .i64) elI64 rfl _ _ rfl rfl ho rfl (by omega) hb.size ?_; clear ho; intro a3 c3 w3 ho hb3; replace hb := hb.trans hb3; clear hb3)
          go_roundw
          case rel => exact ⟨k + 1, a3, no + 1, c3, false, _, hlt, by go_num, rfl, rfl, by omega, HS.out, ho, hb⟩
          case measure => simp [intOf]; omega
    · have hkm : k = len := by omega
      subst hkm
      rw [List.take_of_length_le (by rw [HX.out]; exact Nat.le_refl _)] at hF
      cases D with
      | true =>
        have HW : Hid (withL xs n = L) := Lib.hid (by unfold withL; rw [hF]; rfl)
        clear hF
        go_wp2
        go_ret
        exact ⟨ao, no, co, rfl, by rw [HW.out]; exact ho, hb⟩
      | false =>
        have HW : Hid (withL xs n = L ++ [n]) := Lib.hid (by unfold withL; rw [hF]; rfl)
        clear hF
        go_wp2_with (at_builtin; refine app_one (k := .i64) elI64 rfl _ _ rfl rfl ho rfl (by omega) hb.size ?_; clear ho; intro a3 c3 w3 ho hb3; replace hb := hb.trans hb3; clear hb3)
        go_ret
        exact ⟨a3, no + 1, c3, rfl, by rw [HW.out]; exact ho, hb⟩
theorem withStep_gt {n x : Int} (acc : List Int) (h : n < x) : withStep n (acc, false) x = (acc ++ [n] ++ [x], true) := by
  unfold withStep; rw [if_pos ⟨rfl, by omega⟩, if_pos h]
theorem withStep_eq {n x : Int} (acc : List Int) (h1 : n ≤ x) (h : ¬ n < x) : withStep n (acc, false) x = (acc ++ [x], true) := by
  unfold withStep; rw [if_pos ⟨rfl, h1⟩, if_neg h]
theorem withStep_lt {n x : Int} (acc : List Int) (h : ¬ n ≤ x) : withStep n (acc, false) x = (acc ++ [x], false) := by
  unfold withStep; rw [if_neg (fun e => h e.2)]
theorem withStep_done (n x : Int) (acc : List Int) : withStep n (acc, true) x = (acc ++ [x], true) := by
  unfold withStep; rw [if_neg (by simp)]
theorem withF_done (n : Int) : ∀ (l acc : List Int), l.foldl (withStep n) (acc, true) = (acc ++ l, true)
  | [], acc => by simp
  | x :: l, acc => by
    rw [List.foldl_cons, withStep_done, withF_done n l]
    simp
theorem withF_asc (n : Int) : ∀ (l acc : List Int), Asc l → (if (l.foldl (withStep n) (acc, false)).2 = true then (l.foldl (withStep n) (acc, false)).1 else (l.foldl (withStep n) (acc, false)).1 ++ [n]) = acc ++ (l.filter (fun x => decide (x < n)) ++ n :: l.filter (fun x => decide (n < x)))
  | [], acc, _ => by simp
  | x :: l, acc, h => by
    have h' := List.pairwise_cons.1 h
    rw [List.foldl_cons]
    by_cases h1 : n ≤ x
    · have hz : ∀ y ∈ l, n < y := fun y hy => by have := h'.1 y hy; omega
      have e1 : l.filter (fun x => decide (x < n)) = [] := List.filter_eq_nil_iff.2 fun y hy => by have := hz y hy; simp; omega
      have e2 : l.filter (fun x => decide (n < x)) = l := List.filter_eq_self.2 fun y hy => by simpa using hz y hy
      by_cases h2 : n < x
      · rw [withStep_gt _ h2, withF_done]
        simp [List.filter_cons, e1, e2, h2, show ¬ x < n by omega]
      · have : x = n := by omega
        subst this
        rw [withStep_eq _ h1 h2, withF_done]
        simp [List.filter_cons, e1, e2]
    · rw [withStep_lt _ h1, withF_asc n l _ h'.2, List.filter_cons, List.filter_cons, if_pos (by simp; omega), if_neg (by simp; omega)]
      simp
theorem withL_asc (n : Int) (l : List Int) (h : Asc l) : withL l n = l.filter (fun x => decide (x < n)) ++ n :: l.filter (fun x => decide (n < x)) := by
  have := withF_asc n l [] h
  rw [List.nil_append] at this
  exact this
end Go.Proofs.Ytpcbmhfnefhenaa

set_option linter.unusedVariables false
namespace Go.Proofs.Ytpcbmhfnefhenaa

theorem nxtD_iff {ar : List A3} (hS : SortedA ar) {q c : Int} {x : A3} : nxtD ar q c = some x ↔ x ∈ ar ∧ x.f = q ∧ x.l = c :=
  ⟨nxtD_mem, fun ⟨h1, h2, h3⟩ => by rw [← h2, ← h3]; exact nxtD_unique hS h1⟩
theorem nxtD_none_iff {ar : List A3} {q c : Int} : nxtD ar q c = none ↔ ∀ x ∈ ar, x.f = q → x.l ≠ c := by
  unfold nxtD
  rw [List.find?_eq_none]
  refine ⟨fun h x hx h1 h2 => h x hx (by simp [h1, h2]), fun h x hx hc => ?_⟩
  simp at hc
  exact h x hx hc.1 hc.2
theorem outsD_mem {ar : List A3} {q : Int} {x : A3} : x ∈ outsD ar q ↔ x ∈ ar ∧ x.f = q := by
  unfold outsD
  rw [List.mem_filter]
  simp
theorem outsD_asc {ar : List A3} (hS : SortedA ar) (q : Int) : (outsD ar q).Pairwise fun x y => x.l < y.l := by
  unfold outsD
  have h := List.Pairwise.filter (fun x => decide (x.f = q)) hS
  refine (List.pairwise_filter.2 (List.Pairwise.imp ?_ (List.pairwise_filter.1 h)))
  intro x y hxy h1 h2
  have := hxy h1 h2
  simp at h1 h2
  unfold LtA at this
  omega
section
variable {d : Dfa} {keep : List Bool}
theorem oD_asc (hS : SortedA d.arcs) (q : Int) : (oD d keep q).Pairwise fun x y => x.1 < y.1 := by
  unfold oD kd
  rw [List.pairwise_map]
  exact List.Pairwise.filter _ (outsD_asc hS q)
theorem oD_iff {q : Int} {x : Int × Int} : x ∈ oD d keep q ↔ ∃ y ∈ d.arcs, y.f = q ∧ y.l = x.1 ∧ y.t = x.2 ∧ gb keep y.t.toNat = true := by
  refine ⟨oD_mem, fun ⟨y, hy, h1, h2, h3, h4⟩ => ?_⟩
  unfold oD kd
  exact List.mem_map.2 ⟨y, List.mem_filter.2 ⟨outsD_mem.2 ⟨hy, h1⟩, h4⟩, by rw [h2, h3]⟩
def lastD (d : Dfa) (keep : List Bool) : Bq Int := bq (oD d keep) d.s d.n.toNat
theorem lastD_len (hv : ValidD d) : (lastD d keep).q.length ≤ d.n.toNat := bqD_len hv keep _
theorem lastD_pos : 0 < (lastD d keep).q.length := by
  have := (bq_pre (oD d keep) d.s (Nat.zero_le d.n.toNat)).length_le
  exact Nat.lt_of_lt_of_le (by show 0 < [d.s].length; simp) this
theorem lastD_start : gi (lastD d keep).q 0 = d.s := by
  have h := bq_pre (oD d keep) d.s (Nat.zero_le d.n.toNat)
  obtain ⟨h', hg⟩ := get_pre h (show 0 < (bq (oD d keep) d.s 0).q.length by show 0 < [d.s].length; simp)
  unfold lastD
  rw [gi_eq _ _ h', hg]
  rfl
theorem lastD_closed (hv : ValidD d) {i : Nat} (hi : i < (lastD d keep).q.length) : ∀ x ∈ oD d keep (gi (lastD d keep).q i), x.2 ∈ (lastD d keep).q := by
  have h1 := lastD_len (keep := keep) hv
  rw [gi_eq _ _ hi]
  exact bq_closed (oD d keep) d.s d.n.toNat i (by unfold lastD at hi h1; omega) _ (List.getElem?_eq_getElem hi)
theorem lastD_arcs : (lastD d keep).a = (List.range d.n.toNat).flatMap (headArcs (oD d keep) (lastD d keep).q) := bq_arcs _ _ _
theorem headArcs_at {i : Nat} (hi : i < (lastD d keep).q.length) : headArcs (oD d keep) (lastD d keep).q i = (oD d keep (gi (lastD d keep).q i)).map fun x => ⟨i, x.1, ((lastD d keep).q.idxOf x.2 : Nat)⟩ := by
  unfold headArcs
  rw [List.getElem?_eq_getElem hi, gi_eq _ _ hi]
theorem headArcs_f {i : Nat} {x : A3} (h : x ∈ headArcs (oD d keep) (lastD d keep).q i) : x.f = i ∧ i < (lastD d keep).q.length := by
  rcases Nat.lt_or_ge i (lastD d keep).q.length with hi | hi
  · rw [headArcs_at hi] at h
    obtain ⟨y, _, rfl⟩ := List.mem_map.1 h
    exact ⟨rfl, hi⟩
  · unfold headArcs at h
    rw [List.getElem?_eq_none hi] at h
    simp at h
theorem lastD_mem (hv : ValidD d) {x : A3} : x ∈ (lastD d keep).a ↔ ∃ i, i < (lastD d keep).q.length ∧ x.f = i ∧ ∃ y ∈ d.arcs, y.f = gi (lastD d keep).q i ∧ gb keep y.t.toNat = true ∧ x.l = y.l ∧ x.t = ((lastD d keep).q.idxOf y.t : Nat) := by
  rw [lastD_arcs, List.mem_flatMap]
  constructor
  · rintro ⟨i, _, hx⟩
    have hf := headArcs_f hx
    rw [headArcs_at hf.2] at hx
    obtain ⟨z, hz, rfl⟩ := List.mem_map.1 hx
    obtain ⟨y, hy, h1, h2, h3, h4⟩ := oD_iff.1 hz
    exact ⟨i, hf.2, rfl, y, hy, h1, h4, h2.symm, by rw [h3]⟩
  · rintro ⟨i, hi, h1, y, hy, h2, h3, h4, h5⟩
    have := lastD_len (keep := keep) hv
    refine ⟨i, List.mem_range.2 (by omega), ?_⟩
    rw [headArcs_at hi]
    exact List.mem_map.2 ⟨(y.l, y.t), oD_iff.2 ⟨y, hy, h2, rfl, rfl, h3⟩, by rw [← h1, ← h4, ← h5]⟩
theorem lastD_sorted (hv : ValidD d) : SortedA (lastD d keep).a := by
  unfold SortedA
  rw [lastD_arcs, List.pairwise_flatMap]
  refine ⟨fun i _ => ?_, ?_⟩
  · rcases Nat.lt_or_ge i (lastD d keep).q.length with hi | hi
    · rw [headArcs_at hi, List.pairwise_map]
      exact List.Pairwise.imp (fun h => .inr ⟨rfl, h⟩) (oD_asc hv.sorted _)
    · unfold headArcs
      rw [List.getElem?_eq_none hi]
      exact List.Pairwise.nil
  · refine List.Pairwise.imp ?_ (List.pairwise_lt_range)
    intro i j hij x hx y hy
    have h1 := (headArcs_f hx).1
    have h2 := (headArcs_f hy).1
    exact .inl (by omega)
theorem outsD_last (hv : ValidD d) {i : Nat} (hi : i < (lastD d keep).q.length) : outsD (lastD d keep).a i = (oD d keep (gi (lastD d keep).q i)).map fun x => ⟨i, x.1, ((lastD d keep).q.idxOf x.2 : Nat)⟩ := by
  have hl := lastD_len (keep := keep) hv
  rw [← headArcs_at hi]
  unfold outsD
  rw [lastD_arcs, List.filter_flatMap]
  have hsplit : List.range d.n.toNat = List.range i ++ (i :: (List.range' (i + 1) (d.n.toNat - (i + 1)))) := by
    rw [List.range_eq_range', List.range_eq_range', ← List.range'_succ]
    have := List.range'_append_1 (s := 0) (m := i) (n := d.n.toNat - i)
    rw [show d.n.toNat - (i + 1) + 1 = d.n.toNat - i by omega, Nat.zero_add] at *
    rw [this, show i + (d.n.toNat - i) = d.n.toNat by omega]
  have hno : ∀ j, j ≠ i → (headArcs (oD d keep) (lastD d keep).q j).filter (fun x => decide (x.f = (i : Int))) = [] := fun j hj => by
    rw [List.filter_eq_nil_iff]
    intro x hx
    have := (headArcs_f hx).1
    simp
    omega
  have hyes : (headArcs (oD d keep) (lastD d keep).q i).filter (fun x => decide (x.f = (i : Int))) = headArcs (oD d keep) (lastD d keep).q i := by
    rw [List.filter_eq_self]
    intro x hx
    have := (headArcs_f hx).1
    simp
    omega
  rw [hsplit, List.flatMap_append, List.flatMap_cons, hyes]
  have h1 : (List.range i).flatMap (fun j => (headArcs (oD d keep) (lastD d keep).q j).filter (fun x => decide (x.f = (i : Int)))) = [] := by
    rw [List.flatMap_eq_nil_iff]
    intro j hj
    exact hno j (by have := List.mem_range.1 hj; omega)
  have h2 : (List.range' (i + 1) (d.n.toNat - (i + 1))).flatMap (fun j => (headArcs (oD d keep) (lastD d keep).q j).filter (fun x => decide (x.f = (i : Int)))) = [] := by
    rw [List.flatMap_eq_nil_iff]
    intro j hj
    exact hno j (by have := List.mem_range'_1.1 hj; omega)
  rw [h1, h2]
  simp
theorem lastD_alen (hv : ValidD d) : (lastD d keep).a.length ≤ d.arcs.length := by
  have hn : ((lastD d keep).q.flatMap fun q => (outsD d.arcs q).filter fun x => gb keep x.t.toNat).Nodup := by
    rw [List.nodup_iff_pairwise_ne, List.pairwise_flatMap]
    have hd : d.arcs.Nodup := List.Pairwise.imp (fun h e => by subst e; exact LtA.irrefl h) hv.sorted
    refine ⟨fun q _ => (hd.filter _).filter _, ?_⟩
    refine List.Pairwise.imp ?_ (List.nodup_iff_pairwise_ne.1 (bq_nodup (oD d keep) d.s d.n.toNat))
    intro p q hpq x hx y hy e
    subst e
    have h1 := (outsD_mem.1 (List.mem_filter.1 hx).1).2
    have h2 := (outsD_mem.1 (List.mem_filter.1 hy).1).2
    exact hpq (h1.symm.trans h2)
  have hs : ((lastD d keep).q.flatMap fun q => (outsD d.arcs q).filter fun x => gb keep x.t.toNat) ⊆ d.arcs := fun x hx => by
    obtain ⟨q, _, h⟩ := List.mem_flatMap.1 hx
    exact (outsD_mem.1 (List.mem_filter.1 h).1).1
  have h1 := hn.length_le_of_subset hs
  have h2 : (lastD d keep).a.length = ((lastD d keep).q.flatMap fun q => (outsD d.arcs q).filter fun x => gb keep x.t.toNat).length := by
    rw [lastD_arcs, List.length_flatMap, List.length_flatMap]
    have hl := lastD_len (keep := keep) hv
    have hlen : ∀ i, (headArcs (oD d keep) (lastD d keep).q i).length = (((lastD d keep).q[i]?).map fun q => ((outsD d.arcs q).filter fun x => gb keep x.t.toNat).length).getD 0 := fun i => by
      unfold headArcs
      cases h : (lastD d keep).q[i]? with
      | none => rfl
      | some q => simp [oD, kd]
    rw [List.map_congr_left (fun i _ => hlen i)]
    generalize (lastD d keep).q = Q at hl
    generalize d.n.toNat = N at hl
    clear hlen h1 hs hn
    generalize (fun q => ((outsD d.arcs q).filter fun x => gb keep x.t.toNat).length) = F
    induction Q generalizing N with
    | nil =>
      have : ∀ M : Nat, ((List.range M).map fun _ => 0).sum = 0 := fun M => by
        induction M with
        | zero => rfl
        | succ M ih => rw [List.range_succ, List.map_append, List.sum_append, ih]; rfl
      simpa using this N
    | cons q Q ih =>
      cases N with
      | zero => simp at hl
      | succ N =>
        rw [List.range_succ_eq_map, List.map_cons, List.sum_cons, List.map_map]
        have := ih N (by simpa using hl)
        simp only [List.map_cons, List.sum_cons, ← this]
        congr 1
  omega
theorem numD_valid (hv : ValidD d) : ValidD (numD d keep) := by
  have hl := lastD_len (keep := keep) hv
  have hp := lastD_pos (d := d) (keep := keep)
  have ha := lastD_alen (keep := keep) hv
  have hs := lastD_sorted (keep := keep) hv
  obtain ⟨h1, h2, h3, h4, h5⟩ := hv
  have hv : ValidD d := ⟨h1, h2, h3, h4, h5⟩
  refine ⟨⟨?_, ?_⟩, ⟨?_, ?_⟩, ?_, ?_, ?_⟩
  · show (1 : Int) ≤ ((lastD d keep).q.length : Nat); omega
  · show (((lastD d keep).q.length : Nat) : Int) ≤ 1000; omega
  · exact Int.le_refl 0
  · show (0 : Int) < ((lastD d keep).q.length : Nat); omega
  · show (((lastD d keep).q.map fun q => gb d.fin q.toNat).length : Int) = _
    rw [List.length_map]
    rfl
  · show (lastD d keep).a.length ≤ 20000; omega
  · show ∀ i, i < (lastD d keep).a.length → ArcOk ((lastD d keep).q.length : Nat) (lastD d keep).a i
    intro i hi
    obtain ⟨j, hj, e1, y, hy, e2, e3, e4, e5⟩ := (lastD_mem hv).1 (g3_mem _ i hi)
    have hc := lastD_closed hv hj (y.l, y.t) (oD_iff.2 ⟨y, hy, e2, rfl, rfl, e3⟩)
    have hx := List.idxOf_lt_length_of_mem hc
    have hya := hv.arc hy
    refine ⟨⟨⟨by omega, by omega⟩, by rw [e5]; omega, by rw [e5]; exact Int.ofNat_lt.2 hx⟩, ⟨by omega, by omega⟩, fun h0 => hs.lt (by omega) hi⟩
theorem nxt_num (hv : ValidD d) {i : Nat} (hi : i < (lastD d keep).q.length) (c : Int) {x : A3} (h : nxtD d.arcs (gi (lastD d keep).q i) c = some x) (hk : gb keep x.t.toNat = true) :
    x.t ∈ (lastD d keep).q ∧ nxtD (lastD d keep).a i c = some ⟨i, c, ((lastD d keep).q.idxOf x.t : Nat)⟩ := by
  obtain ⟨h1, h2, h3⟩ := nxtD_mem h
  refine ⟨lastD_closed hv hi (x.l, x.t) (oD_iff.2 ⟨x, h1, h2, rfl, rfl, hk⟩), ?_⟩
  exact (nxtD_iff (lastD_sorted hv)).2 ⟨(lastD_mem hv).2 ⟨i, hi, rfl, x, h1, h2, hk, h3.symm, rfl⟩, rfl, rfl⟩
theorem nxt_num_no (hv : ValidD d) {i : Nat} (hi : i < (lastD d keep).q.length) (c : Int) (h : ∀ x, nxtD d.arcs (gi (lastD d keep).q i) c = some x → gb keep x.t.toNat = false) : nxtD (lastD d keep).a i c = none := by
  rw [nxtD_none_iff]
  intro x hx h1 h2
  obtain ⟨j, hj, e1, y, hy, e2, e3, e4, e5⟩ := (lastD_mem hv).1 hx
  obtain rfl : j = i := by omega
  have := h y ((nxtD_iff hv.sorted).2 ⟨hy, e2, by omega⟩)
  rw [this] at e3
  cases e3
theorem numD_acc (hv : ValidD d) (hk : ∀ x ∈ d.arcs, gb keep x.t.toNat = false → ∀ w, accQ d x.t w = false) : ∀ (w : List Int) (i : Nat), i < (lastD d keep).q.length → accQ (numD d keep) i w = accQ d (gi (lastD d keep).q i) w
  | [], i, hi => by
    rw [accQ_nil, accQ_nil]
    show gb ((lastD d keep).q.map fun q => gb d.fin q.toNat) _ = _
    rw [gb_eq _ _ (by rw [List.length_map]; simpa using hi), gi_eq _ _ hi]
    simp
  | c :: w, i, hi => by
    cases h : nxtD d.arcs (gi (lastD d keep).q i) c with
    | none =>
      rw [accQ_none h, accQ_none (nxt_num_no (keep := keep) hv hi c fun x hx => by rw [h] at hx; cases hx)]
    | some x =>
      rw [accQ_some h]
      cases hx : gb keep x.t.toNat with
      | false =>
        rw [hk x (nxtD_mem h).1 hx, accQ_none (nxt_num_no (keep := keep) hv hi c fun y hy => by rw [h] at hy; injection hy with hy; rw [← hy]; exact hx)]
      | true =>
        obtain ⟨hm, hn⟩ := nxt_num hv hi c h hx
        rw [accQ_some (d := numD d keep) hn]
        have hlt := List.idxOf_lt_length_of_mem hm
        show accQ (numD d keep) (((lastD d keep).q.idxOf x.t : Nat) : Int) w = _
        rw [numD_acc hv hk w _ hlt, gi_eq _ _ hlt, List.getElem_idxOf]
end
end Go.Proofs.Ytpcbmhfnefhenaa
