import Derived.Test.YtehdkcjoaogbeaaMG1
import Derived.Test.YtehdkcjoaogbeaaMG4
import Derived.Test.YtehdkcjoaogbeaaMG29
import Derived.Test.YtehdkcjoaogbeaaMG30
/-
  DfaIp, CmpW
-/
set_option linter.unusedVariables false
namespace Go.Proofs.Ytehdkcjoaogbeaa
section
variable {α : Type} [DecidableEq α]
def ShortW (st : Bq α) : Prop := st.w.length = st.q.length ∧ ∀ u ∈ st.w, u.length < st.q.length
theorem shortW_one {h : Nat} {st : Bq α} {x : Int × α} (hs : ShortW st) (hp : 0 < st.q.length) : ShortW (bq1 h st x) := by
  refine ⟨bq1_wlen h st x hs.1, ?_⟩
  by_cases hm : x.2 ∈ st.q
  · have e := bq1_yes (h := h) hm
    rw [e.1, e.2]; exact hs.2
  · have e := bq1_no (h := h) hm
    rw [e.1, e.2]
    intro u hu
    rw [List.length_append, List.length_singleton]
    rcases List.mem_append.1 hu with hu | hu
    · have := hs.2 u hu; omega
    · rw [List.mem_singleton.1 hu, List.length_append, List.length_singleton]
      have : (st.w.getD h []).length < st.q.length := by
        rcases Nat.lt_or_ge h st.w.length with h1 | h1
        · rw [List.getD_eq_getElem?_getD, List.getElem?_eq_getElem h1]
          exact hs.2 _ (List.getElem_mem h1)
        · rw [List.getD_eq_getElem?_getD, List.getElem?_eq_none h1]
          exact hp
      omega
theorem shortW_all {h : Nat} : ∀ (l : List (Int × α)) (st : Bq α), ShortW st → 0 < st.q.length → ShortW (bqs h st l)
  | [], st, hs, hp => hs
  | x :: l, st, hs, hp => shortW_all l _ (shortW_one hs hp) (Nat.lt_of_lt_of_le hp (bq1_pre h st x).length_le)
theorem shortW_bq (o : α → List (Int × α)) (s : α) : ∀ k, ShortW (bq o s k)
  | 0 => ⟨rfl, fun u hu => by have hu : u ∈ [([] : List Int)] := hu; rw [List.mem_singleton.1 hu]; show 0 < [s].length; simp⟩
  | k + 1 => by
    have ih := shortW_bq o s k
    have hp : 0 < (bq o s k).q.length := lastG_pos
    show ShortW (bqh o k (bq o s k))
    unfold bqh
    split
    · exact shortW_all _ _ ih hp
    · exact ih
end
theorem incW_len {a b : Dfa} (ha : ValidD a) (hb : ValidD b) {w : List Int} (h : incW a b = some w) : w.length ≤ nI a b := by
  unfold incW at h
  rw [Option.map_eq_some_iff] at h
  obtain ⟨i, hi, rfl⟩ := h
  have hs := shortW_bq (oI a b) ⟨a.s, b.s⟩ (nI a b)
  have hl := bqI_len ha hb (nI a b)
  have h1 : i < (bq (oI a b) ⟨a.s, b.s⟩ (nI a b)).w.length := by
    rw [hs.1]
    exact (List.findIdx?_eq_some_iff_getElem.1 hi).1
  show ((bq (oI a b) ⟨a.s, b.s⟩ (nI a b)).w.getD i []).length ≤ _
  rw [List.getD_eq_getElem?_getD, List.getElem?_eq_getElem h1]
  have := hs.2 _ (List.getElem_mem h1)
  simp only [Option.getD_some]
  omega
theorem nI_few {a b : Dfa} (ha : a.n ≤ 12) (hb : b.n ≤ 12) : nI a b ≤ 156 := by
  unfold nI
  exact Nat.le_trans (Nat.mul_le_mul (show a.n.toNat ≤ 12 by omega) (show b.n.toNat + 1 ≤ 13 by omega)) (by decide)
end Go.Proofs.Ytehdkcjoaogbeaa

set_option linter.unusedSimpArgs false
set_option linter.unusedVariables false
namespace Go.Proofs.Ytehdkcjoaogbeaa
open Go.RowKit

set_option maxHeartbeats 2000000 in
theorem refCompare_any (a : Option Addr) (len cap : Nat) (xs : List Int) (a' : Option Addr) (len' cap' : Nat) (ys : List Int) (w : World) (hs : IsInts .i64 w a len cap xs) (hs' : IsInts .i64 w a' len' cap' ys) (hl : len ≤ 100000) (hl' : len' ≤ 100000) :
    Calls Try.prog 30 #[.slice a len cap, .slice a' len' cap'] w fun e w' => e = .returned (.int .i64 (cmpL xs ys)) ∧ Below w.heap.size w w' := by
  have HX : Hid (xs.length = len) := Lib.hid hs.length
  have HY : Hid (ys.length = len') := Lib.hid hs'.length
  go_enter Try.func30, Try.ntmps30
  go_wp2
  go_loopw [5] (fun c W => ∃ k : Nat, k ≤ len ∧ k ≤ len' ∧ c = .int .i64 (k : Int) ∧ cmpL xs ys = cmpL (xs.drop k) (ys.drop k) ∧ Below w.heap.size w W) (fun c _ => len - (intOf c).toNat)
  case atStart => exact ⟨0, Nat.zero_le _, Nat.zero_le _, rfl, rfl, Below.refl _ _⟩
  case round =>
    obtain ⟨k, hk, hk', rfl, hcmp, hb⟩ := hrel
    by_cases hlt : k < len ∧ k < len'
    · obtain ⟨b, off, rfl, hbl, hc⟩ := hs.at wr hb k hlt.1
      obtain ⟨b', off', rfl, hbl', hc'⟩ := hs'.at wr hb k hlt.2
      rw [drop_gi xs k (by rw [HX.out]; exact hlt.1), drop_gi ys k (by rw [HY.out]; exact hlt.2), cmpL] at hcmp
      have hz := hb.size
      have hd1 : decide ((k : Int) < (len : Int)) = true := decide_eq_true (by omega)
      have hd2 : decide ((k : Int) < (len' : Int)) = true := decide_eq_true (by omega)
      have HC := Lib.hid hcmp
      clear hs hs' hcmp
      go_wp2
      refine wp_region_grow mixed (by kernel_rfl) [[], [], [(0, 18), (1, 19)], [(2, 20)], [], [], [(4, 22), (5, 23)], [(6, 24)], [(3, 21), (7, 25)]] [(0, 18), (1, 19), (2, 20), (3, 21), (4, 22), (5, 23), (6, 24), (7, 25), (8, 26)] rfl rfl [Ex ?e0, Ex ?e1, Ex ?e2, Ex ?e3, Ex ?e4, Ex ?e5, Ex ?e6, Ex ?e7, Ex ?e8] ⟨stays_ex _, stays_ex _, stays_ex _, stays_ex _, stays_ex _, stays_ex _, stays_ex _, stays_ex _, stays_ex _, trivial⟩ ?steps ?rest
      case steps =>
        refine ⟨fun f W hC hh => ?_, fun f W hC hh => ?_, fun f W hC hh => ?_, fun f W hC hh => ?_, fun f W hC hh => ?_, fun f W hC hh => ?_, fun f W hC hh => ?_, fun f W hC hh => ?_, fun f W hC hh => ?_, trivial⟩
        ·
          refine tab_plain fun K Q hK => ?_
          simp only [puts, List.foldr_nil]
          go_step
          refine fam_ex hK rfl rfl (by simp only [Act.put, List.setIfInBounds_toArray, List.set_cons_succ, List.set_cons_zero, Array.getD_eq_getD_getElem?, List.getElem?_toArray, List.getElem?_cons_succ, List.getElem?_cons_zero, Option.getD_some] <;> rfl) rfl (Below.refl _ _) hC
        ·
          refine tab_plain fun K Q hK => ?_
          simp only [puts, List.foldr_nil]
          go_step
          refine fam_ex hK rfl rfl (by simp only [Act.put, List.setIfInBounds_toArray, List.set_cons_succ, List.set_cons_zero, Array.getD_eq_getD_getElem?, List.getElem?_toArray, List.getElem?_cons_succ, List.getElem?_cons_zero, Option.getD_some] <;> rfl) rfl (Below.refl _ _) hC
        ·
          obtain ⟨h0, h1, -⟩ := hh
          have g0 : f 0 = _ := h0
          have g1 : f 1 = _ := h1
          refine tab_plain fun K Q hK => ?_
          simp only [puts, List.foldr_cons, List.foldr_nil, List.setIfInBounds_toArray, List.set_cons_succ, List.set_cons_zero, g0, g1]
          go_step
          refine fam_ex hK rfl rfl (by simp only [Act.put, List.setIfInBounds_toArray, List.set_cons_succ, List.set_cons_zero, Array.getD_eq_getD_getElem?, List.getElem?_toArray, List.getElem?_cons_succ, List.getElem?_cons_zero, Option.getD_some] <;> rfl) rfl (Below.refl _ _) hC
        ·
          obtain ⟨h2, -⟩ := hh
          have g2 : f 2 = _ := h2
          refine tab_plain fun K Q hK => ?_
          simp only [puts, List.foldr_cons, List.foldr_nil, List.setIfInBounds_toArray, List.set_cons_succ, List.set_cons_zero, g2]
          have hc3 := (hC.cell (p := ⟨b, off + k, none⟩) (show b < _ by omega)).trans hc
          go_step
          refine fam_ex hK rfl rfl (by simp only [Act.put, List.setIfInBounds_toArray, List.set_cons_succ, List.set_cons_zero, Array.getD_eq_getD_getElem?, List.getElem?_toArray, List.getElem?_cons_succ, List.getElem?_cons_zero, Option.getD_some] <;> rfl) rfl (Below.refl _ _) hC
        ·
          refine tab_plain fun K Q hK => ?_
          simp only [puts, List.foldr_nil]
          go_step
          refine fam_ex hK rfl rfl (by simp only [Act.put, List.setIfInBounds_toArray, List.set_cons_succ, List.set_cons_zero, Array.getD_eq_getD_getElem?, List.getElem?_toArray, List.getElem?_cons_succ, List.getElem?_cons_zero, Option.getD_some] <;> rfl) rfl (Below.refl _ _) hC
        ·
          refine tab_plain fun K Q hK => ?_
          simp only [puts, List.foldr_nil]
          go_step
          refine fam_ex hK rfl rfl (by simp only [Act.put, List.setIfInBounds_toArray, List.set_cons_succ, List.set_cons_zero, Array.getD_eq_getD_getElem?, List.getElem?_toArray, List.getElem?_cons_succ, List.getElem?_cons_zero, Option.getD_some] <;> rfl) rfl (Below.refl _ _) hC
        ·
          obtain ⟨h4, h5, -⟩ := hh
          have g4 : f 4 = _ := h4
          have g5 : f 5 = _ := h5
          refine tab_plain fun K Q hK => ?_
          simp only [puts, List.foldr_cons, List.foldr_nil, List.setIfInBounds_toArray, List.set_cons_succ, List.set_cons_zero, g4, g5]
          go_step
          refine fam_ex hK rfl rfl (by simp only [Act.put, List.setIfInBounds_toArray, List.set_cons_succ, List.set_cons_zero, Array.getD_eq_getD_getElem?, List.getElem?_toArray, List.getElem?_cons_succ, List.getElem?_cons_zero, Option.getD_some] <;> rfl) rfl (Below.refl _ _) hC
        ·
          obtain ⟨h6, -⟩ := hh
          have g6 : f 6 = _ := h6
          refine tab_plain fun K Q hK => ?_
          simp only [puts, List.foldr_cons, List.foldr_nil, List.setIfInBounds_toArray, List.set_cons_succ, List.set_cons_zero, g6]
          have hc3 := (hC.cell (p := ⟨b', off' + k, none⟩) (show b' < _ by omega)).trans hc'
          go_step
          refine fam_ex hK rfl rfl (by simp only [Act.put, List.setIfInBounds_toArray, List.set_cons_succ, List.set_cons_zero, Array.getD_eq_getD_getElem?, List.getElem?_toArray, List.getElem?_cons_succ, List.getElem?_cons_zero, Option.getD_some] <;> rfl) rfl (Below.refl _ _) hC
        ·
          obtain ⟨h3, h7, -⟩ := hh
          have g3 : f 3 = _ := h3
          have g7 : f 7 = _ := h7
          refine tab_plain fun K Q hK => ?_
          simp only [puts, List.foldr_cons, List.foldr_nil, List.setIfInBounds_toArray, List.set_cons_succ, List.set_cons_zero, g3, g7]
          go_step
          refine fam_ex hK rfl rfl (by simp only [Act.put, List.setIfInBounds_toArray, List.set_cons_succ, List.set_cons_zero, Array.getD_eq_getD_getElem?, List.getElem?_toArray, List.getElem?_cons_succ, List.getElem?_cons_zero, Option.getD_some] <;> rfl) rfl (Below.refl _ _) hC
      case rest =>
        intro f W2 hC hh
        obtain ⟨h0, h1, h2, h3, h4, h5, h6, h7, h8, -⟩ := hh
        have g0 : f 0 = _ := h0
        have g1 : f 1 = _ := h1
        have g2 : f 2 = _ := h2
        have g3 : f 3 = _ := h3
        have g4 : f 4 = _ := h4
        have g5 : f 5 = _ := h5
        have g6 : f 6 = _ := h6
        have g7 : f 7 = _ := h7
        have g8 : f 8 = _ := h8
        simp only [puts, List.foldr_cons, List.foldr_nil, List.setIfInBounds_toArray, List.set_cons_succ, List.set_cons_zero, g0, g1, g2, g3, g4, g5, g6, g7, g8]
        clear h0 h1 h2 h3 h4 h5 h6 h7 h8 g0 g1 g2 g3 g4 g5 g6 g7 g8
        have hb2 := hb.trans (hC.mono hb.size)
        by_cases h1 : gi xs k < gi ys k
        · have hq : decide (gi xs k < gi ys k) = true := decide_eq_true h1
          try rw [hq]
          have HE : Hid (cmpL xs ys = -1) := Lib.hid (by rw [HC.out, if_pos h1])
          clear h1
          go_wp2
          go_ret
          exact ⟨by rw [HE.out]; rfl, hb2⟩
        · have hq : decide (gi xs k < gi ys k) = false := decide_eq_false h1
          try rw [hq]
          have H1 := Lib.hid h1
          have hz2 := hC.size
          have hc2 := (hC.cell (p := ⟨b, off + k, none⟩) (show b < _ by omega)).trans hc
          have hc2' := (hC.cell (p := ⟨b', off' + k, none⟩) (show b' < _ by omega)).trans hc'
          clear hC
          go_wp2
          refine wp_region_grow mixed (by kernel_rfl) [[], [], [(0, 27), (1, 28)], [(2, 29)], [], [], [(4, 31), (5, 32)], [(6, 33)], [(3, 30), (7, 34)]] [(0, 27), (1, 28), (2, 29), (3, 30), (4, 31), (5, 32), (6, 33), (7, 34), (8, 35)] rfl rfl [Ex ?eb0, Ex ?eb1, Ex ?eb2, Ex ?eb3, Ex ?eb4, Ex ?eb5, Ex ?eb6, Ex ?eb7, Ex ?eb8] ⟨stays_ex _, stays_ex _, stays_ex _, stays_ex _, stays_ex _, stays_ex _, stays_ex _, stays_ex _, stays_ex _, trivial⟩ ?bsteps ?brest
          case bsteps =>
            refine ⟨fun f W hC hh => ?_, fun f W hC hh => ?_, fun f W hC hh => ?_, fun f W hC hh => ?_, fun f W hC hh => ?_, fun f W hC hh => ?_, fun f W hC hh => ?_, fun f W hC hh => ?_, fun f W hC hh => ?_, trivial⟩
            ·
              refine tab_plain fun K Q hK => ?_
              simp only [puts, List.foldr_nil]
              go_step
              refine fam_ex hK rfl rfl (by simp only [Act.put, List.setIfInBounds_toArray, List.set_cons_succ, List.set_cons_zero, Array.getD_eq_getD_getElem?, List.getElem?_toArray, List.getElem?_cons_succ, List.getElem?_cons_zero, Option.getD_some] <;> rfl) rfl (Below.refl _ _) hC
            ·
              refine tab_plain fun K Q hK => ?_
              simp only [puts, List.foldr_nil]
              go_step
              refine fam_ex hK rfl rfl (by simp only [Act.put, List.setIfInBounds_toArray, List.set_cons_succ, List.set_cons_zero, Array.getD_eq_getD_getElem?, List.getElem?_toArray, List.getElem?_cons_succ, List.getElem?_cons_zero, Option.getD_some] <;> rfl) rfl (Below.refl _ _) hC
            ·
              obtain ⟨h0, h1, -⟩ := hh
              have g0 : f 0 = _ := h0
              have g1 : f 1 = _ := h1
              refine tab_plain fun K Q hK => ?_
              simp only [puts, List.foldr_cons, List.foldr_nil, List.setIfInBounds_toArray, List.set_cons_succ, List.set_cons_zero, g0, g1]
              go_step
              refine fam_ex hK rfl rfl (by simp only [Act.put, List.setIfInBounds_toArray, List.set_cons_succ, List.set_cons_zero, Array.getD_eq_getD_getElem?, List.getElem?_toArray, List.getElem?_cons_succ, List.getElem?_cons_zero, Option.getD_some] <;> rfl) rfl (Below.refl _ _) hC
            ·
              obtain ⟨h2, -⟩ := hh
              have g2 : f 2 = _ := h2
              refine tab_plain fun K Q hK => ?_
              simp only [puts, List.foldr_cons, List.foldr_nil, List.setIfInBounds_toArray, List.set_cons_succ, List.set_cons_zero, g2]
              have hc3 := (hC.cell (p := ⟨b, off + k, none⟩) (show b < _ by omega)).trans hc2
              go_step
              refine fam_ex hK rfl rfl (by simp only [Act.put, List.setIfInBounds_toArray, List.set_cons_succ, List.set_cons_zero, Array.getD_eq_getD_getElem?, List.getElem?_toArray, List.getElem?_cons_succ, List.getElem?_cons_zero, Option.getD_some] <;> rfl) rfl (Below.refl _ _) hC
            ·
              refine tab_plain fun K Q hK => ?_
              simp only [puts, List.foldr_nil]
              go_step
              refine fam_ex hK rfl rfl (by simp only [Act.put, List.setIfInBounds_toArray, List.set_cons_succ, List.set_cons_zero, Array.getD_eq_getD_getElem?, List.getElem?_toArray, List.getElem?_cons_succ, List.getElem?_cons_zero, Option.getD_some] <;> rfl) rfl (Below.refl _ _) hC
            ·
              refine tab_plain fun K Q hK => ?_
              simp only [puts, List.foldr_nil]
              go_step
              refine fam_ex hK rfl rfl (by simp only [Act.put, List.setIfInBounds_toArray, List.set_cons_succ, List.set_cons_zero, Array.getD_eq_getD_getElem?, List.getElem?_toArray, List.getElem?_cons_succ, List.getElem?_cons_zero, Option.getD_some] <;> rfl) rfl (Below.refl _ _) hC
            ·
              obtain ⟨h4, h5, -⟩ := hh
              have g4 : f 4 = _ := h4
              have g5 : f 5 = _ := h5
              refine tab_plain fun K Q hK => ?_
              simp only [puts, List.foldr_cons, List.foldr_nil, List.setIfInBounds_toArray, List.set_cons_succ, List.set_cons_zero, g4, g5]
              go_step
              refine fam_ex hK rfl rfl (by simp only [Act.put, List.setIfInBounds_toArray, List.set_cons_succ, List.set_cons_zero, Array.getD_eq_getD_getElem?, List.getElem?_toArray, List.getElem?_cons_succ, List.getElem?_cons_zero, Option.getD_some] <;> rfl) rfl (Below.refl _ _) hC
            ·
              obtain ⟨h6, -⟩ := hh
              have g6 : f 6 = _ := h6
              refine tab_plain fun K Q hK => ?_
              simp only [puts, List.foldr_cons, List.foldr_nil, List.setIfInBounds_toArray, List.set_cons_succ, List.set_cons_zero, g6]
              have hc3 := (hC.cell (p := ⟨b', off' + k, none⟩) (show b' < _ by omega)).trans hc2'
              go_step
              refine fam_ex hK rfl rfl (by simp only [Act.put, List.setIfInBounds_toArray, List.set_cons_succ, List.set_cons_zero, Array.getD_eq_getD_getElem?, List.getElem?_toArray, List.getElem?_cons_succ, List.getElem?_cons_zero, Option.getD_some] <;> rfl) rfl (Below.refl _ _) hC
            ·
              obtain ⟨h3, h7, -⟩ := hh
              have g3 : f 3 = _ := h3
              have g7 : f 7 = _ := h7
              refine tab_plain fun K Q hK => ?_
              simp only [puts, List.foldr_cons, List.foldr_nil, List.setIfInBounds_toArray, List.set_cons_succ, List.set_cons_zero, g3, g7]
              go_step
              refine fam_ex hK rfl rfl (by simp only [Act.put, List.setIfInBounds_toArray, List.set_cons_succ, List.set_cons_zero, Array.getD_eq_getD_getElem?, List.getElem?_toArray, List.getElem?_cons_succ, List.getElem?_cons_zero, Option.getD_some] <;> rfl) rfl (Below.refl _ _) hC
          case brest =>
            intro f W3 hC hh
            obtain ⟨h0, h1, h2, h3, h4, h5, h6, h7, h8, -⟩ := hh
            have g0 : f 0 = _ := h0
            have g1 : f 1 = _ := h1
            have g2 : f 2 = _ := h2
            have g3 : f 3 = _ := h3
            have g4 : f 4 = _ := h4
            have g5 : f 5 = _ := h5
            have g6 : f 6 = _ := h6
            have g7 : f 7 = _ := h7
            have g8 : f 8 = _ := h8
            simp only [puts, List.foldr_cons, List.foldr_nil, List.setIfInBounds_toArray, List.set_cons_succ, List.set_cons_zero, g0, g1, g2, g3, g4, g5, g6, g7, g8]
            clear h0 h1 h2 h3 h4 h5 h6 h7 h8 g0 g1 g2 g3 g4 g5 g6 g7 g8
            have hb3 := hb2.trans (hC.mono hb2.size)
            by_cases h2 : gi ys k < gi xs k
            · have hq2 : decide (gi ys k < gi xs k) = true := decide_eq_true h2
              try rw [hq2]
              have HE : Hid (cmpL xs ys = 1) := Lib.hid (by rw [HC.out, if_neg (Int.not_lt.2 H1.out), if_pos h2])
              clear h2
              go_wp2
              go_ret
              exact ⟨by rw [HE.out]; rfl, hb3⟩
            · have hq2 : decide (gi ys k < gi xs k) = false := decide_eq_false h2
              try rw [hq2]
              have HE : Hid (cmpL xs ys = cmpL (xs.drop (k + 1)) (ys.drop (k + 1))) := Lib.hid (by rw [HC.out, if_neg (Int.not_lt.2 H1.out), if_neg h2])
              clear h2
              go_wp2
              go_roundw
              case rel => exact ⟨k + 1, by omega, by omega, by go_num, HE.out, hb3⟩
              case measure => simp [intOf]; omega
    · have hend : cmpL xs ys = if len < len' then -1 else if len' < len then 1 else 0 := by
        rw [hcmp]
        have h1 : (xs.drop k).length = len - k := by rw [List.length_drop, HX.out]
        have h2 : (ys.drop k).length = len' - k := by rw [List.length_drop, HY.out]
        generalize xs.drop k = X at *
        generalize ys.drop k = Y at *
        match X, Y with
        | [], [] => simp at h1 h2; rw [if_neg (by omega), if_neg (by omega)]; rfl
        | [], _ :: _ => simp at h1 h2; rw [if_pos (by omega)]; rfl
        | _ :: _, [] => simp at h1 h2; rw [if_neg (by omega), if_pos (by omega)]; rfl
        | _ :: _, _ :: _ => simp at h1 h2; omega
      have HE := Lib.hid hend
      clear hend hcmp
      by_cases h1 : len < len'
      · have hd1 : decide ((k : Int) < (len : Int)) = false := decide_eq_false (by omega)
        have hd2 : decide ((len : Int) < (len' : Int)) = true := decide_eq_true (by omega)
        go_wp2
        go_ret
        exact ⟨by rw [HE.out, if_pos h1]; rfl, hb⟩
      · have hd2 : decide ((len : Int) < (len' : Int)) = false := decide_eq_false (by omega)
        by_cases h2 : len' < len
        · have hd1 : decide ((k : Int) < (len : Int)) = true := decide_eq_true (by omega)
          have hd4 : decide ((k : Int) < (len' : Int)) = false := decide_eq_false (by omega)
          have hd3 : decide ((len' : Int) < (len : Int)) = true := decide_eq_true (by omega)
          go_wp2
          go_ret
          exact ⟨by rw [HE.out, if_neg h1, if_pos h2]; rfl, hb⟩
        · have hd1 : decide ((k : Int) < (len : Int)) = false := decide_eq_false (by omega)
          have hd3 : decide ((len' : Int) < (len : Int)) = false := decide_eq_false (by omega)
          go_wp2
          go_ret
          exact ⟨by rw [HE.out, if_neg h1, if_neg h2]; rfl, hb⟩
end Go.Proofs.Ytehdkcjoaogbeaa
