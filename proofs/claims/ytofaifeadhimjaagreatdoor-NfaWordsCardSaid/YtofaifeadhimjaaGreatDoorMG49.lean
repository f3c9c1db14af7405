import Derived.Deep.DeepCutAuto
import Derived.Test.YtofaifeadhimjaaGreatDoorMG8
import Derived.Test.YtofaifeadhimjaaGreatDoorMG9
import Derived.Test.YtofaifeadhimjaaGreatDoorMG25
import Derived.Test.YtofaifeadhimjaaGreatDoorMG29
import Derived.Test.YtofaifeadhimjaaGreatDoorMG32
import Derived.Test.YtofaifeadhimjaaGreatDoorMG37
import Derived.Test.YtofaifeadhimjaaGreatDoorMG42
import Derived.Test.YtofaifeadhimjaaGreatDoorMG43
/-
  NfaRsp, NfaMu, NfaRdp, NfaRd
-/
set_option linter.unusedVariables false
namespace Go.Proofs.YtofaifeadhimjaaGreatDoor

theorem foldW_facts {wl : List Int → Int → List Int} (H : WithLaw wl) : ∀ (ys xs : List Int), xs.Pairwise (· < ·) → (ys.foldl wl xs).Pairwise (· < ·) ∧ ∀ z, z ∈ ys.foldl wl xs ↔ z ∈ xs ∨ z ∈ ys
 | [], xs, h => ⟨h, fun z => by simp⟩
 | y :: ys, xs, h => by
  rw [List.foldl_cons]
  obtain ⟨h1, h2⟩ := foldW_facts H ys (wl xs y) (H.asc xs y h)
  refine ⟨h1, fun z => ?_⟩
  rw [h2, H.mem xs y z h, List.mem_cons, or_assoc]
noncomputable def inS (a : Nfa) (k j : Nat) : Sh := ((letL a.arcs).take j).foldl (sh1 a.arcs (freshN (shk a.arcs a.s (letL a.arcs) k).sets k) (seenN (shk a.arcs a.s (letL a.arcs) k).sets (k + 1)) (gw (shk a.arcs a.s (letL a.arcs) k).words k)) (shk a.arcs a.s (letL a.arcs) k)
theorem inS_zero (a : Nfa) (k : Nat) : inS a k 0 = shk a.arcs a.s (letL a.arcs) k := by
 unfold inS
 rw [List.take_zero, List.foldl_nil]
theorem inS_succ {a : Nfa} {k j : Nat} (hj : j < (letL a.arcs).length) : inS a k (j + 1) = sh1 a.arcs (freshN (shk a.arcs a.s (letL a.arcs) k).sets k) (seenN (shk a.arcs a.s (letL a.arcs) k).sets (k + 1)) (gw (shk a.arcs a.s (letL a.arcs) k).words k) (inS a k j) (gi (letL a.arcs) j) := by
 unfold inS
 rw [take_succ_gi _ _ hj, List.foldl_append, List.foldl_cons, List.foldl_nil]
theorem inS_full {a : Nfa} {k : Nat} (hk : k < (shk a.arcs a.s (letL a.arcs) k).sets.length) (hf : freshN (shk a.arcs a.s (letL a.arcs) k).sets k ≠ []) : inS a k (letL a.arcs).length = shk a.arcs a.s (letL a.arcs) (k + 1) := by
 rw [shk_succ, if_pos ⟨hk, hf⟩]
 unfold inS shs
 have e : ∀ l : List Int, l.take l.length = l := fun l => List.take_length
 generalize shk a.arcs a.s (letL a.arcs) k = st
 generalize letL a.arcs = l
 rw [e]
theorem shk_stay {a : Nfa} {k : Nat} (hf : freshN (shk a.arcs a.s (letL a.arcs) k).sets k = []) : shk a.arcs a.s (letL a.arcs) (k + 1) = shk a.arcs a.s (letL a.arcs) k := by
 rw [shk_succ, if_neg (fun h => h.2 hf)]
theorem sh1_pre (ar : List A3) (F N u : List Int) (st : Sh) (c : Int) : st.sets <+: (sh1 ar F N u st c).sets ∧ st.words <+: (sh1 ar F N u st c).words ∧ (st.words.length = st.sets.length → (sh1 ar F N u st c).words.length = (sh1 ar F N u st c).sets.length) := by
 unfold sh1
 split
 ·exact ⟨List.prefix_refl _, List.prefix_refl _, id⟩
 ·refine ⟨List.prefix_append _ _, List.prefix_append _ _, fun h => ?_⟩
  rw [List.length_append, List.length_append, h, List.length_singleton, List.length_singleton]
theorem fold_pre (ar : List A3) (F N u : List Int) : ∀ (l : List Int) (st : Sh), st.sets <+: (l.foldl (sh1 ar F N u) st).sets ∧ st.words <+: (l.foldl (sh1 ar F N u) st).words ∧ (st.words.length = st.sets.length → (l.foldl (sh1 ar F N u) st).words.length = (l.foldl (sh1 ar F N u) st).sets.length)
 | [], st => ⟨List.prefix_refl _, List.prefix_refl _, id⟩
 | c :: l, st => by
  obtain ⟨h1, h2, h3⟩ := sh1_pre ar F N u st c
  obtain ⟨k1, k2, k3⟩ := fold_pre ar F N u l (sh1 ar F N u st c)
  rw [List.foldl_cons]
  exact ⟨h1.trans k1, h2.trans k2, fun h => k3 (h3 h)⟩
theorem inS_pre (a : Nfa) (k j : Nat) : (shk a.arcs a.s (letL a.arcs) k).sets <+: (inS a k j).sets ∧ (shk a.arcs a.s (letL a.arcs) k).words <+: (inS a k j).words ∧ ((shk a.arcs a.s (letL a.arcs) k).words.length = (shk a.arcs a.s (letL a.arcs) k).sets.length → (inS a k j).words.length = (inS a k j).sets.length) := fold_pre _ _ _ _ _ _
theorem inS_last {a : Nfa} {k j : Nat} (hk : k < (shk a.arcs a.s (letL a.arcs) k).sets.length) (hf : freshN (shk a.arcs a.s (letL a.arcs) k).sets k ≠ []) : (inS a k j).sets <+: (shk a.arcs a.s (letL a.arcs) (k + 1)).sets := by
 rw [← inS_full hk hf]
 unfold inS
 have e : ∀ l : List Int, l.take l.length = l := fun l => List.take_length
 rw [e]
 have h := (fold_pre a.arcs (freshN (shk a.arcs a.s (letL a.arcs) k).sets k) (seenN (shk a.arcs a.s (letL a.arcs) k).sets (k + 1)) (gw (shk a.arcs a.s (letL a.arcs) k).words k) ((letL a.arcs).drop j) (((letL a.arcs).take j).foldl (sh1 a.arcs (freshN (shk a.arcs a.s (letL a.arcs) k).sets k) (seenN (shk a.arcs a.s (letL a.arcs) k).sets (k + 1)) (gw (shk a.arcs a.s (letL a.arcs) k).words k)) (shk a.arcs a.s (letL a.arcs) k))).1
 rw [← List.foldl_append, List.take_append_drop] at h
 exact h
theorem shk_pre (a : Nfa) (k : Nat) : (shk a.arcs a.s (letL a.arcs) k).sets <+: (shk a.arcs a.s (letL a.arcs) (k + 1)).sets := by
 rw [shk_succ]
 split
 ·exact (fold_pre _ _ _ _ _ _).1
 ·exact List.prefix_refl _
theorem gw_pre {xs ys : List (List Int)} (h : xs <+: ys) {i : Nat} (hi : i < xs.length) : gw ys i = gw xs i := by
 obtain ⟨t, rfl⟩ := h
 exact gw_left hi
theorem seenN_pre {xs ys : List (List Int)} (h : xs <+: ys) {i : Nat} (hi : i ≤ xs.length) : seenN ys i = seenN xs i := by
 obtain ⟨t, rfl⟩ := h
 exact seenN_left hi
theorem seen_next {wl : List Int → Int → List Int} (H : WithLaw wl) {n : Int} {sets : List (List Int)} (hn : n ≤ 4096) (hb : ∀ s ∈ sets, Bd n s) {i : Nat} (hi : i < sets.length) : (gw sets i).foldl wl (seenN sets i) = seenN sets (i + 1) := by
 obtain ⟨h1, h2⟩ := foldW_facts H (gw sets i) (seenN sets i) (setN_asc _)
 refine pairwise_ext h1 (setN_asc _) fun z => ?_
 rw [h2, mem_seenN hn hb, mem_seenN hn hb]
 constructor
 ·rintro (⟨j, h1, h2, h3⟩ | h)
  ·exact ⟨j, by omega, h2, h3⟩
  ·exact ⟨i, by omega, hi, h⟩
 ·rintro ⟨j, h1, h2, h3⟩
  rcases Nat.lt_or_ge j i with h | h
  ·exact .inl ⟨j, h, h2, h3⟩
  ·exact .inr (by rw [show i = j by omega]; exact h3)
theorem seenN_zero (sets : List (List Int)) : seenN sets 0 = [] := by
 unfold seenN
 rw [List.take_zero]
 unfold setN
 rw [List.map_eq_nil_iff, List.filter_eq_nil_iff]
 intro n _
 simp
theorem seenN_bd {n : Int} {sets : List (List Int)} (hn : n ≤ 4096) (hb : ∀ s ∈ sets, Bd n s) (i : Nat) : Bd n (seenN sets i) := fun z hz => by
 obtain ⟨j, _, h2, h3⟩ := (mem_seenN hn hb).1 hz
 exact hb _ (gw_mem h2) z h3
theorem setAt_asc (ar : List A3) (F N : List Int) (c : Int) : (setAt ar F N c).Pairwise (· < ·) := by
 unfold setAt stpL movL
 exact (cloL_asc _ _).filter _
theorem fold_asc (ar : List A3) (F N u : List Int) : ∀ (l : List Int) (st : Sh), (∀ s ∈ st.sets, s.Pairwise (· < ·)) → ∀ s ∈ (l.foldl (sh1 ar F N u) st).sets, s.Pairwise (· < ·)
 | [], st, h => h
 | c :: l, st, h => by
  rw [List.foldl_cons]
  refine fold_asc ar F N u l _ ?_
  unfold sh1
  split
  ·exact h
  ·intro s hs
   rcases List.mem_append.1 hs with hs | hs
   ·exact h s hs
   ·rw [List.mem_singleton.1 hs]; exact setAt_asc _ _ _ _
theorem shk_asc (ar : List A3) (start lets : List Int) : ∀ k, ∀ s ∈ (shk ar start lets k).sets, s.Pairwise (· < ·)
 | 0 => by
  rw [shk_zero]
  intro s hs
  rw [List.mem_singleton.1 hs]
  exact cloL_asc _ _
 | k + 1 => by
  have ih := shk_asc ar start lets k
  rw [shk_succ]
  split
  ·exact fold_asc _ _ _ _ _ _ ih
  ·exact ih
end Go.Proofs.YtofaifeadhimjaaGreatDoor

set_option linter.unusedSimpArgs false
set_option linter.unusedVariables false
namespace Go.Proofs.YtofaifeadhimjaaGreatDoor.Bt
open Go.RowKit
attribute [local go_sem] Oper.semAt_some

set_option maxRecDepth 20000 in
set_option maxHeartbeats 1000000 in
theorem refMinus_any (a : Option Addr) (len cap : Nat) (xs : List Int) (a' : Option Addr) (len' cap' : Nat) (ys : List Int) (w : World) (hs : IsInts .i64 w a len cap xs) (hl : len ≤ 1000000) (hs' : IsInts .i64 w a' len' cap' ys) (hl' : len' ≤ 9223372036854775800) :
  Calls Tryz.prog 30 #[.slice a len cap, .slice a' len' cap'] w fun e w' => ∃ a3 n3 c3, e = .returned (.slice a3 n3 c3) ∧ w'.ownsRow w.heap.size 3 1 (.slice a3 n3 c3) n3 (ivs .i64 (xs.filter (fun x => !decide (x ∈ ys)))) ∧ Below w.heap.size w w' := by
 have HX : Hid (xs.length = len) := Lib.hid hs.length
 go_enter Tryz.func30, Tryz.ntmps30
 go_wp2
 go_loopw [5, 6] (fun v c W => ∃ k ao no co, k ≤ len ∧ c = .int .i64 (k : Int) ∧ v = .slice ao no co ∧ no ≤ k ∧ W.ownsRow w.heap.size 3 1 (.slice ao no co) no (ivs .i64 ((xs.take k).filter (fun x => !decide (x ∈ ys)))) ∧ Below w.heap.size w W) (fun _ c _ => len - (intOf c).toNat)
 case atStart => exact ⟨0, none, 0, 0, Nat.zero_le _, rfl, rfl, Nat.le_refl _, World.ownsRow_nil _ _ _ _, Below.refl _ _⟩
 case round =>
  obtain ⟨k, ao, no, co, hk, rfl, rfl, hno, ho, hb⟩ := hrel
  rcases Nat.lt_or_ge k len with hlt | hge
  ·obtain ⟨b, off, rfl, hbl, hc⟩ := hs.at wr hb k hlt
   have hkx : k < xs.length := by rw [HX.out]; exact hlt
   have hs1 := hs'.later hb
   cases hp : (fun x => !decide (x ∈ ys)) (gi xs k) with
   | true =>
    have hq : decide (gi xs k ∈ ys) = false := by simpa using hp
    have HF := Lib.hid (filter_yes (p := (fun x => !decide (x ∈ ys))) hkx hp)
    clear hp hs
    go_wp2_with (first | (go_at_call 51; refine (refHas_any _ _ _ ys _ _ hs1 hl').mono ?_; rintro e w' ⟨rfl, rfl⟩) | (at_builtin; refine app_one (k := .i64) elI64 rfl _ _ rfl rfl ho rfl (by omega) hb.size ?_; intro a3 c3 w3 ho3 hb3))
    go_roundw
    case rel => exact ⟨k + 1, a3, no + 1, c3, hlt, by go_num, rfl, by omega, by rw [HF.out]; exact ho3, hb.trans hb3⟩
    case measure => simp [intOf]; omega
   | false =>
    have hq : decide (gi xs k ∈ ys) = true := by simpa using hp
    have HF := Lib.hid (filter_no (p := (fun x => !decide (x ∈ ys))) hkx hp)
    clear hp hs
    go_wp2_with (go_at_call 51; refine (refHas_any _ _ _ ys _ _ hs1 hl').mono ?_; rintro e w' ⟨rfl, rfl⟩)
    go_roundw
    case rel => exact ⟨k + 1, ao, no, co, hlt, by go_num, rfl, by omega, by rw [HF.out]; exact ho, hb⟩
    case measure => simp [intOf]; omega
  ·have hkm : k = len := by omega
   subst hkm
   rw [List.take_of_length_le (by rw [HX.out]; exact Nat.le_refl _)] at ho
   go_wp2
   go_ret
   exact ⟨ao, no, co, rfl, ho, hb⟩

set_option maxRecDepth 20000 in
set_option maxHeartbeats 1000000 in
theorem refUnion_any (a : Option Addr) (len cap : Nat) (xs : List Int) (a' : Option Addr) (len' cap' : Nat) (ys : List Int) (w : World) (hs : IsInts .i64 w a len cap xs) (hs' : IsInts .i64 w a' len' cap' ys) (hl : len ≤ 100000) (hl' : len' ≤ 100000) :
  Calls Tryz.prog 31 #[.slice a len cap, .slice a' len' cap'] w fun e w' => ∃ a3 n3 c3, e = .returned (.slice a3 n3 c3) ∧ w'.ownsRow w.heap.size 3 1 (.slice a3 n3 c3) n3 (ivs .i64 (unionL xs ys)) ∧ Below w.heap.size w w' := by
 have HX : Hid (xs.length = len) := Lib.hid hs.length
 have HY : Hid (ys.length = len') := Lib.hid hs'.length
 have hs1 := hs.later ((Below.refl _ w).alloc (Nat.le_refl _) (.cells #[] 3))
 go_enter Tryz.func31, Tryz.ntmps31
 go_wp2_with (at_builtin; refine app_ints0 (k := .i64) (v := .slice (some ⟨w.heap.size, 0, none⟩) 0 0) elI64 rfl _ _ rfl rfl (World.ownsRow_made _ _ _ (Nat.le_refl _) (by decide) rfl) rfl hs1 (by omega) (by simp) ?_; intro a2 c2 w2 ho2 hgr hbel hnil; clear hnil hgr; have hb2 : Below w.heap.size w w2 := ((Below.refl _ w).alloc (Nat.le_refl _) _).trans hbel; clear hbel)
 go_loopw [5, 6] (fun v c W => ∃ k ao no co, k ≤ len' ∧ c = .int .i64 (k : Int) ∧ v = .slice ao no co ∧ no ≤ len + k ∧ W.ownsRow w.heap.size 3 1 (.slice ao no co) no (ivs .i64 (unionL xs (ys.take k))) ∧ Below w.heap.size w W) (fun _ c _ => len' - (intOf c).toNat)
 case atStart => exact ⟨0, a2, len, c2, Nat.zero_le _, rfl, rfl, Nat.le_refl _, ho2, hb2⟩
 case round =>
  obtain ⟨k, ao, no, co, hk, rfl, rfl, hno, ho, hb⟩ := hrel
  rcases Nat.lt_or_ge k len' with hlt | hge
  ·obtain ⟨b, off, rfl, hbl, hc⟩ := hs'.at wr hb k hlt
   have HU := Lib.hid (unionL_snoc xs ys k (by rw [HY.out]; exact hlt))
   have hnl := owns_len ho
   have hwl := withL_len (unionL xs (ys.take k)) (gi ys k)
   have hul : (unionL xs (ys.take k)).length ≤ len + k := by rw [← hnl]; exact hno
   clear hnl
   have hW := refWith_any ao no co _ (gi ys k) wr (IsInts.of_owns ho).1 (by omega)
   clear hs hs' hs1 ho2
   go_wp2_with (go_at_call 52; with_reducible refine hW.mono ?_; rintro e w3 ⟨a3, n3, c3, rfl, ho3, hb3⟩; have hn3 := Lib.hid (owns_len ho3))
   go_roundw
   case rel => exact ⟨k + 1, a3, n3, c3, hlt, by go_num, rfl, by have := hn3.out; omega, by rw [HU.out]; exact ho3.from_mono hb.size, hb.trans (hb3.mono hb.size)⟩
   case measure => simp [intOf]; omega
  ·have hkm : k = len' := by omega
   subst hkm
   rw [List.take_of_length_le (by rw [HY.out]; exact Nat.le_refl _)] at ho
   go_wp2
   go_ret
   exact ⟨ao, no, co, rfl, ho, hb⟩


end Go.Proofs.YtofaifeadhimjaaGreatDoor.Bt

set_option linter.unusedVariables false
namespace Go.Proofs.YtofaifeadhimjaaGreatDoor

theorem gwl_gw (l : List (List Int)) (i : Nat) : gwl l i = gw l i := rfl
theorem letL_len' (ar : List A3) : (letL ar).length ≤ 10001 := by
 unfold letL
 rw [List.length_map]
 exact Nat.le_trans (List.length_filter_le _ _) (by rw [List.length_range]; exact Nat.le_refl _)
end Go.Proofs.YtofaifeadhimjaaGreatDoor

set_option linter.unusedSimpArgs false
set_option linter.unusedVariables false
namespace Go.Proofs.YtofaifeadhimjaaGreatDoor
open Go.RowKit
attribute [local go_sem] Oper.semAt_some

theorem elRL : Elem Tryz.prog 69 22 (.slice none 0 0) 1 24 := ⟨Tryz.underlying69, by kernel_rfl, rfl, by decide⟩
section
variable {W W' : World} {B po c : Nat} {cs : Array Value} {a : Option Addr} {vS vF vA : Value} {vs : List Wd} {fs : List Bool} {A : List A3} {X : List Pc}
end
end Go.Proofs.YtofaifeadhimjaaGreatDoor
