/-
  Reading digits: the program's Parse and the reference's return the same.
-/
import Derived.Test.YtoicaacndkjjoaaSumC
import Derived.Test.YtoicaacndkjjoaaShelf
namespace Go.Proofs.Ytoicaacndkjjoaa
open Go.RowKit

/-- The number of a digit, -1 for another byte. -/
def hv (c : UInt8) : Int := if 48 ≤ c ∧ c ≤ 57 then (c.toNat : Int) - 48 else if 97 ≤ c ∧ c ≤ 102 then (c.toNat : Int) - 87 else -1
/-- The number with digits. -/
def pv (l : List UInt8) : Int := l.foldl (fun a c => a * 16 + hv c) 0
theorem pv_snoc (l : List UInt8) (c : UInt8) : pv (l ++ [c]) = pv l * 16 + hv c := by simp [pv]
/-- All bytes are digits. -/
def goodL (l : List UInt8) : Bool := l.all fun c => 0 ≤ hv c
theorem goodL_snoc (l : List UInt8) (c : UInt8) : goodL (l ++ [c]) = (goodL l && decide (0 ≤ hv c)) := by simp [goodL]

theorem hv_index : ∀ n : Fin 256, Lib.indexByte [48, 49, 50, 51, 52, 53, 54, 55, 56, 57, 97, 98, 99, 100, 101, 102] (UInt8.ofNat n.val) = hv (UInt8.ofNat n.val) := by decide +kernel
theorem hv_idx (c : UInt8) : Lib.indexByte [48, 49, 50, 51, 52, 53, 54, 55, 56, 57, 97, 98, 99, 100, 101, 102] c = hv c := by
  have := hv_index ⟨c.toNat, c.toNat_lt⟩
  simpa using this
theorem hv_bd : ∀ n : Fin 256, -1 ≤ hv (UInt8.ofNat n.val) ∧ hv (UInt8.ofNat n.val) ≤ 15 := by decide +kernel
theorem hv_b (c : UInt8) : -1 ≤ hv c ∧ hv c ≤ 15 := by
  have := hv_bd ⟨c.toNat, c.toNat_lt⟩
  simpa using this

theorem idx_any (c : UInt8) (w : World) :
    Calls Try.prog 23 #[.string ⟨#[48, 49, 50, 51, 52, 53, 54, 55, 56, 57, 97, 98, 99, 100, 101, 102]⟩, .int .u8 (c.toNat : Int)] w fun e w' => e = .returned (.int .i64 (hv c)) ∧ w = w' := by
  refine (Try.strings_IndexByte _ _ w).mono fun e w' ⟨he, hw⟩ => ⟨?_, hw.symm⟩
  rw [he]
  have : ((c.toNat : Int)).toNat.toUInt8 = c := by simp
  rw [this]
  exact ret_int (hv_idx c)

theorem take_snoc (s : ByteArray) (k : Nat) (h : k < s.size) : s.data.toList.take (k + 1) = s.data.toList.take k ++ [s[k]] := by
  rw [List.take_succ_eq_append_getElem (by simpa using h)]; rfl

/-- The results of Parse. -/
def parseV (l : List UInt8) : Value := if l.length = 16 ∧ goodL l = true then .tuple #[.int .u64 (pv l), .int .i64 0] else .tuple #[.int .u64 0, .int .i64 3]

theorem pv_bd (l : List UInt8) (h : goodL l = true) : 0 ≤ pv l ∧ pv l < 16 ^ l.length := by
  suffices H : ∀ (r : List UInt8), goodL r.reverse = true → 0 ≤ pv r.reverse ∧ pv r.reverse < 16 ^ r.length by
    have := H l.reverse (by simpa using h)
    simpa using this
  intro r
  induction r with
  | nil => intro _; simp [pv]
  | cons c l ih =>
    intro h
    rw [List.reverse_cons] at h ⊢
    rw [goodL_snoc, Bool.and_eq_true] at h
    have := ih h.1
    have hc := h.2
    simp at hc
    have hb := hv_b c
    rw [pv_snoc, List.length_cons, Int.pow_succ]
    omega

theorem parseV_no {l : List UInt8} (h : ¬ (l.length = 16 ∧ goodL l = true)) : parseV l = .tuple #[.int .u64 0, .int .i64 3] := if_neg h
theorem parseV_yes {l : List UInt8} (h : l.length = 16) (g : goodL l = true) : parseV l = .tuple #[.int .u64 (pv l), .int .i64 0] := if_pos ⟨h, g⟩
theorem ret_eq {a b : Value} (h : a = b) : Ending.returned a = .returned b := by rw [h]
theorem good_take {l : List UInt8} (k : Nat) (h : goodL (l.take k) = false) : goodL l = false := by
  cases hl : goodL l with
  | false => rfl
  | true =>
    rw [goodL, List.all_eq_true] at hl
    rw [goodL, List.all_eq_false] at h
    obtain ⟨x, hx, hn⟩ := h
    exact absurd (hl x (List.mem_of_mem_take hx)) hn

theorem or_join (p d : Int) (h0 : 0 ≤ p) (h1 : p < 1152921504606846976) (h2 : 0 ≤ d) (h3 : d ≤ 15) : bits BinOp.or IntKind.u64 (IntKind.u64.wrap (p * 16)) d = p * 16 + d := by
  rw [show IntKind.u64.wrap (p * 16) = p * 16 from IntWalk.u64_in _ (by omega), u64_or _ _ (by omega) (by omega) h2 (by omega), nat_join 4 _ _ (by omega) (by omega)]
  omega
theorem pow16 (k : Nat) (h : k < 16) : (16 : Int) ^ k ≤ 1152921504606846976 := by
  have := Nat.pow_le_pow_right (n := 16) (by decide) (show k ≤ 15 by omega)
  have e : ((16 ^ k : Nat) : Int) = (16 : Int) ^ k := by simp
  omega

theorem parse_any (s : ByteArray) (w : World) :
    Calls Try.prog 15 #[.string s] w fun e w' => e = .returned (parseV s.data.toList) ∧ w = w' := by
  by_cases h16 : s.size = 16
  · have hne : ((s.size : Int) != 16) = false := by simp [h16]
    have H16 := Lib.hid h16
    have h16a : s.size ≤ 16 := by omega
    have h16b : 16 ≤ s.size := by omega
    clear h16
    go_enter Try.func15, Try.ntmps15
    go_wp2
    go_loop [4, 12] (fun h i => ∃ k : Nat, k ≤ 16 ∧ i = .int .i64 k ∧ h = .int .u64 (pv (s.data.toList.take k)) ∧ goodL (s.data.toList.take k) = true) (fun _ i => 16 - (intOf i).toNat)
    case atStart => exact ⟨0, Nat.zero_le _, rfl, rfl, rfl⟩
    case round =>
      obtain ⟨k, hk, rfl, rfl, hg⟩ := hrel
      have HG := Lib.hid hg
      clear hg
      by_cases hlt : k < s.size
      · have hb := hv_b s[k]
        have hp := pv_bd _ HG.out
        have HT := Lib.hid (take_snoc s k hlt)
        by_cases hd : hv s[k] < 0
        · go_wp2_with (go_at_call 23; refine (idx_any _ _).mono ?_; rintro e w' ⟨rfl, rfl⟩)
          go_ret2
          exact ⟨ret_eq (parseV_no (fun h => by
            have := good_take (l := s.data.toList) (k + 1) (by rw [HT.out, goodL_snoc, HG.out]; simp; omega)
            rw [this] at h
            exact Bool.noConfusion h.2)).symm, rfl⟩
        · go_wp2_with (go_at_call 23; refine (idx_any _ _).mono ?_; rintro e w' ⟨rfl, rfl⟩)
          go_round
          have hlen : (s.data.toList.take k).length = k := by simp; omega
          rw [hlen] at hp
          have hpk := pow16 k (by omega)
          case rel =>
            refine ⟨k + 1, by omega, by go_num, ?_, ?_⟩
            · rw [HT.out, pv_snoc, or_join _ _ (by omega) (by omega) (by omega) (by omega)]
            · rw [HT.out, goodL_snoc, HG.out]; simp; omega
          case measure => simp [intOf]; omega
      · go_wp2
        go_ret2
        have hall : s.data.toList.take k = s.data.toList := List.take_of_length_le (by simp; omega)
        rw [hall]
        rw [hall] at HG
        exact ⟨ret_eq (parseV_yes (by simp; exact H16.out) HG.out).symm, rfl⟩
  · have hne : ((s.size : Int) != 16) = true := by simp; omega
    go_enter Try.func15, Try.ntmps15
    go_wp2
    go_ret2
    exact ⟨ret_eq (parseV_no (by simp; omega)).symm, rfl⟩

theorem hv_dig {c : UInt8} (h0 : 48 ≤ (c.toNat : Int)) (h1 : (c.toNat : Int) ≤ 57) : hv c = c.toNat - 48 := by
  have a : 48 ≤ c ∧ c ≤ 57 := by simp only [UInt8.le_iff_toNat_le]; constructor <;> simp <;> omega
  rw [hv, if_pos a]
theorem hv_let {c : UInt8} (h0 : 97 ≤ (c.toNat : Int)) (h1 : (c.toNat : Int) ≤ 102) : hv c = c.toNat - 87 := by
  have a : ¬ (48 ≤ c ∧ c ≤ 57) := by simp only [UInt8.le_iff_toNat_le]; simp; omega
  have b : 97 ≤ c ∧ c ≤ 102 := by simp only [UInt8.le_iff_toNat_le]; constructor <;> simp <;> omega
  rw [hv, if_neg a, if_pos b]
theorem hv_bad {c : UInt8} (h0 : ¬ (48 ≤ (c.toNat : Int) ∧ (c.toNat : Int) ≤ 57)) (h1 : ¬ (97 ≤ (c.toNat : Int) ∧ (c.toNat : Int) ≤ 102)) : hv c = -1 := by
  have a : ¬ (48 ≤ c ∧ c ≤ 57) := by simp only [UInt8.le_iff_toNat_le]; simp; omega
  have b : ¬ (97 ≤ c ∧ c ≤ 102) := by simp only [UInt8.le_iff_toNat_le]; simp; omega
  rw [hv, if_neg a, if_neg b]

theorem refParse_any (s : ByteArray) (w : World) (hs : s.size ≤ 9223372036854775807) :
    Calls Try.prog 16 #[.string s] w fun e w' => e = .returned (parseV s.data.toList) ∧ w = w' := by
  go_enter Try.func16, Try.ntmps16
  go_wp2
  go_loop [4, 5] (fun h i => ∃ k : Nat, k ≤ s.size ∧ i = .int .i64 k ∧ (∃ x, h = .int .u64 x ∧ x = pv (s.data.toList.take k) % 18446744073709551616) ∧ goodL (s.data.toList.take k) = true) (fun _ i => s.size - (intOf i).toNat)
  case atStart => exact ⟨0, Nat.zero_le _, rfl, ⟨_, rfl, rfl⟩, rfl⟩
  case round =>
    obtain ⟨k, hk, rfl, ⟨x, rfl, hx⟩, hg⟩ := hrel
    have HG := Lib.hid hg
    have HX := Lib.hid hx
    clear hg hx
    by_cases hlt : k < s.size
    · have HT := Lib.hid (take_snoc s k hlt)
      go_wp2
      · go_round
        have a1 : 48 ≤ (s[k].toNat : Int) := by assumption
        have a2 : (s[k].toNat : Int) ≤ 57 := by assumption
        have a3 := hv_dig a1 a2
        have hx := HX.out
        case rel =>
          refine ⟨k + 1, by omega, by go_num, ⟨_, rfl, ?_⟩, ?_⟩
          · rw [HT.out, pv_snoc, a3, hx]; simp only [IntKind.wrap_u64]; omega
          · rw [HT.out, goodL_snoc, HG.out, a3]; simp; omega
        case measure => simp [intOf]; omega
      · go_round
        have a1 : 97 ≤ (s[k].toNat : Int) := by assumption
        have a2 : (s[k].toNat : Int) ≤ 102 := by assumption
        have a3 := hv_let a1 a2
        have hx := HX.out
        case rel =>
          refine ⟨k + 1, by omega, by go_num, ⟨_, rfl, ?_⟩, ?_⟩
          · rw [HT.out, pv_snoc, a3, hx]; simp only [IntKind.wrap_u64]; omega
          · rw [HT.out, goodL_snoc, HG.out, a3]; simp; omega
        case measure => simp [intOf]; omega
      all_goals
        go_ret2
        refine ⟨ret_eq (parseV_no (fun h => ?_)).symm, rfl⟩
        have hb : hv s[k] = -1 := by apply hv_bad <;> omega
        have := good_take (l := s.data.toList) (k + 1) (by rw [HT.out, goodL_snoc, HG.out, hb]; rfl)
        rw [this] at h
        exact Bool.noConfusion h.2
    · go_wp2
      · go_ret2
        have hne : ((s.size : Int) != 16) = true := by assumption
        exact ⟨ret_eq (parseV_no (fun h => by have := h.1; simp at this; rw [this] at hne; exact absurd hne (by decide))).symm, rfl⟩
      · go_ret2
        have hne : ((s.size : Int) != 16) = false := by assumption
        have h16i : (s.size : Int) = 16 := by simpa using hne
        have h16 : s.size = 16 := by omega
        have hall : s.data.toList.take k = s.data.toList := List.take_of_length_le (by simp; omega)
        have hx := HX.out
        rw [hall] at HG hx
        have hp := pv_bd _ HG.out
        have hl : s.data.toList.length = 16 := by simpa using h16
        rw [hl] at hp
        have : x = pv s.data.toList := by rw [hx]; exact Int.emod_eq_of_lt hp.1 hp.2
        exact ⟨ret_eq ((congrArg (fun y => Value.tuple #[.int .u64 y, .int .i64 0]) this).trans (parseV_yes hl HG.out).symm), rfl⟩
end Go.Proofs.Ytoicaacndkjjoaa
