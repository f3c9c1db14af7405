/-
  The hash of package sum and of its reference; the eight bytes of a number; lists of bytes; a turned byte turns the hash.
-/
import Derived.Test.YtpmhnmkpmkeadaaLib
import Derived.Test.YtpmhnmkpmkeadaaFam
import Derived.Outline
import Derived.Handy
import Derived.WalkLawsBesides
set_option linter.unusedSimpArgs false
set_option linter.unusedVariables false
namespace Go.Proofs.Ytpmhnmkpmkeadaa
open Go.RowKit

/-- One step of the hash, in the walk's own spelling. -/
def stepH (x c : Int) : Int := IntKind.u64.wrap (bits BinOp.xor IntKind.u64 x (IntKind.u64.wrap c) * 1099511628211)
/-- The hash from a seed. -/
def fromH (s : Int) (zs : List Int) : Int := zs.foldl stepH s
theorem fromH_snoc (s : Int) (zs : List Int) (k : Nat) (h : k < zs.length) : fromH s (zs.take (k + 1)) = stepH (fromH s (zs.take k)) (gi zs k) := by
  rw [take_succ_gi zs k h, fromH, List.foldl_append]; rfl

theorem from_any (seed : Int) (a : Option Addr) (len cap : Nat) (zs : List Int) (w : World) (hs : IsInts .u8 w a len cap zs) :
    Calls Try.prog 39 #[.int .u64 seed, .slice a len cap] w fun e w' => e = .returned (.int .u64 (fromH seed zs)) ∧ w = w' := by
  rcases hs with ⟨rfl, rfl, rfl, rfl⟩ | ⟨b, off, rfl, hl, hcm, hz, hc⟩
  · go_enter Try.func39, Try.ntmps39
    go_wp2
    refine wp_loop_rounds 1 ?_
    rw [rounds_succ]
    go_wp2
    go_ret
    exact ⟨rfl, rfl⟩
  · unfold maxLen at hcm
    have HZ := Lib.hid hz
    clear hz
    go_enter Try.func39, Try.ntmps39
    go_wp2
    go_loop [0, 9] (fun t i => ∃ k : Nat, k ≤ len ∧ i = .int .i64 k ∧ t = .int .u64 (fromH seed (zs.take k))) (fun _ i => len - (intOf i).toNat)
    case atStart => exact ⟨0, Nat.zero_le _, rfl, rfl⟩
    case round =>
      obtain ⟨k, hk, rfl, rfl⟩ := hrel
      have hcell : k < len → w.cell? ⟨b, off + k, none⟩ = some (.int .u8 (gi zs k)) := fun _ => hc k (by omega)
      go_wp2
      · go_round
        have hlt : k < len := by assumption
        case rel => exact ⟨k + 1, by omega, by go_num, by rw [fromH_snoc _ _ _ (by rw [HZ.out]; exact hlt)]; rfl⟩
        case measure => simp [intOf]; omega
      · go_ret
        have hge : ¬ k < len := by assumption
        exact ⟨ret_int (by rw [List.take_of_length_le (by rw [HZ.out]; omega)]), rfl⟩

theorem refFrom_any (seed : Int) (a : Option Addr) (len cap : Nat) (zs : List Int) (w : World) (hs : IsInts .u8 w a len cap zs) :
    Calls Try.prog 33 #[.int .u64 seed, .slice a len cap] w fun e w' => e = .returned (.int .u64 (fromH seed zs)) ∧ w = w' := by
  rcases hs with ⟨rfl, rfl, rfl, rfl⟩ | ⟨b, off, rfl, hl, hcm, hz, hc⟩
  · go_enter Try.func33, Try.ntmps33
    go_wp2
    refine wp_loop_rounds 1 ?_
    rw [rounds_succ]
    go_wp2
    go_ret
    exact ⟨rfl, rfl⟩
  · unfold maxLen at hcm
    have HZ := Lib.hid hz
    clear hz
    go_enter Try.func33, Try.ntmps33
    go_wp2
    go_loop [5, 6] (fun t i => ∃ k : Nat, k ≤ len ∧ i = .int .i64 k ∧ t = .int .u64 (fromH seed (zs.take k))) (fun _ i => len - (intOf i).toNat)
    case atStart => exact ⟨0, Nat.zero_le _, rfl, rfl⟩
    case round =>
      obtain ⟨k, hk, rfl, rfl⟩ := hrel
      have hcell : k < len → w.cell? ⟨b, off + k, none⟩ = some (.int .u8 (gi zs k)) := fun _ => hc k (by omega)
      go_wp2
      · go_round
        have hlt : k < len := by assumption
        case rel => exact ⟨k + 1, by omega, by go_num, by rw [fromH_snoc _ _ _ (by rw [HZ.out]; exact hlt)]; rfl⟩
        case measure => simp [intOf]; omega
      · go_ret
        have hge : ¬ k < len := by assumption
        exact ⟨ret_int (by rw [List.take_of_length_le (by rw [HZ.out]; omega)]), rfl⟩

/-- The eight bytes of a number, the most significant first. -/
def eightL (h : Int) : List Int := [h / 72057594037927936, h / 281474976710656 % 256, h / 1099511627776 % 256, h / 4294967296 % 256, h / 16777216 % 256, h / 65536 % 256, h / 256 % 256, h % 256]

theorem mk8 (w : World) : (Instr.makeSlice 24 (.int .i64 8) (.int .i64 8)).run Try.prog w = .ok (.slice (some ⟨w.heap.size, 0, none⟩) 8 8) (w.alloc (.cells #[.int .u8 0, .int .u8 0, .int .u8 0, .int .u8 0, .int .u8 0, .int .u8 0, .int .u8 0, .int .u8 0] 5)) := by kernel_rfl

theorem eightL_eq (h : Int) : eightL h = [h / 256 / 256 / 256 / 256 / 256 / 256 / 256 % 256, h / 256 / 256 / 256 / 256 / 256 / 256 % 256, h / 256 / 256 / 256 / 256 / 256 % 256, h / 256 / 256 / 256 / 256 % 256, h / 256 / 256 / 256 % 256, h / 256 / 256 % 256, h / 256 % 256, h % 256] ∨ h < 0 ∨ 18446744073709551616 ≤ h := by
  by_cases h0 : 0 ≤ h
  · by_cases h1 : h < 18446744073709551616
    · left; unfold eightL; simp only [List.cons.injEq, and_true]; refine ⟨?_, ?_, ?_, ?_, ?_, ?_⟩ <;> first | rfl | omega
    · right; right; omega
  · right; left; omega

theorem refEight_any (h : Int) (w : World) (h0 : 0 ≤ h) (h1 : h < 18446744073709551616) :
    Calls Try.prog 34 #[.int .u64 h] w fun e w' => ∃ a c, e = .returned (.slice a 8 c) ∧ w'.ownsRow w.heap.size 5 1 (.slice a 8 c) 8 (ivs .u8 (eightL h)) ∧ Below w.heap.size w w' := by
  have hmk := mk8
  go_enter Try.func34, Try.ntmps34
  go_wp2
  go_rounds 9
  refine bodyPost_ret (results_tmp rfl _ _ _) rfl ⟨_, _, rfl, ⟨?_, .inr ⟨_, 8, _, rfl, Nat.le_refl _, heap_alloc_new w _, Nat.le_refl _, by decide, rfl, ?_⟩⟩, (Below.refl _ _).alloc (Nat.le_refl _) _⟩
  · rfl
  · rcases eightL_eq h with e | e | e
    · rw [e]; rfl
    · omega
    · omega

theorem elU8 : Elem Try.prog 24 5 (.int .u8 0) 1 1 := ⟨Try.underlying24, by kernel_rfl, rfl, by decide⟩
theorem mixed : Try.prog.follows .mixedOrders = true := by kernel_rfl

/-- The predicate of a slice that reads as numbers. -/
def SlP (k : IntKind) (n : Nat) (zs : List Int) : Value → World → Prop := fun v W => ∃ a c, v = .slice a n c ∧ IsInts k W a n c zs
theorem stays_sl (k : IntKind) (n : Nat) (zs : List Int) : Stays (SlP k n zs) := fun _ _ _ hb ⟨a, c, e, h⟩ => ⟨a, c, e, h.later hb⟩

theorem stepH_bd (x c : Int) : 0 ≤ stepH x c ∧ stepH x c < 18446744073709551616 := by
  unfold stepH
  rw [IntKind.wrap_u64]
  omega
theorem fromH_bd (s : Int) (zs : List Int) (h0 : 0 ≤ s) (h1 : s < 18446744073709551616) : 0 ≤ fromH s zs ∧ fromH s zs < 18446744073709551616 := by
  unfold fromH
  induction zs generalizing s with
  | nil => exact ⟨h0, h1⟩
  | cons z zs ih => exact ih _ (stepH_bd s z).1 (stepH_bd s z).2

/-- A list of bytes. -/
def Bytes (zs : List Int) : Prop := ∀ z ∈ zs, 0 ≤ z ∧ z < 256
theorem Bytes.take {zs : List Int} (h : Bytes zs) (n : Nat) : Bytes (zs.take n) := fun z hz => h z (List.mem_of_mem_take hz)
theorem Bytes.drop {zs : List Int} (h : Bytes zs) (n : Nat) : Bytes (zs.drop n) := fun z hz => h z (List.mem_of_mem_drop hz)
theorem Bytes.append {xs ys : List Int} (h : Bytes xs) (k : Bytes ys) : Bytes (xs ++ ys) := fun z hz => by
  rcases List.mem_append.1 hz with hz | hz
  · exact h z hz
  · exact k z hz
theorem bsOf_toList (zs : List Int) : (bsOf zs).toList = zs.map fun n => UInt8.ofNat n.toNat := by
  rw [ByteArray.toList_eq]; rfl
theorem bsOf_inj {xs ys : List Int} (hx : Bytes xs) (hy : Bytes ys) (h : (bsOf xs).toList = (bsOf ys).toList) : xs = ys := by
  rw [bsOf_toList, bsOf_toList] at h
  have back : ∀ zs : List Int, Bytes zs → (zs.map fun n => UInt8.ofNat n.toNat).map (fun u => (u.toNat : Int)) = zs := by
    intro zs hz
    induction zs with
    | nil => rfl
    | cons z zs ih =>
      have hz0 := hz z List.mem_cons_self
      simp only [List.map_cons, List.cons.injEq]
      refine ⟨?_, ih fun y hy => hz y (List.mem_cons_of_mem _ hy)⟩
      simp
      omega
  have := congrArg (List.map fun u : UInt8 => (u.toNat : Int)) h
  rwa [back xs hx, back ys hy] at this
theorem bsOf_eq {xs ys : List Int} (hx : Bytes xs) (hy : Bytes ys) : ((bsOf xs).toList == (bsOf ys).toList) = decide (xs = ys) := by
  by_cases h : xs = ys
  · subst h; simp
  · simp only [h, decide_false]
    exact beq_eq_false_iff_ne.2 fun e => h (bsOf_inj hx hy e)
theorem eightL_bytes (h : Int) (h0 : 0 ≤ h) (h1 : h < 18446744073709551616) : Bytes (eightL h) := by
  intro z hz
  simp only [eightL, List.mem_cons, List.not_mem_nil, or_false] at hz
  rcases hz with rfl | rfl | rfl | rfl | rfl | rfl | rfl | rfl <;> omega

theorem eightL_length (h : Int) : (eightL h).length = 8 := rfl
theorem stepH_eq (x c : Int) (hx0 : 0 ≤ x) (hx1 : x < 18446744073709551616) (hc0 : 0 ≤ c) (hc1 : c < 256) : stepH x c = (((x.toNat ^^^ c.toNat : Nat) : Int) * 1099511628211) % 18446744073709551616 := by
  unfold stepH
  rw [show IntKind.u64.wrap c = c from IntWalk.u64_in _ (by omega), u64_xor x c hx0 hx1 hc0 (by omega), IntKind.wrap_u64]

theorem lin_inv (a b P I M q t : Int) (h : a * P - b * P = M * t) (hpi : P * I = M * q + 1) : a - b = M * (t * I - (a - b) * q) := by
  have h1 : (a * P - b * P) * I = M * t * I := by rw [h]
  have h2 : (a * P - b * P) * I = (a - b) * (P * I) := by rw [← Int.sub_mul, Int.mul_assoc]
  rw [h2, hpi, Int.mul_add, Int.mul_one] at h1
  rw [Int.mul_sub, ← Int.mul_assoc, Int.mul_left_comm M]
  omega

theorem mul_inj (a b : Nat) (ha : a < 18446744073709551616) (hb : b < 18446744073709551616) (h : ((a : Int) * 1099511628211) % 18446744073709551616 = ((b : Int) * 1099511628211) % 18446744073709551616) : a = b := by
  have h1 := Int.emod_eq_emod_iff_emod_sub_eq_zero.1 h
  obtain ⟨t, ht⟩ := Int.dvd_of_emod_eq_zero h1
  have hu := lin_inv a b 1099511628211 14886173955864302971 18446744073709551616 887285111055 t ht (by simp)
  generalize t * 14886173955864302971 - ((a : Int) - b) * 887285111055 = u at hu
  clear h h1 ht
  omega

theorem xor_lt (x c : Nat) (hx : x < 18446744073709551616) (hc : c < 18446744073709551616) : x ^^^ c < 18446744073709551616 :=
  Nat.xor_lt_two_pow (n := 64) hx hc

theorem xor_cancel {a b c : Nat} (h : a ^^^ c = b ^^^ c) : a = b := by
  have := congrArg (· ^^^ c) h
  simpa [Nat.xor_assoc] using this
theorem stepH_inj_seed {x y c : Int} (hx0 : 0 ≤ x) (hx1 : x < 18446744073709551616) (hy0 : 0 ≤ y) (hy1 : y < 18446744073709551616) (hc0 : 0 ≤ c) (hc1 : c < 256) (h : stepH x c = stepH y c) : x = y := by
  rw [stepH_eq x c hx0 hx1 hc0 hc1, stepH_eq y c hy0 hy1 hc0 hc1] at h
  have := mul_inj _ _ (xor_lt _ _ (by omega) (by omega)) (xor_lt _ _ (by omega) (by omega)) h
  have := xor_cancel this
  omega

theorem stepH_inj_byte {x c d : Int} (hx0 : 0 ≤ x) (hx1 : x < 18446744073709551616) (hc0 : 0 ≤ c) (hc1 : c < 256) (hd0 : 0 ≤ d) (hd1 : d < 256) (h : stepH x c = stepH x d) : c = d := by
  rw [stepH_eq x c hx0 hx1 hc0 hc1, stepH_eq x d hx0 hx1 hd0 hd1] at h
  have := mul_inj _ _ (xor_lt _ _ (by omega) (by omega)) (xor_lt _ _ (by omega) (by omega)) h
  rw [Nat.xor_comm x.toNat, Nat.xor_comm x.toNat] at this
  have := xor_cancel this
  omega

theorem fromH_append (s : Int) (xs ys : List Int) : fromH s (xs ++ ys) = fromH (fromH s xs) ys := by simp [fromH]
theorem fromH_cons (s z : Int) (zs : List Int) : fromH s (z :: zs) = fromH (stepH s z) zs := rfl

theorem fromH_inj_seed {x y : Int} {zs : List Int} (hb : Bytes zs) (hx0 : 0 ≤ x) (hx1 : x < 18446744073709551616) (hy0 : 0 ≤ y) (hy1 : y < 18446744073709551616) (h : fromH x zs = fromH y zs) : x = y := by
  induction zs generalizing x y with
  | nil => exact h
  | cons z zs ih =>
    have hz := hb z List.mem_cons_self
    have := ih (fun u hu => hb u (List.mem_cons_of_mem _ hu)) (stepH_bd x z).1 (stepH_bd x z).2 (stepH_bd y z).1 (stepH_bd y z).2 h
    exact stepH_inj_seed hx0 hx1 hy0 hy1 hz.1 hz.2 this

/-- A list with one number turned. -/
theorem fromH_set {s v : Int} {zs : List Int} {k : Nat} (hb : Bytes zs) (hs0 : 0 ≤ s) (hs1 : s < 18446744073709551616) (hv0 : 0 ≤ v) (hv1 : v < 256) (hk : k < zs.length) (h : fromH s (zs.set k v) = fromH s zs) : gi zs k = v := by
  induction zs generalizing s k with
  | nil => simp at hk
  | cons z zs ih =>
    have hz := hb z List.mem_cons_self
    have hb' : Bytes zs := fun u hu => hb u (List.mem_cons_of_mem _ hu)
    cases k with
    | zero =>
      simp only [List.set_cons_zero, fromH_cons] at h
      have := fromH_inj_seed hb' (stepH_bd s v).1 (stepH_bd s v).2 (stepH_bd s z).1 (stepH_bd s z).2 h
      exact (stepH_inj_byte hs0 hs1 hv0 hv1 hz.1 hz.2 this).symm
    | succ k =>
      simp only [List.set_cons_succ, fromH_cons] at h
      have := ih hb' (stepH_bd s z).1 (stepH_bd s z).2 (by simpa using hk) h
      simpa [gi] using this

theorem set_same {zs : List Int} {k : Nat} (hk : k < zs.length) {v : Int} (h : gi zs k = v) : zs.set k v = zs := by
  rw [← h, gi_eq zs k hk]; exact List.set_getElem_self hk

theorem Bytes.set {zs : List Int} (h : Bytes zs) (k : Nat) {v : Int} (hv0 : 0 ≤ v) (hv1 : v < 256) : Bytes (zs.set k v) := by
  intro z hz
  rcases List.mem_or_eq_of_mem_set hz with hz | hz
  · exact h z hz
  · subst hz; exact ⟨hv0, hv1⟩

theorem eightL_inj {a b : Int} (_ha0 : 0 ≤ a) (_hb0 : 0 ≤ b) (h : eightL a = eightL b) : a = b := by
  simp only [eightL, List.cons.injEq, and_true] at h
  omega
end Go.Proofs.Ytpmhnmkpmkeadaa
