import Derived.Test.YtoicaacndkjjoaaSumA
import Derived.Handy
import Derived.WalkLawsBesides
namespace Go.Proofs.Ytoicaacndkjjoaa
open Go.RowKit

theorem mask15 (x : Int) (h0 : 0 ≤ x) (h1 : x < 18446744073709551616) : bits .and .u64 x 15 = x % 16 := by
  rw [u64_and x 15 h0 h1 (by omega) (by omega)]
  have := nat_mask4 x.toNat
  simp [this]
  omega

/-- The digit of a number from 0 to 15. -/
def dg (x : Int) : UInt8 := if x < 10 then UInt8.ofNat (48 + x.toNat) else UInt8.ofNat (87 + x.toNat)

theorem hexAt (x : Int) (h0 : 0 ≤ x) (h1 : x < 16) (hb : x.toNat < (⟨#[48, 49, 50, 51, 52, 53, 54, 55, 56, 57, 97, 98, 99, 100, 101, 102]⟩ : ByteArray).size) : (⟨#[48, 49, 50, 51, 52, 53, 54, 55, 56, 57, 97, 98, 99, 100, 101, 102]⟩ : ByteArray)[x.toNat] = dg x := by
  have : x = 0 ∨ x = 1 ∨ x = 2 ∨ x = 3 ∨ x = 4 ∨ x = 5 ∨ x = 6 ∨ x = 7 ∨ x = 8 ∨ x = 9 ∨ x = 10 ∨ x = 11 ∨ x = 12 ∨ x = 13 ∨ x = 14 ∨ x = 15 := by omega
  rcases this with h | h | h | h | h | h | h | h | h | h | h | h | h | h | h | h <;> (subst h; rfl)

theorem hexSl (x : Int) (w : World) (h0 : 0 ≤ x) (h1 : x < 16) : (Instr.slice 9 (.string ⟨#[48, 49, 50, 51, 52, 53, 54, 55, 56, 57, 97, 98, 99, 100, 101, 102]⟩) (some (.int .u64 x)) (some (.int .u64 (x + 1))) none).run Try.prog w = .ok (.string ⟨#[dg x]⟩) w := by
  have : x = 0 ∨ x = 1 ∨ x = 2 ∨ x = 3 ∨ x = 4 ∨ x = 5 ∨ x = 6 ∨ x = 7 ∨ x = 8 ∨ x = 9 ∨ x = 10 ∨ x = 11 ∨ x = 12 ∨ x = 13 ∨ x = 14 ∨ x = 15 := by omega
  rcases this with h | h | h | h | h | h | h | h | h | h | h | h | h | h | h | h <;> (subst h; show _ = _; kernel_rfl)

/-- The digits of a hash. -/
def digL (h : Int) : List UInt8 := [dg (h / 1152921504606846976 % 16), dg (h / 72057594037927936 % 16), dg (h / 4503599627370496 % 16), dg (h / 281474976710656 % 16), dg (h / 17592186044416 % 16), dg (h / 1099511627776 % 16), dg (h / 68719476736 % 16), dg (h / 4294967296 % 16), dg (h / 268435456 % 16), dg (h / 16777216 % 16), dg (h / 1048576 % 16), dg (h / 65536 % 16), dg (h / 4096 % 16), dg (h / 256 % 16), dg (h / 16 % 16), dg (h % 16)]

theorem conv16 (c0 c1 c2 c3 c4 c5 c6 c7 c8 c9 c10 c11 c12 c13 c14 c15 : Int) (w : World) : (convert 23 9 (.slice (some ⟨w.heap.size, 0, none⟩) 16 16)).run Try.prog (w.alloc (.cells #[.int .u8 c0, .int .u8 c1, .int .u8 c2, .int .u8 c3, .int .u8 c4, .int .u8 c5, .int .u8 c6, .int .u8 c7, .int .u8 c8, .int .u8 c9, .int .u8 c10, .int .u8 c11, .int .u8 c12, .int .u8 c13, .int .u8 c14, .int .u8 c15] 47)) = .ok (.string (bsOf [c0, c1, c2, c3, c4, c5, c6, c7, c8, c9, c10, c11, c12, c13, c14, c15])) (w.alloc (.cells #[.int .u8 c0, .int .u8 c1, .int .u8 c2, .int .u8 c3, .int .u8 c4, .int .u8 c5, .int .u8 c6, .int .u8 c7, .int .u8 c8, .int .u8 c9, .int .u8 c10, .int .u8 c11, .int .u8 c12, .int .u8 c13, .int .u8 c14, .int .u8 c15] 47)) := by
  refine run_toString _ _ _ 5 Try.underlying23 Try.underlying5 Try.underlying9 _ _ _ _ (.inr ⟨_, _, rfl, by decide, by decide, rfl, fun i hi => ?_⟩)
  have hc : ∀ j, j < 16 → (w.alloc (.cells #[.int .u8 c0, .int .u8 c1, .int .u8 c2, .int .u8 c3, .int .u8 c4, .int .u8 c5, .int .u8 c6, .int .u8 c7, .int .u8 c8, .int .u8 c9, .int .u8 c10, .int .u8 c11, .int .u8 c12, .int .u8 c13, .int .u8 c14, .int .u8 c15] 47)).cell? ⟨w.heap.size, j, none⟩ = (#[.int .u8 c0, .int .u8 c1, .int .u8 c2, .int .u8 c3, .int .u8 c4, .int .u8 c5, .int .u8 c6, .int .u8 c7, .int .u8 c8, .int .u8 c9, .int .u8 c10, .int .u8 c11, .int .u8 c12, .int .u8 c13, .int .u8 c14, .int .u8 c15] : Array Value)[j]? := fun j _ => cell_of_row _ w.heap.size j _ _ (0, 0) (heap_alloc_new w _)
  rw [Nat.zero_add, hc i hi]
  have : i = 0 ∨ i = 1 ∨ i = 2 ∨ i = 3 ∨ i = 4 ∨ i = 5 ∨ i = 6 ∨ i = 7 ∨ i = 8 ∨ i = 9 ∨ i = 10 ∨ i = 11 ∨ i = 12 ∨ i = 13 ∨ i = 14 ∨ i = 15 := by omega
  rcases this with h | h | h | h | h | h | h | h | h | h | h | h | h | h | h | h <;> (subst h; rfl)

theorem dgBack (u : UInt8) : UInt8.ofNat ((u.toNat : Nat) : Int).toNat = u := by simp

set_option maxHeartbeats 1000000 in
theorem digits_any (h : Int) (w : World) (h0 : 0 ≤ h) (h1 : h < 18446744073709551616) :
    Calls Try.prog 17 #[.int .u64 h] w fun e w' => e = .returned (.string ⟨(digL h).toArray⟩) ∧ Below w.heap.size w w' := by
  have m0 : bits .and .u64 (h / 1152921504606846976) 15 = h / 1152921504606846976 % 16 := mask15 _ (by omega) (by omega)
  have m1 : bits .and .u64 (h / 72057594037927936) 15 = h / 72057594037927936 % 16 := mask15 _ (by omega) (by omega)
  have m2 : bits .and .u64 (h / 4503599627370496) 15 = h / 4503599627370496 % 16 := mask15 _ (by omega) (by omega)
  have m3 : bits .and .u64 (h / 281474976710656) 15 = h / 281474976710656 % 16 := mask15 _ (by omega) (by omega)
  have m4 : bits .and .u64 (h / 17592186044416) 15 = h / 17592186044416 % 16 := mask15 _ (by omega) (by omega)
  have m5 : bits .and .u64 (h / 1099511627776) 15 = h / 1099511627776 % 16 := mask15 _ (by omega) (by omega)
  have m6 : bits .and .u64 (h / 68719476736) 15 = h / 68719476736 % 16 := mask15 _ (by omega) (by omega)
  have m7 : bits .and .u64 (h / 4294967296) 15 = h / 4294967296 % 16 := mask15 _ (by omega) (by omega)
  have m8 : bits .and .u64 (h / 268435456) 15 = h / 268435456 % 16 := mask15 _ (by omega) (by omega)
  have m9 : bits .and .u64 (h / 16777216) 15 = h / 16777216 % 16 := mask15 _ (by omega) (by omega)
  have m10 : bits .and .u64 (h / 1048576) 15 = h / 1048576 % 16 := mask15 _ (by omega) (by omega)
  have m11 : bits .and .u64 (h / 65536) 15 = h / 65536 % 16 := mask15 _ (by omega) (by omega)
  have m12 : bits .and .u64 (h / 4096) 15 = h / 4096 % 16 := mask15 _ (by omega) (by omega)
  have m13 : bits .and .u64 (h / 256) 15 = h / 256 % 16 := mask15 _ (by omega) (by omega)
  have m14 : bits .and .u64 (h / 16) 15 = h / 16 % 16 := mask15 _ (by omega) (by omega)
  have m15 : bits .and .u64 (h) 15 = h % 16 := mask15 _ (by omega) (by omega)
  have hcv := conv16
  go_enter Try.func17, Try.ntmps17
  go_wp2
  go_rounds 17
  clear hcv
  have HB : ∀ x : Int, Below w.heap.size w (w.alloc (.cells #[.int .u8 x] 0)) := fun x => (Below.refl _ _).alloc (Nat.le_refl _) _
  clear HB
  refine bodyPost_ret (results_tmp rfl _ _ _) rfl ⟨?_, (Below.refl _ _).alloc (Nat.le_refl _) _⟩
  simp only [hexAt _ (Int.emod_nonneg _ (by decide)) (Int.emod_lt_of_pos _ (by decide)), bsOf, List.map_cons, List.map_nil, dgBack, digL]
  try rfl

set_option maxHeartbeats 1000000 in
theorem refDigits_any (h : Int) (w : World) (h0 : 0 ≤ h) (h1 : h < 18446744073709551616) :
    Calls Try.prog 18 #[.int .u64 h] w fun e w' => e = .returned (.string ⟨(digL h).toArray⟩) ∧ w = w' := by
  have m2 : ∀ (y : Int) (w : World), _ := fun y w => hexSl (y % 16) w (by omega) (by omega)
  go_enter Try.func18, Try.ntmps18
  go_wp2
  go_rounds 17
  clear m2
  have e2 : h / 16 / 16 = h / 256 := by omega
  have e3 : h / 256 / 16 = h / 4096 := by omega
  have e4 : h / 4096 / 16 = h / 65536 := by omega
  have e5 : h / 65536 / 16 = h / 1048576 := by omega
  have e6 : h / 1048576 / 16 = h / 16777216 := by omega
  have e7 : h / 16777216 / 16 = h / 268435456 := by omega
  have e8 : h / 268435456 / 16 = h / 4294967296 := by omega
  have e9 : h / 4294967296 / 16 = h / 68719476736 := by omega
  have e10 : h / 68719476736 / 16 = h / 1099511627776 := by omega
  have e11 : h / 1099511627776 / 16 = h / 17592186044416 := by omega
  have e12 : h / 17592186044416 / 16 = h / 281474976710656 := by omega
  have e13 : h / 281474976710656 / 16 = h / 4503599627370496 := by omega
  have e14 : h / 4503599627370496 / 16 = h / 72057594037927936 := by omega
  have e15 : h / 72057594037927936 / 16 = h / 1152921504606846976 := by omega
  simp only [e2, e3, e4, e5, e6, e7, e8, e9, e10, e11, e12, e13, e14, e15]
  refine bodyPost_ret (results_tmp rfl _ _ _) rfl ⟨?_, rfl⟩
  rfl
end Go.Proofs.Ytoicaacndkjjoaa
