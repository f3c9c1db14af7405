import Derived.Laws.Bits128
import Derived.Test.YtofaifeadhimjaaDoorMG18
import Derived.Test.YtofaifeadhimjaaDoorMG19
import Derived.Test.YtofaifeadhimjaaDoorMG20
import Derived.Test.YtofaifeadhimjaaDoorMG22
/-
  BtU, BtV
-/
set_option linter.unusedSimpArgs false
set_option linter.unusedVariables false
namespace Go.Proofs.YtofaifeadhimjaaDoor.Bt
open Go.RowKit Go.Shelf
attribute [local go_sem] Oper.semAt_some

theorem elsTo_add {ws : List Int} (hw : W64 ws) (i : Nat) : elsTo ws (64 * i + 64) = elsTo ws (64 * i) ++ elW i (gi ws i).toNat := by
 unfold elsTo elW
 rw [List.range_add, List.filter_append, List.map_append, List.filter_map, List.map_map, upB_filter, List.map_map]
 congr 1
 have h : ((List.range 64).filter ((fun n : Nat => bitI (gi ws (n / 64)) (n % 64)) ∘ fun x => 64 * i + x)) = (List.range 64).filter fun k => (gi ws i).toNat.testBit k := by
  apply List.filter_congr
  intro k hk
  have hk := List.mem_range.1 hk
  have h1 : (64 * i + k) / 64 = i := by omega
  have h2 : (64 * i + k) % 64 = k := by omega
  show bitI (gi ws ((64 * i + k) / 64)) ((64 * i + k) % 64) = _
  rw [h1, h2, bitI_tb (hw.gi i).1 (hw.gi i).2]
  rfl
 rw [h]
 apply List.map_congr_left
 intro k _
 show ((64 * i + k : Nat) : Int) = 64 * (i : Int) + ((0 + k : Nat) : Int)
 omega
theorem allTo_elsTo {ws : List Int} (hw : W64 ws) : ∀ m, allTo ws m = elsTo ws (64 * m)
 | 0 => rfl
 | m + 1 => by rw [allTo_succ, allTo_elsTo hw m, show 64 * (m + 1) = 64 * m + 64 by omega, elsTo_add hw]
theorem allTo_setL {ws : List Int} {len : Nat} (hw : W64 ws) (hl : ws.length = len) : allTo ws (min len 64) = setL (bt ws) := by
 rw [allTo_elsTo hw, elsTo_setL hw hl]

set_option maxRecDepth 20000 in
theorem list_any (a : Option Addr) (len cap : Nat) (ws : List Int) (w : World) (hs : IsInts .u64 w a len cap ws) (hw : W64 ws) (hT : TabAt 0 Lib.deBruijn64tab w) :
  Calls Tryd.prog 27 #[.slice a len cap] w fun e w' => ∃ a3 n3 c3, e = .returned (.slice a3 n3 c3) ∧ w'.ownsRow w.heap.size 3 1 (.slice a3 n3 c3) n3 (ivs .i64 (setL (bt ws))) ∧ Below w.heap.size w w' := by
 have h := list_in 3 (Nat.le_refl _) a len cap ws w hs hw hT
 rw [allTo_setL hw hs.length] at h
 exact callsIn_wide.1 h

end Go.Proofs.YtofaifeadhimjaaDoor.Bt

set_option linter.unusedSimpArgs false
set_option linter.unusedVariables false
namespace Go.Proofs.YtofaifeadhimjaaDoor.Bt
open Go.RowKit Go.Shelf
attribute [local go_sem] Oper.semAt_some

def H8 (a0 a1 a2 a3 a4 a5 a6 a7 : Nat) : Nat := a0 + 256 * (a1 + 256 * (a2 + 256 * (a3 + 256 * (a4 + 256 * (a5 + 256 * (a6 + 256 * a7))))))
theorem and_byte (a q m k : Nat) (ha : a < 256) (hm : m < 256) : (a + 256 * q) &&& (m + 256 * k) = (a &&& m) + 256 * (q &&& k) := by
 have h1 : ((a + 256 * q) &&& (m + 256 * k)) % 2 ^ 8 = a &&& m := by
  rw [Nat.and_mod_two_pow, show (a + 256 * q) % 2 ^ 8 = a by omega, show (m + 256 * k) % 2 ^ 8 = m by omega]
 have h2 : ((a + 256 * q) &&& (m + 256 * k)) / 2 ^ 8 = q &&& k := by
  rw [Nat.and_div_two_pow, show (a + 256 * q) / 2 ^ 8 = q by omega, show (m + 256 * k) / 2 ^ 8 = k by omega]
 omega
theorem and8 {a0 a1 a2 a3 a4 a5 a6 a7 : Nat} (m : Nat) (h0 : a0 < 256) (h1 : a1 < 256) (h2 : a2 < 256) (h3 : a3 < 256) (h4 : a4 < 256) (h5 : a5 < 256) (h6 : a6 < 256) (h7 : a7 < 256) (hm : m < 256) :
  H8 a0 a1 a2 a3 a4 a5 a6 a7 &&& H8 m m m m m m m m = H8 (a0 &&& m) (a1 &&& m) (a2 &&& m) (a3 &&& m) (a4 &&& m) (a5 &&& m) (a6 &&& m) (a7 &&& m) := by
 unfold H8
 rw [and_byte _ _ _ _ h0 hm, and_byte _ _ _ _ h1 hm, and_byte _ _ _ _ h2 hm, and_byte _ _ _ _ h3 hm, and_byte _ _ _ _ h4 hm, and_byte _ _ _ _ h5 hm, and_byte _ _ _ _ h6 hm]
def G1 (a : Nat) : Nat := (a / 2 &&& 85) + (a &&& 85)
def G2 (b : Nat) : Nat := (b / 4 &&& 51) + (b &&& 51)
def G3 (c : Nat) : Nat := (c / 16 + c) &&& 15
theorem g1_all : ∀ (a : Fin 256) (c : Fin 2), (a.val / 2 + 128 * c.val) &&& 85 = a.val / 2 &&& 85 := by decide +kernel
theorem g2_all : ∀ (a : Fin 256) (c : Fin 4), (a.val / 4 + 64 * c.val) &&& 51 = a.val / 4 &&& 51 := by decide +kernel
theorem g3_all : ∀ (a : Fin 256) (c : Fin 5), (G2 (G1 a.val) / 16 + 16 * c.val + G2 (G1 a.val)) &&& 15 = G3 (G2 (G1 a.val)) := by decide +kernel
theorem g_len : ∀ (a : Fin 256), G3 (G2 (G1 a.val)) = (upB 8 0 a.val).length ∧ G3 (G2 (G1 a.val)) ≤ 8 ∧ G1 a.val < 256 ∧ G2 (G1 a.val) / 16 ≤ 4 ∧ G2 (G1 a.val) % 16 ≤ 4 ∧ G2 (G1 a.val) ≤ 68 := by decide +kernel
theorem upB_lenp : ∀ (n p q z : Nat), (upB n p z).length = (upB n q z).length
 | 0, _, _, _ => rfl
 | n + 1, p, q, z => by
  unfold upB
  split
  ·rw [List.length_cons, List.length_cons, upB_lenp n (p + 1) (q + 1)]
  ·exact upB_lenp n (p + 1) (q + 1) _
theorem upB_len1 (n p z : Nat) : (upB (n + 1) p z).length = z % 2 + (upB n 0 (z / 2)).length := by
 have e : upB (n + 1) p z = if z % 2 = 1 then p :: upB n (p + 1) (z / 2) else upB n (p + 1) (z / 2) := rfl
 rw [e]
 split
 ·rename_i h; rw [List.length_cons, upB_lenp n (p + 1) 0, h]; omega
 ·rename_i h; rw [upB_lenp n (p + 1) 0]; omega
theorem upB_len8 (n z : Nat) : (upB (n + 8) 0 z).length = (upB 8 0 (z % 256)).length + (upB n 0 (z / 256)).length := by
 have e : ∀ y, (upB 8 0 y).length = y % 2 + (y / 2 % 2 + (y / 2 / 2 % 2 + (y / 2 / 2 / 2 % 2 + (y / 2 / 2 / 2 / 2 % 2 + (y / 2 / 2 / 2 / 2 / 2 % 2 + (y / 2 / 2 / 2 / 2 / 2 / 2 % 2 + (y / 2 / 2 / 2 / 2 / 2 / 2 / 2 % 2 + 0))))))) := fun y => by
  rw [upB_len1, upB_len1, upB_len1, upB_len1, upB_len1, upB_len1, upB_len1, upB_len1]; rfl
 rw [e, upB_len1 (n + 7), upB_len1 (n + 6), upB_len1 (n + 5), upB_len1 (n + 4), upB_len1 (n + 3), upB_len1 (n + 2), upB_len1 (n + 1), upB_len1 n]
 have h : z / 2 / 2 / 2 / 2 / 2 / 2 / 2 / 2 = z / 256 := by omega
 rw [h]
 omega
theorem upB_len64 (a0 a1 a2 a3 a4 a5 a6 a7 : Nat) (h0 : a0 < 256) (h1 : a1 < 256) (h2 : a2 < 256) (h3 : a3 < 256) (h4 : a4 < 256) (h5 : a5 < 256) (h6 : a6 < 256) (h7 : a7 < 256) :
  (upB 64 0 (H8 a0 a1 a2 a3 a4 a5 a6 a7)).length = (upB 8 0 a0).length + (upB 8 0 a1).length + (upB 8 0 a2).length + (upB 8 0 a3).length + (upB 8 0 a4).length + (upB 8 0 a5).length + (upB 8 0 a6).length + (upB 8 0 a7).length := by
 have e : ∀ a q, a < 256 → (a + 256 * q) % 256 = a ∧ (a + 256 * q) / 256 = q := fun a q h => ⟨by omega, by omega⟩
 unfold H8
 rw [upB_len8 56, (e _ _ h0).1, (e _ _ h0).2, upB_len8 48, (e _ _ h1).1, (e _ _ h1).2, upB_len8 40, (e _ _ h2).1, (e _ _ h2).2, upB_len8 32, (e _ _ h3).1, (e _ _ h3).2, upB_len8 24, (e _ _ h4).1, (e _ _ h4).2, upB_len8 16, (e _ _ h5).1, (e _ _ h5).2, upB_len8 8, (e _ _ h6).1, (e _ _ h6).2]
 omega

theorem n1 {a0 a1 a2 a3 a4 a5 a6 a7 : Nat} (h0 : a0 < 256) (h1 : a1 < 256) (h2 : a2 < 256) (h3 : a3 < 256) (h4 : a4 < 256) (h5 : a5 < 256) (h6 : a6 < 256) (h7 : a7 < 256) :
  ((H8 a0 a1 a2 a3 a4 a5 a6 a7 / 2) &&& 6148914691236517205) + (H8 a0 a1 a2 a3 a4 a5 a6 a7 &&& 6148914691236517205) = H8 (G1 a0) (G1 a1) (G1 a2) (G1 a3) (G1 a4) (G1 a5) (G1 a6) (G1 a7) := by
 have e : H8 a0 a1 a2 a3 a4 a5 a6 a7 / 2 = H8 (a0 / 2 + 128 * (a1 % 2)) (a1 / 2 + 128 * (a2 % 2)) (a2 / 2 + 128 * (a3 % 2)) (a3 / 2 + 128 * (a4 % 2)) (a4 / 2 + 128 * (a5 % 2)) (a5 / 2 + 128 * (a6 % 2)) (a6 / 2 + 128 * (a7 % 2)) (a7 / 2 + 128 * 0) := by unfold H8; omega
 have g : ∀ a c, a < 256 → c < 2 → (a / 2 + 128 * c) &&& 85 = a / 2 &&& 85 := fun a c ha hc => g1_all ⟨a, ha⟩ ⟨c, hc⟩
 rw [e, show 6148914691236517205 = H8 85 85 85 85 85 85 85 85 from rfl, and8 85 (by omega) (by omega) (by omega) (by omega) (by omega) (by omega) (by omega) (by omega) (by omega), and8 85 h0 h1 h2 h3 h4 h5 h6 h7 (by omega),
  g _ _ h0 (by omega), g _ _ h1 (by omega), g _ _ h2 (by omega), g _ _ h3 (by omega), g _ _ h4 (by omega), g _ _ h5 (by omega), g _ _ h6 (by omega), g _ _ h7 (by omega)]
 unfold H8 G1
 omega
theorem n2 {a0 a1 a2 a3 a4 a5 a6 a7 : Nat} (h0 : a0 < 256) (h1 : a1 < 256) (h2 : a2 < 256) (h3 : a3 < 256) (h4 : a4 < 256) (h5 : a5 < 256) (h6 : a6 < 256) (h7 : a7 < 256) :
  ((H8 a0 a1 a2 a3 a4 a5 a6 a7 / 4) &&& 3689348814741910323) + (H8 a0 a1 a2 a3 a4 a5 a6 a7 &&& 3689348814741910323) = H8 (G2 a0) (G2 a1) (G2 a2) (G2 a3) (G2 a4) (G2 a5) (G2 a6) (G2 a7) := by
 have e : H8 a0 a1 a2 a3 a4 a5 a6 a7 / 4 = H8 (a0 / 4 + 64 * (a1 % 4)) (a1 / 4 + 64 * (a2 % 4)) (a2 / 4 + 64 * (a3 % 4)) (a3 / 4 + 64 * (a4 % 4)) (a4 / 4 + 64 * (a5 % 4)) (a5 / 4 + 64 * (a6 % 4)) (a6 / 4 + 64 * (a7 % 4)) (a7 / 4 + 64 * 0) := by unfold H8; omega
 have g : ∀ a c, a < 256 → c < 4 → (a / 4 + 64 * c) &&& 51 = a / 4 &&& 51 := fun a c ha hc => g2_all ⟨a, ha⟩ ⟨c, hc⟩
 rw [e, show 3689348814741910323 = H8 51 51 51 51 51 51 51 51 from rfl, and8 51 (by omega) (by omega) (by omega) (by omega) (by omega) (by omega) (by omega) (by omega) (by omega), and8 51 h0 h1 h2 h3 h4 h5 h6 h7 (by omega),
  g _ _ h0 (by omega), g _ _ h1 (by omega), g _ _ h2 (by omega), g _ _ h3 (by omega), g _ _ h4 (by omega), g _ _ h5 (by omega), g _ _ h6 (by omega), g _ _ h7 (by omega)]
 unfold H8 G2
 omega
def C8 (a : Nat) : Nat := G2 (G1 a)
theorem n3 {a0 a1 a2 a3 a4 a5 a6 a7 : Nat} (h0 : a0 < 256) (h1 : a1 < 256) (h2 : a2 < 256) (h3 : a3 < 256) (h4 : a4 < 256) (h5 : a5 < 256) (h6 : a6 < 256) (h7 : a7 < 256) :
  (H8 (C8 a0) (C8 a1) (C8 a2) (C8 a3) (C8 a4) (C8 a5) (C8 a6) (C8 a7) / 16 + H8 (C8 a0) (C8 a1) (C8 a2) (C8 a3) (C8 a4) (C8 a5) (C8 a6) (C8 a7)) &&& 1085102592571150095 = H8 (G3 (C8 a0)) (G3 (C8 a1)) (G3 (C8 a2)) (G3 (C8 a3)) (G3 (C8 a4)) (G3 (C8 a5)) (G3 (C8 a6)) (G3 (C8 a7)) := by
 have g : ∀ a, a < 256 → C8 a / 16 ≤ 4 ∧ C8 a % 16 ≤ 4 ∧ C8 a ≤ 68 ∧ ∀ c, c < 5 → (C8 a / 16 + 16 * c + C8 a) &&& 15 = G3 (C8 a) := fun a ha => ⟨(g_len ⟨a, ha⟩).2.2.2.1, (g_len ⟨a, ha⟩).2.2.2.2.1, (g_len ⟨a, ha⟩).2.2.2.2.2, fun c hc => g3_all ⟨a, ha⟩ ⟨c, hc⟩⟩
 obtain ⟨p0, q0, r0, g0⟩ := g a0 h0
 obtain ⟨p1, q1, r1, g1⟩ := g a1 h1
 obtain ⟨p2, q2, r2, g2⟩ := g a2 h2
 obtain ⟨p3, q3, r3, g3⟩ := g a3 h3
 obtain ⟨p4, q4, r4, g4⟩ := g a4 h4
 obtain ⟨p5, q5, r5, g5⟩ := g a5 h5
 obtain ⟨p6, q6, r6, g6⟩ := g a6 h6
 obtain ⟨p7, q7, r7, g7⟩ := g a7 h7
 generalize C8 a0 = c0 at *
 generalize C8 a1 = c1 at *
 generalize C8 a2 = c2 at *
 generalize C8 a3 = c3 at *
 generalize C8 a4 = c4 at *
 generalize C8 a5 = c5 at *
 generalize C8 a6 = c6 at *
 generalize C8 a7 = c7 at *
 have e : H8 c0 c1 c2 c3 c4 c5 c6 c7 / 16 + H8 c0 c1 c2 c3 c4 c5 c6 c7 = H8 (c0 / 16 + 16 * (c1 % 16) + c0) (c1 / 16 + 16 * (c2 % 16) + c1) (c2 / 16 + 16 * (c3 % 16) + c2) (c3 / 16 + 16 * (c4 % 16) + c3) (c4 / 16 + 16 * (c5 % 16) + c4) (c5 / 16 + 16 * (c6 % 16) + c5) (c6 / 16 + 16 * (c7 % 16) + c6) (c7 / 16 + 16 * 0 + c7) := by unfold H8; clear g0 g1 g2 g3 g4 g5 g6 g7 g; omega
 rw [e, show 1085102592571150095 = H8 15 15 15 15 15 15 15 15 from rfl, and8 15 (by omega) (by omega) (by omega) (by omega) (by omega) (by omega) (by omega) (by omega) (by omega),
  g0 _ (by omega), g1 _ (by omega), g2 _ (by omega), g3 _ (by omega), g4 _ (by omega), g5 _ (by omega), g6 _ (by omega), g7 _ (by omega)]
theorem n6 {a0 a1 a2 a3 a4 a5 a6 a7 : Nat} (h0 : a0 ≤ 8) (h1 : a1 ≤ 8) (h2 : a2 ≤ 8) (h3 : a3 ≤ 8) (h4 : a4 ≤ 8) (h5 : a5 ≤ 8) (h6 : a6 ≤ 8) (h7 : a7 ≤ 8) (u v z : Nat) (hu : u = H8 a0 a1 a2 a3 a4 a5 a6 a7 + H8 a0 a1 a2 a3 a4 a5 a6 a7 / 256) (hv : v = u + u / 65536) (hz : z = v + v / 4294967296) :
  z % 128 = a0 + a1 + a2 + a3 + a4 + a5 + a6 + a7 ∧ u < 18446744073709551616 ∧ v < 18446744073709551616 ∧ z < 18446744073709551616 ∧ H8 a0 a1 a2 a3 a4 a5 a6 a7 < 18446744073709551616 := by
 have e1 : u = H8 (a0 + a1) (a1 + a2) (a2 + a3) (a3 + a4) (a4 + a5) (a5 + a6) (a6 + a7) a7 := by rw [hu]; unfold H8; omega
 have e2 : v = H8 (a0 + a1 + a2 + a3) (a1 + a2 + a3 + a4) (a2 + a3 + a4 + a5) (a3 + a4 + a5 + a6) (a4 + a5 + a6 + a7) (a5 + a6 + a7) (a6 + a7) a7 := by rw [hv, e1]; unfold H8; omega
 have e3 : z = H8 (a0 + a1 + a2 + a3 + (a4 + a5 + a6 + a7)) (a1 + a2 + a3 + a4 + (a5 + a6 + a7)) (a2 + a3 + a4 + a5 + (a6 + a7)) (a3 + a4 + a5 + a6 + a7) (a4 + a5 + a6 + a7) (a5 + a6 + a7) (a6 + a7) a7 := by rw [hz, e2]; unfold H8; omega
 refine ⟨?_, ?_, ?_, ?_, ?_⟩
 ·rw [e3]; unfold H8; omega
 ·rw [e1]; unfold H8; omega
 ·rw [e2]; unfold H8; omega
 ·rw [e3]; unfold H8; omega
 ·unfold H8; omega

def s1 (x : Int) : Int := IntKind.u64.wrap (bits .and .u64 (x / 2) 6148914691236517205 + bits .and .u64 x 6148914691236517205)
def s2 (x : Int) : Int := IntKind.u64.wrap (bits .and .u64 (x / 4) 3689348814741910323 + bits .and .u64 x 3689348814741910323)
def s3 (x : Int) : Int := bits .and .u64 (IntKind.u64.wrap (x / 16 + x)) 1085102592571150095
def s4 (x : Int) : Int := IntKind.u64.wrap (x + x / 256)
def s5 (x : Int) : Int := IntKind.u64.wrap (x + x / 65536)
def s6 (x : Int) : Int := IntKind.u64.wrap (x + x / 4294967296)

theorem wrap_nat {n : Nat} (h : n < 18446744073709551616) : IntKind.u64.wrap (n : Int) = (n : Int) := by
 exact Int.emod_eq_of_lt (Int.natCast_nonneg n) (Int.ofNat_lt.2 h)
theorem s1_nat {n m : Nat} (h : n < 18446744073709551616) (e : ((n / 2) &&& 6148914691236517205) + (n &&& 6148914691236517205) = m) (hm : m < 18446744073709551616) : s1 (n : Int) = (m : Int) := by
 have h1 := bits_and_u64_nat (n / 2) 6148914691236517205 (by omega) (by decide)
 have h2 := bits_and_u64_nat n 6148914691236517205 (by omega) (by decide)
 unfold s1
 rw [show ((n : Int) / 2) = ((n / 2 : Nat) : Int) by omega, show (6148914691236517205 : Int) = ((6148914691236517205 : Nat) : Int) from rfl, h1, h2, ← Int.natCast_add, e, wrap_nat hm]
theorem s2_nat {n m : Nat} (h : n < 18446744073709551616) (e : ((n / 4) &&& 3689348814741910323) + (n &&& 3689348814741910323) = m) (hm : m < 18446744073709551616) : s2 (n : Int) = (m : Int) := by
 have h1 := bits_and_u64_nat (n / 4) 3689348814741910323 (by omega) (by decide)
 have h2 := bits_and_u64_nat n 3689348814741910323 (by omega) (by decide)
 unfold s2
 rw [show ((n : Int) / 4) = ((n / 4 : Nat) : Int) by omega, show (3689348814741910323 : Int) = ((3689348814741910323 : Nat) : Int) from rfl, h1, h2, ← Int.natCast_add, e, wrap_nat hm]
theorem s3_nat {n m : Nat} (h : n / 16 + n < 18446744073709551616) (e : (n / 16 + n) &&& 1085102592571150095 = m) : s3 (n : Int) = (m : Int) := by
 have h1 := bits_and_u64_nat (n / 16 + n) 1085102592571150095 (by omega) (by decide)
 unfold s3
 rw [show ((n : Int) / 16 + n) = ((n / 16 + n : Nat) : Int) by omega, wrap_nat h, show (1085102592571150095 : Int) = ((1085102592571150095 : Nat) : Int) from rfl, h1, e]

theorem H8_lt {a0 a1 a2 a3 a4 a5 a6 a7 : Nat} (h0 : a0 < 256) (h1 : a1 < 256) (h2 : a2 < 256) (h3 : a3 < 256) (h4 : a4 < 256) (h5 : a5 < 256) (h6 : a6 < 256) (h7 : a7 < 256) : H8 a0 a1 a2 a3 a4 a5 a6 a7 < 18446744073709551616 := by unfold H8; omega
theorem le68 {a : Nat} (h : a ≤ 68) : a < 256 := by omega
theorem H8_lt16 {a0 a1 a2 a3 a4 a5 a6 a7 : Nat} (h0 : a0 ≤ 68) (h1 : a1 ≤ 68) (h2 : a2 ≤ 68) (h3 : a3 ≤ 68) (h4 : a4 ≤ 68) (h5 : a5 ≤ 68) (h6 : a6 ≤ 68) (h7 : a7 ≤ 68) : H8 a0 a1 a2 a3 a4 a5 a6 a7 / 16 + H8 a0 a1 a2 a3 a4 a5 a6 a7 < 18446744073709551616 := by unfold H8; omega
theorem ones_math (x : Nat) (hx : x < 18446744073709551616) : ∃ z : Nat, s6 (s5 (s4 (s3 (s2 (s1 (x : Int)))))) = (z : Int) ∧ z < 18446744073709551616 ∧ z % 128 = (upB 64 0 x).length := by
 obtain ⟨a0, a1, a2, a3, a4, a5, a6, a7, h0, h1, h2, h3, h4, h5, h6, h7, e⟩ : ∃ a0 a1 a2 a3 a4 a5 a6 a7, a0 < 256 ∧ a1 < 256 ∧ a2 < 256 ∧ a3 < 256 ∧ a4 < 256 ∧ a5 < 256 ∧ a6 < 256 ∧ a7 < 256 ∧ x = H8 a0 a1 a2 a3 a4 a5 a6 a7 :=
  ⟨x % 256, x / 256 % 256, x / 65536 % 256, x / 16777216 % 256, x / 4294967296 % 256, x / 1099511627776 % 256, x / 281474976710656 % 256, x / 72057594037927936 % 256, by omega, by omega, by omega, by omega, by omega, by omega, by omega, by omega, by unfold H8; omega⟩
 subst e
 have g : ∀ a, a < 256 → G3 (C8 a) = (upB 8 0 a).length ∧ G3 (C8 a) ≤ 8 ∧ G1 a < 256 ∧ C8 a ≤ 68 := fun a ha => ⟨(g_len ⟨a, ha⟩).1, (g_len ⟨a, ha⟩).2.1, (g_len ⟨a, ha⟩).2.2.1, (g_len ⟨a, ha⟩).2.2.2.2.2⟩
 obtain ⟨l0, p0, q0, r0⟩ := g a0 h0
 obtain ⟨l1, p1, q1, r1⟩ := g a1 h1
 obtain ⟨l2, p2, q2, r2⟩ := g a2 h2
 obtain ⟨l3, p3, q3, r3⟩ := g a3 h3
 obtain ⟨l4, p4, q4, r4⟩ := g a4 h4
 obtain ⟨l5, p5, q5, r5⟩ := g a5 h5
 obtain ⟨l6, p6, q6, r6⟩ := g a6 h6
 obtain ⟨l7, p7, q7, r7⟩ := g a7 h7
 have e1 := s1_nat hx (n1 h0 h1 h2 h3 h4 h5 h6 h7) (H8_lt q0 q1 q2 q3 q4 q5 q6 q7)
 have e2 := s2_nat (H8_lt q0 q1 q2 q3 q4 q5 q6 q7) (n2 q0 q1 q2 q3 q4 q5 q6 q7) (H8_lt (le68 r0) (le68 r1) (le68 r2) (le68 r3) (le68 r4) (le68 r5) (le68 r6) (le68 r7))
 have e3 := s3_nat (H8_lt16 r0 r1 r2 r3 r4 r5 r6 r7) (n3 h0 h1 h2 h3 h4 h5 h6 h7)
 obtain ⟨f1, f2, f3, f4, f5⟩ := n6 p0 p1 p2 p3 p4 p5 p6 p7 _ _ _ rfl rfl rfl
 rw [e1, e2]
 show ∃ z : Nat, s6 (s5 (s4 (s3 ((H8 (C8 a0) (C8 a1) (C8 a2) (C8 a3) (C8 a4) (C8 a5) (C8 a6) (C8 a7) : Nat) : Int)))) = (z : Int) ∧ z < 18446744073709551616 ∧ z % 128 = _
 rw [e3]
 generalize H8 (G3 (C8 a0)) (G3 (C8 a1)) (G3 (C8 a2)) (G3 (C8 a3)) (G3 (C8 a4)) (G3 (C8 a5)) (G3 (C8 a6)) (G3 (C8 a7)) = y at *
 have e4 : s4 (y : Int) = ((y + y / 256 : Nat) : Int) := by
  unfold s4
  rw [show (y : Int) + y / 256 = ((y + y / 256 : Nat) : Int) by omega, wrap_nat f2]
 rw [e4]
 generalize y + y / 256 = u at *
 have e5 : s5 (u : Int) = ((u + u / 65536 : Nat) : Int) := by
  unfold s5
  rw [show (u : Int) + u / 65536 = ((u + u / 65536 : Nat) : Int) by omega, wrap_nat f3]
 rw [e5]
 generalize u + u / 65536 = v at *
 have e6 : s6 (v : Int) = ((v + v / 4294967296 : Nat) : Int) := by
  unfold s6
  rw [show (v : Int) + v / 4294967296 = ((v + v / 4294967296 : Nat) : Int) by omega, wrap_nat f4]
 rw [e6]
 refine ⟨_, rfl, f4, ?_⟩
 rw [f1, upB_len64 a0 a1 a2 a3 a4 a5 a6 a7 h0 h1 h2 h3 h4 h5 h6 h7, l0, l1, l2, l3, l4, l5, l6, l7]

set_option maxRecDepth 20000 in
theorem ones_any (x : Int) (w : World) (h0 : 0 ≤ x) (h1 : x < 18446744073709551616) :
  Calls Tryd.prog 62 #[.int .u64 x] w fun e w' => e = .returned (.int .i64 ((upB 64 0 x.toNat).length : Nat)) ∧ w' = w := by
 go_enter Tryd.func62, Tryd.ntmps62
 go_wp2
 go_ret
 refine ⟨?_, rfl⟩
 show Ending.returned (.int .i64 (bits .and .i64 (wrap64 (s6 (s5 (s4 (s3 (s2 (s1 x))))))) 127)) = _
 obtain ⟨n, rfl⟩ := Int.eq_ofNat_of_zero_le h0
 obtain ⟨z, hz, hl, hm⟩ := ones_math n (by omega)
 rw [hz, Int.toNat_natCast, ← hm, i64_and127]
 have e : wrap64 (z : Int) % 128 = ((z % 128 : Nat) : Int) := by unfold wrap64; omega
 rw [e]
end Go.Proofs.YtofaifeadhimjaaDoor.Bt
