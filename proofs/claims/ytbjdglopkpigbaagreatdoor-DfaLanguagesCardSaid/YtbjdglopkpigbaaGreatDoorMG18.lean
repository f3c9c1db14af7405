import Derived.Laws.Bits128
import Derived.Test.YtbjdglopkpigbaaGreatDoorMG13
import Derived.Test.YtbjdglopkpigbaaGreatDoorMG14
import Derived.Test.YtbjdglopkpigbaaGreatDoorMG15
import Derived.Test.YtbjdglopkpigbaaGreatDoorMG17
/-
  BtU, BtV
-/
set_option linter.unusedSimpArgs false
set_option linter.unusedVariables false
namespace Go.Proofs.YtbjdglopkpigbaaGreatDoor.Bt
open Go.RowKit Go.Shelf
attribute [local go_sem] Oper.semAt_some
theorem elsTo_add {ws : List Int} (hw : W64 ws) (i : Nat) : elsTo ws (64 * i + 64) = elsTo ws (64 * i) ++ elW i (gi ws i).toNat := by
 unfold elsTo elW
 rw [List.range_add, List.filter_append, List.map_append, List.filter_map, List.map_map, upB_filter, List.map_map]
 congr 1
 have h : ((List.range 64).filter ((fun n : Nat => bitI (gi ws (n / 64)) (n % 64)) ∘ fun x => 64 * i + x)) = (List.range 64).filter fun k => (gi ws i).toNat.testBit k := by
  apply List.filter_congr
  intro k hk
  have hk := List.mem_range.1 hk
  have h1 : (64 * i + k) / 64 = i := by omega
  have h2 : (64 * i + k) % 64 = k := by omega
  show bitI (gi ws ((64 * i + k) / 64)) ((64 * i + k) % 64) = _
  rw [h1, h2, bitI_tb (hw.gi i).1 (hw.gi i).2]
  rfl
 rw [h]
 apply List.map_congr_left
 intro k _
 show ((64 * i + k : Nat) : Int) = 64 * (i : Int) + ((0 + k : Nat) : Int)
 omega
theorem allTo_elsTo {ws : List Int} (hw : W64 ws) : ∀ m, allTo ws m = elsTo ws (64 * m)
 | 0 => rfl
 | m + 1 => by rw [allTo_succ, allTo_elsTo hw m, show 64 * (m + 1) = 64 * m + 64 by omega, elsTo_add hw]
theorem allTo_setL {ws : List Int} {len : Nat} (hw : W64 ws) (hl : ws.length = len) : allTo ws (min len 64) = setL (bt ws) := by
 rw [allTo_elsTo hw, elsTo_setL hw hl]
set_option maxRecDepth 20000 in
theorem list_any (a : Option Addr) (len cap : Nat) (ws : List Int) (w : World) (hs : IsInts .u64 w a len cap ws) (hw : W64 ws) (hT : TabAt 0 Lib.deBruijn64tab w) :
  Calls Tryz.prog 47 #[.slice a len cap] w fun e w' => ∃ a3 n3 c3, e = .returned (.slice a3 n3 c3) ∧ w'.ownsRow w.heap.size 3 1 (.slice a3 n3 c3) n3 (ivs .i64 (setL (bt ws))) ∧ Below w.heap.size w w' := by
 have h := list_in 3 (Nat.le_refl _) a len cap ws w hs hw hT
 rw [allTo_setL hw hs.length] at h
 exact callsIn_wide.1 h
end Go.Proofs.YtbjdglopkpigbaaGreatDoor.Bt
namespace Go.Proofs.YtbjdglopkpigbaaGreatDoor.Bt
open Go.RowKit Go.Shelf
attribute [local go_sem] Oper.semAt_some
def H8 (a0 a1 a2 a3 a4 a5 a6 a7 : Nat) : Nat := a0 + 256 * (a1 + 256 * (a2 + 256 * (a3 + 256 * (a4 + 256 * (a5 + 256 * (a6 + 256 * a7))))))
theorem and_byte (a q m k : Nat) (ha : a < 256) (hm : m < 256) : (a + 256 * q) &&& (m + 256 * k) = (a &&& m) + 256 * (q &&& k) := by
 have h1 : ((a + 256 * q) &&& (m + 256 * k)) % 2 ^ 8 = a &&& m := by
  rw [Nat.and_mod_two_pow, show (a + 256 * q) % 2 ^ 8 = a by omega, show (m + 256 * k) % 2 ^ 8 = m by omega]
 have h2 : ((a + 256 * q) &&& (m + 256 * k)) / 2 ^ 8 = q &&& k := by
  rw [Nat.and_div_two_pow, show (a + 256 * q) / 2 ^ 8 = q by omega, show (m + 256 * k) / 2 ^ 8 = k by omega]
 omega
theorem and8 {a0 a1 a2 a3 a4 a5 a6 a7 : Nat} (m : Nat) (h0 : a0 < 256) (h1 : a1 < 256) (h2 : a2 < 256) (h3 : a3 < 256) (h4 : a4 < 256) (h5 : a5 < 256) (h6 : a6 < 256) (h7 : a7 < 256) (hm : m < 256) :
  H8 a0 a1 a2 a3 a4 a5 a6 a7 &&& H8 m m m m m m m m = H8 (a0 &&& m) (a1 &&& m) (a2 &&& m) (a3 &&& m) (a4 &&& m) (a5 &&& m) (a6 &&& m) (a7 &&& m) := by
 unfold H8
 rw [and_byte _ _ _ _ h0 hm, and_byte _ _ _ _ h1 hm, and_byte _ _ _ _ h2 hm, and_byte _ _ _ _ h3 hm, and_byte _ _ _ _ h4 hm, and_byte _ _ _ _ h5 hm, and_byte _ _ _ _ h6 hm]
def G1 (a : Nat) : Nat := (a / 2 &&& 85) + (a &&& 85)
def G2 (b : Nat) : Nat := (b / 4 &&& 51) + (b &&& 51)
def G3 (c : Nat) : Nat := (c / 16 + c) &&& 15
theorem g3_all : ∀ (a : Fin 256) (c : Fin 5), (G2 (G1 a.val) / 16 + 16 * c.val + G2 (G1 a.val)) &&& 15 = G3 (G2 (G1 a.val)) := by decide +kernel
theorem g_len : ∀ (a : Fin 256), G3 (G2 (G1 a.val)) = (upB 8 0 a.val).length ∧ G3 (G2 (G1 a.val)) ≤ 8 ∧ G1 a.val < 256 ∧ G2 (G1 a.val) / 16 ≤ 4 ∧ G2 (G1 a.val) % 16 ≤ 4 ∧ G2 (G1 a.val) ≤ 68 := by decide +kernel
def C8 (a : Nat) : Nat := G2 (G1 a)
theorem n3 {a0 a1 a2 a3 a4 a5 a6 a7 : Nat} (h0 : a0 < 256) (h1 : a1 < 256) (h2 : a2 < 256) (h3 : a3 < 256) (h4 : a4 < 256) (h5 : a5 < 256) (h6 : a6 < 256) (h7 : a7 < 256) :
  (H8 (C8 a0) (C8 a1) (C8 a2) (C8 a3) (C8 a4) (C8 a5) (C8 a6) (C8 a7) / 16 + H8 (C8 a0) (C8 a1) (C8 a2) (C8 a3) (C8 a4) (C8 a5) (C8 a6) (C8 a7)) &&& 1085102592571150095 = H8 (G3 (C8 a0)) (G3 (C8 a1)) (G3 (C8 a2)) (G3 (C8 a3)) (G3 (C8 a4)) (G3 (C8 a5)) (G3 (C8 a6)) (G3 (C8 a7)) := by
 have g : ∀ a, a < 256 → C8 a / 16 ≤ 4 ∧ C8 a % 16 ≤ 4 ∧ C8 a ≤ 68 ∧ ∀ c, c < 5 → (C8 a / 16 + 16 * c + C8 a) &&& 15 = G3 (C8 a) := fun a ha => ⟨(g_len ⟨a, ha⟩).2.2.2.1, (g_len ⟨a, ha⟩).2.2.2.2.1, (g_len ⟨a, ha⟩).2.2.2.2.2, fun c hc => g3_all ⟨a, ha⟩ ⟨c, hc⟩⟩
 obtain ⟨p0, q0, r0, g0⟩ := g a0 h0
 obtain ⟨p1, q1, r1, g1⟩ := g a1 h1
 obtain ⟨p2, q2, r2, g2⟩ := g a2 h2
 obtain ⟨p3, q3, r3, g3⟩ := g a3 h3
 obtain ⟨p4, q4, r4, g4⟩ := g a4 h4
 obtain ⟨p5, q5, r5, g5⟩ := g a5 h5
 obtain ⟨p6, q6, r6, g6⟩ := g a6 h6
 obtain ⟨p7, q7, r7, g7⟩ := g a7 h7
 generalize C8 a0 = c0 at *
 generalize C8 a1 = c1 at *
 generalize C8 a2 = c2 at *
 generalize C8 a3 = c3 at *
 generalize C8 a4 = c4 at *
 generalize C8 a5 = c5 at *
 generalize C8 a6 = c6 at *
 generalize C8 a7 = c7 at *
 have e : H8 c0 c1 c2 c3 c4 c5 c6 c7 / 16 + H8 c0 c1 c2 c3 c4 c5 c6 c7 = H8 (c0 / 16 + 16 * (c1 % 16) + c0) (c1 / 16 + 16 * (c2 % 16) + c1) (c2 / 16 + 16 * (c3 % 16) + c2) (c3 / 16 + 16 * (c4 % 16) + c3) (c4 / 16 + 16 * (c5 % 16) + c4) (c5 / 16 + 16 * (c6 % 16) + c5) (c6 / 16 + 16 * (c7 % 16) + c6) (c7 / 16 + 16 * 0 + c7) := by unfold H8; clear g0 g1 g2 g3 g4 g5 g6 g7 g; omega
 rw [e, show 1085102592571150095 = H8 15 15 15 15 15 15 15 15 from rfl, and8 15 (by omega) (by omega) (by omega) (by omega) (by omega) (by omega) (by omega) (by omega) (by omega),
  g0 _ (by omega), g1 _ (by omega), g2 _ (by omega), g3 _ (by omega), g4 _ (by omega), g5 _ (by omega), g6 _ (by omega), g7 _ (by omega)]
end Go.Proofs.YtbjdglopkpigbaaGreatDoor.Bt
