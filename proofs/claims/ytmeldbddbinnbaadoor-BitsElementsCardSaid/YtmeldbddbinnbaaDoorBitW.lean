/-
  Package bits: Len and Compare.
-/
import Derived.Test.YtmeldbddbinnbaaDoorBitU
import Derived.Test.YtmeldbddbinnbaaDoorBitV
set_option linter.unusedSimpArgs false
set_option linter.unusedVariables false
namespace Go.Proofs.YtmeldbddbinnbaaDoor
open Go.RowKit Go.Shelf
attribute [local go_sem] Oper.semAt_some

theorem elW_len (i z : Nat) : (elW i z).length = (upB 64 0 z).length := by unfold elW; rw [List.length_map]
theorem allTo_len1 (ws : List Int) (k : Nat) : (allTo ws (k + 1)).length = (allTo ws k).length + (upB 64 0 (gi ws k).toNat).length := by
  rw [allTo_succ, List.length_append, elW_len]

theorem TabAt.later {w w' : World} (h : TabAt 0 Lib.deBruijn64tab w) (hb : Below w.heap.size w w') : TabAt 0 Lib.deBruijn64tab w' :=
  fun j hj => (hb.cell (p := ⟨0, j, none⟩) (lt_of_cell (h j hj))).trans (h j hj)

set_option maxHeartbeats 1000000 in
theorem len_any (a : Option Addr) (len cap : Nat) (ws : List Int) (w : World) (hs : IsInts .u64 w a len cap ws) (hw : W64 ws) :
    Calls Tryd.prog 27 #[.slice a len cap] w fun e w' => e = .returned (.int .i64 ((setL (bt ws)).length : Nat)) ∧ Below w.heap.size w w' := by
  rw [← allTo_setL hw hs.length]
  obtain ⟨m, hm, hm64, hml⟩ : ∃ m : Nat, min (len : Int) 64 = (m : Int) ∧ m ≤ 64 ∧ m ≤ len := ⟨min len 64, by omega, by omega, by omega⟩
  have HM : Hid (m = min len 64) := Lib.hid (by omega)
  go_enter Tryd.func27, Tryd.ntmps27
  go_wp2


  go_loopw [3, 8] (fun c d W => ∃ k : Nat, k ≤ m ∧ d = .int .i64 (k : Int) ∧ c = .int .i64 ((allTo ws k).length : Nat) ∧ W = w) (fun _ d _ => m - (intOf d).toNat)
  case atStart => exact ⟨0, Nat.zero_le _, rfl, rfl, rfl⟩
  case round =>
    obtain ⟨k, hk, rfl, rfl, rfl⟩ := hrel
    have hle := allTo_len ws k
    rcases Nat.lt_or_ge k m with hlt | hge
    · obtain ⟨b, off, rfl, hbl, hc⟩ := hs.at wr (Below.refl _ _) k (by omega)
      have hg := hw.gi k
      have hle2 := upB_len 64 0 (gi ws k).toNat
      have hnext := Lib.hid (allTo_len1 ws k)
      go_wp2_with (go_at_call 48; refine (ones_any (gi ws k) _ hg.1 hg.2).mono ?_; rintro e w1 ⟨rfl, rfl⟩)
      go_roundw
      case rel => exact ⟨k + 1, by omega, by go_num, by rw [hnext.out]; go_num, by first | rfl | trivial⟩
      case measure => simp [intOf]; omega
    · have hkm : k = m := by omega
      subst hkm
      go_wp2
      go_ret
      exact ⟨by rw [HM.out]; rfl, Below.refl _ _⟩

theorem compare_any (a : Option Addr) (len cap : Nat) (xs : List Int) (a' : Option Addr) (len' cap' : Nat) (ys : List Int) (w : World) (hs : IsInts .u64 w a len cap xs) (hs' : IsInts .u64 w a' len' cap' ys) (hx : W64 xs) (hy : W64 ys) (hT : TabAt 0 Lib.deBruijn64tab w) :
    Calls Tryd.prog 28 #[.slice a len cap, .slice a' len' cap'] w fun e w' => e = .returned (.int .i64 (cmpL (setL (bt xs)) (setL (bt ys)))) ∧ Below w.heap.size w w' := by
  have hl1 := setL_len (bt xs)
  have hl2 := setL_len (bt ys)
  obtain ⟨A, hA⟩ : ∃ A, A = Value.slice a len cap := ⟨_, rfl⟩
  obtain ⟨B, hB⟩ : ∃ B, B = Value.slice a' len' cap' := ⟨_, rfl⟩
  have c1 : Calls Tryd.prog 15 #[A] w fun e w' => ∃ a3 n3 c3, e = .returned (.slice a3 n3 c3) ∧ w'.ownsRow w.heap.size 3 1 (.slice a3 n3 c3) n3 (ivs .i64 (setL (bt xs))) ∧ Below w.heap.size w w' := by rw [hA]; exact list_any a len cap xs w hs hx hT
  have c2 : ∀ w1, Below w.heap.size w w1 → Calls Tryd.prog 15 #[B] w1 fun e w' => ∃ a3 n3 c3, e = .returned (.slice a3 n3 c3) ∧ w'.ownsRow w1.heap.size 3 1 (.slice a3 n3 c3) n3 (ivs .i64 (setL (bt ys))) ∧ Below w1.heap.size w1 w' := by
    intro w1 hb; rw [hB]; exact list_any a' len' cap' ys w1 (hs'.later hb) hy (TabAt.later hT hb)
  rw [← hA, ← hB]
  clear hA hB
  go_enter Tryd.func28, Tryd.ntmps28
  go_wp2_with (first | (go_at_call 15; with_reducible refine c1.mono ?_; rintro e w1 ⟨a1, n1, p1, rfl, ho1, hb1⟩; have hi1 := (IsInts.of_owns ho1).1; have hn1 := Lib.hid (owns_len ho1)) | (go_at_call 15; with_reducible refine (c2 _ hb1).mono ?_; rintro e w2 ⟨a2, n2, p2, rfl, ho2, hb2⟩; have hi2 := (IsInts.of_owns ho2).1; have hn2 := Lib.hid (owns_len ho2); have hi1' := hi1.later hb2) | (go_at_call 49; with_reducible refine (slCompare_any a1 n1 p1 (setL (bt xs)) a2 n2 p2 (setL (bt ys)) _ hi1' hi2 (by have := hn1.out; omega) (by have := hn2.out; omega)).mono ?_; rintro e w3 ⟨rfl, rfl⟩))
  go_ret
  exact ⟨rfl, hb1.trans (hb2.mono hb1.size)⟩
end Go.Proofs.YtmeldbddbinnbaaDoor
