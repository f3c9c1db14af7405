import Derived.Test.YtofaifeadhimjaaGreatDoorShelf
import Derived.Test.YtofaifeadhimjaaGreatDoorMG16
/-
  BtH, BtI
-/
set_option linter.unusedSimpArgs false
set_option linter.unusedVariables false
namespace Go.Proofs.YtofaifeadhimjaaGreatDoor.Bt
open Go.RowKit Go.Shelf

def withStep (n : Int) (s : List Int × Bool) (x : Int) : List Int × Bool :=
 if s.2 = false ∧ n ≤ x then ((if n < x then s.1 ++ [n] else s.1) ++ [x], true) else (s.1 ++ [x], s.2)
def withF (l : List Int) (n : Int) : List Int × Bool := l.foldl (withStep n) ([], false)
def withL (l : List Int) (n : Int) : List Int := if (withF l n).2 = true then (withF l n).1 else (withF l n).1 ++ [n]
theorem withF_snoc (l : List Int) (n : Int) (k : Nat) (h : k < l.length) : withF (l.take (k + 1)) n = withStep n (withF (l.take k) n) (gi l k) := by
 rw [take_succ_gi l k h, withF, List.foldl_append]; rfl

set_option maxRecDepth 20000 in
set_option maxHeartbeats 2000000 in
theorem refWith_any (a : Option Addr) (len cap : Nat) (xs : List Int) (n : Int) (w : World) (hs : IsInts .i64 w a len cap xs) (hl : len ≤ 1000000) :
  Calls Tryz.prog 52 #[.slice a len cap, .int .i64 n] w fun e w' => ∃ a3 n3 c3, e = .returned (.slice a3 n3 c3) ∧ w'.ownsRow w.heap.size 3 1 (.slice a3 n3 c3) n3 (ivs .i64 (withL xs n)) ∧ Below w.heap.size w w' := by
 have HX : Hid (xs.length = len) := Lib.hid hs.length
 go_enter Tryz.func52, Tryz.ntmps52
 go_wp2
 go_loopw [5, 6, 7] (fun v d c W => ∃ k ao no co D L, k ≤ len ∧ c = .int .i64 (k : Int) ∧ v = .slice ao no co ∧ d = .bool D ∧ no ≤ 2 * k ∧ withF (xs.take k) n = (L, D) ∧ W.ownsRow w.heap.size 3 1 (.slice ao no co) no (ivs .i64 L) ∧ Below w.heap.size w W) (fun _ _ c _ => len - (intOf c).toNat)
 case atStart => exact ⟨0, none, 0, 0, false, [], Nat.zero_le _, rfl, rfl, rfl, Nat.le_refl _, rfl, World.ownsRow_nil _ _ _ _, Below.refl _ _⟩
 case round =>
  obtain ⟨k, ao, no, co, D, L, hk, rfl, rfl, rfl, hno, hF, ho, hb⟩ := hrel
  rcases Nat.lt_or_ge k len with hlt | hge
  ·obtain ⟨b, off, rfl, hbl, hc⟩ := hs.at wr hb k hlt
   have hkx : k < xs.length := by rw [HX.out]; exact hlt
   have hS := withF_snoc xs n k hkx
   rw [hF] at hS
   unfold withStep at hS
   simp only at hS
   have hlw := hb.size
   have hcc := fun W (hC : Below wr.heap.size wr W) => (hC.cell (p := ⟨b, off + k, none⟩) (show b < _ by omega)).trans hc
   cases D with
   | true =>
    rw [if_neg (by simp)] at hS
    have HS := Lib.hid hS
    clear hS hF hs
    go_wp2_with (at_builtin; refine app_one (k := .i64) elI64 rfl _ _ rfl rfl ho rfl (by omega) hb.size ?_; clear ho; intro a3 c3 w3 ho hb3; replace hb := hb.trans hb3; clear hb3)
    go_roundw
    case rel => exact ⟨k + 1, a3, no + 1, c3, true, _, hlt, by go_num, rfl, rfl, by omega, HS.out, ho, hb⟩
    case measure => simp [intOf]; omega
   | false =>
    rcases Int.lt_trichotomy n (gi xs k) with hn | hn | hn
    ·have hd1 : decide (n ≤ gi xs k) = true := decide_eq_true (by omega)
     have hd2 : decide (n < gi xs k) = true := decide_eq_true hn
     rw [if_pos ⟨rfl, by omega⟩, if_pos hn] at hS
     have HS := Lib.hid hS
     clear hS hF hs hn
     go_wp2_with (at_builtin; refine app_one (k := .i64) elI64 rfl _ _ rfl rfl ho rfl (by omega) hb.size ?_; clear ho; intro a3 c3 w3 ho hb3; have hc2 := (hb3.cell (p := ⟨b, off + k, none⟩) (show b < _ by omega)); replace hb := hb.trans hb3; clear hb3; try (rw [hc] at hc2))
     go_roundw
     case rel => exact ⟨k + 1, a3, no + 1 + 1, c3, true, _, hlt, by go_num, rfl, rfl, by omega, HS.out, ho, hb⟩
     case measure => simp [intOf]; omega
    ·have hd1 : decide (n ≤ gi xs k) = true := decide_eq_true (by omega)
     have hd2 : decide (n < gi xs k) = false := decide_eq_false (by omega)
     rw [if_pos ⟨rfl, by omega⟩, if_neg (by omega)] at hS
     have HS := Lib.hid hS
     clear hS hF hs hn
     go_wp2_with (at_builtin; refine app_one (k := .i64) elI64 rfl _ _ rfl rfl ho rfl (by omega) hb.size ?_; clear ho; intro a3 c3 w3 ho hb3; replace hb := hb.trans hb3; clear hb3)
     go_roundw
     case rel => exact ⟨k + 1, a3, no + 1, c3, true, _, hlt, by go_num, rfl, rfl, by omega, HS.out, ho, hb⟩
     case measure => simp [intOf]; omega
    ·have hd1 : decide (n ≤ gi xs k) = false := decide_eq_false (by omega)
     rw [if_neg (by omega)] at hS
     have HS := Lib.hid hS
     clear hS hF hs hn
     go_wp2_with (at_builtin; refine app_one (k := .i64) elI64 rfl _ _ rfl rfl ho rfl (by omega) hb.size ?_; clear ho; intro a3 c3 w3 ho hb3; replace hb := hb.trans hb3; clear hb3)
     go_roundw
     case rel => exact ⟨k + 1, a3, no + 1, c3, false, _, hlt, by go_num, rfl, rfl, by omega, HS.out, ho, hb⟩
     case measure => simp [intOf]; omega
  ·have hkm : k = len := by omega
   subst hkm
   rw [List.take_of_length_le (by rw [HX.out]; exact Nat.le_refl _)] at hF
   cases D with
   | true =>
    have HW : Hid (withL xs n = L) := Lib.hid (by unfold withL; rw [hF]; rfl)
    clear hF
    go_wp2
    go_ret
    exact ⟨ao, no, co, rfl, by rw [HW.out]; exact ho, hb⟩
   | false =>
    have HW : Hid (withL xs n = L ++ [n]) := Lib.hid (by unfold withL; rw [hF]; rfl)
    clear hF
    go_wp2_with (at_builtin; refine app_one (k := .i64) elI64 rfl _ _ rfl rfl ho rfl (by omega) hb.size ?_; clear ho; intro a3 c3 w3 ho hb3; replace hb := hb.trans hb3; clear hb3)
    go_ret
    exact ⟨a3, no + 1, c3, rfl, by rw [HW.out]; exact ho, hb⟩
end Go.Proofs.YtofaifeadhimjaaGreatDoor.Bt

set_option linter.unusedSimpArgs false
set_option linter.unusedVariables false
namespace Go.Proofs.YtofaifeadhimjaaGreatDoor.Bt
open Go.RowKit Go.Shelf

theorem withStep_len (n : Int) (s : List Int × Bool) (x : Int) : (withStep n s x).1.length + (if s.2 then 1 else 0) ≤ s.1.length + 1 + (if (withStep n s x).2 then 1 else 0) := by
 unfold withStep
 split
 ·rename_i h
  rw [h.1]
  split <;> simp
 ·simp
theorem withF_len (n : Int) (l : List Int) : ∀ s : List Int × Bool, (l.foldl (withStep n) s).1.length + (if s.2 then 1 else 0) ≤ s.1.length + l.length + (if (l.foldl (withStep n) s).2 then 1 else 0) := by
 induction l with
 | nil => rintro ⟨a, b⟩; cases b <;> simp
 | cons x l ih =>
  intro s
  have h1 := ih (withStep n s x)
  have h2 := withStep_len n s x
  rw [List.foldl_cons, List.length_cons]
  omega
theorem withL_len (l : List Int) (n : Int) : (withL l n).length ≤ l.length + 1 := by
 have := withF_len n l ([], false)
 change (withF l n).1.length + (if false = true then 1 else 0) ≤ 0 + l.length + (if (withF l n).2 = true then 1 else 0) at this
 unfold withL
 split
 ·rename_i h; rw [h] at this; simp at this; omega
 ·rename_i h; rw [if_neg h] at this; simp at this ⊢; omega

theorem owns_len {w : World} {B e n cap : Nat} {a : Option Addr} {k : IntKind} {xs : List Int} (h : w.ownsRow B e 1 (.slice a n cap) n (ivs k xs)) : n = xs.length := by
 have := h.1
 simp [ivs] at this
 omega

def unionL (xs ys : List Int) : List Int := ys.foldl withL xs
theorem unionL_snoc (xs ys : List Int) (k : Nat) (h : k < ys.length) : unionL xs (ys.take (k + 1)) = withL (unionL xs (ys.take k)) (gi ys k) := by
 rw [take_succ_gi ys k h, unionL, List.foldl_append]; rfl

end Go.Proofs.YtofaifeadhimjaaGreatDoor.Bt
