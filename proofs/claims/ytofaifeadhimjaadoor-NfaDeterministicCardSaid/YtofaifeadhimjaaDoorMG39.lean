import Derived.Test.YtofaifeadhimjaaDoorMG37
import Derived.Test.YtofaifeadhimjaaDoorMG38
/-
  NfaLs, NfaCs
-/
set_option linter.unusedSimpArgs false
set_option linter.unusedVariables false
namespace Go.Proofs.YtofaifeadhimjaaDoor
open Go.RowKit
attribute [local go_sem] Oper.semAt_some

set_option maxRecDepth 20000 in
set_option maxHeartbeats 4000000 in
theorem lawSame_yes {n : Int} {S zs : List Int} {g : Option Addr} {t c : Nat} {aq : Option Addr} {lq cq : Nat} {w : World} (hs : IsInts .u64 w g t c zs) (hz : Bt.SetIs zs (inL S)) (hS : S.Pairwise (· < ·)) (hb : Bd n S) (hn : n ≤ 4096) (hq : IsInts .i64 w aq lq cq S) (hT : TabW w) :
  Calls Tryd.prog 17 #[.slice g t c, .slice aq lq cq] w fun e w' => e = .returned (.bool true) ∧ Below w.heap.size w w' := by
 have hls := list_S hs hz hS hb hn hT
 have hSl : S.length ≤ 4096 := by have := bd_len hS hb; omega
 have HS := Lib.hid hs
 have HZ := Lib.hid hz
 have HQ := Lib.hid hq
 clear hs hz hS hb hq hT
 go_enter Tryd.func17, Tryd.ntmps17
 go_wp2_with (go_at_call 27; refine hls.mono ?_; rintro e w2 ⟨⟨a2, c2, rfl, hi2⟩, hb2⟩)
 have hsm := Bt.same_any _ _ _ _ _ _ _ _ w2 hi2 (HQ.out.later hb2) (by omega)
 rw [decide_eq_true (rfl : S = S)] at hsm
 have HB2 := Lib.hid hb2
 clear hls hi2 hb2
 go_wp2_with (go_at_call 26; refine hsm.mono ?_; rintro e w3 ⟨rfl, hb3⟩)
 have hva := Bt.valid_yes (HS.out.later (HB2.out.trans (hb3.mono HB2.out.size))) HZ.out
 have HB3 := Lib.hid (HB2.out.trans (hb3.mono HB2.out.size))
 clear hsm hb3
 go_wp2_with (go_at_call 43; refine hva.mono ?_; rintro e w4 ⟨rfl, hb4⟩)
 go_ret
 exact ⟨rfl, HB3.out.trans (hb4.mono HB3.out.size)⟩
end Go.Proofs.YtofaifeadhimjaaDoor

set_option linter.unusedSimpArgs false
set_option linter.unusedVariables false
namespace Go.Proofs.YtofaifeadhimjaaDoor
open Go.RowKit

theorem set_congr {zs : List Int} {p q : Nat → Bool} (hz : Bt.SetIs zs p) (h : ∀ n, n < 4096 → p n = q n) : Bt.SetIs zs q := ⟨hz.1, hz.2.1, fun n hn => by rw [hz.2.2 n hn, h n hn]⟩
theorem set_nil : Bt.SetIs [] (inL []) := ⟨fun z hz => by simp at hz, ⟨Nat.zero_le _, .inl rfl⟩, fun n hn => by
 have : Bt.bt [] n = false := by unfold Bt.bt; rw [Bt.wd_over (Nat.zero_le _)]; simp [Bt.tb]
 rw [this]
 unfold inL
 simp⟩
section
variable {w : World} {a a' : Option Addr} {len len' cap cap' : Nat} {xs ys S T U : List Int}
theorem equalS (hs : IsInts .u64 w a len cap xs) (hz : Bt.SetIs xs (inL S)) (hs' : IsInts .u64 w a' len' cap' ys) (hz' : Bt.SetIs ys (inL T)) (h : ∀ z, z ∈ S ↔ z ∈ T) :
  Calls Tryd.prog 28 #[.slice a len cap, .slice a' len' cap'] w fun e w' => e = .returned (.bool true) ∧ Below w.heap.size w w' :=
 Bt.equal_yes hs hs' hz.1 hz'.1 fun n hn => by
  rw [hz.2.2 n hn, hz'.2.2 n hn]
  exact decide_eq_decide.2 (h _)
theorem subS (hs : IsInts .u64 w a len cap xs) (hz : Bt.SetIs xs (inL S)) (hs' : IsInts .u64 w a' len' cap' ys) (hz' : Bt.SetIs ys (inL T)) (h : ∀ z ∈ S, z ∈ T) :
  Calls Tryd.prog 29 #[.slice a len cap, .slice a' len' cap'] w fun e w' => e = .returned (.bool true) ∧ Below w.heap.size w w' :=
 Bt.sub_yes hs hs' hz.1 hz'.1 fun n hn hb => by
  rw [hz.2.2 n hn] at hb
  rw [hz'.2.2 n hn]
  exact decide_eq_true (h _ (of_decide_eq_true hb))
theorem unionS (hs : IsInts .u64 w a len cap xs) (hz : Bt.SetIs xs (inL S)) (hs' : IsInts .u64 w a' len' cap' ys) (hz' : Bt.SetIs ys (inL T)) (hl : len ≤ 1000) (hl' : len' ≤ 1000) (h : ∀ z, z ∈ U ↔ z ∈ S ∨ z ∈ T) :
  Calls Tryd.prog 31 #[.slice a len cap, .slice a' len' cap'] w fun e w' => (∃ g t c zs, e = .returned (.slice g t c) ∧ IsInts .u64 w' g t c zs ∧ Bt.SetIs zs (inL U) ∧ t ≤ 64) ∧ Below w.heap.size w w' := by
 refine (Bt.union_s hs hs' hz.1 hz'.1 hl hl').mono ?_
 rintro e w' ⟨g, t, zs, rfl, h1, h2, h3, h4⟩
 refine ⟨⟨_, _, _, zs, rfl, h1, set_congr h2 (fun n hn => ?_), h3⟩, h4⟩
 rw [hz.2.2 n hn, hz'.2.2 n hn]
 unfold inL
 rw [Bool.eq_iff_iff, Bool.or_eq_true, decide_eq_true_eq, decide_eq_true_eq, decide_eq_true_eq]
 exact (h _).symm
end
section
variable {n : Int} {es : List A3} {q : List Int}
theorem clo_app (ha : ArcsIn n es) {l m : List Int} (hl : Bd n l) (hm : Bd n m) (z : Int) : z ∈ cloL es (l ++ m) ↔ z ∈ cloL es l ∨ z ∈ cloL es m := by
 have hlm : Bd n (l ++ m) := fun y hy => (List.mem_append.1 hy).elim (hl y) (hm y)
 rw [mem_cloL ha hlm, mem_cloL ha hl, mem_cloL ha hm]
 constructor
 ·rintro ⟨y, hy, he⟩
  exact (List.mem_append.1 hy).elim (fun h => .inl ⟨y, h, he⟩) (fun h => .inr ⟨y, h, he⟩)
 ·rintro (⟨y, hy, he⟩ | ⟨y, hy, he⟩)
  ·exact ⟨y, List.mem_append_left _ hy, he⟩
  ·exact ⟨y, List.mem_append_right _ hy, he⟩
theorem stp_app (ha : ArcsIn n es) {l m : List Int} (hl : Bd n l) (hm : Bd n m) (c z : Int) : z ∈ stpL es (l ++ m) c ↔ z ∈ stpL es l c ∨ z ∈ stpL es m c := by
 unfold stpL movL
 rw [mem_cloL ha (tgtL_bd ha _ c), mem_cloL ha (tgtL_bd ha _ c), mem_cloL ha (tgtL_bd ha _ c)]
 have key : ∀ y, y ∈ tgtL es (cloL es (l ++ m)) c ↔ y ∈ tgtL es (cloL es l) c ∨ y ∈ tgtL es (cloL es m) c := fun y => by
  rw [mem_tgtL, mem_tgtL, mem_tgtL]
  constructor
  ·rintro ⟨hc, x, hx, h1, h2, h3⟩
   rcases (clo_app ha hl hm x.f).1 h2 with h | h
   ·exact .inl ⟨hc, x, hx, h1, h, h3⟩
   ·exact .inr ⟨hc, x, hx, h1, h, h3⟩
  ·rintro (⟨hc, x, hx, h1, h2, h3⟩ | ⟨hc, x, hx, h1, h2, h3⟩)
   ·exact ⟨hc, x, hx, h1, (clo_app ha hl hm x.f).2 (.inl h2), h3⟩
   ·exact ⟨hc, x, hx, h1, (clo_app ha hl hm x.f).2 (.inr h2), h3⟩
 constructor
 ·rintro ⟨y, hy, he⟩
  rcases (key y).1 hy with h | h
  ·exact .inl ⟨y, h, he⟩
  ·exact .inr ⟨y, h, he⟩
 ·rintro (⟨y, hy, he⟩ | ⟨y, hy, he⟩)
  ·exact ⟨y, (key y).2 (.inl hy), he⟩
  ·exact ⟨y, (key y).2 (.inr hy), he⟩
theorem bd_take (hq : Bd n q) (k : Nat) : Bd n (q.take k) := fun z hz => hq z (List.mem_of_mem_take hz)
theorem bd_one (hq : Bd n q) {k : Nat} (hk : k < q.length) : Bd n [gi q k] := fun z hz => by
 rw [List.mem_singleton.1 hz]
 exact hq _ (gi_mem _ _ hk)
theorem take_one {k : Nat} (hk : k < q.length) : q.take (k + 1) = q.take k ++ [gi q k] := by
 rw [List.take_add_one, List.getElem?_eq_getElem hk, Option.toList_some, gi_eq _ _ hk]
theorem clo_take (ha : ArcsIn n es) (hq : Bd n q) {k : Nat} (hk : k < q.length) (z : Int) : z ∈ cloL es (q.take (k + 1)) ↔ z ∈ cloL es (q.take k) ∨ z ∈ cloL es [gi q k] := by
 rw [take_one hk]
 exact clo_app ha (bd_take hq k) (bd_one hq hk) z
theorem stp_take (ha : ArcsIn n es) (hq : Bd n q) {k : Nat} (hk : k < q.length) (c z : Int) : z ∈ stpL es (q.take (k + 1)) c ↔ z ∈ stpL es (q.take k) c ∨ z ∈ stpL es [gi q k] c := by
 rw [take_one hk]
 exact stp_app ha (bd_take hq k) (bd_one hq hk) c z
theorem clo_nil (ha : ArcsIn n es) : ∀ z, z ∈ cloL es [] ↔ z ∈ ([] : List Int) := fun z => by
 rw [mem_cloL ha (fun y hy => by cases hy)]
 constructor
 ·rintro ⟨y, hy, _⟩; cases hy
 ·intro h; cases h
theorem clo_sub (ha : ArcsIn n es) (hq : Bd n q) {k : Nat} (hk : k < q.length) : ∀ z ∈ cloL es [gi q k], z ∈ cloL es q := fun z hz => by
 obtain ⟨y, hy, he⟩ := (mem_cloL ha (bd_one hq hk)).1 hz
 rw [List.mem_singleton.1 hy] at he
 exact (mem_cloL ha hq).2 ⟨_, gi_mem _ _ hk, he⟩
theorem sub_clo (ha : ArcsIn n es) (hq : Bd n q) : ∀ z ∈ q, z ∈ cloL es q := fun z hz => (mem_cloL ha hq).2 (.of_mem hz)
theorem stp_clo (ha : ArcsIn n es) (hq : Bd n q) (c : Int) : stpL es (cloL es q) c = stpL es q c := by unfold stpL; rw [cloL_cloL ha hq]
end
end Go.Proofs.YtofaifeadhimjaaDoor
