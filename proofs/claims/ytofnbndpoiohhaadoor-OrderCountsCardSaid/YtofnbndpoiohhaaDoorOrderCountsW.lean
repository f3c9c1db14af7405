/-
  OrderCounts: the walk.
-/
import Derived.Test.YtofnbndpoiohhaaDoorOrdZr
import Derived.Test.YtofnbndpoiohhaaDoorOrdK
import Derived.OpenShut
set_option linter.unusedSimpArgs false
set_option linter.unusedVariables false
set_option maxHeartbeats 2000000
namespace Go.Proofs.YtofnbndpoiohhaaDoor
open Go.RowKit Go.Shelf Go.ChangeShapes
attribute [local go_sem] Oper.semAt_some

theorem orderCounts_walk (n : Int) (a : Option Addr) (len cap : Nat) (es : List (Int × Int)) (most : Int) (w : World) (he : IsPairs w a len cap es) (hn : (Lit.int .i64 n).wf = true) (hmost : (Lit.int .i64 most).wf = true) (hT : TabAt 0 Lib.deBruijn64tab w) :
    Calls Tryd.prog 10 #[.agg #[.int .i64 n, .slice a len cap], .int .i64 most] w fun e w' => e = .returned (.bool true) ∧ Below w.heap.size w w' := by
  clear hn hmost
  obtain ⟨hb2, hs2, hRO⟩ := boxR n a len cap w
  obtain ⟨W2, hW2⟩ : ∃ W2, w.alloc (.cells #[.int .i64 n, .slice a len cap] 24) = W2 := ⟨_, rfl⟩
  rw [hW2] at hb2 hs2 hRO
  have he2 := he.later hb2
  have hT2 := tab_later hT hb2
  have hcap : len ≤ maxLen := by
    rcases he with ⟨_, h, _⟩ | ⟨_, _, _, h, h', _⟩
    · rw [h]; decide
    · omega
  unfold maxLen at hcap
  have HW := Lib.hid hW2
  rw [← hs2] at hRO
  obtain ⟨r0, r1⟩ := hRO _ (Below.refl _ _)
  have HRO := Lib.hid hRO
  clear hW2 hRO
  go_enter Tryd.func10, Tryd.ntmps10
  go_wp2_with (fail)
  rw [HW.out]
  go_at_call 11
  refine (awake_any _ hT2).mono ?_
  rintro e w3 ⟨rfl, hb3⟩
  clear r0 r1
  obtain ⟨r0, r1⟩ := HRO.out _ hb3
  go_wp2_with (fail)
  go_at_call 12
  refine (few_any n a len cap w3 (by omega)).mono ?_
  rintro e w4 ⟨rfl, hb4⟩
  have hb24 := hb3.trans (hb4.mono hb3.size)
  have hT4 := tab_later hT2 hb24
  have hb04 := hb2.trans (hb24.mono hb2.size)
  clear r0 r1
  obtain ⟨r0, r1⟩ := HRO.out _ hb24
  cases hf : decide (n ≤ 12 ∧ len ≤ 80) with
  | false =>
    go_wp2_with (fail)
    go_at_call 11
    refine (awake_any _ hT4).mono ?_
    rintro e w5 ⟨rfl, hb5⟩
    go_wp2
    go_ret
    exact ⟨rfl, hb04.trans (hb5.mono hb04.size)⟩
  | true =>
  have hf' := of_decide_eq_true hf
  clear hf
  obtain ⟨hb5, hs5, hO5⟩ := boxT 27 n a len cap w4
  obtain ⟨w5, hw5⟩ : ∃ w5, w4.alloc (.cells #[.int .i64 n, .slice a len cap] 27) = w5 := ⟨_, rfl⟩
  rw [hw5] at hb5 hs5 hO5
  rw [← hs5] at hO5
  have hb25 := hb24.trans (hb5.mono hb24.size)
  have hb05 := hb2.trans (hb25.mono hb2.size)
  have hT5 := tab_later hT2 hb25
  have he5 := he2.later hb25
  have hBO : ∀ W, Below w5.heap.size w5 W → (W.cell? ⟨w.heap.size, 0, none⟩ = some (.int .i64 n) ∧ W.cell? ⟨w.heap.size, 1, none⟩ = some (.slice a len cap)) ∧ W.cell? ⟨w4.heap.size, 0, none⟩ = some (.int .i64 n) ∧ W.cell? ⟨w4.heap.size, 1, none⟩ = some (.slice a len cap) :=
    fun W h => ⟨HRO.out W (hb25.trans (h.mono hb25.size)), hO5 W h⟩
  have HBO := Lib.hid hBO
  replace hw5 := Lib.hid hw5
  clear hBO hO5
  have hcap63 : len ≤ 9223372036854775807 := by omega
  clear hf'
  go_wp2_with (fail)
  rw [hw5.out]
  clear r0 r1
  obtain ⟨⟨r0, r1⟩, o0, o1⟩ := HBO.out _ (Below.refl _ _)
  go_wp2_with (fail)
  go_at_call 26
  refine (ext_any most he5 hT5).mono ?_
  rintro e w6 ⟨⟨v, c, rfl, hE⟩, hb6⟩
  clear r0 r1 o0 o1
  obtain ⟨⟨r0, r1⟩, o0, o1⟩ := HBO.out _ hb6
  go_wp2_with (fail)
  go_at_call 29
  refine (refExt_any most (he5.later hb6) hcap63).mono ?_
  rintro e w7 ⟨⟨v', c', rfl, hE'⟩, hb7⟩
  obtain ⟨rfl, rfl⟩ := hE.uniq hE'
  clear hE hE' r0 r1 o0 o1
  have hb57 := hb6.trans (hb7.mono hb6.size)
  obtain ⟨⟨r0, r1⟩, o0, o1⟩ := HBO.out _ hb57
  go_wp2_with (fail)
  go_at_call 28
  refine (reduce_any (he5.later hb57) (tab_later hT5 hb57)).mono ?_
  rintro e w8 ⟨⟨u, ao, k, co, ps, d, rfl, hI8, hk, hR⟩, hb8⟩
  have hb58 := hb57.trans (hb8.mono hb57.size)
  clear r0 r1 o0 o1
  go_wp2_with (show wpList _ _ _ (⟨_, .store 27 _ _, _, _, _, _⟩ :: _) _ _; refine store_box iOrd (u := .int .i64 u) (v := .slice ao k co) rfl _ _ rfl rfl rfl rfl rfl rfl ?_; intro w9 hs9 hb9 hQ9; replace hs9 := Lib.hid hs9; have hb59 := hb58.trans (hb9.mono hb58.size); obtain ⟨⟨r0, r1⟩, o0, o1⟩ := HBO.out _ hb59)
  go_at_call 30
  refine (refReduce_any (he5.later hb59) hcap63).mono ?_
  rintro e w10 ⟨⟨u', ao', k', co', ps', d', rfl, hI10, hk', hR'⟩, hb10⟩
  obtain ⟨rfl, rfl, rfl⟩ := hR.uniq hR'
  have hb5A := hb59.trans (hb10.mono hb59.size)
  clear r0 r1 o0 o1 hR hR'
  go_wp2_with (show wpList _ _ _ (⟨_, .store 24 _ _, _, _, _, _⟩ :: _) _ _; refine store_box iOrdR (u := .int .i64 u) (v := .slice ao' k' co') rfl _ _ rfl rfl rfl rfl rfl rfl ?_; intro w11 hs11 hb11 hQ11; replace hs11 := Lib.hid hs11; have hb5B := hb5A.trans (hb11.mono hb5A.size); obtain ⟨⟨r0, r1⟩, o0, o1⟩ := HBO.out _ hb5B)
  go_at_call 27
  refine (height_any (he5.later hb5B) (tab_later hT5 hb5B)).mono ?_
  rintro e w12 ⟨⟨m, x, rfl, hH⟩, hb12⟩
  have hb5C := hb5B.trans (hb12.mono hb5B.size)
  clear r0 r1 o0 o1
  obtain ⟨⟨r0, r1⟩, o0, o1⟩ := HBO.out _ hb5C
  go_wp2_with (fail)
  go_at_call 31
  refine (refHeight_any (he5.later hb5C) hcap63).mono ?_
  rintro e w13 ⟨⟨m', x', rfl, hH'⟩, hb13⟩
  obtain ⟨rfl, rfl⟩ := hH.uniq hH'
  clear r0 r1 o0 o1 hH hH'
  have hb5D := hb5C.trans (hb13.mono hb5C.size)
  have hbBD := hb12.trans (hb13.mono hb12.size)
  have hb9D := (hb10.trans (hb11.mono hb10.size)).trans (hbBD.mono (hb10.trans (hb11.mono hb10.size)).size)
  have hb8D := hb9.trans (hb9D.mono hb9.size)
  have hbAD := hb11.trans (hbBD.mono hb11.size)
  obtain ⟨⟨q0, -⟩, q1, -⟩ := (hQ9.later hb9D).cells
  obtain ⟨⟨s0, -⟩, s1, -⟩ := (hQ11.later hbBD).cells
  have hJ := hI8.later hb8D
  have hJ' := hI10.later hbAD
  have e1 : (v == v) = true := beq_self_eq_true v
  have e2 : (c == c) = true := beq_self_eq_true c
  have e3 : (d == d) = true := beq_self_eq_true d
  have e4 : (m == m) = true := beq_self_eq_true m
  have e5 : (x == x) = true := beq_self_eq_true x
  have hb0D := hb05.trans (hb5D.mono hb05.size)
  clear hb8D hb9D hbAD hbBD hQ9 hQ11 hI8 hI10
  go_wp2_with (fail)
  go_at_call 32
  refine (refSameO_yes hJ hJ' (by omega)).mono ?_
  rintro e w14 ⟨rfl, hb14⟩
  go_wp2
  go_ret
  exact ⟨rfl, hb0D.trans (hb14.mono hb0D.size)⟩
end Go.Proofs.YtofnbndpoiohhaaDoor
