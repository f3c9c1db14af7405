import Derived.Laws.CopyOwn
import Derived.Test.YtbjdglopkpigbaaGreatDoorMG6
import Derived.Test.YtbjdglopkpigbaaGreatDoorMG25
import Derived.Test.YtbjdglopkpigbaaGreatDoorMG28
/-
  DfaR, DfaCo
-/
set_option linter.unusedSimpArgs false
set_option linter.unusedVariables false
namespace Go.Proofs.YtbjdglopkpigbaaGreatDoor
open Go.RowKit
attribute [local go_sem] Oper.semAt_some
theorem elI64 : Elem Tryz.prog 26 3 (.int .i64 0) 1 8 := ⟨Tryz.underlying26, by kernel_rfl, rfl, by decide⟩
theorem elB : Elem Tryz.prog 22 4 (.bool false) 1 1 := ⟨Tryz.underlying22, by kernel_rfl, rfl, by decide⟩
theorem elA : Elem Tryz.prog 35 49 (.agg #[.int .i64 0, .int .i64 0, .int .i64 0]) 3 24 := ⟨Tryz.underlying35, by kernel_rfl, rfl, by decide⟩
theorem dfa_i : (Tryz.prog.info? 37).map (·.size) = some 4 := by kernel_rfl
theorem dfa_one (a b : Int) (x : Option Addr) (l c : Nat) (y : Option Addr) (m e : Nat) : (#[Value.int .i64 a, Value.int .i64 b, Value.slice x l c, Value.slice y m e]).all (·.oneCell') = true := by simp [Value.oneCell']
variable {d : Dfa} {h : DH} {w : World}
def GivesD (D : Dfa) (w : World) (e : Ending) (w' : World) : Prop := (∃ h', e = .returned (vDf D h') ∧ IsDfa w' h' D) ∧ Below w.heap.size w w'
set_option maxRecDepth 20000 in
set_option maxHeartbeats 4000000 in
theorem canonical_no (hv : ValidD d) (hd : IsDfa w h d) {ak : Option Addr} {lk ck : Nat} {keep : List Bool} (hk : IsBools w ak lk ck keep) (hkl : (lk : Int) = d.n) (h0 : gb keep d.s.toNat = false) :
  Calls Tryz.prog 19 #[vDf d h, .slice ak lk ck] w (GivesD (canD d keep) w) := by
 have HC : Hid (canD d keep = ⟨1, 0, [false], []⟩) := Lib.hid (by unfold canD; rw [h0]; rfl)
 obtain ⟨hs0, hsn⟩ := hv.2.1
 have hn := hv.1
 have hkc := hk.capLe
 unfold maxLen at hkc
 obtain ⟨W1, hW1, hs1, hb1, hO⟩ := boxDW d h w hd
 obtain ⟨n, s, fin, es⟩ := d
 obtain ⟨fa, fl, fc, aa, al, ac⟩ := h
 simp only [vDf] at hW1 hs1 hb1 hO HC hs0 hsn hn hkl h0 ⊢
 obtain ⟨S, rfl⟩ := Int.eq_ofNat_of_zero_le hs0
 obtain ⟨bk, ok, rfl, hkc'⟩ := hk.fix (by omega)
 obtain ⟨W2, hW2⟩ : ∃ W2, W1.alloc (.cells #[.int .i64 0, .int .i64 0, .slice none 0 0, .slice none 0 0] 37) = W2 := ⟨_, rfl⟩
 have hb2 : Below W1.heap.size W1 W2 := by rw [← hW2]; exact (Below.refl _ _).alloc (Nat.le_refl _) _
 obtain ⟨⟨c1, c2, c3, c4⟩, -, hbW⟩ := hO W2 (hb2.mono (by omega))
 have ckS := hkc' W2 hbW S (by omega)
 simp only [Int.toNat_natCast] at h0
 rw [h0] at ckS
 go_enter Tryz.func19, Tryz.ntmps19
 have hZ2 : W2.heap[w.heap.size + 1]? = some (.cells #[.int .i64 0, .int .i64 0, .slice none 0 0, .slice none 0 0] 37 (0, 0)) := by rw [← hW2, ← hs1]; exact heap_alloc_new W1 _
 have hs2 : W2.heap.size = w.heap.size + 2 := by rw [← hW2]; simp; omega
 obtain ⟨W3, hW3⟩ : ∃ W3, W2.alloc (.cells #[.bool false] 4) = W3 := ⟨_, rfl⟩
 have hb3 : Below W2.heap.size W2 W3 := by rw [← hW3]; exact (Below.refl _ _).alloc (Nat.le_refl _) _
 have hZ3 : W3.heap[w.heap.size + 1]? = some (.cells #[.int .i64 0, .int .i64 0, .slice none 0 0, .slice none 0 0] 37 (0, 0)) := by rw [hb3.block _ (by omega)]; exact hZ2
 have hN3 : W3.heap[w.heap.size + 2]? = some (.cells #[.bool false] 4 (0, 0)) := by rw [← hW3, ← hs2]; exact heap_alloc_new W2 _
 have hW2' := Lib.hid hs2
 go_wp2_with (show wpList _ _ _ (⟨_, .store 37 _ _, _, _, _, _⟩ :: _) _ _; refine wpList_store_row rfl 37 _ _ rfl (w.heap.size + 1) #[.int .i64 1, .int .i64 0, .slice (some ⟨w.heap.size + 2, 0, none⟩) 1 1, .slice none 0 0] rfl rfl _ _ hZ3 dfa_i rfl (dfa_one _ _ _ _ _ _ _ _) ?_)
 try simp only [Exit.inBlock, Exit.then]
 have hZ4 := setRow_heap W3 (w.heap.size + 1) _ #[.int .i64 1, .int .i64 0, .slice (some ⟨w.heap.size + 2, 0, none⟩) 1 1, .slice none 0 0] _ _ hZ3
 have hN4 : (W3.setRow (w.heap.size + 1) #[.int .i64 1, .int .i64 0, .slice (some ⟨w.heap.size + 2, 0, none⟩) 1 1, .slice none 0 0]).heap[w.heap.size + 2]? = _ := (setRow_other W3 (w.heap.size + 1) (w.heap.size + 2) _ (by omega)).trans hN3
 refine bodyPost_ret (results_cell_row rfl _ _ (w.heap.size + 1) _ _ _ _ rfl hZ4 Tryz.underlying37 rfl dfa_i) rfl ?_
 rw [HC.out]
 refine ⟨⟨⟨some ⟨w.heap.size + 2, 0, none⟩, 1, 1, none, 0, 0⟩, rfl, ?_, isArcs_nil _⟩, below_setRow (hbW.trans (hb3.mono (by omega))) (by omega) _⟩
 refine .inr ⟨w.heap.size + 2, 0, rfl, Nat.le_refl _, by show 1 ≤ maxLen; unfold maxLen; omega, rfl, fun i hi => ?_⟩
 obtain rfl : i = 0 := by simp only at hi; omega
 exact cell_of_row _ _ 0 _ _ _ hN4
end Go.Proofs.YtbjdglopkpigbaaGreatDoor
namespace Go.Proofs.YtbjdglopkpigbaaGreatDoor
open Go.RowKit
attribute [local go_sem] Oper.semAt_some
set_option maxRecDepth 20000 in
theorem out_in (d : Dfa) (h : DH) (q : Int) (w : World) (hd : IsDfa w h d) (hS : SortedA d.arcs) (hL : ∀ x ∈ d.arcs, 1 ≤ x.l) (hl : d.arcs.length ≤ 20000) (hq : 0 ≤ q ∧ q < 1000000) :
  Calls Tryz.prog 23 #[vDf d h, .int .i64 q] w fun e w' => (∃ a' c', e = .returned (.slice a' (outsD d.arcs q).length c') ∧ ∀ W0, IsDfa W0 h d → IsArcs W0 a' (outsD d.arcs q).length c' (outsD d.arcs q)) ∧ Below w.heap.size w w' := by
 obtain ⟨n, s, fin, es⟩ := d
 obtain ⟨fa, fl, fc, aa, al, ac⟩ := h
 obtain ⟨-, he⟩ := hd
 simp only at he hS hl hL ⊢
 have hlen := he.length
 have hcap := he.capLe
 unfold maxLen at hcap
 rw [hlen] at hl
 obtain ⟨hb1, hs1, hO⟩ := boxD n s fa fl fc aa al ac w
 obtain ⟨W1, hW1⟩ : ∃ W1, w.alloc (.cells #[.int .i64 n, .int .i64 s, .slice fa fl fc, .slice aa al ac] 37) = W1 := ⟨_, rfl⟩
 rw [hW1] at hb1 hs1 hO
 obtain ⟨-, -, -, co⟩ := hO W1 (Below.refl _ _)
 have hcall := fun W (hb : Below w.heap.size w W) (c : Int) => search_any _ al ac es c 0 W (he.later hb) hS (by omega)
 obtain ⟨hik, hpart⟩ := outsD_part hS hL q
 have hk := loP_le es ⟨q + 1, 0, 0⟩
 rw [hlen] at hk
 have hc0 := hcall W1 hb1 q
 have hc1 := fun W hb => hcall W hb (q + 1)
 obtain ⟨i, hi⟩ : ∃ i, loP es ⟨q, 0, 0⟩ = i := ⟨_, rfl⟩
 obtain ⟨k, hk'⟩ : ∃ k, loP es ⟨q + 1, 0, 0⟩ = k := ⟨_, rfl⟩
 rw [hi] at hc0 hik hpart
 rw [hk'] at hc1 hik hpart hk
 simp only [vA] at hc0 hc1
 have HC := Lib.hid hc1
 have hol : (outsD es q).length = k - i := by rw [← hpart, List.length_take, List.length_drop]; omega
 have HP := Lib.hid hpart
 have HE := Lib.hid he
 unfold vDf
 rw [hol]
 clear hcall hi hk' hpart hc1 he hol
 have hi64 : ((i : Int) ≤ k) := by omega
 have hk64 : ((k : Int) ≤ ac) := by omega
 go_enter Tryz.func23, Tryz.ntmps23
 go_wp2_with (first | (go_at_call 33; with_reducible refine hc0.mono ?_; rintro e w2 ⟨⟨u, rfl, hu⟩, hb2⟩; have HB2 : Hid (Below w.heap.size w w2) := Lib.hid (hb1.trans (hb2.mono hb1.size)); obtain ⟨-, -, -, co2⟩ := hO w2 (hb2.mono (by omega)); have hc2 := HC.out w2 HB2.out) | (go_at_call 33; with_reducible refine hc2.mono ?_; rintro e w3 ⟨⟨u3, rfl, hu3⟩, hb3⟩; obtain ⟨-, -, -, co3⟩ := hO w3 ((hb2.trans (hb3.mono hb2.size)).mono (by omega))))
 all_goals (
  have hB3 : Below w.heap.size w w3 := HB2.out.trans (hb3.mono HB2.out.size)
  rw [← HP.out])
 ·go_ret
  have h0 : k - i = 0 := by omega
  exact ⟨⟨aa, 0, by rw [h0]; rfl, fun W0 _ => .inl ⟨h0, rfl, by rw [h0]; rfl⟩⟩, hB3⟩
 ·rcases HE.out with ⟨h1, h2, h3⟩ | ⟨b, off, rfl, h4⟩
  ·go_ret
   have h0 : k - i = 0 := by omega
   exact ⟨⟨_, ac - i, by rw [h0]; rfl, fun W0 _ => .inl ⟨h0, by omega, by rw [h0]; rfl⟩⟩, hB3⟩
  ·go_ret
   exact ⟨⟨some ⟨b, off + i * 3, none⟩, ac - i, by rw [← addr_add]; rfl, fun W0 hW0 => IsArcs.part hW0.arcs hik hk (by omega) (by unfold maxLen; omega)⟩, hB3⟩
end Go.Proofs.YtbjdglopkpigbaaGreatDoor
