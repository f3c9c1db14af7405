import Derived.Laws.CopyOwn
import Derived.Lib.SliceRun
import Derived.Test.YtpcbmhfnefhenaaMG5
import Derived.Test.YtpcbmhfnefhenaaMG7
import Derived.Test.YtpcbmhfnefhenaaMG13
import Derived.Test.YtpcbmhfnefhenaaMG14
/-
  DfaR, DfaCl
-/
set_option linter.unusedSimpArgs false
set_option linter.unusedVariables false
namespace Go.Proofs.Ytpcbmhfnefhenaa
open Go.RowKit
attribute [local go_sem] Oper.semAt_some

theorem elI64 : Elem Try.prog 40 3 (.int .i64 0) 1 8 := ⟨Try.underlying40, by kernel_rfl, rfl, by decide⟩
theorem elB : Elem Try.prog 22 4 (.bool false) 1 1 := ⟨Try.underlying22, by kernel_rfl, rfl, by decide⟩
theorem elA : Elem Try.prog 28 63 (.agg #[.int .i64 0, .int .i64 0, .int .i64 0]) 3 24 := ⟨Try.underlying28, by kernel_rfl, rfl, by decide⟩
theorem dfa_i : (Try.prog.info? 30).map (·.size) = some 4 := by kernel_rfl
theorem dfa_one (a b : Int) (x : Option Addr) (l c : Nat) (y : Option Addr) (m e : Nat) : (#[Value.int .i64 a, Value.int .i64 b, Value.slice x l c, Value.slice y m e]).all (·.oneCell') = true := by simp [Value.oneCell']
variable {d : Dfa} {h : DH} {w : World}
def GivesD (D : Dfa) (w : World) (e : Ending) (w' : World) : Prop := (∃ h', e = .returned (vDf D h') ∧ IsDfa w' h' D) ∧ Below w.heap.size w w'
set_option maxRecDepth 20000 in
set_option maxHeartbeats 4000000 in
theorem canonical_no (hv : ValidD d) (hd : IsDfa w h d) {ak : Option Addr} {lk ck : Nat} {keep : List Bool} (hk : IsBools w ak lk ck keep) (hkl : (lk : Int) = d.n) (h0 : gb keep d.s.toNat = false) :
  Calls Try.prog 37 #[vDf d h, .slice ak lk ck] w (GivesD (canD d keep) w) := by
 have HC : Hid (canD d keep = ⟨1, 0, [false], []⟩) := Lib.hid (by unfold canD; rw [h0]; rfl)
 obtain ⟨hs0, hsn⟩ := hv.2.1
 have hn := hv.1
 have hkc := hk.capLe
 unfold maxLen at hkc
 obtain ⟨W1, hW1, hs1, hb1, hO⟩ := boxDW d h w hd
 obtain ⟨n, s, fin, es⟩ := d
 obtain ⟨fa, fl, fc, aa, al, ac⟩ := h
 simp only [vDf] at hW1 hs1 hb1 hO HC hs0 hsn hn hkl h0 ⊢
 obtain ⟨S, rfl⟩ := Int.eq_ofNat_of_zero_le hs0
 obtain ⟨bk, ok, rfl, hkc'⟩ := hk.fix (by omega)
 obtain ⟨W2, hW2⟩ : ∃ W2, W1.alloc (.cells #[.int .i64 0, .int .i64 0, .slice none 0 0, .slice none 0 0] 30) = W2 := ⟨_, rfl⟩
 have hb2 : Below W1.heap.size W1 W2 := by rw [← hW2]; exact (Below.refl _ _).alloc (Nat.le_refl _) _
 obtain ⟨⟨c1, c2, c3, c4⟩, -, hbW⟩ := hO W2 (hb2.mono (by omega))
 have ckS := hkc' W2 hbW S (by omega)
 simp only [Int.toNat_natCast] at h0
 rw [h0] at ckS
 go_enter Try.func37, Try.ntmps37
 have hZ2 : W2.heap[w.heap.size + 1]? = some (.cells #[.int .i64 0, .int .i64 0, .slice none 0 0, .slice none 0 0] 30 (0, 0)) := by rw [← hW2, ← hs1]; exact heap_alloc_new W1 _
 have hs2 : W2.heap.size = w.heap.size + 2 := by rw [← hW2]; simp; omega
 obtain ⟨W3, hW3⟩ : ∃ W3, W2.alloc (.cells #[.bool false] 4) = W3 := ⟨_, rfl⟩
 have hb3 : Below W2.heap.size W2 W3 := by rw [← hW3]; exact (Below.refl _ _).alloc (Nat.le_refl _) _
 have hZ3 : W3.heap[w.heap.size + 1]? = some (.cells #[.int .i64 0, .int .i64 0, .slice none 0 0, .slice none 0 0] 30 (0, 0)) := by rw [hb3.block _ (by omega)]; exact hZ2
 have hN3 : W3.heap[w.heap.size + 2]? = some (.cells #[.bool false] 4 (0, 0)) := by rw [← hW3, ← hs2]; exact heap_alloc_new W2 _
 have hW2' := Lib.hid hs2
 go_wp2_with (show wpList _ _ _ (⟨_, .store 30 _ _, _, _, _, _⟩ :: _) _ _; refine wpList_store_row rfl 30 _ _ rfl (w.heap.size + 1) #[.int .i64 1, .int .i64 0, .slice (some ⟨w.heap.size + 2, 0, none⟩) 1 1, .slice none 0 0] rfl rfl _ _ hZ3 dfa_i rfl (dfa_one _ _ _ _ _ _ _ _) ?_)
 try simp only [Exit.inBlock, Exit.then]
 have hZ4 := setRow_heap W3 (w.heap.size + 1) _ #[.int .i64 1, .int .i64 0, .slice (some ⟨w.heap.size + 2, 0, none⟩) 1 1, .slice none 0 0] _ _ hZ3
 have hN4 : (W3.setRow (w.heap.size + 1) #[.int .i64 1, .int .i64 0, .slice (some ⟨w.heap.size + 2, 0, none⟩) 1 1, .slice none 0 0]).heap[w.heap.size + 2]? = _ := (setRow_other W3 (w.heap.size + 1) (w.heap.size + 2) _ (by omega)).trans hN3
 refine bodyPost_ret (results_cell_row rfl _ _ (w.heap.size + 1) _ _ _ _ rfl hZ4 Try.underlying30 rfl dfa_i) rfl ?_
 rw [HC.out]
 refine ⟨⟨⟨some ⟨w.heap.size + 2, 0, none⟩, 1, 1, none, 0, 0⟩, rfl, ?_, isArcs_nil _⟩, below_setRow (hbW.trans (hb3.mono (by omega))) (by omega) _⟩
 refine .inr ⟨w.heap.size + 2, 0, rfl, Nat.le_refl _, by show 1 ≤ maxLen; unfold maxLen; omega, rfl, fun i hi => ?_⟩
 obtain rfl : i = 0 := by simp only at hi; omega
 exact cell_of_row _ _ 0 _ _ _ hN4
end Go.Proofs.Ytpcbmhfnefhenaa

set_option linter.unusedSimpArgs false
set_option linter.unusedVariables false
namespace Go.Proofs.Ytpcbmhfnefhenaa
open Go.RowKit
attribute [local go_sem] Oper.semAt_some

theorem bools_src {W : World} {a : Option Addr} {len cap : Nat} {ss : List Bool} (h : IsBools W a len cap ss) (h0 : a = none → len = 0 ∧ cap = 0) :
  (bvs ss).length = len * 1 ∧ (∀ ad, a = some ad → ∀ j u, (bvs ss)[j]? = some u → W.cell? (ad.add j) = some u) ∧ (a = none → len = 0 ∧ cap = 0) := by
 refine ⟨by rw [bvs, List.length_map, h.length, Nat.mul_one], fun ad e j u hj => ?_, h0⟩
 rcases h with ⟨_, _, rfl⟩ | ⟨b, off, rfl, _, _, hl, hc⟩
 ·simp [bvs] at hj
 ·injection e with e
  subst e
  have hjl : j < ss.length := by
   have := (List.getElem?_eq_some_iff.1 hj).1
   simpa [bvs] using this
  rw [addr_add, hc j (by omega), ← hj, gb_eq _ _ hjl]
  simp [bvs, hjl]
set_option maxRecDepth 20000 in
set_option maxHeartbeats 2000000 in
theorem clone_bools {w : World} {a : Option Addr} {len cap : Nat} {ss : List Bool} (hs : IsBools w a len cap ss) (h0 : a = none → len = 0 ∧ cap = 0) (hl : len ≤ 1000000) :
  Calls Try.prog 58 #[.slice a len cap] w fun e w' => (∃ a' c', e = .returned (.slice a' len c') ∧ w'.ownsRow w.heap.size 4 1 (.slice a' len c') len (bvs ss)) ∧ Below w.heap.size w w' := by
 cases a with
 | none =>
  obtain ⟨rfl, rfl⟩ := h0 rfl
  have hss : ss = [] := List.eq_nil_of_length_eq_zero hs.length
  subst hss
  clear hs h0
  have q22 : ∀ (w : World) (a : Option Addr) (n c n' c' : Nat), (binOp .eql 22 (.slice a n c) (.slice none n' c')).run Try.prog w = .ok (.bool a.isNone) w := fun w a n c n' c' => Go.Lib.run_eql_slice_nil w _ _ a n c n' c' Try.underlying22
  go_enter Try.func58, Try.ntmps58
  go_wp2_with (fail)
  go_ret
  exact ⟨⟨none, 0, rfl, World.ownsRow_nil _ _ _ _⟩, Below.refl _ _⟩
 | some ad =>
  obtain ⟨W1, hW1⟩ : ∃ W1, w.alloc (.cells #[] 4) = W1 := ⟨_, rfl⟩
  have hb1 : Below w.heap.size w W1 := by rw [← hW1]; exact (Below.refl _ _).alloc (Nat.le_refl _) _
  have ho1 : W1.ownsRow w.heap.size 4 1 (.slice (some ⟨w.heap.size, 0, none⟩) 0 0) 0 [] := by
   rw [← hW1]
   exact World.ownsRow_lit (base := w.heap.size) (e := 4) (size := 1) w #[] 0 (Nat.le_refl _) (by decide) (by simp)
  have hsrc := bools_src (hs.later hb1) h0
  have hones : ∀ u ∈ bvs ss, u.oneCell' = true := by
   intro u hu
   simp only [bvs, List.mem_map] at hu
   obtain ⟨b, _, rfl⟩ := hu
   rfl
  have HW := Lib.hid hW1
  have HB1 := Lib.hid hb1
  have hsz : w.heap.size ≤ W1.heap.size := hb1.size
  clear hs h0 hb1 hW1
  have q22 : ∀ (w : World) (a : Option Addr) (n c n' c' : Nat), (binOp .eql 22 (.slice a n c) (.slice none n' c')).run Try.prog w = .ok (.bool a.isNone) w := fun w a n c n' c' => Go.Lib.run_eql_slice_nil w _ _ a n c n' c' Try.underlying22
  go_enter Try.func58, Try.ntmps58
  go_wp2_with (at_builtin; rw [HW.out]; refine app_own elB rfl _ _ rfl rfl ho1 rfl (news := bvs ss) hsrc hones (by omega) hsz ?_; intro a3 c3 w3 ho3 hg3 hb3 hk3)
  have HO3 := Lib.hid ho3
  have HB3 := Lib.hid hb3
  clear ho3 hb3
  go_wp2_with (fail)
  go_ret
  refine ⟨⟨a3, c3, rfl, ?_⟩, HB1.out.trans HB3.out⟩
  have h1 := HO3.out
  rw [Nat.zero_add, List.nil_append] at h1
  exact h1
end Go.Proofs.Ytpcbmhfnefhenaa
