import Derived.Laws.ResultCell
import Derived.Test.YtpcbmhfnefhenaaMG20
/-
  DfaEd, DfaEe
-/
set_option linter.unusedSimpArgs false
set_option linter.unusedVariables false
namespace Go.Proofs.Ytpcbmhfnefhenaa
open List (foldr_cons foldr_nil setIfInBounds_toArray set_cons_succ set_cons_zero)
open Go.RowKit
attribute [local go_sem] Oper.semAt_some

theorem row_heap {W : World} {B e g n : Nat} {xs : List Value} (h : W.ownsRow B e 1 (.slice (some ⟨g, 0, none⟩) n n) n xs) : W.heap[g]? = some (.cells xs.toArray e (0, 0)) ∧ B ≤ g := by
  obtain ⟨hl, h⟩ := h
  rcases h with ⟨e1, rfl⟩ | ⟨g', c, cur, e1, hg, hh, hn, hc, hs, ht⟩
  · cases e1
  · injection e1 with e1 _ e2
    injection e1 with e1
    injection e1 with e1
    subst e1 e2
    refine ⟨?_, hg⟩
    rw [hh]
    have : cur = xs.toArray := by
      rw [← ht, List.take_of_length_le (by simp; omega)]
    rw [this]
theorem wp_copy_own {P : Program} {w : World} {o : Oper} {a : Act} {K : Act → World → Prop} {Q : Exit → Act → World → Prop} (d s : Operand) (dT sT : TypeId)
    (ho : o.op = .call { callee := .builtin .copy, args := #[d, s], argTypes := #[dT, sT] }) (elem : TypeId) (hu : P.underlying dT = some (.slice elem)) (hsz : (P.info? elem).map (·.size) = some 1)
    (g off dLen dCap : Nat) (ad : Addr) (sLen sCap : Nat) (hd : a.eval d = .slice (some ⟨g, off, none⟩) dLen dCap) (hs : a.eval s = .slice (some ad) sLen sCap)
    (cur : Array Value) (t : TypeId) (hg : w.heap[g]? = some (.cells cur t (0, 0))) (cs : List Value) (hn : cs.length = Nat.min sLen dLen)
    (hsrc : ∀ j v, cs[j]? = some v → w.cell? (ad.add j) = some v) (hfit : off + cs.length ≤ cur.size) (h1 : ∀ v ∈ cs, v.oneCell' = true)
    (h : K (a.put o.dst (goInt cs.length)) (w.setRow g (cur.toList.take off ++ (cs ++ cur.toList.drop (off + cs.length))).toArray)) : o.wp P a w K Q := by
  have hrun := run_copy_row (P := P) w dT sT o.type elem g off dLen dCap ad sLen sCap cur t cs hu hsz hg hn hsrc hfit h1
  unfold Oper.wp
  simp [execOp, ho, resolve, invoke, builtin, hd, hs, hrun, Result.andThen]
  exact h
def repK (N k : Nat) : List Value := List.replicate k (.bool true) ++ List.replicate (N - k) (.bool false)
theorem repK_len {N k : Nat} (h : k ≤ N) : (repK N k).length = N := by simp [repK]; omega
theorem repK_zero (N : Nat) : repK N 0 = List.replicate N (.bool false) := by simp [repK]
theorem repK_full (N : Nat) : repK N N = bvs (allK N) := by simp [repK, bvs, allK]
theorem repK_splice {N k m : Nat} (h : k + m ≤ N) : splice (repK N k) k (List.replicate m (.bool true)) = repK N (k + m) := by
  unfold splice repK
  rw [List.take_append_of_le_length (by simp), List.take_of_length_le (by simp), List.length_replicate, List.drop_append, List.drop_of_length_le (by simp), List.nil_append, List.length_replicate, List.drop_replicate, ← List.append_assoc, List.replicate_append_replicate]
  congr 2
  omega
theorem repK_get {N k j : Nat} (h : j < k) : (repK N k)[j]? = some (.bool true) := by
  unfold repK
  rw [List.getElem?_append_left (by simpa using h)]
  simp [h]
set_option maxRecDepth 20000 in
theorem repeat_any (N : Nat) (hN : 1 ≤ N ∧ N ≤ 100000) (b : Nat) (w : World) (hc : w.cell? ⟨b, 0, none⟩ = some (.bool true)) :
    Calls Try.prog 65 #[.slice (some ⟨b, 0, none⟩) 1 1, .int .i64 (N : Int)] w fun e w' => (∃ a c, e = .returned (.slice a N c) ∧ IsBools w' a N c (allK N)) ∧ Below w.heap.size w w' := by
  have hmul := Try.bits_Mul 1 N (by omega) (by omega) w
  rw [show 1 * N / 18446744073709551616 = 0 by omega, show 1 * N % 18446744073709551616 = N by omega] at hmul
  have HM := Lib.hid hmul
  have HC := Lib.hid hc
  have hinfo : (Try.prog.info? 4).map (·.size) = some 1 := by kernel_rfl
  clear hmul hc
  go_enter Try.func65, Try.ntmps65
  go_wp2_with (first | (go_at_call 76; refine HM.out.mono ?_; rintro e w1 ⟨rfl, hw1⟩; subst hw1) | (refine make_rows elB rfl rfl _ _ rfl rfl rfl rfl rfl (by omega) (Nat.le_refl _) ?_; intro w2 ho2 hb2; have HH2 := Lib.hid (row_heap ho2).1) | (show wpList _ _ _ (⟨some 33, _, _, _, _, _⟩ :: _) _ _; generalize hQQ : wpList _ _ _ _ _ _ = GG))
  subst hQQ
  refine wpList_copy_splice rfl (.tmp 31) (.tmp 32) 22 22 rfl 4 Try.underlying22 hinfo _ _ _ _ _ _ rfl rfl _ 0 (repK N 0) 4 (by rw [repK_zero]; exact HH2.out) (List.replicate 1 (.bool true)) (by rw [List.length_replicate]; exact (Nat.min_eq_left hN.1).symm) (fun _ => ⟨rfl, _, rfl, fun j v hj => by have hj0 : j = 0 := (by have := (List.getElem?_eq_some_iff.1 hj).1; simpa using this); subst hj0; rw [List.getElem?_replicate] at hj; simp at hj; subst hj; exact (hb2.cell (lt_of_cell HC.out)).trans HC.out⟩) (by rw [repK_len (Nat.zero_le _)]; simp; omega) (by intro v hv; rw [List.eq_of_mem_replicate hv]; rfl) _ _ hb2 (Nat.le_refl _) ?_
  intro w3 HG3 hB3
  have HG4 : Hid (w3.heap[w1.heap.size]? = some (.cells (repK N 1).toArray 4 (0, 0))) := Lib.hid (by rw [← Nat.zero_add 1, ← repK_splice (by omega)]; exact HG3.out)
  obtain ⟨B, hB⟩ : ∃ B, w1.heap.size = B := ⟨_, rfl⟩
  rw [hB] at HG4 hB3 ⊢
  have HBB := Lib.hid hB
  clear HG3 ho2 HH2 hB
  go_wp2_with (fail)
  go_loopw [8] (fun c W => ∃ k : Nat, 1 ≤ k ∧ k ≤ N ∧ c = .int .i64 (k : Int) ∧ Hid (W.heap[B]? = some (.cells (repK N k).toArray 4 (0, 0))) ∧ Below B w1 W) (fun c _ => N - (intOf c).toNat)
  case atStart => exact ⟨1, Nat.le_refl _, hN.1, rfl, HG4, hB3⟩
  case round =>
    clear HG4 hB3 hb2
    obtain ⟨k, h1, hk, rfl, HG, hb⟩ := hrel
    rcases Nat.lt_or_ge k N with hlt | hge
    · have t1 : decide (k < N) = true := decide_eq_true hlt
      have hkN : (k : Int) ≤ N := by omega
      go_wp2_with (fail)
      obtain ⟨m, hm⟩ : ∃ m, m = min k (N - k) := ⟨_, rfl⟩
      have hm1 : 1 ≤ m ∧ k + m ≤ N ∧ m ≤ k := by omega
      have HMM := Lib.hid hm
      have hne : ¬ N = k := by omega
      clear hm
      obtain ⟨S, hSd⟩ : ∃ S : (Nat → Bool) → (Nat → Value) → World → Prop, S = fun L f W => Below B w1 W ∧ Hid (W.heap[B]? = some (.cells (repK N (if L 7 = true then k + m else k)).toArray 4 (0, 0))) := ⟨_, rfl⟩
      refine wp_region_st mixed (by kernel_rfl) [[], [], [], [(1, 39), (2, 40)], [], [], [(4, 42), (5, 43)], [(3, 41), (6, 44)], [(0, 38), (7, 45)], [(8, 46), (7, 45), (0, 38), (1, 39), (2, 40), (3, 41), (4, 42), (5, 43), (6, 44), (7, 45), (8, 46)]] [(0, 38), (1, 39), (2, 40), (3, 41), (4, 42), (5, 43), (6, 44), (7, 45), (8, 46), (9, 8)] rfl rfl [EV ?e0, EV ?e1, EV ?e2, EV (.slice (some ⟨B, k, none⟩) (N - k) (N - k)), EV ?e4, EV ?e5, EV ?e6, EV (.int .i64 (m : Int)), EV ?e8, EV ?e9] S ?start ?steps ?rest
      case start =>
        intro f
        rw [hSd]
        exact ⟨hb.drew, HG⟩
      case steps =>
        refine ⟨fun L f W hi hd hdn hh hS => ?_, fun L f W hi hd hdn hh hS => ?_, fun L f W hi hd hdn hh hS => ?_, fun L f W hi hd hdn hh hS => ?_, fun L f W hi hd hdn hh hS => ?_, fun L f W hi hd hdn hh hS => ?_, fun L f W hi hd hdn hh hS => ?_, fun L f W hi hd hdn hh hS => ?_, fun L f W hi hd hdn hh hS => ?_, fun L f W hi hd hdn hh hS => ?_, trivial⟩
        ·
          unfold stStep
          rw [if_pos (by simp [Region.wanted])]
          intro K Q hK
          simp only [puts, foldr_nil]
          go_step
          refine st_ex hK rfl rfl (by simp only [go_sem] <;> rfl) rfl (by rw [hSd] at hS ⊢; exact hS)
        ·
          unfold stStep
          rw [if_pos (by simp [Region.wanted])]
          intro K Q hK
          simp only [puts, foldr_nil]
          go_step
          refine st_ex hK rfl rfl (by simp only [go_sem] <;> rfl) rfl (by rw [hSd] at hS ⊢; exact hS)
        ·
          unfold stStep
          rw [if_pos (by simp [Region.wanted])]
          intro K Q hK
          simp only [puts, foldr_nil]
          go_step
          refine st_ex hK rfl rfl (by simp only [go_sem] <;> rfl) rfl (by rw [hSd] at hS ⊢; exact hS)
        ·
          obtain ⟨h1, h2, -⟩ := hh
          have g1 : f 1 = _ := h1
          have g2 : f 2 = _ := h2
          unfold stStep
          rw [if_pos (by simp [Region.wanted])]
          intro K Q hK
          simp only [puts, foldr_cons, foldr_nil, setIfInBounds_toArray, set_cons_succ, set_cons_zero, g1, g2]
          go_step
          refine st_ex hK rfl rfl (by simp only [go_sem] <;> rfl) rfl (by rw [hSd] at hS ⊢; exact hS)
        ·
          unfold stStep
          rw [if_pos (by simp [Region.wanted])]
          intro K Q hK
          simp only [puts, foldr_nil]
          go_step
          refine st_ex hK rfl rfl (by simp only [go_sem] <;> rfl) rfl (by rw [hSd] at hS ⊢; exact hS)
        ·
          unfold stStep
          rw [if_pos (by simp [Region.wanted])]
          intro K Q hK
          simp only [puts, foldr_nil]
          go_step
          refine st_ex hK rfl rfl (by simp only [go_sem] <;> rfl) rfl (by rw [hSd] at hS ⊢; exact hS)
        ·
          obtain ⟨h4, h5, -⟩ := hh
          have g4 : f 4 = _ := h4
          have g5 : f 5 = _ := h5
          unfold stStep
          rw [if_pos (by simp [Region.wanted])]
          intro K Q hK
          simp only [puts, foldr_cons, foldr_nil, setIfInBounds_toArray, set_cons_succ, set_cons_zero, g4, g5]
          go_step
          refine st_ex hK rfl rfl (by simp only [go_sem] <;> rfl) rfl (by rw [hSd] at hS ⊢; exact hS)
        ·
          obtain ⟨h3, h6, -⟩ := hh
          have g3 : f 3 = _ := h3
          have g6 : f 6 = _ := h6
          unfold stStep
          rw [if_pos (by simp [Region.wanted])]
          intro K Q hK
          simp only [puts, foldr_cons, foldr_nil, setIfInBounds_toArray, set_cons_succ, set_cons_zero, g3, g6]
          rw [hSd] at hS hK
          have l7 : L 7 = false := hi
          try simp only [stage, l7, if_true, if_false, Bool.false_eq_true] at hS
          obtain ⟨hbW, hGW⟩ := hS
          have hG0 := hGW.out
          refine wp_copy_own (.tmp 41) (.tmp 44) 22 22 rfl 4 Try.underlying22 hinfo B k (N - k) (N - k) ⟨B, 0, none⟩ k N rfl rfl _ 4 hG0 (List.replicate m (.bool true)) (by rw [List.length_replicate]; exact HMM.out) (fun j v hj => by have hjm : j < m := (by have := (List.getElem?_eq_some_iff.1 hj).1; simpa using this); rw [List.getElem?_replicate, if_pos hjm] at hj; injection hj with hj; subst hj; rw [addr_add, Nat.zero_add, cell_of_row _ _ j _ _ _ hG0]; simpa using repK_get (N := N) (by omega)) (by have := repK_len (show k ≤ N by omega); simp; omega) (by intro v hv; rw [List.eq_of_mem_replicate hv]; rfl) ?_
          rw [List.length_replicate]
          refine hK.out _ _ rfl rfl ?_
          refine ⟨below_setRow hbW (Nat.le_refl _) _, Lib.hid ?_⟩
          simp only [↓reduceIte, Nat.reduceEqDiff]
          refine (setRow_heap _ _ _ _ _ _ hG0).trans ?_
          rw [← repK_splice (show k + m ≤ N by omega)]
          unfold splice
          rw [List.length_replicate]
        ·
          obtain ⟨h0, h7, -⟩ := hh
          have g0 : f 0 = _ := h0
          have g7 : f 7 = _ := h7
          unfold stStep
          rw [if_pos (by simp [Region.wanted])]
          intro K Q hK
          simp only [puts, foldr_cons, foldr_nil, setIfInBounds_toArray, set_cons_succ, set_cons_zero, g0, g7]
          go_step
          refine st_ex hK rfl rfl (by simp only [go_sem] <;> rfl) rfl (by rw [hSd] at hS ⊢; exact hS)
        ·
          obtain ⟨h8, h7, h0, h1, h2, h3, h4, h5, h6, _, _, -⟩ := hh
          have g8 : f 8 = _ := h8
          have g7 : f 7 = _ := h7
          have g0 : f 0 = _ := h0
          have g1 : f 1 = _ := h1
          have g2 : f 2 = _ := h2
          have g3 : f 3 = _ := h3
          have g4 : f 4 = _ := h4
          have g5 : f 5 = _ := h5
          have g6 : f 6 = _ := h6
          unfold stStep
          rw [if_pos (by simp [Region.wanted])]
          intro K Q hK
          simp only [puts, foldr_cons, foldr_nil, setIfInBounds_toArray, set_cons_succ, set_cons_zero, g8, g7, g0, g1, g2, g3, g4, g5, g6]
          go_step
          refine st_ex hK rfl rfl (by simp only [go_sem] <;> rfl) rfl (by rw [hSd] at hS ⊢; exact hS)
      case rest =>
        intro L f WA hL hh hS
        rw [hSd] at hS
        clear hSd
        have l7 : L 7 = true := hL 7 (by decide)
        simp only [stage, l7, if_true] at hS
        clear hL l7
        obtain ⟨h0, h1, h2, h3, h4, h5, h6, h7, h8, h9, -⟩ := hh
        have g0 : f 0 = _ := h0
        have g1 : f 1 = _ := h1
        have g2 : f 2 = _ := h2
        have g3 : f 3 = _ := h3
        have g4 : f 4 = _ := h4
        have g5 : f 5 = _ := h5
        have g6 : f 6 = _ := h6
        have g7 : f 7 = _ := h7
        have g8 : f 8 = _ := h8
        have g9 : f 9 = _ := h9
        simp only [puts, foldr_cons, foldr_nil, setIfInBounds_toArray, set_cons_succ, set_cons_zero, g0, g1, g2, g3, g4, g5, g6, g7, g8, g9]
        clear h0 h1 h2 h3 h4 h5 h6 h7 h8 h9 g0 g1 g2 g3 g4 g5 g6 g7 g8 g9
        obtain ⟨hbA, hGA⟩ := hS
        go_wp2_with (fail)
        go_roundw
        case rel => exact ⟨k + m, by omega, by omega, by first | rfl | simp, hGA, hbA⟩
        case measure => simp [intOf]; omega
    · have t1 : decide (k < N) = false := decide_eq_false (by omega)
      obtain rfl : k = N := by omega
      go_wp2_with (fail)
      go_ret
      rw [HBB.out]
      refine ⟨⟨_, _, rfl, .inr ⟨B, 0, rfl, Nat.le_refl _, by unfold maxLen; omega, by simp [allK], fun i hi => ?_⟩⟩, hb⟩
      rw [cell_of_row _ _ (0 + i) _ _ _ HG.out, repK_full, gb_allK hi]
      simp [bvs, allK, hi]
set_option maxRecDepth 20000 in
theorem every_any (d : Dfa) (h : DH) (w : World) (hn : 1 ≤ d.n ∧ d.n ≤ 1000) : Calls Try.prog 38 #[vDf d h] w fun e w' => (∃ a c, e = .returned (.slice a d.n.toNat c) ∧ IsBools w' a d.n.toNat c (allK d.n.toNat)) ∧ Below w.heap.size w w' := by
  obtain ⟨n, s, fin, es⟩ := d
  obtain ⟨fa, fl, fc, aa, al, ac⟩ := h
  simp only at hn ⊢
  obtain ⟨N, rfl⟩ := Int.eq_ofNat_of_zero_le (show 0 ≤ n by omega)
  obtain ⟨hb1, hs1, hO⟩ := boxD N s fa fl fc aa al ac w
  unfold vDf
  obtain ⟨W1, hW1⟩ : ∃ W1, w.alloc (.cells #[.int .i64 (N : Int), .int .i64 s, .slice fa fl fc, .slice aa al ac] 30) = W1 := ⟨_, rfl⟩
  rw [hW1] at hb1 hs1 hO
  have hb2 : Below (w.heap.size + 1) W1 (W1.alloc (.cells #[.bool true] 4)) := (Below.refl _ _).alloc (by omega) _
  obtain ⟨c1, -, -, -⟩ := hO _ hb2
  have hrep := repeat_any N (by omega) W1.heap.size (W1.alloc (.cells #[.bool true] 4)) (by exact cell_of_row _ _ 0 _ _ _ (heap_alloc_new W1 _))
  have hB := Lib.hid (hb1.trans (hb2.mono (by omega)))
  have HS := Lib.hid hs1
  clear hb1 hb2 hO hs1
  go_enter Try.func38, Try.ntmps38
  go_wp2_with (go_at_call 65; with_reducible refine hrep.mono ?_; rintro e w3 ⟨⟨a3, c3, rfl, hI⟩, hb3⟩)
  go_ret
  exact ⟨⟨_, _, rfl, hI⟩, hB.out.trans (hb3.mono hB.out.size)⟩
end Go.Proofs.Ytpcbmhfnefhenaa

set_option linter.unusedSimpArgs false
set_option linter.unusedVariables false
namespace Go.Proofs.Ytpcbmhfnefhenaa
open List (foldr_cons foldr_nil setIfInBounds_toArray set_cons_succ set_cons_zero)
open Go.RowKit
attribute [local go_sem] Oper.semAt_some

theorem canonical_any {d : Dfa} {h : DH} {w : World} (hv : ValidD d) (hd : IsDfa w h d) {ak : Option Addr} {lk ck : Nat} {keep : List Bool} (hk : IsBools w ak lk ck keep) (hkl : (lk : Int) = d.n) :
    Calls Try.prog 37 #[vDf d h, .slice ak lk ck] w (GivesD (canD d keep) w) := by
  cases h0 : gb keep d.s.toNat with
  | true => exact canonical_yes hv hd hk hkl h0
  | false => exact canonical_no hv hd hk hkl h0
def DBox (b : Nat) (D : Dfa) (W : World) : Prop := ∃ h', W.heap[b]? = some (.cells #[.int .i64 D.n, .int .i64 D.s, .slice h'.fa h'.fl h'.fc, .slice h'.aa h'.al h'.ac] 30 (0, 0)) ∧ IsDfa W h' D
theorem DBox.later {b : Nat} {D : Dfa} {W W' : World} (h : DBox b D W) (hb : Below W.heap.size W W') : DBox b D W' := by
  obtain ⟨h', h1, h2⟩ := h
  exact ⟨h', by rw [hb.block _ (Array.getElem?_eq_some_iff.1 h1).1]; exact h1, h2.later hb⟩
theorem DBox.open {b : Nat} {D : Dfa} {W : World} (h : DBox b D W) : ∃ h', IsDfa W h' D ∧ W.cell? ⟨b, 0, none⟩ = some (.int .i64 D.n) ∧ W.cell? ⟨b, 1, none⟩ = some (.int .i64 D.s) ∧ W.cell? ⟨b, 2, none⟩ = some (.slice h'.fa h'.fl h'.fc) ∧ W.cell? ⟨b, 3, none⟩ = some (.slice h'.aa h'.al h'.ac) := by
  obtain ⟨h', h1, h2⟩ := h
  exact ⟨h', h2, cell_of_row W _ 0 _ _ _ h1, cell_of_row W _ 1 _ _ _ h1, cell_of_row W _ 2 _ _ _ h1, cell_of_row W _ 3 _ _ _ h1⟩
theorem IsDfa.boxed {W : World} {h : DH} {D : Dfa} {b : Nat} {x y : Int} {a1 a2 : Option Addr} {l1 c1 l2 c2 : Nat} {T : TypeId} (cs : Array Value) (hZ : W.heap[b]? = some (.cells #[.int .i64 x, .int .i64 y, .slice a1 l1 c1, .slice a2 l2 c2] T (0, 0))) (hd : IsDfa W h D) : IsDfa (W.setRow b cs) h D := by
  have cz : ∀ k, W.cell? ⟨b, k, none⟩ = (#[Value.int .i64 x, .int .i64 y, .slice a1 l1 c1, .slice a2 l2 c2] : Array Value)[k]? := fun k => by simp [World.cell?, hZ]
  refine ⟨?_, ?_⟩
  · rcases hd.fin with h0 | ⟨g, off, h1, h2, h3, h4, h5⟩
    · exact .inl h0
    · refine .inr ⟨g, off, h1, h2, h3, h4, fun i hi => ?_⟩
      have hc := h5 i hi
      by_cases e : g = b
      · subst e
        rw [cz] at hc
        obtain ⟨k, hk⟩ : ∃ k, off + i = k := ⟨_, rfl⟩
        rw [hk] at hc
        match k, hc with
        | 0, hc => simp at hc
        | 1, hc => simp at hc
        | 2, hc => simp at hc
        | 3, hc => simp at hc
        | k + 4, hc => simp at hc
      · rw [cell_setRow_other _ _ _ _ e]; exact hc
  · rcases hd.arcs with h0 | ⟨g, off, h1, h2, h3, h4, h5⟩
    · exact .inl h0
    · refine .inr ⟨g, off, h1, h2, h3, h4, fun i hi => ?_⟩
      obtain ⟨k0, k1, k2⟩ := h5 i hi
      by_cases e : g = b
      · subst e
        rw [cz] at k0 k2
        obtain ⟨k, hk⟩ : ∃ k, off + i * 3 = k := ⟨_, rfl⟩
        rw [hk] at k2
        match k, k2 with
        | 0, k2 => simp at k2
        | 1, k2 => simp at k2
        | k + 2, k2 => simp at k2
      · exact ⟨by rw [cell_setRow_other _ _ _ _ e]; exact k0, by rw [cell_setRow_other _ _ _ _ e]; exact k1, by rw [cell_setRow_other _ _ _ _ e]; exact k2⟩
theorem DBox.put {W : World} {h : DH} {D : Dfa} {b : Nat} {x y : Int} {a1 a2 : Option Addr} {l1 c1 l2 c2 : Nat} (hZ : W.heap[b]? = some (.cells #[.int .i64 x, .int .i64 y, .slice a1 l1 c1, .slice a2 l2 c2] 30 (0, 0))) (hd : IsDfa W h D) :
    DBox b D (W.setRow b #[.int .i64 D.n, .int .i64 D.s, .slice h.fa h.fl h.fc, .slice h.aa h.al h.ac]) := ⟨h, setRow_heap _ _ _ _ _ _ hZ, hd.boxed _ hZ⟩
theorem results_cell_row2 {P : Program} {fn : Func} {p u : Tmp} {ty : TypeId} (h : fn.results = #[.cell p ty, .tmp u]) (tmps : Array Value) (w : World) (g : Nat) (t : TypeId) (cs : Array Value) (fr : Nat × Nat) (d : TypeDesc) {v : Value}
    (hp : tmps.getD p undef = .pointer (some ⟨g, 0, none⟩)) (hq : tmps.getD u undef = v) (hg : w.heap[g]? = some (.cells cs t fr))
    (hu : P.underlying ty = some d) (hd : (match d with | .struct _ | .array _ _ => true | _ => false) = true) (hi : (P.info? ty).map (·.size) = some cs.size) :
    (results fn tmps).run P w = .ok (.tuple #[.agg cs, v]) w := by
  rw [results_cell_tmp h, hp, hq]
  simp [asAddr, run_loadVar_row w g t ty cs fr d hg hu hd hi, Result.andThen]
def GivesDE (D : Dfa) (c : Int) (w : World) (e : Ending) (w' : World) : Prop := (∃ h', e = .returned (.tuple #[vDf D h', .int .i64 c]) ∧ IsDfa w' h' D) ∧ Below w.heap.size w w'
def zeroD : Dfa := ⟨0, 0, [], []⟩
theorem isDfa_zero (W : World) : IsDfa W ⟨none, 0, 0, none, 0, 0⟩ zeroD := ⟨isBools_nil W, isArcs_nil W⟩
def canF (d : Dfa) : Dfa := canD d (allK d.n.toNat)
open Classical in
noncomputable def orZero (d D : Dfa) : Dfa := if ValidD d then D else zeroD
open Classical in
noncomputable def orErr (d : Dfa) : Int := if ValidD d then 0 else 1
theorem box_ready {W1 : World} {B : Nat} (hs : W1.heap.size = B + 1) : ∃ W2, W1.alloc (.cells #[.int .i64 0, .int .i64 0, .slice none 0 0, .slice none 0 0] 30) = W2 ∧ Below W1.heap.size W1 W2 ∧ W2.heap.size = B + 2 ∧ W2.heap[B + 1]? = some (.cells #[.int .i64 0, .int .i64 0, .slice none 0 0, .slice none 0 0] 30 (0, 0)) :=
  ⟨_, rfl, (Below.refl _ _).alloc (Nat.le_refl _) _, by simp; omega, by rw [← hs]; exact heap_alloc_new W1 _⟩

set_option maxRecDepth 20000 in
set_option maxHeartbeats 4000000 in
theorem Canonical_yes {d : Dfa} {h : DH} {w : World} (hv : ValidD d) (hd : IsDfa w h d) : Calls Try.prog 13 #[vDf d h] w (GivesDE (canF d) 0 w) := by
  have HV := Lib.hid hv
  have hn := Lib.hid hv.1
  obtain ⟨W1, hW1, hs1, hb1, hO⟩ := boxDW d h w hd
  obtain ⟨W2, hW2, hb2, hs2, hZ2⟩ := box_ready hs1
  have HO : Hid (∀ W, Below (w.heap.size + 1) W2 W → (W.cell? ⟨w.heap.size, 0, none⟩ = some (.int .i64 d.n) ∧ W.cell? ⟨w.heap.size, 1, none⟩ = some (.int .i64 d.s) ∧ W.cell? ⟨w.heap.size, 2, none⟩ = some (.slice h.fa h.fl h.fc) ∧ W.cell? ⟨w.heap.size, 3, none⟩ = some (.slice h.aa h.al h.ac)) ∧ IsDfa W h d ∧ Below w.heap.size w W) := Lib.hid (fun W hb => hO W ((hb2.mono (by omega)).trans hb))
  obtain ⟨⟨c1, c2, c3, c4⟩, hd2, -⟩ := HO.out W2 (Below.refl _ _)
  have hva := valid_yes hv hd2
  have HS2 := Lib.hid hs2
  have HZ2 := Lib.hid hZ2
  unfold vDf at hva ⊢
  clear hO hb2 hb1 hd2 hv hs2 hZ2
  go_enter Try.func13, Try.ntmps13
  go_wp2_with (go_at_call 22; refine hva.mono ?_; rintro e w3 ⟨rfl, hb3⟩; obtain ⟨⟨k1, k2, k3, k4⟩, hd3, hbw3⟩ := HO.out w3 (hb3.mono (by rw [HS2.out]; omega)))
  have hb3' : Below (w.heap.size + 1) W2 w3 := hb3.mono (by rw [HS2.out]; omega)
  have hZ3 : w3.heap[w.heap.size + 1]? = some (.cells #[.int .i64 0, .int .i64 0, .slice none 0 0, .slice none 0 0] 30 (0, 0)) := by rw [hb3.block _ (by rw [HS2.out]; omega)]; exact HZ2.out
  have HS3 : Hid (w.heap.size + 2 ≤ w3.heap.size) := Lib.hid (by rw [← HS2.out]; exact hb3.size)
  have HZ3 := Lib.hid hZ3
  have HB3 := Lib.hid hb3'
  clear k1 k2 k3 k4 hd3 hbw3 c1 c2 c3 c4 hva hb3 hb3' hZ3 hs1 hW1 hW2
  obtain ⟨S, hSd⟩ : ∃ S : (Nat → Bool) → (Nat → Value) → World → Prop, S = fun L f W => Below (w.heap.size + 1) W2 W ∧ w.heap.size + 2 ≤ W.heap.size ∧ (if L 4 = true then DBox (w.heap.size + 1) (canF d) W else W.heap[w.heap.size + 1]? = some (.cells #[.int .i64 0, .int .i64 0, .slice none 0 0, .slice none 0 0] 30 (0, 0)) ∧ (L 2 = true → ∃ a c, f 2 = .slice a d.n.toNat c ∧ IsBools W a d.n.toNat c (allK d.n.toNat)) ∧ (L 3 = true → ∃ h', f 3 = vDf (canF d) h' ∧ IsDfa W h' (canF d))) := ⟨_, rfl⟩
  refine wp_region_st mixed (by kernel_rfl) [[], [], [(1, 9)], [(0, 8), (2, 10), (2, 10)], [(3, 11), (3, 11), (0, 8), (1, 9), (2, 10), (3, 11)], [(0, 8), (1, 9), (2, 10), (3, 11)]] [(0, 8), (1, 9), (2, 10), (3, 11), (5, 3)] rfl rfl [EV ?e0, EV ?e1, fun v => ∃ a c, v = .slice a d.n.toNat c, fun v => ∃ h', v = vDf (canF d) h', fun _ => True, EV ?e5] S ?start ?steps ?rest
  case start =>
    intro f
    rw [hSd]
    exact ⟨HB3.out.drew, HS3.out, HZ3.out, fun h => (by cases h), fun h => (by cases h)⟩
  case steps =>
    refine ⟨fun L f W hi hd hdn hh hS => ?_, fun L f W hi hd hdn hh hS => ?_, fun L f W hi hd hdn hh hS => ?_, fun L f W hi hd hdn hh hS => ?_, fun L f W hi hd hdn hh hS => ?_, fun L f W hi hd hdn hh hS => ?_, trivial⟩
    ·
      unfold stStep
      rw [if_pos (by simp [Region.wanted])]
      intro K Q hK
      simp only [puts, foldr_nil]
      have hS' := hS
      rw [hSd] at hS'
      obtain ⟨⟨k1, k2, k3, k4⟩, -, -⟩ := HO.out W hS'.1
      go_step
      refine st_ex hK rfl rfl (by simp only [go_sem] <;> rfl) rfl (by rw [hSd] at hS ⊢; exact hS)
    ·
      unfold stStep
      rw [if_pos (by simp [Region.wanted])]
      intro K Q hK
      simp only [puts, foldr_nil]
      have hS' := hS
      rw [hSd] at hS'
      obtain ⟨⟨k1, k2, k3, k4⟩, -, -⟩ := HO.out W hS'.1
      go_step
      refine st_ex hK rfl rfl (by simp only [go_sem] <;> rfl) rfl (by rw [hSd] at hS ⊢; exact hS)
    ·
      obtain ⟨h1, -⟩ := hh
      have g1 : f 1 = _ := h1
      have l3 : L 3 = false := Bool.eq_false_iff.2 fun h => by have q := hdn 3 _ h rfl 2 (by decide); rw [show L 2 = false from hi] at q; cases q
      have l4 : L 4 = false := Bool.eq_false_iff.2 fun h => by have q := hdn 4 _ h rfl 3 (by decide); rw [show L 3 = false from l3] at q; cases q
      unfold stStep
      rw [if_pos (by simp [Region.wanted])]
      intro K Q hK
      simp only [puts, foldr_cons, foldr_nil, setIfInBounds_toArray, set_cons_succ, set_cons_zero, g1]
      rw [hSd] at hS hK
      have l2 : L 2 = false := hi
      try simp only [stage, l3, l4, l2, if_true, if_false, Bool.false_eq_true] at hS
      obtain ⟨hbW, hzW, hRest⟩ := hS
      obtain ⟨hZW, -, -⟩ := hRest
      obtain ⟨-, hdW, -⟩ := HO.out W hbW
      go_step
      go_at_call 38
      refine (every_any d h W (by have := hn.out; omega)).mono ?_
      rintro e w' ⟨⟨a', c', rfl, hI⟩, hb⟩
      refine hK.out _ _ rfl ⟨a', c', rfl⟩ ?_
      refine ⟨hbW.trans (hb.mono (by omega)), Nat.le_trans hzW hb.size, ?_⟩
      simp only [l3, l4, Bool.false_eq_true, ↓reduceIte, Nat.reduceEqDiff]
      exact ⟨by rw [hb.block _ (by omega)]; exact hZW, fun _ => ⟨a', c', rfl, hI⟩, fun h => (by cases h)⟩
    ·
      obtain ⟨h0, h2, _, -⟩ := hh
      have g0 : f 0 = _ := h0
      obtain ⟨a2, c2, (g2 : f 2 = _)⟩ := h2
      have l2 : L 2 = true := hd 2 (by decide)
      have l4 : L 4 = false := Bool.eq_false_iff.2 fun h => by have q := hdn 4 _ h rfl 3 (by decide); rw [show L 3 = false from hi] at q; cases q
      unfold stStep
      rw [if_pos (by simp [Region.wanted])]
      intro K Q hK
      simp only [puts, foldr_cons, foldr_nil, setIfInBounds_toArray, set_cons_succ, set_cons_zero, g0, g2]
      rw [hSd] at hS hK
      have l3 : L 3 = false := hi
      try simp only [stage, l4, l3, l2, if_true, if_false, Bool.false_eq_true] at hS
      obtain ⟨hbW, hzW, hRest⟩ := hS
      obtain ⟨hZW, h2W, -⟩ := hRest
      obtain ⟨a', c', e2, hI⟩ := h2W trivial
      rw [g2] at e2
      injection e2 with e21 e22 e23
      subst e21 e23
      obtain ⟨-, hdW, -⟩ := HO.out W hbW
      go_step
      go_at_call 37
      refine (canonical_any HV.out hdW hI (by have := hn.out; omega)).mono ?_
      rintro e w' ⟨⟨h', rfl, hD⟩, hb⟩
      refine hK.out _ _ rfl ⟨h', rfl⟩ ?_
      refine ⟨hbW.trans (hb.mono (by omega)), Nat.le_trans hzW hb.size, ?_⟩
      simp only [l4, Bool.false_eq_true, ↓reduceIte, Nat.reduceEqDiff]
      exact ⟨by rw [hb.block _ (by omega)]; exact hZW, fun _ => ⟨_, _, g2, hI.later hb⟩, fun _ => ⟨h', rfl, hD⟩⟩
    ·
      obtain ⟨h3, _, h0, h1, h2, _, -⟩ := hh
      obtain ⟨y3, (g3 : f 3 = _)⟩ := h3
      have g0 : f 0 = _ := h0
      have g1 : f 1 = _ := h1
      obtain ⟨a2, c2, (g2 : f 2 = _)⟩ := h2
      have l3 : L 3 = true := hd 3 (by decide)
      unfold stStep
      rw [if_pos (by simp [Region.wanted])]
      intro K Q hK
      simp only [puts, foldr_cons, foldr_nil, setIfInBounds_toArray, set_cons_succ, set_cons_zero, g3, g0, g1, g2]
      rw [hSd] at hS hK
      have l4 : L 4 = false := hi
      try simp only [stage, l4, l3, if_true, if_false, Bool.false_eq_true] at hS
      obtain ⟨hbW, hzW, hRest⟩ := hS
      obtain ⟨hZW, -, h3W⟩ := hRest
      obtain ⟨h', e3, hD⟩ := h3W trivial
      have e3' : f 3 = .agg #[.int .i64 (canF d).n, .int .i64 (canF d).s, .slice h'.fa h'.fl h'.fc, .slice h'.aa h'.al h'.ac] := e3
      rw [g3] at e3'
      simp only [e3']
      refine wp_store_row 30 _ _ rfl (w.heap.size + 1) #[.int .i64 (canF d).n, .int .i64 (canF d).s, .slice h'.fa h'.fl h'.fc, .slice h'.aa h'.al h'.ac] rfl rfl _ _ hZW dfa_i rfl (dfa_one _ _ _ _ _ _ _ _) ?_
      refine hK.out _ _ rfl trivial ?_
      refine ⟨below_setRow hbW (Nat.le_refl _) _, by simp [World.setRow]; omega, ?_⟩
      simp only [↓reduceIte, Nat.reduceEqDiff]
      exact DBox.put hZW hD
    ·
      obtain ⟨h0, h1, h2, h3, -⟩ := hh
      have g0 : f 0 = _ := h0
      have g1 : f 1 = _ := h1
      obtain ⟨a2, c2, (g2 : f 2 = _)⟩ := h2
      obtain ⟨y3, (g3 : f 3 = _)⟩ := h3
      unfold stStep
      rw [if_pos (by simp [Region.wanted])]
      intro K Q hK
      simp only [puts, foldr_cons, foldr_nil, setIfInBounds_toArray, set_cons_succ, set_cons_zero, g0, g1, g2, g3]
      go_step
      refine st_ex hK rfl rfl (by simp only [go_sem] <;> rfl) rfl (by rw [hSd] at hS ⊢; exact hS)
  case rest =>
    intro L f WA hL hh hS
    rw [hSd] at hS
    clear hSd
    have l2 : L 2 = true := hL 2 (by decide)
    have l3 : L 3 = true := hL 3 (by decide)
    have l4 : L 4 = true := hL 4 (by decide)
    simp only [stage, l2, l3, l4, if_true] at hS
    clear hL l2 l3 l4
    obtain ⟨h0, h1, h2, h3, h5, -⟩ := hh
    have g0 : f 0 = _ := h0
    have g1 : f 1 = _ := h1
    obtain ⟨a2, c2, (g2 : f 2 = _)⟩ := h2
    obtain ⟨y3, (g3 : f 3 = _)⟩ := h3
    have g5 : f 5 = _ := h5
    simp only [puts, foldr_cons, foldr_nil, setIfInBounds_toArray, set_cons_succ, set_cons_zero, g0, g1, g2, g3, g5]
    clear h0 h1 h5 g0 g1 g5
    obtain ⟨hbA, hzA, hDB⟩ := hS
    obtain ⟨h', hZA, hDA⟩ := hDB
    obtain ⟨-, -, hbw⟩ := HO.out WA hbA
    go_wp2_with (fail)
    refine bodyPost_ret (results_cell_row2 rfl _ _ (w.heap.size + 1) _ _ _ _ rfl rfl hZA Try.underlying30 rfl dfa_i) rfl ?_
    exact ⟨⟨h', rfl, hDA⟩, hbw⟩
set_option maxRecDepth 20000 in
theorem Canonical_no {d : Dfa} {h : DH} {w : World} (hv : ¬ ValidD d) (hd : IsDfa w h d) : Calls Try.prog 13 #[vDf d h] w (GivesDE zeroD 1 w) := by
  obtain ⟨W1, hW1, hs1, hb1, hO⟩ := boxDW d h w hd
  obtain ⟨W2, hW2, hb2, hs2, hZ2⟩ := box_ready hs1
  have HO : Hid (∀ W, Below (w.heap.size + 1) W2 W → (W.cell? ⟨w.heap.size, 0, none⟩ = some (.int .i64 d.n) ∧ W.cell? ⟨w.heap.size, 1, none⟩ = some (.int .i64 d.s) ∧ W.cell? ⟨w.heap.size, 2, none⟩ = some (.slice h.fa h.fl h.fc) ∧ W.cell? ⟨w.heap.size, 3, none⟩ = some (.slice h.aa h.al h.ac)) ∧ IsDfa W h d ∧ Below w.heap.size w W) := Lib.hid (fun W hb => hO W ((hb2.mono (by omega)).trans hb))
  obtain ⟨⟨c1, c2, c3, c4⟩, hd2, -⟩ := HO.out W2 (Below.refl _ _)
  have hva := valid_no hv hd2
  have HS2 := Lib.hid hs2
  have HZ2 := Lib.hid hZ2
  unfold vDf at hva ⊢
  clear hO hb2 hb1 hd2 hv hs2 hZ2
  go_enter Try.func13, Try.ntmps13
  go_wp2_with (first | (go_at_call 22; refine hva.mono ?_; rintro e w3 ⟨rfl, hb3⟩; obtain ⟨⟨k1, k2, k3, k4⟩, hd3, hbw3⟩ := HO.out w3 (hb3.mono (by rw [HS2.out]; omega)); have HZ3 : Hid (w3.heap[w.heap.size + 1]? = some (.cells #[.int .i64 0, .int .i64 0, .slice none 0 0, .slice none 0 0] 30 (0, 0))) := Lib.hid (by rw [hb3.block _ (by rw [HS2.out]; omega)]; exact HZ2.out)) | (show wpList _ _ _ (⟨_, .store 30 _ _, _, _, _, _⟩ :: _) _ _; refine wpList_store_row rfl 30 _ _ rfl (w.heap.size + 1) #[.int .i64 0, .int .i64 0, .slice none 0 0, .slice none 0 0] rfl rfl _ _ HZ3.out dfa_i rfl (dfa_one _ _ _ _ _ _ _ _) ?_))
  refine bodyPost_ret (results_cell_row2 rfl _ _ (w.heap.size + 1) _ _ _ _ rfl rfl (setRow_heap _ _ _ _ _ _ HZ3.out) Try.underlying30 rfl dfa_i) rfl ?_
  exact ⟨⟨⟨none, 0, 0, none, 0, 0⟩, rfl, isDfa_zero _⟩, below_setRow hbw3 (by omega) _⟩
theorem Canonical_any {d : Dfa} {h : DH} {w : World} (hd : IsDfa w h d) : Calls Try.prog 13 #[vDf d h] w (GivesDE (orZero d (canF d)) (orErr d) w) := by
  by_cases hv : ValidD d
  · unfold orZero orErr
    rw [if_pos hv, if_pos hv]
    exact Canonical_yes hv hd
  · unfold orZero orErr
    rw [if_neg hv, if_neg hv]
    exact Canonical_no hv hd

set_option maxRecDepth 20000 in
set_option maxHeartbeats 4000000 in
theorem Trim_yes {d : Dfa} {h : DH} {w : World} (hv : ValidD d) (hd : IsDfa w h d) : Calls Try.prog 16 #[vDf d h] w (GivesDE (trimD d) 0 w) := by
  have HV := Lib.hid hv
  have hn := Lib.hid hv.1
  obtain ⟨W1, hW1, hs1, hb1, hO⟩ := boxDW d h w hd
  obtain ⟨W2, hW2, hb2, hs2, hZ2⟩ := box_ready hs1
  have HO : Hid (∀ W, Below (w.heap.size + 1) W2 W → (W.cell? ⟨w.heap.size, 0, none⟩ = some (.int .i64 d.n) ∧ W.cell? ⟨w.heap.size, 1, none⟩ = some (.int .i64 d.s) ∧ W.cell? ⟨w.heap.size, 2, none⟩ = some (.slice h.fa h.fl h.fc) ∧ W.cell? ⟨w.heap.size, 3, none⟩ = some (.slice h.aa h.al h.ac)) ∧ IsDfa W h d ∧ Below w.heap.size w W) := Lib.hid (fun W hb => hO W ((hb2.mono (by omega)).trans hb))
  obtain ⟨⟨c1, c2, c3, c4⟩, hd2, -⟩ := HO.out W2 (Below.refl _ _)
  have hva := valid_yes hv hd2
  have HS2 := Lib.hid hs2
  have HZ2 := Lib.hid hZ2
  unfold vDf at hva ⊢
  clear hO hb2 hb1 hd2 hv hs2 hZ2
  go_enter Try.func16, Try.ntmps16
  go_wp2_with (go_at_call 22; refine hva.mono ?_; rintro e w3 ⟨rfl, hb3⟩; obtain ⟨⟨k1, k2, k3, k4⟩, hd3, hbw3⟩ := HO.out w3 (hb3.mono (by rw [HS2.out]; omega)))
  have hb3' : Below (w.heap.size + 1) W2 w3 := hb3.mono (by rw [HS2.out]; omega)
  have hZ3 : w3.heap[w.heap.size + 1]? = some (.cells #[.int .i64 0, .int .i64 0, .slice none 0 0, .slice none 0 0] 30 (0, 0)) := by rw [hb3.block _ (by rw [HS2.out]; omega)]; exact HZ2.out
  have HS3 : Hid (w.heap.size + 2 ≤ w3.heap.size) := Lib.hid (by rw [← HS2.out]; exact hb3.size)
  have HZ3 := Lib.hid hZ3
  have HB3 := Lib.hid hb3'
  clear k1 k2 k3 k4 hd3 hbw3 c1 c2 c3 c4 hva hb3 hb3' hZ3 hs1 hW1 hW2
  obtain ⟨S, hSd⟩ : ∃ S : (Nat → Bool) → (Nat → Value) → World → Prop, S = fun L f W => Below (w.heap.size + 1) W2 W ∧ w.heap.size + 2 ≤ W.heap.size ∧ (if L 4 = true then DBox (w.heap.size + 1) (trimD d) W else W.heap[w.heap.size + 1]? = some (.cells #[.int .i64 0, .int .i64 0, .slice none 0 0, .slice none 0 0] 30 (0, 0)) ∧ (L 2 = true → ∃ a c, f 2 = .slice a d.n.toNat c ∧ IsBools W a d.n.toNat c (keepU d)) ∧ (L 3 = true → ∃ h', f 3 = vDf (trimD d) h' ∧ IsDfa W h' (trimD d))) := ⟨_, rfl⟩
  refine wp_region_st mixed (by kernel_rfl) [[], [], [(1, 9)], [(0, 8), (2, 10), (2, 10)], [(3, 11), (3, 11), (0, 8), (1, 9), (2, 10), (3, 11)], [(0, 8), (1, 9), (2, 10), (3, 11)]] [(0, 8), (1, 9), (2, 10), (3, 11), (5, 3)] rfl rfl [EV ?e0, EV ?e1, fun v => ∃ a c, v = .slice a d.n.toNat c, fun v => ∃ h', v = vDf (trimD d) h', fun _ => True, EV ?e5] S ?start ?steps ?rest
  case start =>
    intro f
    rw [hSd]
    exact ⟨HB3.out.drew, HS3.out, HZ3.out, fun h => (by cases h), fun h => (by cases h)⟩
  case steps =>
    refine ⟨fun L f W hi hd hdn hh hS => ?_, fun L f W hi hd hdn hh hS => ?_, fun L f W hi hd hdn hh hS => ?_, fun L f W hi hd hdn hh hS => ?_, fun L f W hi hd hdn hh hS => ?_, fun L f W hi hd hdn hh hS => ?_, trivial⟩
    ·
      unfold stStep
      rw [if_pos (by simp [Region.wanted])]
      intro K Q hK
      simp only [puts, foldr_nil]
      have hS' := hS
      rw [hSd] at hS'
      obtain ⟨⟨k1, k2, k3, k4⟩, -, -⟩ := HO.out W hS'.1
      go_step
      refine st_ex hK rfl rfl (by simp only [go_sem] <;> rfl) rfl (by rw [hSd] at hS ⊢; exact hS)
    ·
      unfold stStep
      rw [if_pos (by simp [Region.wanted])]
      intro K Q hK
      simp only [puts, foldr_nil]
      have hS' := hS
      rw [hSd] at hS'
      obtain ⟨⟨k1, k2, k3, k4⟩, -, -⟩ := HO.out W hS'.1
      go_step
      refine st_ex hK rfl rfl (by simp only [go_sem] <;> rfl) rfl (by rw [hSd] at hS ⊢; exact hS)
    ·
      obtain ⟨h1, -⟩ := hh
      have g1 : f 1 = _ := h1
      have l3 : L 3 = false := Bool.eq_false_iff.2 fun h => by have q := hdn 3 _ h rfl 2 (by decide); rw [show L 2 = false from hi] at q; cases q
      have l4 : L 4 = false := Bool.eq_false_iff.2 fun h => by have q := hdn 4 _ h rfl 3 (by decide); rw [show L 3 = false from l3] at q; cases q
      unfold stStep
      rw [if_pos (by simp [Region.wanted])]
      intro K Q hK
      simp only [puts, foldr_cons, foldr_nil, setIfInBounds_toArray, set_cons_succ, set_cons_zero, g1]
      rw [hSd] at hS hK
      have l2 : L 2 = false := hi
      try simp only [stage, l3, l4, l2, if_true, if_false, Bool.false_eq_true] at hS
      obtain ⟨hbW, hzW, hRest⟩ := hS
      obtain ⟨hZW, -, -⟩ := hRest
      obtain ⟨-, hdW, -⟩ := HO.out W hbW
      go_step
      go_at_call 41
      refine (ends_any HV.out hdW).mono ?_
      rintro e w' ⟨⟨a', c', rfl, hI⟩, hb⟩
      refine hK.out _ _ rfl ⟨a', c', rfl⟩ ?_
      refine ⟨hbW.trans (hb.mono (by omega)), Nat.le_trans hzW hb.size, ?_⟩
      simp only [l3, l4, Bool.false_eq_true, ↓reduceIte, Nat.reduceEqDiff]
      exact ⟨by rw [hb.block _ (by omega)]; exact hZW, fun _ => ⟨a', c', rfl, hI⟩, fun h => (by cases h)⟩
    ·
      obtain ⟨h0, h2, _, -⟩ := hh
      have g0 : f 0 = _ := h0
      obtain ⟨a2, c2, (g2 : f 2 = _)⟩ := h2
      have l2 : L 2 = true := hd 2 (by decide)
      have l4 : L 4 = false := Bool.eq_false_iff.2 fun h => by have q := hdn 4 _ h rfl 3 (by decide); rw [show L 3 = false from hi] at q; cases q
      unfold stStep
      rw [if_pos (by simp [Region.wanted])]
      intro K Q hK
      simp only [puts, foldr_cons, foldr_nil, setIfInBounds_toArray, set_cons_succ, set_cons_zero, g0, g2]
      rw [hSd] at hS hK
      have l3 : L 3 = false := hi
      try simp only [stage, l4, l3, l2, if_true, if_false, Bool.false_eq_true] at hS
      obtain ⟨hbW, hzW, hRest⟩ := hS
      obtain ⟨hZW, h2W, -⟩ := hRest
      obtain ⟨a', c', e2, hI⟩ := h2W trivial
      rw [g2] at e2
      injection e2 with e21 e22 e23
      subst e21 e23
      obtain ⟨-, hdW, -⟩ := HO.out W hbW
      go_step
      go_at_call 37
      refine (canonical_any HV.out hdW hI (by have := hn.out; omega)).mono ?_
      rintro e w' ⟨⟨h', rfl, hD⟩, hb⟩
      refine hK.out _ _ rfl ⟨h', rfl⟩ ?_
      refine ⟨hbW.trans (hb.mono (by omega)), Nat.le_trans hzW hb.size, ?_⟩
      simp only [l4, Bool.false_eq_true, ↓reduceIte, Nat.reduceEqDiff]
      exact ⟨by rw [hb.block _ (by omega)]; exact hZW, fun _ => ⟨_, _, g2, hI.later hb⟩, fun _ => ⟨h', rfl, hD⟩⟩
    ·
      obtain ⟨h3, _, h0, h1, h2, _, -⟩ := hh
      obtain ⟨y3, (g3 : f 3 = _)⟩ := h3
      have g0 : f 0 = _ := h0
      have g1 : f 1 = _ := h1
      obtain ⟨a2, c2, (g2 : f 2 = _)⟩ := h2
      have l3 : L 3 = true := hd 3 (by decide)
      unfold stStep
      rw [if_pos (by simp [Region.wanted])]
      intro K Q hK
      simp only [puts, foldr_cons, foldr_nil, setIfInBounds_toArray, set_cons_succ, set_cons_zero, g3, g0, g1, g2]
      rw [hSd] at hS hK
      have l4 : L 4 = false := hi
      try simp only [stage, l4, l3, if_true, if_false, Bool.false_eq_true] at hS
      obtain ⟨hbW, hzW, hRest⟩ := hS
      obtain ⟨hZW, -, h3W⟩ := hRest
      obtain ⟨h', e3, hD⟩ := h3W trivial
      have e3' : f 3 = .agg #[.int .i64 (trimD d).n, .int .i64 (trimD d).s, .slice h'.fa h'.fl h'.fc, .slice h'.aa h'.al h'.ac] := e3
      rw [g3] at e3'
      simp only [e3']
      refine wp_store_row 30 _ _ rfl (w.heap.size + 1) #[.int .i64 (trimD d).n, .int .i64 (trimD d).s, .slice h'.fa h'.fl h'.fc, .slice h'.aa h'.al h'.ac] rfl rfl _ _ hZW dfa_i rfl (dfa_one _ _ _ _ _ _ _ _) ?_
      refine hK.out _ _ rfl trivial ?_
      refine ⟨below_setRow hbW (Nat.le_refl _) _, by simp [World.setRow]; omega, ?_⟩
      simp only [↓reduceIte, Nat.reduceEqDiff]
      exact DBox.put hZW hD
    ·
      obtain ⟨h0, h1, h2, h3, -⟩ := hh
      have g0 : f 0 = _ := h0
      have g1 : f 1 = _ := h1
      obtain ⟨a2, c2, (g2 : f 2 = _)⟩ := h2
      obtain ⟨y3, (g3 : f 3 = _)⟩ := h3
      unfold stStep
      rw [if_pos (by simp [Region.wanted])]
      intro K Q hK
      simp only [puts, foldr_cons, foldr_nil, setIfInBounds_toArray, set_cons_succ, set_cons_zero, g0, g1, g2, g3]
      go_step
      refine st_ex hK rfl rfl (by simp only [go_sem] <;> rfl) rfl (by rw [hSd] at hS ⊢; exact hS)
  case rest =>
    intro L f WA hL hh hS
    rw [hSd] at hS
    clear hSd
    have l2 : L 2 = true := hL 2 (by decide)
    have l3 : L 3 = true := hL 3 (by decide)
    have l4 : L 4 = true := hL 4 (by decide)
    simp only [stage, l2, l3, l4, if_true] at hS
    clear hL l2 l3 l4
    obtain ⟨h0, h1, h2, h3, h5, -⟩ := hh
    have g0 : f 0 = _ := h0
    have g1 : f 1 = _ := h1
    obtain ⟨a2, c2, (g2 : f 2 = _)⟩ := h2
    obtain ⟨y3, (g3 : f 3 = _)⟩ := h3
    have g5 : f 5 = _ := h5
    simp only [puts, foldr_cons, foldr_nil, setIfInBounds_toArray, set_cons_succ, set_cons_zero, g0, g1, g2, g3, g5]
    clear h0 h1 h5 g0 g1 g5
    obtain ⟨hbA, hzA, hDB⟩ := hS
    obtain ⟨h', hZA, hDA⟩ := hDB
    obtain ⟨-, -, hbw⟩ := HO.out WA hbA
    go_wp2_with (fail)
    refine bodyPost_ret (results_cell_row2 rfl _ _ (w.heap.size + 1) _ _ _ _ rfl rfl hZA Try.underlying30 rfl dfa_i) rfl ?_
    exact ⟨⟨h', rfl, hDA⟩, hbw⟩
set_option maxRecDepth 20000 in
theorem Trim_no {d : Dfa} {h : DH} {w : World} (hv : ¬ ValidD d) (hd : IsDfa w h d) : Calls Try.prog 16 #[vDf d h] w (GivesDE zeroD 1 w) := by
  obtain ⟨W1, hW1, hs1, hb1, hO⟩ := boxDW d h w hd
  obtain ⟨W2, hW2, hb2, hs2, hZ2⟩ := box_ready hs1
  have HO : Hid (∀ W, Below (w.heap.size + 1) W2 W → (W.cell? ⟨w.heap.size, 0, none⟩ = some (.int .i64 d.n) ∧ W.cell? ⟨w.heap.size, 1, none⟩ = some (.int .i64 d.s) ∧ W.cell? ⟨w.heap.size, 2, none⟩ = some (.slice h.fa h.fl h.fc) ∧ W.cell? ⟨w.heap.size, 3, none⟩ = some (.slice h.aa h.al h.ac)) ∧ IsDfa W h d ∧ Below w.heap.size w W) := Lib.hid (fun W hb => hO W ((hb2.mono (by omega)).trans hb))
  obtain ⟨⟨c1, c2, c3, c4⟩, hd2, -⟩ := HO.out W2 (Below.refl _ _)
  have hva := valid_no hv hd2
  have HS2 := Lib.hid hs2
  have HZ2 := Lib.hid hZ2
  unfold vDf at hva ⊢
  clear hO hb2 hb1 hd2 hv hs2 hZ2
  go_enter Try.func16, Try.ntmps16
  go_wp2_with (first | (go_at_call 22; refine hva.mono ?_; rintro e w3 ⟨rfl, hb3⟩; obtain ⟨⟨k1, k2, k3, k4⟩, hd3, hbw3⟩ := HO.out w3 (hb3.mono (by rw [HS2.out]; omega)); have HZ3 : Hid (w3.heap[w.heap.size + 1]? = some (.cells #[.int .i64 0, .int .i64 0, .slice none 0 0, .slice none 0 0] 30 (0, 0))) := Lib.hid (by rw [hb3.block _ (by rw [HS2.out]; omega)]; exact HZ2.out)) | (show wpList _ _ _ (⟨_, .store 30 _ _, _, _, _, _⟩ :: _) _ _; refine wpList_store_row rfl 30 _ _ rfl (w.heap.size + 1) #[.int .i64 0, .int .i64 0, .slice none 0 0, .slice none 0 0] rfl rfl _ _ HZ3.out dfa_i rfl (dfa_one _ _ _ _ _ _ _ _) ?_))
  refine bodyPost_ret (results_cell_row2 rfl _ _ (w.heap.size + 1) _ _ _ _ rfl rfl (setRow_heap _ _ _ _ _ _ HZ3.out) Try.underlying30 rfl dfa_i) rfl ?_
  exact ⟨⟨⟨none, 0, 0, none, 0, 0⟩, rfl, isDfa_zero _⟩, below_setRow hbw3 (by omega) _⟩
theorem Trim_any {d : Dfa} {h : DH} {w : World} (hd : IsDfa w h d) : Calls Try.prog 16 #[vDf d h] w (GivesDE (orZero d (trimD d)) (orErr d) w) := by
  by_cases hv : ValidD d
  · unfold orZero orErr
    rw [if_pos hv, if_pos hv]
    exact Trim_yes hv hd
  · unfold orZero orErr
    rw [if_neg hv, if_neg hv]
    exact Trim_no hv hd
end Go.Proofs.Ytpcbmhfnefhenaa
