import Derived.Deep.DeepCutAuto
import Derived.Test.YtpcbmhfnefhenaaMG13
import Derived.Test.YtpcbmhfnefhenaaMG27
import Derived.Test.YtpcbmhfnefhenaaMG33
import Derived.Test.YtpcbmhfnefhenaaMG34
/-
  DfaNa, DfaPr
-/
set_option linter.unusedSimpArgs false
set_option linter.unusedVariables false
namespace Go.Proofs.Ytpcbmhfnefhenaa
open Go.RowKit
attribute [local go_sem] Oper.semAt_some

variable {d : Dfa} {h : DH} {w : World}
set_option maxRecDepth 20000 in
set_option maxHeartbeats 4000000 in
theorem refOuts_own (q : Int) (hd : IsDfa w h d) (hl : d.arcs.length ≤ 20000) :
  Calls Try.prog 63 #[vDf d h, .int .i64 q] w fun e w' => (∃ a' c', e = .returned (.slice a' (outsD d.arcs q).length c') ∧ w'.ownsRow (w.heap.size + 1) 66 3 (.slice a' (outsD d.arcs q).length c') (outsD d.arcs q).length (tvs (outsD d.arcs q))) ∧ Below w.heap.size w w' := by
 obtain ⟨W1, hW1, hs1, hb1, hO⟩ := boxRW d h w hd
 obtain ⟨⟨c1, c2, c3, c4⟩, -, -⟩ := hO W1 (Below.refl _ _)
 have he := hd.arcs
 obtain ⟨n, s, fin, es⟩ := d
 obtain ⟨fa, fl, fc, aa, al, ac⟩ := h
 simp only [vDf] at hW1 hs1 hb1 hO c1 c2 c3 c4 he hl ⊢
 have hlen := he.length
 rw [hlen] at hl
 have HX := Lib.hid hlen
 have HO := Lib.hid hO
 have HB1 := Lib.hid hb1
 have hsz1 : w.heap.size + 1 ≤ W1.heap.size := by omega
 have HS1 := Lib.hid hs1
 clear hlen hd hO
 go_enter Try.func63, Try.ntmps63
 go_wp2_with (fail)
 clear hW1 hb1 c1 c2 c3 c4 hs1
 go_loopw [5, 6] (fun v x W => ∃ (k : Nat) (ps : List A3) (ao : Option Addr) (co : Nat), k ≤ al ∧ x = .int .i64 (k : Int) ∧ v = .slice ao ps.length co ∧ Hid (ps = outsD (es.take k) q) ∧ W.ownsRow W1.heap.size 66 3 (.slice ao ps.length co) ps.length (tvs ps) ∧ Below W1.heap.size W1 W) (fun _ x _ => al - (intOf x).toNat)
 case atStart => exact ⟨0, [], none, 0, Nat.zero_le _, rfl, rfl, Lib.hid rfl, World.ownsRow_nil _ _ _ _, Below.refl _ _⟩
 case round =>
  obtain ⟨k, ps, ao, co, hk, rfl, rfl, HP, ho, hb⟩ := hrel
  have hbb : Below (w.heap.size + 1) W1 wr := hb.mono hsz1
  obtain ⟨⟨e1, e2, e3, e4⟩, -, hbW⟩ := HO.out wr hbb
  rcases Nat.lt_or_ge k al with hlt | hge
  ·have t1 : decide ((k : Int) < al) = true := decide_eq_true (by omega)
   obtain ⟨b, off, rfl, hcell⟩ := he.fix (by omega)
   obtain ⟨x1, x2, x3, hx⟩ : ∃ x1 x2 x3, g3 es k = ⟨x1, x2, x3⟩ := ⟨_, _, _, rfl⟩
   obtain ⟨cx1, cx2, cx3⟩ := hcell wr hbW k hlt
   rw [hx] at cx1 cx2 cx3
   have HK := Lib.hid hx
   have hsucc := outsD_succ (ar := es) (k := k) (by rw [HX.out]; exact hlt) q
   rw [hx] at hsucc
   have hpl : Hid (ps.length ≤ 20000) := Lib.hid (by
    rw [HP.out]
    refine Nat.le_trans (List.length_filter_le _ _) ?_
    rw [List.length_take]
    omega)
   clear hx hcell he hbb hbW
   by_cases h1 : x1 = q
   ·have t2 : (x1 == q) = true := by simpa using h1
    have HN : Hid (ps ++ [⟨x1, x2, x3⟩] = outsD (es.take (k + 1)) q) := Lib.hid (by rw [hsucc, if_pos h1, HP.out])
    clear h1 hsucc
    go_wp2_with (at_builtin; refine app_arc elRA rfl _ _ rfl rfl ho rfl (by have := hpl.out; omega) hb.size ?_; intro a1 c1 w1 ho1 hb1 hs1)
    go_roundw
    case rel => exact ⟨k + 1, ps ++ [⟨x1, x2, x3⟩], a1, c1, hlt, by go_num, by rw [List.length_append]; rfl, HN, by rw [List.length_append]; exact ho1, hb.trans hb1⟩
    case measure => simp [intOf]; omega
   ·have t2 : (x1 == q) = false := by simpa using h1
    have HN : Hid (ps = outsD (es.take (k + 1)) q) := Lib.hid (by rw [hsucc, if_neg h1, HP.out, List.append_nil])
    clear h1 hsucc
    go_wp2_with (fail)
    go_roundw
    case rel => exact ⟨k + 1, ps, ao, co, hlt, by go_num, rfl, HN, ho, hb⟩
    case measure => simp [intOf]; omega
  ·have t1 : decide ((k : Int) < al) = false := decide_eq_false (by omega)
   have HR : Hid (outsD es q = ps) := Lib.hid (by rw [HP.out, List.take_of_length_le (by rw [HX.out]; exact hge)])
   have hO9 : wr.ownsRow (w.heap.size + 1) 66 3 (.slice ao ps.length co) ps.length (tvs ps) := ho.from_mono (by omega)
   have HO9 := Lib.hid hO9
   clear hO9
   go_wp2_with (fail)
   go_ret
   rw [HR.out]
   exact ⟨⟨ao, co, rfl, HO9.out⟩, hbW⟩

set_option maxRecDepth 20000 in
theorem refAll_any (hd : IsDfa w h d) (hn : 0 ≤ d.n ∧ d.n ≤ 100000) : Calls Try.prog 40 #[vDf d h] w fun e w' => (∃ a' c', e = .returned (.slice a' d.n.toNat c') ∧ IsInts .i64 w' a' d.n.toNat c' (lets d.n.toNat)) ∧ Below w.heap.size w w' := by
 obtain ⟨W1, hW1, hs1, hb1, hO⟩ := boxRW d h w hd
 obtain ⟨n, s, fin, es⟩ := d
 obtain ⟨fa, fl, fc, aa, al, ac⟩ := h
 simp only [vDf] at hW1 hs1 hb1 hO hn ⊢
 obtain ⟨N, rfl⟩ := Int.eq_ofNat_of_zero_le hn.1
 rw [Int.toNat_natCast]
 have HO : Hid (∀ W, Below W1.heap.size W1 W → W.cell? ⟨w.heap.size, 0, none⟩ = some (.int .i64 (N : Int)) ∧ Below w.heap.size w W) := Lib.hid (fun W hb => by
  have h1 := hO W (hb.mono (by omega))
  exact ⟨h1.1.1, h1.2.2⟩)
 clear hO hd
 go_enter Try.func40, Try.ntmps40
 go_wp2_with (fail)
 clear hW1 hb1
 go_loopw [3, 4] (fun v x W => ∃ (k : Nat) (ao : Option Addr) (co : Nat), k ≤ N ∧ x = .int .i64 (k : Int) ∧ v = .slice ao k co ∧ W.ownsRow W1.heap.size 3 1 (.slice ao k co) k (ivs .i64 (lets k)) ∧ Below W1.heap.size W1 W) (fun _ x _ => N - (intOf x).toNat)
 case atStart => exact ⟨0, none, 0, Nat.zero_le _, rfl, rfl, World.ownsRow_nil _ _ _ _, Below.refl _ _⟩
 case round =>
  obtain ⟨k, ao, co, hk, rfl, rfl, ho, hb⟩ := hrel
  obtain ⟨c1, hbW⟩ := HO.out wr hb
  rcases Nat.lt_or_ge k N with hlt | hge
  ·have t1 : decide ((k : Int) < (N : Int)) = true := decide_eq_true (by omega)
   have HN : Hid (ivs .i64 (lets (k + 1)) = ivs .i64 (lets k) ++ [.int .i64 (k : Int)]) := Lib.hid (by unfold lets ivs; rw [List.range_succ, List.map_append, List.map_append]; rfl)
   go_wp2_with (at_builtin; refine app_one elI64 rfl _ _ rfl rfl ho rfl (by omega) hb.size ?_; intro a1 ca1 w1 ho1 hb1)
   go_roundw
   case rel => exact ⟨k + 1, a1, ca1, hlt, by go_num, rfl, by rw [HN.out]; simpa [ivs] using ho1, hb.trans hb1⟩
   case measure => simp [intOf]; omega
  ·have t1 : decide ((k : Int) < (N : Int)) = false := decide_eq_false (by omega)
   obtain rfl : k = N := by omega
   have hI := (IsInts.of_owns ho).1
   go_wp2_with (fail)
   go_ret
   exact ⟨⟨ao, co, rfl, hI⟩, hbW⟩
end Go.Proofs.Ytpcbmhfnefhenaa

set_option linter.unusedSimpArgs false
set_option linter.unusedVariables false
namespace Go.Proofs.Ytpcbmhfnefhenaa
open List (foldr_cons foldr_nil setIfInBounds_toArray set_cons_succ set_cons_zero)
open Go.RowKit
attribute [local go_sem] Oper.semAt_some

theorem box2R {a b : Dfa} {h k : DH} {w : World} (hd : IsDfa w h a) (he : IsDfa w k b) : ∃ W1 W2, w.alloc (.cells #[.int .i64 a.n, .int .i64 a.s, .slice h.fa h.fl h.fc, .slice h.aa h.al h.ac] 25) = W1 ∧ W1.alloc (.cells #[.int .i64 b.n, .int .i64 b.s, .slice k.fa k.fl k.fc, .slice k.aa k.al k.ac] 25) = W2 ∧ W1.heap.size = w.heap.size + 1 ∧ W2.heap.size = w.heap.size + 2 ∧
  ∀ W, Below (w.heap.size + 2) W2 W → (W.cell? ⟨w.heap.size, 0, none⟩ = some (.int .i64 a.n) ∧ W.cell? ⟨w.heap.size, 1, none⟩ = some (.int .i64 a.s) ∧ W.cell? ⟨w.heap.size, 2, none⟩ = some (.slice h.fa h.fl h.fc) ∧ W.cell? ⟨w.heap.size, 3, none⟩ = some (.slice h.aa h.al h.ac)) ∧
   (W.cell? ⟨w.heap.size + 1, 0, none⟩ = some (.int .i64 b.n) ∧ W.cell? ⟨w.heap.size + 1, 1, none⟩ = some (.int .i64 b.s) ∧ W.cell? ⟨w.heap.size + 1, 2, none⟩ = some (.slice k.fa k.fl k.fc) ∧ W.cell? ⟨w.heap.size + 1, 3, none⟩ = some (.slice k.aa k.al k.ac)) ∧ IsDfa W h a ∧ IsDfa W k b ∧ Below w.heap.size w W := by
 obtain ⟨W1, hW1, hs1, hb1, hO⟩ := boxRW a h w hd
 obtain ⟨W2, hW2, hs2, hb2, hP⟩ := boxRW b k W1 (he.later hb1)
 refine ⟨W1, W2, hW1, hW2, hs1, by omega, fun W hb => ?_⟩
 obtain ⟨p1, p2, p3⟩ := hO W ((hb2.mono (by omega)).trans (hb.mono (by omega)))
 obtain ⟨q1, q2, q3⟩ := hP W (hb.mono (by omega))
 rw [hs1] at q1
 exact ⟨p1, q1, p2, q2, p3⟩
theorem box3R {a b : Dfa} {h k : DH} {w : World} (hd : IsDfa w h a) (he : IsDfa w k b) : ∃ W1 W2 W3, w.alloc (.cells #[.int .i64 a.n, .int .i64 a.s, .slice h.fa h.fl h.fc, .slice h.aa h.al h.ac] 25) = W1 ∧ W1.alloc (.cells #[.int .i64 b.n, .int .i64 b.s, .slice k.fa k.fl k.fc, .slice k.aa k.al k.ac] 25) = W2 ∧ W2.alloc (.cells #[.int .i64 0, .int .i64 0, .slice none 0 0, .slice none 0 0] 25) = W3 ∧ W1.heap.size = w.heap.size + 1 ∧ W2.heap.size = w.heap.size + 2 ∧ W3.heap.size = w.heap.size + 3 ∧
  ∀ W, Below (w.heap.size + 3) W3 W → (W.cell? ⟨w.heap.size, 0, none⟩ = some (.int .i64 a.n) ∧ W.cell? ⟨w.heap.size, 1, none⟩ = some (.int .i64 a.s) ∧ W.cell? ⟨w.heap.size, 2, none⟩ = some (.slice h.fa h.fl h.fc) ∧ W.cell? ⟨w.heap.size, 3, none⟩ = some (.slice h.aa h.al h.ac)) ∧
   (W.cell? ⟨w.heap.size + 1, 0, none⟩ = some (.int .i64 b.n) ∧ W.cell? ⟨w.heap.size + 1, 1, none⟩ = some (.int .i64 b.s) ∧ W.cell? ⟨w.heap.size + 1, 2, none⟩ = some (.slice k.fa k.fl k.fc) ∧ W.cell? ⟨w.heap.size + 1, 3, none⟩ = some (.slice k.aa k.al k.ac)) ∧ IsDfa W h a ∧ IsDfa W k b ∧ Below w.heap.size w W ∧ W.heap[w.heap.size + 2]? = some (.cells #[.int .i64 0, .int .i64 0, .slice none 0 0, .slice none 0 0] 25 (0, 0)) := by
 obtain ⟨W1, W2, hW1, hW2, hs1, hs2, hO⟩ := box2R hd he
 have hb : Below W2.heap.size W2 (W2.alloc (.cells #[.int .i64 0, .int .i64 0, .slice none 0 0, .slice none 0 0] 25)) := (Below.refl _ _).alloc (Nat.le_refl _) _
 have hz := heap_alloc_new W2 (.cells #[.int .i64 0, .int .i64 0, .slice none 0 0, .slice none 0 0] 25)
 refine ⟨W1, W2, _, hW1, hW2, rfl, hs1, hs2, by simp; omega, fun W hbW => ?_⟩
 obtain ⟨p1, p2, p3, p4, p5⟩ := hO W ((hb.mono (by omega)).trans (hbW.mono (by omega)))
 exact ⟨p1, p2, p3, p4, p5, by rw [hbW.block _ (by omega), ← hs2]; exact hz⟩
set_option maxRecDepth 20000 in
set_option maxHeartbeats 4000000 in
theorem refProduct_na {a b : Dfa} {h k : DH} {w : World} (hv : ¬ ValidD a) (hd : IsDfa w h a) (he : IsDfa w k b) : Calls Try.prog 36 #[vDf a h, vDf b k] w (GivesDE zeroD 1 w) := by
 obtain ⟨W1, W2, W3, hW1, hW2, hW3, hs1, hs2, hs3, hO⟩ := box3R hd he
 obtain ⟨⟨c1, c2, c3, c4⟩, ⟨g1, g2, g3, g4⟩, hd2, he2, hb2, hZ2⟩ := hO W3 (Below.refl _ _)
 have hva := refValid_no hv hd2
 have HO := Lib.hid hO
 have HS := Lib.hid hs3
 unfold vDf at hva ⊢
 clear hO hd2 he2 hs3 hv hb2 hZ2
 go_enter Try.func36, Try.ntmps36
 go_wp2_with (fail)
 refine hva.mono ?_
 rintro e w4 ⟨rfl, hb⟩
 obtain ⟨-, -, -, -, hb4, hZ4⟩ := HO.out w4 (hb.mono (by rw [HS.out]; omega))
 have HB4 := Lib.hid hb4
 clear hb hb4 hva
 go_wp2_with (show wpList _ _ _ (⟨_, .store 25 _ _, _, _, _, _⟩ :: _) _ _; refine wpList_store_row rfl 25 _ _ rfl (w.heap.size + 2) #[.int .i64 0, .int .i64 0, .slice none 0 0, .slice none 0 0] rfl rfl _ _ hZ4 ref_i rfl (dfa_one _ _ _ _ _ _ _ _) ?_)
 refine bodyPost_ret (results_cell_row2 rfl _ _ (w.heap.size + 2) _ _ _ _ rfl rfl (setRow_heap _ _ _ _ _ _ hZ4) Try.underlying25 rfl ref_i) rfl ?_
 exact ⟨⟨⟨none, 0, 0, none, 0, 0⟩, rfl, isDfa_zero _⟩, below_setRow HB4.out (by omega) _⟩
set_option maxRecDepth 20000 in
set_option maxHeartbeats 4000000 in
theorem refProduct_nb {a b : Dfa} {h k : DH} {w : World} (hva : ValidD a) (hv : ¬ ValidD b) (hd : IsDfa w h a) (he : IsDfa w k b) : Calls Try.prog 36 #[vDf a h, vDf b k] w (GivesDE zeroD 1 w) := by
 obtain ⟨W1, W2, W3, hW1, hW2, hW3, hs1, hs2, hs3, hO⟩ := box3R hd he
 obtain ⟨⟨c1, c2, c3, c4⟩, ⟨g1, g2, g3, g4⟩, hd2, he2, hb2, hZ2⟩ := hO W3 (Below.refl _ _)
 have hya := refValid_yes hva hd2
 have HO := Lib.hid hO
 have HS := Lib.hid hs3
 have HVB := Lib.hid hv
 unfold vDf at hya ⊢
 clear hO hd2 he2 hs3 hv hb2 hZ2 hva
 go_enter Try.func36, Try.ntmps36
 go_wp2_with (fail)
 refine hya.mono ?_
 rintro e w4 ⟨rfl, hb⟩
 have hb4' : Below (w.heap.size + 3) W3 w4 := hb.mono (by rw [HS.out]; omega)
 obtain ⟨⟨k1, k2, k3, k4⟩, ⟨j1, j2, j3, j4⟩, hd4, he4, hb4, hZ4⟩ := HO.out w4 hb4'
 have hnb := refValid_no HVB.out he4
 unfold vDf at hnb
 have HB4 := Lib.hid hb4'
 have HS4 : Hid (w.heap.size + 3 ≤ w4.heap.size) := Lib.hid (by have := hb4'.size; rw [HS.out] at this; exact this)
 clear hb hb4' hb4 hd4 he4 c1 c2 c3 c4 g1 g2 g3 g4 hya hZ4
 go_wp2_with (fail)
 refine hnb.mono ?_
 rintro e w5 ⟨rfl, hb⟩
 obtain ⟨-, -, -, -, hb5, hZ5⟩ := HO.out w5 (HB4.out.trans (hb.mono HS4.out))
 have HB5 := Lib.hid hb5
 clear hb hb5 hnb k1 k2 k3 k4 j1 j2 j3 j4
 go_wp2_with (show wpList _ _ _ (⟨_, .store 25 _ _, _, _, _, _⟩ :: _) _ _; refine wpList_store_row rfl 25 _ _ rfl (w.heap.size + 2) #[.int .i64 0, .int .i64 0, .slice none 0 0, .slice none 0 0] rfl rfl _ _ hZ5 ref_i rfl (dfa_one _ _ _ _ _ _ _ _) ?_)
 refine bodyPost_ret (results_cell_row2 rfl _ _ (w.heap.size + 2) _ _ _ _ rfl rfl (setRow_heap _ _ _ _ _ _ hZ5) Try.underlying25 rfl ref_i) rfl ?_
 exact ⟨⟨⟨none, 0, 0, none, 0, 0⟩, rfl, isDfa_zero _⟩, below_setRow HB5.out (by omega) _⟩
def rv3 (ps : List P2) : List Value := ps.flatMap fun p => [.int .i64 p.a, .int .i64 p.b, .slice none 0 0]
theorem rv3_cons (e : P2) (ps : List P2) : rv3 (e :: ps) = .int .i64 e.a :: .int .i64 e.b :: .slice none 0 0 :: rv3 ps := rfl
theorem rv3_append (xs ys : List P2) : rv3 (xs ++ ys) = rv3 xs ++ rv3 ys := by simp [rv3]
theorem rv3_length : ∀ ps : List P2, (rv3 ps).length = ps.length * 3
 | [] => rfl
 | e :: ps => by
  have := rv3_length ps
  rw [rv3_cons, List.length_cons, List.length_cons, List.length_cons, List.length_cons]
  omega
theorem rv3_get : ∀ (ps : List P2) (i : Nat), i < ps.length → (rv3 ps)[i * 3]? = some (.int .i64 (gp2 ps i).a) ∧ (rv3 ps)[i * 3 + 1]? = some (.int .i64 (gp2 ps i).b) ∧ (rv3 ps)[i * 3 + 2]? = some (.slice none 0 0)
 | [], i, h => absurd h (Nat.not_lt_zero _)
 | e :: ps, 0, _ => ⟨rfl, rfl, rfl⟩
 | e :: ps, i + 1, h => by
  have ih := rv3_get ps i (by simpa using h)
  rw [show (i + 1) * 3 = i * 3 + 1 + 1 + 1 by omega, rv3_cons]
  exact ih
theorem own_trip {w : World} {B e n cap g : Nat} {ps : List P2} (h : w.ownsRow B e 3 (.slice (some ⟨g, 0, none⟩) n cap) n (rv3 ps)) (i : Nat) (hi : i < n) : w.cell? ⟨g, i * 3, none⟩ = some (.int .i64 (gp2 ps i).a) ∧ w.cell? ⟨g, i * 3 + 1, none⟩ = some (.int .i64 (gp2 ps i).b) ∧ w.cell? ⟨g, i * 3 + 2, none⟩ = some (.slice none 0 0) := by
 have hl : ps.length = n := by
  have := h.1
  rw [rv3_length] at this
  omega
 obtain ⟨p0, p1, p2⟩ := rv3_get ps i (by omega)
 exact ⟨(owns_cells h _ (by omega)).trans p0, (owns_cells h _ (by omega)).trans p1, (owns_cells h _ (by omega)).trans p2⟩
theorem elRC : Elem Try.prog 23 66 (.agg #[.int .i64 0, .int .i64 0, .int .i64 0]) 3 24 := ⟨Try.underlying23, by kernel_rfl, rfl, by decide⟩
theorem elRP : Elem Try.prog 102 101 (.agg #[.int .i64 0, .int .i64 0, .slice none 0 0]) 3 40 := ⟨Try.underlying102, by kernel_rfl, rfl, by decide⟩
theorem trip_one {a b : Int} : ∀ u ∈ (#[Value.int .i64 a, .int .i64 b, .slice none 0 0] : Array Value).toList, u.oneCell' = true := by
 intro u hu
 simp only [List.mem_cons, List.not_mem_nil, or_false] at hu
 rcases hu with rfl | rfl | rfl <;> rfl
def rpPs (bo : Nat) (st : Bq P2) (fs : List Bool) (vq vfb vf vab va : Value) : List Pc :=
 [.blk bo #[.int .i64 0, .int .i64 0, vfb, vab], .row 101 3 vq st.q.length (rv3 st.q), .row 4 1 vf fs.length (bvs fs), .row 66 3 va st.a.length (tvs st.a)]
theorem rpPs_start {W : World} {B : Nat} {s : P2} (hb : B ≤ W.heap.size) :
  Pcs ((W.alloc (.cells #[.int .i64 s.a, .int .i64 s.b, .slice none 0 0] 101)).alloc (.cells #[.int .i64 0, .int .i64 0, .slice none 0 0, .slice none 0 0] 25)) B (rpPs (W.heap.size + 1) ⟨[s], [[]], []⟩ [] (.slice (some ⟨W.heap.size, 0, none⟩) 1 1) (.slice none 0 0) (.slice none 0 0) (.slice none 0 0) (.slice none 0 0)) := by
 have h1 : Pcs (W.alloc (.cells #[.int .i64 s.a, .int .i64 s.b, .slice none 0 0] 101)) B [.row 101 3 (.slice (some ⟨W.heap.size, 0, none⟩) 1 1) 1 (rv3 [s])] := Pcs.one (World.ownsRow_lit W _ 1 (by omega) (by unfold maxLen; omega) rfl)
 have h3 := h1.new (by simp; omega) #[.int .i64 0, .int .i64 0, .slice none 0 0, .slice none 0 0] 25
 rw [show (W.alloc (.cells #[.int .i64 s.a, .int .i64 s.b, .slice none 0 0] 101)).heap.size = W.heap.size + 1 by simp] at h3
 have h4 := (h3.empty 4 1).empty 66 3
 exact Pcs.perm h4 (.swap _ _ _)
set_option maxRecDepth 20000 in
set_option maxHeartbeats 2000000 in
theorem refProduct_yes {a b : Dfa} {h kh : DH} {w : World} (hva : ValidD a) (hvb : ValidD b) (hn : nP a b ≤ 1000) (hm : nP a b * a.arcs.length ≤ 20000) (hd : IsDfa w h a) (he : IsDfa w kh b) : Calls Try.prog 36 #[vDf a h, vDf b kh] w (GivesDE (prodD a b) 0 w) := by
 obtain ⟨PD, hPD⟩ : ∃ P, prodD a b = P := ⟨_, rfl⟩
 rw [hPD]
 have HPD := Lib.hid hPD
 clear hPD
 obtain ⟨bf, of, hfa, hfc⟩ := hd.1.fix (by have := hd.1.length; have := hva.2.2.1; have := hva.1; omega)
 obtain ⟨bg, og, hga, hgc⟩ := he.1.fix (by have := he.1.length; have := hvb.2.2.1; have := hvb.1; omega)
 have HFC := Lib.hid hfc
 have HGC := Lib.hid hgc
 have HFA := Lib.hid hfa
 have HGA := Lib.hid hga
 have hfl : (h.fl : Int) = a.n := by rw [← hva.2.2.1, hd.1.length]
 have hgl : (kh.fl : Int) = b.n := by rw [← hvb.2.2.1, he.1.length]
 have HFL := Lib.hid hfl
 have HGL := Lib.hid hgl
 clear hfc hgc hfa hga hfl hgl
 obtain ⟨W1, W2, W3, hW1, hW2, hW3, hs1, hs2, hs3, hO⟩ := box3R hd he
 obtain ⟨⟨c1, c2, c3, c4⟩, ⟨e1, e2, e3, e4⟩, hd2, he2, hb2, -⟩ := hO W3 (Below.refl _ _)
 have hya := refValid_yes hva hd2
 have HO := Lib.hid hO
 have HS := Lib.hid hs3
 have HVA := Lib.hid hva
 have HVB := Lib.hid hvb
 have HN := Lib.hid hn
 have HM := Lib.hid hm
 unfold vDf at hya ⊢
 clear hO hd2 he2 hs3 hb2 hva hvb hd he hn hm
 go_enter Try.func36, Try.ntmps36
 go_wp2_with (fail)
 refine hya.mono ?_
 rintro e w4 ⟨rfl, hb⟩
 have hb4 : Below (w.heap.size + 3) W3 w4 := hb.mono (by rw [HS.out]; omega)
 obtain ⟨⟨k1, k2, k3, k4⟩, ⟨j1, j2, j3, j4⟩, hd4, he4, -, -⟩ := HO.out w4 hb4
 have hyb := refValid_yes HVB.out he4
 unfold vDf at hyb
 have HB4 := Lib.hid hb4
 have HS4 : Hid (w.heap.size + 3 ≤ w4.heap.size) := Lib.hid (by have := hb4.size; rw [HS.out] at this; exact this)
 clear hb hb4 hd4 he4 c1 c2 c3 c4 e1 e2 e3 e4 hya
 go_wp2_with (fail)
 refine hyb.mono ?_
 rintro e w5 ⟨rfl, hb⟩
 have hb5 := HB4.out.trans (hb.mono HS4.out)
 obtain ⟨⟨c1, c2, c3, c4⟩, ⟨e1, e2, e3, e4⟩, hd5, he5, -, -⟩ := HO.out w5 hb5
 have HB5 := Lib.hid hb5
 have HS5 : Hid (w.heap.size + 3 ≤ w5.heap.size) := Lib.hid (by have := hb5.size; rw [HS.out] at this; exact this)
 clear hb hb5 hd5 he5 k1 k2 k3 k4 j1 j2 j3 j4 hyb
 have hs5 : w.heap.size + 3 ≤ w5.heap.size := HS5.out
 go_upto_region 5 with (fail)
 have hP7 := rpPs_start (W := w5) (B := w.heap.size + 3) (s := ⟨a.s, b.s⟩) hs5
 simp only at hP7
 obtain ⟨W7, hW7⟩ : ∃ W7, (w5.alloc (.cells #[.int .i64 a.s, .int .i64 b.s, .slice none 0 0] 101)).alloc (.cells #[.int .i64 0, .int .i64 0, .slice none 0 0, .slice none 0 0] 25) = W7 := ⟨_, rfl⟩
 have hB7 : Below (w.heap.size + 3) W3 W7 := by rw [← hW7]; exact (HB5.out.alloc hs5 _).alloc (by simp; omega) _
 have hz7 : W7.heap.size = w5.heap.size + 2 := by rw [← hW7]; simp
 rw [hW7] at hP7 ⊢
 obtain ⟨bo, hbo⟩ : ∃ bo, w5.heap.size + 1 = bo := ⟨_, rfl⟩
 obtain ⟨bq0, hbq0⟩ : ∃ q, w5.heap.size = q := ⟨_, rfl⟩
 rw [hbo] at hP7 ⊢
 rw [hbq0] at hP7 ⊢
 have HZ7 : Hid (bo + 1 ≤ W7.heap.size) := Lib.hid (by omega)
 have HBO : Hid (w.heap.size + 4 ≤ bo) := Lib.hid (by omega)
 obtain ⟨BQ, hBQ⟩ : ∃ BQ, BQ = bq (oP a b) ⟨a.s, b.s⟩ := ⟨_, rfl⟩
 have HB0 : Hid (BQ 0 = ⟨[⟨a.s, b.s⟩], [[]], []⟩) := Lib.hid (by rw [hBQ]; rfl)
 obtain ⟨M, hM⟩ : ∃ M, nP a b = M := ⟨_, rfl⟩
 rw [hM] at HN HM
 have HLEN : Hid (∀ k, (BQ k).q.length ≤ M) := Lib.hid (fun k => by rw [← hM, hBQ]; exact bqP_len HVA.out HVB.out k)
 have HIN : Hid (∀ k y, y ∈ (BQ k).q → InP a b y) := Lib.hid (fun k y hy => by rw [hBQ] at hy; exact bqP_in HVA.out HVB.out k y hy)
 have HAL : Hid (∀ k, (BQ k).a.length ≤ k * a.arcs.length) := Lib.hid (fun k => by rw [hBQ]; exact bqG_alen oP_len k)
 have HST : Hid (∀ k, k < (BQ k).q.length → BQ (k + 1) = bqs k (BQ k) (kp b (gp2 (BQ k).q k).b (outsD a.arcs (gp2 (BQ k).q k).a))) := Lib.hid (fun k hk => by
  rw [hBQ] at hk ⊢
  rw [gp2_eq _ _ hk]
  exact bqh_at hk)
 have HFI : Hid (∀ k, (BQ k).q.length ≤ k → PD = resP a b (BQ k)) := Lib.hid (fun k hk => by
  rw [hBQ] at hk ⊢
  rw [← HPD.out]
  unfold prodD
  rw [bqP_fin HVA.out HVB.out hk])
 rw [← HB0.out] at hP7
 have HP7 := Lib.hid hP7
 have HB7 := Lib.hid hB7
 obtain ⟨fn, hfn⟩ : ∃ f : P2 → Bool, f = fun q => gb a.fin q.a.toNat && gb b.fin q.b.toNat := ⟨_, rfl⟩
 have HFN := Lib.hid hfn
 clear hW7 hbo hbq0 hBQ hM hP7 hB7 hz7 hs5 c1 c2 c3 c4 e1 e2 e3 e4 hs1 hs2 hfn hW1 hW2 hW3
 go_wp2_with (fail)
 go_loopw [6, 8] (fun vq c W => ∃ (k : Nat) (aq : Option Addr) (cq : Nat) (af : Option Addr) (cf : Nat) (va : Option Addr) (ca : Nat), k ≤ (BQ k).q.length ∧ c = .int .i64 (k : Int) ∧ vq = .slice aq (BQ k).q.length cq ∧ Pcs W (w.heap.size + 3) (rpPs bo (BQ k) (((BQ k).q.take k).map fn) (.slice aq (BQ k).q.length cq) (.slice af k cf) (.slice af k cf) (.slice va (BQ k).a.length ca) (.slice va (BQ k).a.length ca)) ∧ Below (w.heap.size + 3) W3 W ∧ bo + 1 ≤ W.heap.size) (fun _ c _ => M - (intOf c).toNat)
 case atStart => exact ⟨0, some ⟨bq0, 0, none⟩, 1, none, 0, none, 0, Nat.zero_le _, rfl, by rw [HB0.out]; rfl, by have := HP7.out; rw [HB0.out] at this ⊢; exact this, HB7.out, HZ7.out⟩
 case round =>
  clear HP7 HB7 HZ7
  obtain ⟨k, aq, cq, af, cf, va, ca, hk, rfl, rfl, hP, hb, hz⟩ := hrel
  have hvM := HLEN.out k
  have hMM : M ≤ 1000 := HN.out
  rcases Nat.lt_or_ge k (BQ k).q.length with hlt | hge
  ·have t1 : decide (k < (BQ k).q.length) = true := decide_eq_true hlt
   obtain ⟨gq, rfl, hgq, -⟩ := owns_addr (hP.row 1 rfl) (by omega)
   obtain ⟨q0, q1, q2⟩ := own_trip (hP.row 1 rfl) k hlt
   obtain ⟨p, hp⟩ : ∃ p, gp2 (BQ k).q k = p := ⟨_, rfl⟩
   have hin : InP a b p := HIN.out k p (by rw [← hp]; exact gp2_mem _ _ hlt)
   rw [hp] at q0 q1
   obtain ⟨A, Y⟩ := p
   obtain ⟨⟨hA0, hA⟩, hY0, hY⟩ := hin
   obtain ⟨A, rfl⟩ := Int.eq_ofNat_of_zero_le hA0
   obtain ⟨Y, rfl⟩ := Int.eq_ofNat_of_zero_le hY0
   simp only at hA hY q0 q1
   have HPQ := Lib.hid hp
   have HP := Lib.hid hP
   have HB := Lib.hid hb
   have HLT := Lib.hid hlt
   obtain ⟨fs, hfs⟩ : ∃ fs, ((BQ k).q.take k).map fn = fs := ⟨_, rfl⟩
   have HFS := Lib.hid hfs
   have HFSL : Hid (fs.length = k) := Lib.hid (by rw [← hfs, List.length_map, List.length_take]; omega)
   rw [hfs] at HP
   obtain ⟨FB, hFB⟩ : ∃ x, (gb a.fin A && gb b.fin Y) = x := ⟨_, rfl⟩
   have HFB := Lib.hid hFB
   clear hP hb hk hp hA0 hY0 hlt hfs hFB
   go_upto_region 9 with (fail)
   obtain ⟨W8, hW8⟩ : ∃ W8, wr.alloc (.cells #[.int .i64 (A : Int), .int .i64 (Y : Int), .slice none 0 0] 101) = W8 := ⟨_, rfl⟩
   have HS8 : Hid (W8.heap.size = wr.heap.size + 1) := Lib.hid (by rw [← hW8]; simp)
   have HP8 : Hid (Pcs W8 (w.heap.size + 3) (rpPs bo (BQ k) fs (.slice (some ⟨gq, 0, none⟩) (BQ k).q.length cq) (.slice af k cf) (.slice af k cf) (.slice va (BQ k).a.length ca) (.slice va (BQ k).a.length ca) ++ [.blk wr.heap.size #[.int .i64 (A : Int), .int .i64 (Y : Int), .slice none 0 0]])) := Lib.hid (by rw [← hW8]; exact HP.out.new (by have := HBO.out; omega) _ _)
   have HB8 : Hid (Below (w.heap.size + 3) W3 W8) := Lib.hid (by rw [← hW8]; exact HB.out.alloc (by have := HBO.out; omega) _)
   rw [hW8]
   clear hW8 HP HB q0 q1 q2
   obtain ⟨pb, hpb⟩ : ∃ pb, wr.heap.size = pb := ⟨_, rfl⟩
   have HPB : Hid (bo + 1 ≤ pb) := Lib.hid (by omega)
   rw [hpb] at HP8 HS8 ⊢
   clear hpb hz
   go_cut [] (fun wc => ∃ (a7 : Option Addr) (c7 : Nat), Pcs wc (w.heap.size + 3) (rpPs bo (BQ k) (fs ++ [FB]) (.slice (some ⟨gq, 0, none⟩) (BQ k).q.length cq) (.slice a7 (k + 1) c7) (.slice a7 (k + 1) c7) (.slice va (BQ k).a.length ca) (.slice va (BQ k).a.length ca) ++ [.blk pb #[.int .i64 (A : Int), .int .i64 (Y : Int), .slice none 0 0]]) ∧ Below (w.heap.size + 3) W3 wc ∧ pb + 1 ≤ wc.heap.size)
   case first =>
    have hAl : A < h.fl := by have := HFL.out; omega
    have hYl : Y < kh.fl := by have := HGL.out; omega
    cases hxa : gb a.fin A with
    | true =>
     have HXA := Lib.hid hxa
     have HXB : Hid (gb b.fin Y = FB) := Lib.hid (by rw [← HFB.out, hxa]; rfl)
     clear hxa
     obtain ⟨S, hSd⟩ : ∃ S : (Nat → Bool) → (Nat → Value) → World → Prop, S = fun L f W => Below (w.heap.size + 3) W3 W ∧ pb + 1 ≤ W.heap.size ∧ (L 16 = true → L 17 = false → ∃ q, f 16 = .slice (some ⟨q, 0, none⟩) 1 1 ∧ BlkAt W q #[.bool FB]) ∧ Pcs W (w.heap.size + 3) (rpPs bo (BQ k) (if L 17 = true then fs ++ [FB] else fs) (.slice (some ⟨gq, 0, none⟩) (BQ k).q.length cq) (if L 19 = true then f 17 else .slice af k cf) (if L 17 = true then f 17 else .slice af k cf) (.slice va (BQ k).a.length ca) (.slice va (BQ k).a.length ca) ++ [.blk pb #[.int .i64 (A : Int), .int .i64 (Y : Int), .slice none 0 0]]) := ⟨_, rfl⟩
     refine wp_region_st mixed (by kernel_rfl) [[], [(0, 40)], [], [(2, 42)], [], [(4, 44)], [(3, 43), (5, 45)], [(6, 46)], [(7, 47)], [(8, 48)], [(9, 49), (8, 48)], [(8, 48)], [(11, 51), (8, 48)], [(10, 50), (12, 52), (8, 48)], [(13, 53), (8, 48)], [(8, 48), (14, 54)], [(15, 55)], [(1, 41), (16, 56), (8, 48)], [(0, 40), (1, 41), (2, 42), (3, 43), (4, 44), (5, 45), (6, 46), (7, 47), (8, 48), (9, 49), (10, 50), (11, 51), (12, 52), (13, 53), (14, 54), (15, 55), (16, 56), (17, 57)], [(18, 58), (17, 57), (17, 57), (0, 40), (1, 41), (2, 42), (3, 43), (4, 44), (5, 45), (6, 46), (7, 47), (8, 48), (9, 49), (10, 50), (11, 51), (12, 52), (13, 53), (14, 54), (15, 55), (16, 56), (17, 57)]] [(0, 40), (1, 41), (2, 42), (3, 43), (4, 44), (5, 45), (6, 46), (7, 47), (8, 48), (9, 49), (10, 50), (11, 51), (12, 52), (13, 53), (14, 54), (15, 55), (16, 56), (17, 57), (18, 58)] rfl rfl [EV ?ep0, EV ?ep1, EV ?ep2, EV ?ep3, EV ?ep4, EV ?ep5, EV ?ep6, EV ?ep7, EV ?ep8, EV ?ep9, EV ?ep10, EV ?ep11, EV ?ep12, EV ?ep13, EV ?ep14, EV ?ep15, fun v => ∃ b, v = .slice (some ⟨b, 0, none⟩) 1 1, fun v => ∃ a c, v = .slice a (k + 1) c, EV ?ep18, fun _ => True] S ?pstart ?psteps ?prest
     case pstart =>
      intro f
      rw [hSd]
      exact ⟨HB8.out.drew, (by have := HS8.out; show pb + 1 ≤ W8.heap.size; omega), fun h => (by cases h), HP8.out.quiet (below_grows ((Below.refl _ _).drew) none)⟩
     case psteps =>
      refine ⟨fun L f W hi hd hdn hh hS => ?_, fun L f W hi hd hdn hh hS => ?_, fun L f W hi hd hdn hh hS => ?_, fun L f W hi hd hdn hh hS => ?_, fun L f W hi hd hdn hh hS => ?_, fun L f W hi hd hdn hh hS => ?_, fun L f W hi hd hdn hh hS => ?_, fun L f W hi hd hdn hh hS => ?_, fun L f W hi hd hdn hh hS => ?_, fun L f W hi hd hdn hh hS => ?_, fun L f W hi hd hdn hh hS => ?_, fun L f W hi hd hdn hh hS => ?_, fun L f W hi hd hdn hh hS => ?_, fun L f W hi hd hdn hh hS => ?_, fun L f W hi hd hdn hh hS => ?_, fun L f W hi hd hdn hh hS => ?_, fun L f W hi hd hdn hh hS => ?_, fun L f W hi hd hdn hh hS => ?_, fun L f W hi hd hdn hh hS => ?_, fun L f W hi hd hdn hh hS => ?_, trivial⟩
      ·
       unfold stStep
       rw [if_pos (by simp [Region.wanted])]
       intro K Q hK
       simp only [puts, foldr_nil]
       go_step
       refine st_ex hK rfl rfl (by simp only [Act.put, setIfInBounds_toArray, set_cons_succ, set_cons_zero, Array.getD_eq_getD_getElem?, List.getElem?_toArray, List.getElem?_cons_succ, List.getElem?_cons_zero, Option.getD_some] <;> rfl) rfl (by rw [hSd] at hS ⊢; exact hS)
      ·
       obtain ⟨h0, -⟩ := hh
       have g0 : f 0 = _ := h0
       have l17 : L 17 = false := Bool.eq_false_iff.2 fun h => by have q := hdn 17 _ h rfl 1 (by decide); rw [show L 1 = false from hi] at q; cases q
       have l19 : L 19 = false := Bool.eq_false_iff.2 fun h => by have q := hdn 19 _ h rfl 17 (by decide); rw [show L 17 = false from l17] at q; cases q
       unfold stStep
       rw [if_pos (by simp [Region.wanted])]
       intro K Q hK
       simp only [puts, Za, Zb, Zc, Zd, Ze, g0]
       have hS' := hS
       rw [hSd] at hS'
       simp only [l17, l19, if_false, Bool.false_eq_true] at hS'
       have x1 : W.cell? ⟨bo, 2, none⟩ = some (.slice af k cf) := ((hS'.2.2.2.blk 0 rfl).2.cell 2).1
       go_step
       refine st_ex hK rfl rfl (by simp only [Act.put, setIfInBounds_toArray, set_cons_succ, set_cons_zero, Array.getD_eq_getD_getElem?, List.getElem?_toArray, List.getElem?_cons_succ, List.getElem?_cons_zero, Option.getD_some] <;> rfl) rfl (by rw [hSd] at hS ⊢; exact hS)
      ·
       unfold stStep
       rw [if_pos (by simp [Region.wanted])]
       intro K Q hK
       simp only [puts, foldr_nil]
       go_step
       refine st_ex hK rfl rfl (by simp only [Act.put, setIfInBounds_toArray, set_cons_succ, set_cons_zero, Array.getD_eq_getD_getElem?, List.getElem?_toArray, List.getElem?_cons_succ, List.getElem?_cons_zero, Option.getD_some] <;> rfl) rfl (by rw [hSd] at hS ⊢; exact hS)
      ·
       obtain ⟨h2, -⟩ := hh
       have g2 : f 2 = _ := h2
       unfold stStep
       rw [if_pos (by simp [Region.wanted])]
       intro K Q hK
       simp only [puts, Za, Zb, Zc, Zd, Ze, g2]
       have hS' := hS
       rw [hSd] at hS'
       have x3 := (HO.out W hS'.1).1.2.2.1
       rw [HFA.out] at x3
       go_step
       refine st_ex hK rfl rfl (by simp only [Act.put, setIfInBounds_toArray, set_cons_succ, set_cons_zero, Array.getD_eq_getD_getElem?, List.getElem?_toArray, List.getElem?_cons_succ, List.getElem?_cons_zero, Option.getD_some] <;> rfl) rfl (by rw [hSd] at hS ⊢; exact hS)
      ·
       unfold stStep
       rw [if_pos (by simp [Region.wanted])]
       intro K Q hK
       simp only [puts, foldr_nil]
       go_step
       refine st_ex hK rfl rfl (by simp only [Act.put, setIfInBounds_toArray, set_cons_succ, set_cons_zero, Array.getD_eq_getD_getElem?, List.getElem?_toArray, List.getElem?_cons_succ, List.getElem?_cons_zero, Option.getD_some] <;> rfl) rfl (by rw [hSd] at hS ⊢; exact hS)
      ·
       obtain ⟨h4, -⟩ := hh
       have g4 : f 4 = _ := h4
       unfold stStep
       rw [if_pos (by simp [Region.wanted])]
       intro K Q hK
       simp only [puts, Za, Zb, Zc, Zd, Ze, g4]
       have hS' := hS
       rw [hSd] at hS'
       have x5 : W.cell? ⟨pb, 0, none⟩ = some (.int .i64 (A : Int)) := ((hS'.2.2.2.blk 4 rfl).2.cell 0).1
       go_step
       refine st_ex hK rfl rfl (by simp only [Act.put, setIfInBounds_toArray, set_cons_succ, set_cons_zero, Array.getD_eq_getD_getElem?, List.getElem?_toArray, List.getElem?_cons_succ, List.getElem?_cons_zero, Option.getD_some] <;> rfl) rfl (by rw [hSd] at hS ⊢; exact hS)
      ·
       obtain ⟨h3, h5, -⟩ := hh
       have g3 : f 3 = _ := h3
       have g5 : f 5 = _ := h5
       unfold stStep
       rw [if_pos (by simp [Region.wanted])]
       intro K Q hK
       simp only [puts, Za, Zb, Zc, Zd, Ze, g3, g5]
       go_step
       refine st_ex hK rfl rfl (by simp only [Act.put, setIfInBounds_toArray, set_cons_succ, set_cons_zero, Array.getD_eq_getD_getElem?, List.getElem?_toArray, List.getElem?_cons_succ, List.getElem?_cons_zero, Option.getD_some] <;> rfl) rfl (by rw [hSd] at hS ⊢; exact hS)
      ·
       obtain ⟨h6, -⟩ := hh
       have g6 : f 6 = _ := h6
       unfold stStep
       rw [if_pos (by simp [Region.wanted])]
       intro K Q hK
       simp only [puts, Za, Zb, Zc, Zd, Ze, g6]
       have hS' := hS
       rw [hSd] at hS'
       have x7 := HFC.out W (HO.out W hS'.1).2.2.2.2.1 A hAl
       rw [HXA.out] at x7
       go_step
       refine st_ex hK rfl rfl (by simp only [Act.put, setIfInBounds_toArray, set_cons_succ, set_cons_zero, Array.getD_eq_getD_getElem?, List.getElem?_toArray, List.getElem?_cons_succ, List.getElem?_cons_zero, Option.getD_some] <;> rfl) rfl (by rw [hSd] at hS ⊢; exact hS)
      ·
       obtain ⟨h7, -⟩ := hh
       have g7 : f 7 = _ := h7
       unfold stStep
       rw [if_pos (by simp [Region.wanted])]
       intro K Q hK
       simp only [puts, Za, Zb, Zc, Zd, Ze, g7]
       go_step
       refine st_ex hK rfl rfl (by simp only [Act.put, setIfInBounds_toArray, set_cons_succ, set_cons_zero, Array.getD_eq_getD_getElem?, List.getElem?_toArray, List.getElem?_cons_succ, List.getElem?_cons_zero, Option.getD_some] <;> rfl) rfl (by rw [hSd] at hS ⊢; exact hS)
      ·
       obtain ⟨h8, -⟩ := hh
       have g8 : f 8 = _ := h8
       refine st_yes g8 fun K Q hK => ?_
       simp only [puts, Za, Zb, Zc, Zd, Ze, g8]
       go_step
       refine st_ex hK rfl rfl (by simp only [Act.put, setIfInBounds_toArray, set_cons_succ, set_cons_zero, Array.getD_eq_getD_getElem?, List.getElem?_toArray, List.getElem?_cons_succ, List.getElem?_cons_zero, Option.getD_some] <;> rfl) rfl (by rw [hSd] at hS ⊢; exact hS)
      ·
       obtain ⟨h9, h8, -⟩ := hh
       have g9 : f 9 = _ := h9
       have g8 : f 8 = _ := h8
       refine st_yes g8 fun K Q hK => ?_
       simp only [puts, Za, Zb, Zc, Zd, Ze, g9, g8]
       have hS' := hS
       rw [hSd] at hS'
       have x10 := (HO.out W hS'.1).2.1.2.2.1
       rw [HGA.out] at x10
       go_step
       refine st_ex hK rfl rfl (by simp only [Act.put, setIfInBounds_toArray, set_cons_succ, set_cons_zero, Array.getD_eq_getD_getElem?, List.getElem?_toArray, List.getElem?_cons_succ, List.getElem?_cons_zero, Option.getD_some] <;> rfl) rfl (by rw [hSd] at hS ⊢; exact hS)
      ·
       obtain ⟨h8, -⟩ := hh
       have g8 : f 8 = _ := h8
       refine st_yes g8 fun K Q hK => ?_
       simp only [puts, Za, Zb, Zc, Zd, Ze, g8]
       go_step
       refine st_ex hK rfl rfl (by simp only [Act.put, setIfInBounds_toArray, set_cons_succ, set_cons_zero, Array.getD_eq_getD_getElem?, List.getElem?_toArray, List.getElem?_cons_succ, List.getElem?_cons_zero, Option.getD_some] <;> rfl) rfl (by rw [hSd] at hS ⊢; exact hS)
      ·
       obtain ⟨h11, h8, -⟩ := hh
       have g11 : f 11 = _ := h11
       have g8 : f 8 = _ := h8
       refine st_yes g8 fun K Q hK => ?_
       simp only [puts, Za, Zb, Zc, Zd, Ze, g11, g8]
       have hS' := hS
       rw [hSd] at hS'
       have x12 : W.cell? ⟨pb, 1, none⟩ = some (.int .i64 (Y : Int)) := ((hS'.2.2.2.blk 4 rfl).2.cell 1).1
       go_step
       refine st_ex hK rfl rfl (by simp only [Act.put, setIfInBounds_toArray, set_cons_succ, set_cons_zero, Array.getD_eq_getD_getElem?, List.getElem?_toArray, List.getElem?_cons_succ, List.getElem?_cons_zero, Option.getD_some] <;> rfl) rfl (by rw [hSd] at hS ⊢; exact hS)
      ·
       obtain ⟨h10, h12, h8, -⟩ := hh
       have g10 : f 10 = _ := h10
       have g12 : f 12 = _ := h12
       have g8 : f 8 = _ := h8
       refine st_yes g8 fun K Q hK => ?_
       simp only [puts, Za, Zb, Zc, Zd, Ze, g10, g12, g8]
       go_step
       refine st_ex hK rfl rfl (by simp only [Act.put, setIfInBounds_toArray, set_cons_succ, set_cons_zero, Array.getD_eq_getD_getElem?, List.getElem?_toArray, List.getElem?_cons_succ, List.getElem?_cons_zero, Option.getD_some] <;> rfl) rfl (by rw [hSd] at hS ⊢; exact hS)
      ·
       obtain ⟨h13, h8, -⟩ := hh
       have g13 : f 13 = _ := h13
       have g8 : f 8 = _ := h8
       refine st_yes g8 fun K Q hK => ?_
       simp only [puts, Za, Zb, Zc, Zd, Ze, g13, g8]
       have hS' := hS
       rw [hSd] at hS'
       have x14 := HGC.out W (HO.out W hS'.1).2.2.2.2.1 Y hYl
       rw [HXB.out] at x14
       go_step
       refine st_ex hK rfl rfl (by simp only [Act.put, setIfInBounds_toArray, set_cons_succ, set_cons_zero, Array.getD_eq_getD_getElem?, List.getElem?_toArray, List.getElem?_cons_succ, List.getElem?_cons_zero, Option.getD_some] <;> rfl) rfl (by rw [hSd] at hS ⊢; exact hS)
      ·
       obtain ⟨h8, h14, -⟩ := hh
       have g8 : f 8 = _ := h8
       have g14 : f 14 = _ := h14
       unfold stStep
       rw [if_pos (by simp [Region.wanted])]
       intro K Q hK
       simp only [puts, Za, Zb, Zc, Zd, Ze, g8, g14]
       go_step
       refine st_ex hK rfl rfl (by simp only [Act.put, setIfInBounds_toArray, set_cons_succ, set_cons_zero, Array.getD_eq_getD_getElem?, List.getElem?_toArray, List.getElem?_cons_succ, List.getElem?_cons_zero, Option.getD_some] <;> rfl) rfl (by rw [hSd] at hS ⊢; exact hS)
      ·
       obtain ⟨h15, -⟩ := hh
       have g15 : f 15 = _ := h15
       have l17 : L 17 = false := Bool.eq_false_iff.2 fun h => by have q := hdn 17 _ h rfl 16 (by decide); rw [show L 16 = false from hi] at q; cases q
       have l19 : L 19 = false := Bool.eq_false_iff.2 fun h => by have q := hdn 19 _ h rfl 17 (by decide); rw [show L 17 = false from l17] at q; cases q
       unfold stStep
       rw [if_pos (by simp [Region.wanted])]
       intro K Q hK
       simp only [puts, Za, Zb, Zc, Zd, Ze, g15]
       rw [hSd] at hS hK
       have l16 : L 16 = false := hi
       try simp only [stage, l17, l19, l16, if_true, if_false, Bool.false_eq_true] at hS
       obtain ⟨hbW, hzW, -, hPW⟩ := hS
       have hal : Below W.heap.size W (W.alloc (.cells #[.bool FB] 4)) := (Below.refl _ _).alloc (Nat.le_refl _) _
       go_step
       refine hK.out _ _ rfl ⟨_, rfl⟩ ?_
       refine ⟨hbW.alloc (by have := HPB.out; have := HBO.out; omega) _, by simp; omega, fun _ _ => ⟨_, rfl, BlkAt.new W _ _⟩, ?_⟩
       simp only [l17, l19, Bool.false_eq_true, ↓reduceIte, Nat.reduceEqDiff] at hPW ⊢
       exact hPW.quiet (below_grows hal none)
      ·
       obtain ⟨h1, h16, h8, -⟩ := hh
       have g1 : f 1 = _ := h1
       obtain ⟨b16, (g16 : f 16 = _)⟩ := h16
       have g8 : f 8 = _ := h8
       have l16 : L 16 = true := hd 16 (by decide)
       have l19 : L 19 = false := Bool.eq_false_iff.2 fun h => by have q := hdn 19 _ h rfl 17 (by decide); rw [show L 17 = false from hi] at q; cases q
       unfold stStep
       rw [if_pos (by simp [Region.wanted])]
       intro K Q hK
       simp only [puts, Za, Zb, Zc, Zd, Ze, g1, g16, g8]
       rw [hSd] at hS hK
       have l17 : L 17 = false := hi
       try simp only [stage, l19, l17, l16, if_true, if_false, Bool.false_eq_true] at hS
       obtain ⟨hbW, hzW, h16, hPW⟩ := hS
       obtain ⟨q, e16, hq⟩ := h16 trivial trivial
       rw [g16] at e16
       obtain rfl : b16 = q := by simpa using e16
       try simp only [l17, l19, if_false, Bool.false_eq_true] at hPW
       refine wp_app_pcs elB _ _ rfl 2 (v := .slice af k cf) (n := fs.length) rfl hPW rfl (news := [.bool FB]) rfl ⟨rfl, fun ad e j u hj => by injection e with e; subst e; rw [addr_add, Nat.zero_add, (hq.cell j).1, ← hj]; simp, fun e => by cases e⟩ (by intro u hu; rw [List.mem_singleton.1 hu]; rfl) (by have := HFSL.out; omega) (by have := HPB.out; have := HBO.out; omega) ?_
       intro a' c' w' hp' hbw
       rw [HFSL.out] at hp' ⊢
       refine hK.out _ _ rfl ⟨a', c', rfl⟩ ?_
       refine ⟨hbW.trans hbw, Nat.le_trans hzW hbw.size, fun _ h => (by simp at h), ?_⟩
       simp only [l19, Bool.false_eq_true, ↓reduceIte, Nat.reduceEqDiff]
       have e1 : (fs ++ [FB]).length = k + 1 := by rw [List.length_append, HFSL.out]; rfl
       have e2 : bvs (fs ++ [FB]) = bvs fs ++ [.bool FB] := by simp [bvs]
       unfold rpPs
       rw [e1, e2]
       exact hp'
      ·
       obtain ⟨h0, h1, h2, h3, h4, h5, h6, h7, h8, h9, h10, h11, h12, h13, h14, h15, h16, h17, -⟩ := hh
       have g0 : f 0 = _ := h0
       have g1 : f 1 = _ := h1
       have g2 : f 2 = _ := h2
       have g3 : f 3 = _ := h3
       have g4 : f 4 = _ := h4
       have g5 : f 5 = _ := h5
       have g6 : f 6 = _ := h6
       have g7 : f 7 = _ := h7
       have g8 : f 8 = _ := h8
       have g9 : f 9 = _ := h9
       have g10 : f 10 = _ := h10
       have g11 : f 11 = _ := h11
       have g12 : f 12 = _ := h12
       have g13 : f 13 = _ := h13
       have g14 : f 14 = _ := h14
       have g15 : f 15 = _ := h15
       obtain ⟨b16, (g16 : f 16 = _)⟩ := h16
       obtain ⟨a17, c17, (g17 : f 17 = _)⟩ := h17
       unfold stStep
       rw [if_pos (by simp [Region.wanted])]
       intro K Q hK
       simp only [puts, Za, Zb, Zc, Zd, Ze, g0, g1, g2, g3, g4, g5, g6, g7, g8, g9, g10, g11, g12, g13, g14, g15, g16, g17]
       go_step
       refine st_ex hK rfl rfl (by simp only [Act.put, setIfInBounds_toArray, set_cons_succ, set_cons_zero, Array.getD_eq_getD_getElem?, List.getElem?_toArray, List.getElem?_cons_succ, List.getElem?_cons_zero, Option.getD_some] <;> rfl) rfl (by rw [hSd] at hS ⊢; exact hS)
      ·
       obtain ⟨h18, h17, _, h0, h1, h2, h3, h4, h5, h6, h7, h8, h9, h10, h11, h12, h13, h14, h15, h16, _, -⟩ := hh
       have g18 : f 18 = _ := h18
       obtain ⟨a17, c17, (g17 : f 17 = _)⟩ := h17
       have g0 : f 0 = _ := h0
       have g1 : f 1 = _ := h1
       have g2 : f 2 = _ := h2
       have g3 : f 3 = _ := h3
       have g4 : f 4 = _ := h4
       have g5 : f 5 = _ := h5
       have g6 : f 6 = _ := h6
       have g7 : f 7 = _ := h7
       have g8 : f 8 = _ := h8
       have g9 : f 9 = _ := h9
       have g10 : f 10 = _ := h10
       have g11 : f 11 = _ := h11
       have g12 : f 12 = _ := h12
       have g13 : f 13 = _ := h13
       have g14 : f 14 = _ := h14
       have g15 : f 15 = _ := h15
       obtain ⟨b16, (g16 : f 16 = _)⟩ := h16
       have l17 : L 17 = true := hd 17 (by decide)
       unfold stStep
       rw [if_pos (by simp [Region.wanted])]
       intro K Q hK
       simp only [puts, Za, Zb, Zc, Zd, Ze, g18, g17, g0, g1, g2, g3, g4, g5, g6, g7, g8, g9, g10, g11, g12, g13, g14, g15, g16]
       rw [hSd] at hS hK
       have l19 : L 19 = false := hi
       try simp only [stage, l19, l17, if_true, if_false, Bool.false_eq_true] at hS
       obtain ⟨hbW, hzW, -, hPW⟩ := hS
       have l17' : L 17 = true := hd 17 (by decide)
       simp only [l17', l19, if_false, if_true, Bool.false_eq_true, g17] at hPW
       have y1 := ((hPW.blk 0 rfl).2.cell 2)
       have y2 : W.cell? ⟨bo, 2, none⟩ = some (.slice af k cf) := y1.1
       have y3 := y1.2
       go_step
       refine hK.out _ _ rfl trivial ?_
       refine ⟨hbW.setCell (by have := HBO.out; show _ ≤ bo; omega) _, by rw [World.size_setCell]; exact hzW, fun _ h => (by simp [l17'] at h), ?_⟩
       simp only [l17', ↓reduceIte, Nat.reduceEqDiff, g17]
       exact hPW.blkStore 0 rfl 2 _
     case prest =>
      intro L f WA hL hh hS
      rw [hSd] at hS
      clear hSd
      have l16 : L 16 = true := hL 16 (by decide)
      have l17 : L 17 = true := hL 17 (by decide)
      have l19 : L 19 = true := hL 19 (by decide)
      simp only [stage, l16, l17, l19, if_true] at hS
      clear hL l16 l17 l19
      obtain ⟨h0, h1, h2, h3, h4, h5, h6, h7, h8, h9, h10, h11, h12, h13, h14, h15, h16, h17, h18, -⟩ := hh
      have g0 : f 0 = _ := h0
      have g1 : f 1 = _ := h1
      have g2 : f 2 = _ := h2
      have g3 : f 3 = _ := h3
      have g4 : f 4 = _ := h4
      have g5 : f 5 = _ := h5
      have g6 : f 6 = _ := h6
      have g7 : f 7 = _ := h7
      have g8 : f 8 = _ := h8
      have g9 : f 9 = _ := h9
      have g10 : f 10 = _ := h10
      have g11 : f 11 = _ := h11
      have g12 : f 12 = _ := h12
      have g13 : f 13 = _ := h13
      have g14 : f 14 = _ := h14
      have g15 : f 15 = _ := h15
      obtain ⟨b16, (g16 : f 16 = _)⟩ := h16
      obtain ⟨a17, c17, (g17 : f 17 = _)⟩ := h17
      have g18 : f 18 = _ := h18
      simp only [puts, Za, Zb, Zc, Zd, Ze, g0, g1, g2, g3, g4, g5, g6, g7, g8, g9, g10, g11, g12, g13, g14, g15, g16, g17, g18]
      clear h0 h1 h2 h3 h4 h5 h6 h7 h8 h9 h10 h11 h12 h13 h14 h15 h18 g0 g1 g2 g3 g4 g5 g6 g7 g8 g9 g10 g11 g12 g13 g14 g15 g18
      simp only [g17] at hS
      obtain ⟨hbD, hzD, -, hPD⟩ := hS
      have HX : Hid (Pcs WA (w.heap.size + 3) (rpPs bo (BQ k) (fs ++ [FB]) (.slice (some ⟨gq, 0, none⟩) (BQ k).q.length cq) (.slice a17 (k + 1) c17) (.slice a17 (k + 1) c17) (.slice va (BQ k).a.length ca) (.slice va (BQ k).a.length ca) ++ [.blk pb #[.int .i64 (A : Int), .int .i64 (Y : Int), .slice none 0 0]]) ∧ Below (w.heap.size + 3) W3 WA ∧ pb + 1 ≤ WA.heap.size) := Lib.hid ⟨hPD, hbD, hzD⟩
      clear hbD hzD hPD
      go_wp2_with (fail)
      go_meet
      case rel => exact ⟨a17, c17, HX.out⟩
    | false =>
     have HXA := Lib.hid hxa
     have HFF : Hid (FB = false) := Lib.hid (by rw [← HFB.out, hxa]; rfl)
     clear hxa HFB
     obtain rfl := HFF.out
     obtain ⟨S, hSd⟩ : ∃ S : (Nat → Bool) → (Nat → Value) → World → Prop, S = fun L f W => Below (w.heap.size + 3) W3 W ∧ pb + 1 ≤ W.heap.size ∧ (L 16 = true → L 17 = false → ∃ q, f 16 = .slice (some ⟨q, 0, none⟩) 1 1 ∧ BlkAt W q #[.bool false]) ∧ Pcs W (w.heap.size + 3) (rpPs bo (BQ k) (if L 17 = true then fs ++ [false] else fs) (.slice (some ⟨gq, 0, none⟩) (BQ k).q.length cq) (if L 19 = true then f 17 else .slice af k cf) (if L 17 = true then f 17 else .slice af k cf) (.slice va (BQ k).a.length ca) (.slice va (BQ k).a.length ca) ++ [.blk pb #[.int .i64 (A : Int), .int .i64 (Y : Int), .slice none 0 0]]) := ⟨_, rfl⟩
     refine wp_region_st mixed (by kernel_rfl) [[], [(0, 40)], [], [(2, 42)], [], [(4, 44)], [(3, 43), (5, 45)], [(6, 46)], [(7, 47)], [(8, 48)], [(9, 49), (8, 48)], [(8, 48)], [(11, 51), (8, 48)], [(10, 50), (12, 52), (8, 48)], [(13, 53), (8, 48)], [(8, 48), (14, 54)], [(15, 55)], [(1, 41), (16, 56), (8, 48)], [(0, 40), (1, 41), (2, 42), (3, 43), (4, 44), (5, 45), (6, 46), (7, 47), (8, 48), (9, 49), (10, 50), (11, 51), (12, 52), (13, 53), (14, 54), (15, 55), (16, 56), (17, 57)], [(18, 58), (17, 57), (17, 57), (0, 40), (1, 41), (2, 42), (3, 43), (4, 44), (5, 45), (6, 46), (7, 47), (8, 48), (9, 49), (10, 50), (11, 51), (12, 52), (13, 53), (14, 54), (15, 55), (16, 56), (17, 57)]] [(0, 40), (1, 41), (2, 42), (3, 43), (4, 44), (5, 45), (6, 46), (7, 47), (8, 48), (9, 49), (10, 50), (11, 51), (12, 52), (13, 53), (14, 54), (15, 55), (16, 56), (17, 57), (18, 58)] rfl rfl [EV ?eq0, EV ?eq1, EV ?eq2, EV ?eq3, EV ?eq4, EV ?eq5, EV ?eq6, EV ?eq7, EV ?eq8, EV undef, EV undef, EV undef, EV undef, EV undef, EV undef, EV ?eq15, fun v => ∃ b, v = .slice (some ⟨b, 0, none⟩) 1 1, fun v => ∃ a c, v = .slice a (k + 1) c, EV ?eq18, fun _ => True] S ?qstart ?qsteps ?qrest
     case qstart =>
      intro f
      rw [hSd]
      exact ⟨HB8.out.drew, (by have := HS8.out; show pb + 1 ≤ W8.heap.size; omega), fun h => (by cases h), HP8.out.quiet (below_grows ((Below.refl _ _).drew) none)⟩
     case qsteps =>
      refine ⟨fun L f W hi hd hdn hh hS => ?_, fun L f W hi hd hdn hh hS => ?_, fun L f W hi hd hdn hh hS => ?_, fun L f W hi hd hdn hh hS => ?_, fun L f W hi hd hdn hh hS => ?_, fun L f W hi hd hdn hh hS => ?_, fun L f W hi hd hdn hh hS => ?_, fun L f W hi hd hdn hh hS => ?_, fun L f W hi hd hdn hh hS => ?_, fun L f W hi hd hdn hh hS => ?_, fun L f W hi hd hdn hh hS => ?_, fun L f W hi hd hdn hh hS => ?_, fun L f W hi hd hdn hh hS => ?_, fun L f W hi hd hdn hh hS => ?_, fun L f W hi hd hdn hh hS => ?_, fun L f W hi hd hdn hh hS => ?_, fun L f W hi hd hdn hh hS => ?_, fun L f W hi hd hdn hh hS => ?_, fun L f W hi hd hdn hh hS => ?_, fun L f W hi hd hdn hh hS => ?_, trivial⟩
      ·
       unfold stStep
       rw [if_pos (by simp [Region.wanted])]
       intro K Q hK
       simp only [puts, foldr_nil]
       go_step
       refine st_ex hK rfl rfl (by simp only [Act.put, setIfInBounds_toArray, set_cons_succ, set_cons_zero, Array.getD_eq_getD_getElem?, List.getElem?_toArray, List.getElem?_cons_succ, List.getElem?_cons_zero, Option.getD_some] <;> rfl) rfl (by rw [hSd] at hS ⊢; exact hS)
      ·
       obtain ⟨h0, -⟩ := hh
       have g0 : f 0 = _ := h0
       have l17 : L 17 = false := Bool.eq_false_iff.2 fun h => by have q := hdn 17 _ h rfl 1 (by decide); rw [show L 1 = false from hi] at q; cases q
       have l19 : L 19 = false := Bool.eq_false_iff.2 fun h => by have q := hdn 19 _ h rfl 17 (by decide); rw [show L 17 = false from l17] at q; cases q
       unfold stStep
       rw [if_pos (by simp [Region.wanted])]
       intro K Q hK
       simp only [puts, Za, Zb, Zc, Zd, Ze, g0]
       have hS' := hS
       rw [hSd] at hS'
       simp only [l17, l19, if_false, Bool.false_eq_true] at hS'
       have x1 : W.cell? ⟨bo, 2, none⟩ = some (.slice af k cf) := ((hS'.2.2.2.blk 0 rfl).2.cell 2).1
       go_step
       refine st_ex hK rfl rfl (by simp only [Act.put, setIfInBounds_toArray, set_cons_succ, set_cons_zero, Array.getD_eq_getD_getElem?, List.getElem?_toArray, List.getElem?_cons_succ, List.getElem?_cons_zero, Option.getD_some] <;> rfl) rfl (by rw [hSd] at hS ⊢; exact hS)
      ·
       unfold stStep
       rw [if_pos (by simp [Region.wanted])]
       intro K Q hK
       simp only [puts, foldr_nil]
       go_step
       refine st_ex hK rfl rfl (by simp only [Act.put, setIfInBounds_toArray, set_cons_succ, set_cons_zero, Array.getD_eq_getD_getElem?, List.getElem?_toArray, List.getElem?_cons_succ, List.getElem?_cons_zero, Option.getD_some] <;> rfl) rfl (by rw [hSd] at hS ⊢; exact hS)
      ·
       obtain ⟨h2, -⟩ := hh
       have g2 : f 2 = _ := h2
       unfold stStep
       rw [if_pos (by simp [Region.wanted])]
       intro K Q hK
       simp only [puts, Za, Zb, Zc, Zd, Ze, g2]
       have hS' := hS
       rw [hSd] at hS'
       have x3 := (HO.out W hS'.1).1.2.2.1
       rw [HFA.out] at x3
       go_step
       refine st_ex hK rfl rfl (by simp only [Act.put, setIfInBounds_toArray, set_cons_succ, set_cons_zero, Array.getD_eq_getD_getElem?, List.getElem?_toArray, List.getElem?_cons_succ, List.getElem?_cons_zero, Option.getD_some] <;> rfl) rfl (by rw [hSd] at hS ⊢; exact hS)
      ·
       unfold stStep
       rw [if_pos (by simp [Region.wanted])]
       intro K Q hK
       simp only [puts, foldr_nil]
       go_step
       refine st_ex hK rfl rfl (by simp only [Act.put, setIfInBounds_toArray, set_cons_succ, set_cons_zero, Array.getD_eq_getD_getElem?, List.getElem?_toArray, List.getElem?_cons_succ, List.getElem?_cons_zero, Option.getD_some] <;> rfl) rfl (by rw [hSd] at hS ⊢; exact hS)
      ·
       obtain ⟨h4, -⟩ := hh
       have g4 : f 4 = _ := h4
       unfold stStep
       rw [if_pos (by simp [Region.wanted])]
       intro K Q hK
       simp only [puts, Za, Zb, Zc, Zd, Ze, g4]
       have hS' := hS
       rw [hSd] at hS'
       have x5 : W.cell? ⟨pb, 0, none⟩ = some (.int .i64 (A : Int)) := ((hS'.2.2.2.blk 4 rfl).2.cell 0).1
       go_step
       refine st_ex hK rfl rfl (by simp only [Act.put, setIfInBounds_toArray, set_cons_succ, set_cons_zero, Array.getD_eq_getD_getElem?, List.getElem?_toArray, List.getElem?_cons_succ, List.getElem?_cons_zero, Option.getD_some] <;> rfl) rfl (by rw [hSd] at hS ⊢; exact hS)
      ·
       obtain ⟨h3, h5, -⟩ := hh
       have g3 : f 3 = _ := h3
       have g5 : f 5 = _ := h5
       unfold stStep
       rw [if_pos (by simp [Region.wanted])]
       intro K Q hK
       simp only [puts, Za, Zb, Zc, Zd, Ze, g3, g5]
       go_step
       refine st_ex hK rfl rfl (by simp only [Act.put, setIfInBounds_toArray, set_cons_succ, set_cons_zero, Array.getD_eq_getD_getElem?, List.getElem?_toArray, List.getElem?_cons_succ, List.getElem?_cons_zero, Option.getD_some] <;> rfl) rfl (by rw [hSd] at hS ⊢; exact hS)
      ·
       obtain ⟨h6, -⟩ := hh
       have g6 : f 6 = _ := h6
       unfold stStep
       rw [if_pos (by simp [Region.wanted])]
       intro K Q hK
       simp only [puts, Za, Zb, Zc, Zd, Ze, g6]
       have hS' := hS
       rw [hSd] at hS'
       have x7 := HFC.out W (HO.out W hS'.1).2.2.2.2.1 A hAl
       rw [HXA.out] at x7
       go_step
       refine st_ex hK rfl rfl (by simp only [Act.put, setIfInBounds_toArray, set_cons_succ, set_cons_zero, Array.getD_eq_getD_getElem?, List.getElem?_toArray, List.getElem?_cons_succ, List.getElem?_cons_zero, Option.getD_some] <;> rfl) rfl (by rw [hSd] at hS ⊢; exact hS)
      ·
       obtain ⟨h7, -⟩ := hh
       have g7 : f 7 = _ := h7
       unfold stStep
       rw [if_pos (by simp [Region.wanted])]
       intro K Q hK
       simp only [puts, Za, Zb, Zc, Zd, Ze, g7]
       go_step
       refine st_ex hK rfl rfl (by simp only [Act.put, setIfInBounds_toArray, set_cons_succ, set_cons_zero, Array.getD_eq_getD_getElem?, List.getElem?_toArray, List.getElem?_cons_succ, List.getElem?_cons_zero, Option.getD_some] <;> rfl) rfl (by rw [hSd] at hS ⊢; exact hS)
      ·
       obtain ⟨h8, -⟩ := hh
       have g8 : f 8 = _ := h8
       refine st_no (c := false) rfl g8 (by decide) rfl ?_
       rw [hSd] at hS ⊢
       exact hS
      ·
       obtain ⟨h9, h8, -⟩ := hh
       have g9 : f 9 = _ := h9
       have g8 : f 8 = _ := h8
       refine st_no (c := false) rfl g8 (by decide) rfl ?_
       rw [hSd] at hS ⊢
       exact hS
      ·
       obtain ⟨h8, -⟩ := hh
       have g8 : f 8 = _ := h8
       refine st_no (c := false) rfl g8 (by decide) rfl ?_
       rw [hSd] at hS ⊢
       exact hS
      ·
       obtain ⟨h11, h8, -⟩ := hh
       have g11 : f 11 = _ := h11
       have g8 : f 8 = _ := h8
       refine st_no (c := false) rfl g8 (by decide) rfl ?_
       rw [hSd] at hS ⊢
       exact hS
      ·
       obtain ⟨h10, h12, h8, -⟩ := hh
       have g10 : f 10 = _ := h10
       have g12 : f 12 = _ := h12
       have g8 : f 8 = _ := h8
       refine st_no (c := false) rfl g8 (by decide) rfl ?_
       rw [hSd] at hS ⊢
       exact hS
      ·
       obtain ⟨h13, h8, -⟩ := hh
       have g13 : f 13 = _ := h13
       have g8 : f 8 = _ := h8
       refine st_no (c := false) rfl g8 (by decide) rfl ?_
       rw [hSd] at hS ⊢
       exact hS
      ·
       obtain ⟨h8, h14, -⟩ := hh
       have g8 : f 8 = _ := h8
       have g14 : f 14 = _ := h14
       unfold stStep
       rw [if_pos (by simp [Region.wanted])]
       intro K Q hK
       simp only [puts, Za, Zb, Zc, Zd, Ze, g8, g14]
       go_step
       refine st_ex hK rfl rfl (by simp only [Act.put, setIfInBounds_toArray, set_cons_succ, set_cons_zero, Array.getD_eq_getD_getElem?, List.getElem?_toArray, List.getElem?_cons_succ, List.getElem?_cons_zero, Option.getD_some] <;> rfl) rfl (by rw [hSd] at hS ⊢; exact hS)
      ·
       obtain ⟨h15, -⟩ := hh
       have g15 : f 15 = _ := h15
       have l17 : L 17 = false := Bool.eq_false_iff.2 fun h => by have q := hdn 17 _ h rfl 16 (by decide); rw [show L 16 = false from hi] at q; cases q
       have l19 : L 19 = false := Bool.eq_false_iff.2 fun h => by have q := hdn 19 _ h rfl 17 (by decide); rw [show L 17 = false from l17] at q; cases q
       unfold stStep
       rw [if_pos (by simp [Region.wanted])]
       intro K Q hK
       simp only [puts, Za, Zb, Zc, Zd, Ze, g15]
       rw [hSd] at hS hK
       have l16 : L 16 = false := hi
       try simp only [stage, l17, l19, l16, if_true, if_false, Bool.false_eq_true] at hS
       obtain ⟨hbW, hzW, -, hPW⟩ := hS
       have hal : Below W.heap.size W (W.alloc (.cells #[.bool false] 4)) := (Below.refl _ _).alloc (Nat.le_refl _) _
       go_step
       refine hK.out _ _ rfl ⟨_, rfl⟩ ?_
       refine ⟨hbW.alloc (by have := HPB.out; have := HBO.out; omega) _, by simp; omega, fun _ _ => ⟨_, rfl, BlkAt.new W _ _⟩, ?_⟩
       simp only [l17, l19, Bool.false_eq_true, ↓reduceIte, Nat.reduceEqDiff] at hPW ⊢
       exact hPW.quiet (below_grows hal none)
      ·
       obtain ⟨h1, h16, h8, -⟩ := hh
       have g1 : f 1 = _ := h1
       obtain ⟨b16, (g16 : f 16 = _)⟩ := h16
       have g8 : f 8 = _ := h8
       have l16 : L 16 = true := hd 16 (by decide)
       have l19 : L 19 = false := Bool.eq_false_iff.2 fun h => by have q := hdn 19 _ h rfl 17 (by decide); rw [show L 17 = false from hi] at q; cases q
       unfold stStep
       rw [if_pos (by simp [Region.wanted])]
       intro K Q hK
       simp only [puts, Za, Zb, Zc, Zd, Ze, g1, g16, g8]
       rw [hSd] at hS hK
       have l17 : L 17 = false := hi
       try simp only [stage, l19, l17, l16, if_true, if_false, Bool.false_eq_true] at hS
       obtain ⟨hbW, hzW, h16, hPW⟩ := hS
       obtain ⟨q, e16, hq⟩ := h16 trivial trivial
       rw [g16] at e16
       obtain rfl : b16 = q := by simpa using e16
       try simp only [l17, l19, if_false, Bool.false_eq_true] at hPW
       refine wp_app_pcs elB _ _ rfl 2 (v := .slice af k cf) (n := fs.length) rfl hPW rfl (news := [.bool false]) rfl ⟨rfl, fun ad e j u hj => by injection e with e; subst e; rw [addr_add, Nat.zero_add, (hq.cell j).1, ← hj]; simp, fun e => by cases e⟩ (by intro u hu; rw [List.mem_singleton.1 hu]; rfl) (by have := HFSL.out; omega) (by have := HPB.out; have := HBO.out; omega) ?_
       intro a' c' w' hp' hbw
       rw [HFSL.out] at hp' ⊢
       refine hK.out _ _ rfl ⟨a', c', rfl⟩ ?_
       refine ⟨hbW.trans hbw, Nat.le_trans hzW hbw.size, fun _ h => (by simp at h), ?_⟩
       simp only [l19, Bool.false_eq_true, ↓reduceIte, Nat.reduceEqDiff]
       have e1 : (fs ++ [false]).length = k + 1 := by rw [List.length_append, HFSL.out]; rfl
       have e2 : bvs (fs ++ [false]) = bvs fs ++ [.bool false] := by simp [bvs]
       unfold rpPs
       rw [e1, e2]
       exact hp'
      ·
       obtain ⟨h0, h1, h2, h3, h4, h5, h6, h7, h8, h9, h10, h11, h12, h13, h14, h15, h16, h17, -⟩ := hh
       have g0 : f 0 = _ := h0
       have g1 : f 1 = _ := h1
       have g2 : f 2 = _ := h2
       have g3 : f 3 = _ := h3
       have g4 : f 4 = _ := h4
       have g5 : f 5 = _ := h5
       have g6 : f 6 = _ := h6
       have g7 : f 7 = _ := h7
       have g8 : f 8 = _ := h8
       have g9 : f 9 = _ := h9
       have g10 : f 10 = _ := h10
       have g11 : f 11 = _ := h11
       have g12 : f 12 = _ := h12
       have g13 : f 13 = _ := h13
       have g14 : f 14 = _ := h14
       have g15 : f 15 = _ := h15
       obtain ⟨b16, (g16 : f 16 = _)⟩ := h16
       obtain ⟨a17, c17, (g17 : f 17 = _)⟩ := h17
       unfold stStep
       rw [if_pos (by simp [Region.wanted])]
       intro K Q hK
       simp only [puts, Za, Zb, Zc, Zd, Ze, g0, g1, g2, g3, g4, g5, g6, g7, g8, g9, g10, g11, g12, g13, g14, g15, g16, g17]
       go_step
       refine st_ex hK rfl rfl (by simp only [Act.put, setIfInBounds_toArray, set_cons_succ, set_cons_zero, Array.getD_eq_getD_getElem?, List.getElem?_toArray, List.getElem?_cons_succ, List.getElem?_cons_zero, Option.getD_some] <;> rfl) rfl (by rw [hSd] at hS ⊢; exact hS)
      ·
       obtain ⟨h18, h17, _, h0, h1, h2, h3, h4, h5, h6, h7, h8, h9, h10, h11, h12, h13, h14, h15, h16, _, -⟩ := hh
       have g18 : f 18 = _ := h18
       obtain ⟨a17, c17, (g17 : f 17 = _)⟩ := h17
       have g0 : f 0 = _ := h0
       have g1 : f 1 = _ := h1
       have g2 : f 2 = _ := h2
       have g3 : f 3 = _ := h3
       have g4 : f 4 = _ := h4
       have g5 : f 5 = _ := h5
       have g6 : f 6 = _ := h6
       have g7 : f 7 = _ := h7
       have g8 : f 8 = _ := h8
       have g9 : f 9 = _ := h9
       have g10 : f 10 = _ := h10
       have g11 : f 11 = _ := h11
       have g12 : f 12 = _ := h12
       have g13 : f 13 = _ := h13
       have g14 : f 14 = _ := h14
       have g15 : f 15 = _ := h15
       obtain ⟨b16, (g16 : f 16 = _)⟩ := h16
       have l17 : L 17 = true := hd 17 (by decide)
       unfold stStep
       rw [if_pos (by simp [Region.wanted])]
       intro K Q hK
       simp only [puts, Za, Zb, Zc, Zd, Ze, g18, g17, g0, g1, g2, g3, g4, g5, g6, g7, g8, g9, g10, g11, g12, g13, g14, g15, g16]
       rw [hSd] at hS hK
       have l19 : L 19 = false := hi
       try simp only [stage, l19, l17, if_true, if_false, Bool.false_eq_true] at hS
       obtain ⟨hbW, hzW, -, hPW⟩ := hS
       have l17' : L 17 = true := hd 17 (by decide)
       simp only [l17', l19, if_false, if_true, Bool.false_eq_true, g17] at hPW
       have y1 := ((hPW.blk 0 rfl).2.cell 2)
       have y2 : W.cell? ⟨bo, 2, none⟩ = some (.slice af k cf) := y1.1
       have y3 := y1.2
       go_step
       refine hK.out _ _ rfl trivial ?_
       refine ⟨hbW.setCell (by have := HBO.out; show _ ≤ bo; omega) _, by rw [World.size_setCell]; exact hzW, fun _ h => (by simp [l17'] at h), ?_⟩
       simp only [l17', ↓reduceIte, Nat.reduceEqDiff, g17]
       exact hPW.blkStore 0 rfl 2 _
     case qrest =>
      intro L f WA hL hh hS
      rw [hSd] at hS
      clear hSd
      have l16 : L 16 = true := hL 16 (by decide)
      have l17 : L 17 = true := hL 17 (by decide)
      have l19 : L 19 = true := hL 19 (by decide)
      simp only [stage, l16, l17, l19, if_true] at hS
      clear hL l16 l17 l19
      obtain ⟨h0, h1, h2, h3, h4, h5, h6, h7, h8, h9, h10, h11, h12, h13, h14, h15, h16, h17, h18, -⟩ := hh
      have g0 : f 0 = _ := h0
      have g1 : f 1 = _ := h1
      have g2 : f 2 = _ := h2
      have g3 : f 3 = _ := h3
      have g4 : f 4 = _ := h4
      have g5 : f 5 = _ := h5
      have g6 : f 6 = _ := h6
      have g7 : f 7 = _ := h7
      have g8 : f 8 = _ := h8
      have g9 : f 9 = _ := h9
      have g10 : f 10 = _ := h10
      have g11 : f 11 = _ := h11
      have g12 : f 12 = _ := h12
      have g13 : f 13 = _ := h13
      have g14 : f 14 = _ := h14
      have g15 : f 15 = _ := h15
      obtain ⟨b16, (g16 : f 16 = _)⟩ := h16
      obtain ⟨a17, c17, (g17 : f 17 = _)⟩ := h17
      have g18 : f 18 = _ := h18
      simp only [puts, Za, Zb, Zc, Zd, Ze, g0, g1, g2, g3, g4, g5, g6, g7, g8, g9, g10, g11, g12, g13, g14, g15, g16, g17, g18]
      clear h0 h1 h2 h3 h4 h5 h6 h7 h8 h9 h10 h11 h12 h13 h14 h15 h18 g0 g1 g2 g3 g4 g5 g6 g7 g8 g9 g10 g11 g12 g13 g14 g15 g18
      simp only [g17] at hS
      obtain ⟨hbD, hzD, -, hPD⟩ := hS
      have HX : Hid (Pcs WA (w.heap.size + 3) (rpPs bo (BQ k) (fs ++ [false]) (.slice (some ⟨gq, 0, none⟩) (BQ k).q.length cq) (.slice a17 (k + 1) c17) (.slice a17 (k + 1) c17) (.slice va (BQ k).a.length ca) (.slice va (BQ k).a.length ca) ++ [.blk pb #[.int .i64 (A : Int), .int .i64 (Y : Int), .slice none 0 0]]) ∧ Below (w.heap.size + 3) W3 WA ∧ pb + 1 ≤ WA.heap.size) := Lib.hid ⟨hPD, hbD, hzD⟩
      clear hbD hzD hPD
      go_wp2_with (fail)
      go_meet
      case rel => exact ⟨a17, c17, HX.out⟩
   case rest =>
    obtain ⟨a7, c7, hP8, hB8, hz8⟩ := hcut
    obtain ⟨⟨c1, c2, c3, c4⟩, ⟨e1, e2, e3, e4⟩, hd8, he8, -, -⟩ := HO.out wc hB8
    have z0 : wc.cell? ⟨pb, 0, none⟩ = some (.int .i64 (A : Int)) := ((hP8.blk 4 rfl).2.cell 0).1
    have HP8 := Lib.hid hP8
    have HB8 := Lib.hid hB8
    have HS8 := Lib.hid hz8
    clear hP8 hB8 he8 hz8
    go_wp2_with (fail)
    refine (refOuts_own (w := wc) (A : Int) hd8 HVA.out.2.2.2.1).mono ?_
    rintro e w9 ⟨⟨ao, co, rfl, hO9⟩, hb9⟩
    have HP9 := Lib.hid (HP8.out.add (.row 66 3 (.slice ao (outsD a.arcs (A : Int)).length co) (outsD a.arcs (A : Int)).length (tvs (outsD a.arcs (A : Int)))) (below_grows hb9 none) (hO9.from_mono (by have := HBO.out; have := HPB.out; have := HS8.out; omega)) (fun q e => by have := (hO9.lt q e).1; omega))
    have HB9 : Hid (Below (w.heap.size + 3) W3 w9) := Lib.hid (HB8.out.trans (hb9.mono (by have := HBO.out; have := HPB.out; have := HS8.out; omega)))
    have HZ9 : Hid (pb + 1 ≤ w9.heap.size) := Lib.hid (by have := hb9.size; have := HS8.out; omega)
    have HOA : Hid (∀ j, j < (outsD a.arcs (A : Int)).length → ∃ l T : Nat, g3 (outsD a.arcs (A : Int)) j = ⟨A, l, T⟩ ∧ (T : Int) < a.n ∧ l ≤ 10000) := Lib.hid (fun j hj => by
     obtain ⟨l, T, h1, h2⟩ := outs_arc HVA.out hj
     refine ⟨l, T, h1, h2, ?_⟩
     have := (HVA.out.arc (outsD_mem.1 (g3_mem _ j hj)).1).2.2
     rw [h1] at this
     simp only at this
     omega)
    have hol : (outsD a.arcs (A : Int)).length ≤ 20000 := Nat.le_trans (List.length_filter_le _ _) HVA.out.2.2.2.1
    have holl : (outsD a.arcs (A : Int)).length ≤ a.arcs.length := List.length_filter_le _ _
    have HOLL := Lib.hid holl
    have HST1 : Hid (BQ (k + 1) = bqs k (BQ k) (kp b (Y : Int) (outsD a.arcs (A : Int)))) := Lib.hid (by rw [HST.out k HLT.out, HPQ.out])
    obtain ⟨OE, hOE⟩ : ∃ OE, outsD a.arcs (A : Int) = OE := ⟨_, rfl⟩
    rw [hOE] at HP9 HOA HST1 HOLL hol ⊢
    obtain ⟨IN, hIN⟩ : ∃ IN : Nat → Bq P2, IN = fun j => bqs k (BQ k) (kp b (Y : Int) (OE.take j)) := ⟨_, rfl⟩
    have HI0 : Hid (IN 0 = BQ k) := Lib.hid (by rw [hIN]; rfl)
    have HIE : Hid (IN OE.length = BQ (k + 1)) := Lib.hid (by rw [hIN, HST1.out]; show bqs k (BQ k) (kp b (Y : Int) (OE.take OE.length)) = _; rw [List.take_length])
    have HIS : Hid (∀ j l T : Nat, j < OE.length → g3 OE j = ⟨A, l, T⟩ → IN (j + 1) = (match nxtD b.arcs Y l with | some z => bq1 k (IN j) ((l : Int), ⟨(T : Int), z.t⟩) | none => IN j)) := Lib.hid (fun j l T hj hg => by
     rw [hIN]
     show bqs k (BQ k) (kp b (Y : Int) (OE.take (j + 1))) = _
     rw [kp_take _ _ _ hj, hg]
     cases nxtD b.arcs Y l with
     | none => simp
     | some z => simp [bqs_snoc])
    have HIP : Hid (∀ j, (BQ k).q <+: (IN j).q) := Lib.hid (fun j => by rw [hIN]; exact bqs_pre _ _ _)
    have HIA : Hid (∀ j, (IN j).a.length ≤ (BQ k).a.length + a.arcs.length) := Lib.hid (fun j => by
     rw [hIN]
     show (bqs k (BQ k) (kp b (Y : Int) (OE.take j))).a.length ≤ _
     rw [bqs_alen]
     have h1 := kp_len b (Y : Int) (OE.take j)
     have h2 : (OE.take j).length ≤ OE.length := by rw [List.length_take]; omega
     have h3 := HOLL.out
     omega)
    have HILE : Hid (∀ j, j ≤ OE.length → (IN j).q.length ≤ M) := Lib.hid (fun j hj => by
     refine Nat.le_trans ?_ (HLEN.out (k + 1))
     rw [HST1.out, hIN, kp_split b (Y : Int) OE j]
     exact bqs_sub _ _ _ _)
    have HAK : Hid ((BQ k).a.length + a.arcs.length ≤ 20000) := Lib.hid (by
     have h1 := HAL.out k
     have h2 : k + 1 ≤ M := by have := HLT.out; omega
     have h3 := Nat.mul_le_mul_right a.arcs.length h2
     rw [Nat.succ_mul] at h3
     have h4 := HM.out
     omega)
    obtain ⟨OL, hOL⟩ : ∃ OL, OE.length = OL := ⟨_, rfl⟩
    have HOL := Lib.hid hOL
    rw [hOL] at HP9 HOA HIE HIS HILE hol HOLL ⊢
    rw [← HI0.out] at HP9 ⊢
    clear hIN hOL hOE hO9 hb9 hd8 HB8 HP8 HS8 z0 c1 c2 c3 c4 e1 e2 e3 e4 holl
    go_wp2_with (fail)
    go_loopw [6, 11] (fun vq c W => ∃ (j : Nat) (aq : Option Addr) (cq : Nat) (va : Option Addr) (ca : Nat), j ≤ OL ∧ c = .int .i64 (j : Int) ∧ vq = .slice aq (IN j).q.length cq ∧ Pcs W (w.heap.size + 3) (rpPs bo (IN j) (fs ++ [FB]) (.slice aq (IN j).q.length cq) (.slice a7 (k + 1) c7) (.slice a7 (k + 1) c7) (.slice va (IN j).a.length ca) (.slice va (IN j).a.length ca) ++ [.blk pb #[.int .i64 (A : Int), .int .i64 (Y : Int), .slice none 0 0], .row 66 3 (.slice ao OL co) OL (tvs OE)]) ∧ Below (w.heap.size + 3) W3 W ∧ pb + 1 ≤ W.heap.size) (fun _ c _ => OL - (intOf c).toNat)
    case atStart => exact ⟨0, some ⟨gq, 0, none⟩, cq, va, ca, Nat.zero_le _, rfl, rfl, HP9.out, HB9.out, HZ9.out⟩
    case round =>
     clear HP9 HB9 HZ9
     obtain ⟨j, aq, cq, va, ca, hj, rfl, rfl, hP, hb, hz⟩ := hrel
     have hvM := HILE.out j hj
     obtain ⟨⟨c1, c2, c3, c4⟩, ⟨e1, e2, e3, e4⟩, hdr, her, -, -⟩ := HO.out wr hb
     rcases Nat.lt_or_ge j OL with hjl | hjge
     ·have t2 : decide (j < OL) = true := decide_eq_true hjl
      obtain ⟨xb, rfl, hxb, -⟩ := owns_addr (hP.row 5 rfl) (by omega)
      obtain ⟨l, T, hx, hT, hl⟩ := HOA.out j hjl
      obtain ⟨y1, y2, y3⟩ := (IsArcs.of_owns (hP.row 5 rfl)).1.get j hjl
      rw [hx] at y1 y2 y3
      simp only [Nat.zero_add] at y1 y2 y3
      have z1 : wr.cell? ⟨pb, 1, none⟩ = some (.int .i64 (Y : Int)) := ((hP.blk 4 rfl).2.cell 1).1
      have HX := Lib.hid hx
      have HJ := Lib.hid (HIS.out j l T hjl hx)
      have HP := Lib.hid hP
      have HB := Lib.hid hb
      have HJL := Lib.hid hjl
      have HER := Lib.hid her
      obtain ⟨NX, hNX⟩ : ∃ x, nxI b.arcs (Y : Int) (l : Int) = x := ⟨_, rfl⟩
      have HNX := Lib.hid hNX
      clear hP hb hx hdr her hNX y1 c1 c2 c3 c4
      go_upto_region 14 with (fail)
      refine wp_region_grow mixed (by kernel_rfl) [[], [], [(1, 70)], [], [], [(3, 72), (4, 73)], [(5, 74)], [(6, 75)], [(0, 69), (2, 71), (7, 76)], [(8, 77), (8, 77), (0, 69), (1, 70), (2, 71), (3, 72), (4, 73), (5, 74), (6, 75), (7, 76), (8, 77)]] [(0, 69), (1, 70), (2, 71), (3, 72), (4, 73), (5, 74), (6, 75), (7, 76), (8, 77), (9, 12)] rfl rfl [Ex ?e0, Ex ?e1, Ex ?e2, Ex ?e3, Ex ?e4, Ex ?e5, Ex ?e6, Ex ?e7, Ex (.int .i64 NX), Ex ?e9] ⟨stays_ex _, stays_ex _, stays_ex _, stays_ex _, stays_ex _, stays_ex _, stays_ex _, stays_ex _, stays_ex _, stays_ex _, trivial⟩ ?steps ?rest
      case steps =>
       refine ⟨fun f W hC hh => ?_, fun f W hC hh => ?_, fun f W hC hh => ?_, fun f W hC hh => ?_, fun f W hC hh => ?_, fun f W hC hh => ?_, fun f W hC hh => ?_, fun f W hC hh => ?_, fun f W hC hh => ?_, fun f W hC hh => ?_, trivial⟩
       ·
        refine tab_plain fun K Q hK => ?_
        simp only [puts, foldr_nil]
        have m1 := (hC.cell (p := ⟨w.heap.size + 1, 0, none⟩) (lt_of_cell e1)).trans e1
        have m2 := (hC.cell (p := ⟨w.heap.size + 1, 1, none⟩) (lt_of_cell e2)).trans e2
        have m3 := (hC.cell (p := ⟨w.heap.size + 1, 2, none⟩) (lt_of_cell e3)).trans e3
        have m4 := (hC.cell (p := ⟨w.heap.size + 1, 3, none⟩) (lt_of_cell e4)).trans e4
        go_step
        exact fam_e hK rfl rfl (Below.refl _ _) hC
       ·
        refine tab_plain fun K Q hK => ?_
        simp only [puts, foldr_nil]
        go_step
        exact fam_e hK rfl rfl (Below.refl _ _) hC
       ·
        obtain ⟨h1, -⟩ := hh
        have g1 : f 1 = _ := h1
        refine tab_plain fun K Q hK => ?_
        simp only [puts, Za, Zb, Zc, Zd, Ze, g1]
        have mz := (hC.cell (p := ⟨pb, 1, none⟩) (lt_of_cell z1)).trans z1
        go_step
        exact fam_e hK rfl rfl (Below.refl _ _) hC
       ·
        refine tab_plain fun K Q hK => ?_
        simp only [puts, foldr_nil]
        go_step
        exact fam_e hK rfl rfl (Below.refl _ _) hC
       ·
        refine tab_plain fun K Q hK => ?_
        simp only [puts, foldr_nil]
        go_step
        exact fam_e hK rfl rfl (Below.refl _ _) hC
       ·
        obtain ⟨h3, h4, -⟩ := hh
        have g3 : f 3 = _ := h3
        have g4 : f 4 = _ := h4
        refine tab_plain fun K Q hK => ?_
        simp only [puts, Za, Zb, Zc, Zd, Ze, g3, g4]
        go_step
        exact fam_e hK rfl rfl (Below.refl _ _) hC
       ·
        obtain ⟨h5, -⟩ := hh
        have g5 : f 5 = _ := h5
        refine tab_plain fun K Q hK => ?_
        simp only [puts, Za, Zb, Zc, Zd, Ze, g5]
        go_step
        exact fam_e hK rfl rfl (Below.refl _ _) hC
       ·
        obtain ⟨h6, -⟩ := hh
        have g6 : f 6 = _ := h6
        refine tab_plain fun K Q hK => ?_
        simp only [puts, Za, Zb, Zc, Zd, Ze, g6]
        have mx := (hC.cell (p := ⟨xb, j * 3 + 1, none⟩) (lt_of_cell y2)).trans y2
        go_step
        exact fam_e hK rfl rfl (Below.refl _ _) hC
       ·
        obtain ⟨h0, h2, h7, -⟩ := hh
        have g0 : f 0 = _ := h0
        have g2 : f 2 = _ := h2
        have g7 : f 7 = _ := h7
        refine tab_plain fun K Q hK => ?_
        simp only [puts, Za, Zb, Zc, Zd, Ze, g0, g2, g7]
        go_step
        go_at_call 54
        have hnx := refNext_any (Y : Int) (l : Int) (HER.out.later hC) HVB.out.2.2.2.1
        rw [HNX.out] at hnx
        refine hnx.mono ?_
        rintro e w' ⟨rfl, hb⟩
        exact fam_fin hK rfl rfl hb (hC.trans (hb.mono hC.size))
       ·
        obtain ⟨h8, _, h0, h1, h2, h3, h4, h5, h6, h7, _, -⟩ := hh
        have g8 : f 8 = _ := h8
        have g0 : f 0 = _ := h0
        have g1 : f 1 = _ := h1
        have g2 : f 2 = _ := h2
        have g3 : f 3 = _ := h3
        have g4 : f 4 = _ := h4
        have g5 : f 5 = _ := h5
        have g6 : f 6 = _ := h6
        have g7 : f 7 = _ := h7
        refine tab_plain fun K Q hK => ?_
        simp only [puts, Za, Zb, Zc, Zd, Ze, g8, g0, g1, g2, g3, g4, g5, g6, g7]
        go_step
        exact fam_e hK rfl rfl (Below.refl _ _) hC
      case rest =>
       intro f WN hC hh
       obtain ⟨h0, h1, h2, h3, h4, h5, h6, h7, h8, h9, -⟩ := hh
       have g0 : f 0 = _ := h0
       have g1 : f 1 = _ := h1
       have g2 : f 2 = _ := h2
       have g3 : f 3 = _ := h3
       have g4 : f 4 = _ := h4
       have g5 : f 5 = _ := h5
       have g6 : f 6 = _ := h6
       have g7 : f 7 = _ := h7
       have g8 : f 8 = _ := h8
       have g9 : f 9 = _ := h9
       simp only [puts, Za, Zb, Zc, Zd, Ze, g0, g1, g2, g3, g4, g5, g6, g7, g8, g9]
       clear h0 h1 h2 h3 h4 h5 h6 h7 h8 h9 g0 g1 g2 g3 g4 g5 g6 g7 g8 g9
       have HPN := Lib.hid (HP.out.quiet (below_grows hC none))
       have HBN : Hid (Below (w.heap.size + 3) W3 WN) := Lib.hid (HB.out.trans (hC.mono (by have := HBO.out; have := HPB.out; omega)))
       have HZN : Hid (pb + 1 ≤ WN.heap.size) := Lib.hid (Nat.le_trans hz hC.size)
       have y3n := (hC.cell (p := ⟨xb, j * 3 + 2, none⟩) (lt_of_cell y3)).trans y3
       have y2n := (hC.cell (p := ⟨xb, j * 3 + 1, none⟩) (lt_of_cell y2)).trans y2
       clear hC hz e1 e2 e3 e4 z1 y2 y3
       cases hn : nxtD b.arcs (Y : Int) (l : Int) with
       | none =>
        have HN1 : Hid (NX = -1) := Lib.hid (by rw [← HNX.out]; unfold nxI; rw [hn])
        have HJ2 : Hid (IN (j + 1) = IN j) := Lib.hid (by rw [HJ.out, hn])
        clear hn HJ HNX
        obtain rfl := HN1.out
        go_wp2_with (fail)
        go_roundw
        case rel => exact ⟨j + 1, aq, cq, va, ca, HJL.out, by go_num, by rw [HJ2.out], by rw [HJ2.out]; exact HPN.out, HBN.out, HZN.out⟩
        case measure => simp [intOf]; omega
       | some z =>
        have hzt := (HVB.out.arc (nxtD_mem hn).1).1.2
        obtain ⟨Z, hZ⟩ := Int.eq_ofNat_of_zero_le hzt.1
        have HN1 : Hid (NX = (Z : Int)) := Lib.hid (by rw [← HNX.out, ← hZ]; unfold nxI; rw [hn])
        have HJ2 : Hid (IN (j + 1) = bq1 k (IN j) ((l : Int), ⟨(T : Int), (Z : Int)⟩)) := Lib.hid (by rw [HJ.out, hn]; simp only [hZ])
        clear hn HJ HNX hzt hZ
        obtain rfl := HN1.out
        have hql : 0 < (IN j).q.length := Nat.lt_of_lt_of_le (Nat.lt_of_le_of_lt (Nat.zero_le k) HLT.out) (HIP.out j).length_le
        obtain ⟨gj, rfl, hgj, -⟩ := owns_addr (HPN.out.row 1 rfl) hql
        have hfi := refFind_any (cap := cq) (w := WN) (g := gj) (q := (IN j).q) rfl (fun i hi => ⟨(own_trip (HPN.out.row 1 rfl) i hi).1, (own_trip (HPN.out.row 1 rfl) i hi).2.1⟩) ⟨(T : Int), (Z : Int)⟩ (by omega)
        simp only at hfi
        obtain ⟨FN, hFN⟩ : ∃ x, fndP (IN j).q ⟨(T : Int), (Z : Int)⟩ = x := ⟨_, rfl⟩
        rw [hFN] at hfi
        have HFN2 := Lib.hid hFN
        clear hFN hql
        go_wp2_with (fail)
        refine hfi.mono ?_
        rintro e w11 ⟨rfl, hb11⟩
        have HP11 := Lib.hid (HPN.out.quiet (below_grows hb11 none))
        have HB11 : Hid (Below (w.heap.size + 3) W3 w11) := Lib.hid (HBN.out.trans (hb11.mono (by have := HBO.out; have := HPB.out; have := HZN.out; omega)))
        have HZ11 : Hid (pb + 1 ≤ w11.heap.size) := Lib.hid (Nat.le_trans HZN.out hb11.size)
        have y3n2 := (hb11.cell (p := ⟨xb, j * 3 + 2, none⟩) (lt_of_cell y3n)).trans y3n
        clear hb11 hfi y2n y3n
        obtain ⟨QJ, hQJ⟩ : ∃ Q, (IN (j + 1)).q = Q := ⟨_, rfl⟩
        have HQJ := Lib.hid hQJ
        clear hQJ
        go_upto_if 89 with fail
        go_cut [6, 13] (fun v6 v13 wc => ∃ (aq : Option Addr) (cq : Nat), v6 = .slice aq QJ.length cq ∧ v13 = .int .i64 ((QJ.idxOf (⟨(T : Int), (Z : Int)⟩ : P2) : Nat) : Int) ∧ Pcs wc (w.heap.size + 3) (rpPs bo ⟨QJ, [], (IN j).a⟩ (fs ++ [FB]) (.slice aq QJ.length cq) (.slice a7 (k + 1) c7) (.slice a7 (k + 1) c7) (.slice va (IN j).a.length ca) (.slice va (IN j).a.length ca) ++ [.blk pb #[.int .i64 (A : Int), .int .i64 (Y : Int), .slice none 0 0], .row 66 3 (.slice (some ⟨xb, 0, none⟩) OL co) OL (tvs OE)]) ∧ Below (w.heap.size + 3) W3 wc ∧ pb + 1 ≤ wc.heap.size)
        case first =>
         by_cases hm : (⟨(T : Int), (Z : Int)⟩ : P2) ∈ (IN j).q
         ·have HQ2 : Hid (QJ = (IN j).q) := Lib.hid (by rw [← HQJ.out, HJ2.out]; exact (bq1_yes hm).1)
          have HFF : Hid (FN = (((IN j).q.idxOf (⟨(T : Int), (Z : Int)⟩ : P2) : Nat) : Int)) := Lib.hid (by rw [← HFN2.out]; unfold fndP; rw [if_pos hm])
          have hge0 : ¬ FN < 0 := by rw [HFF.out]; omega
          clear hm
          go_wp2_with (fail)
          go_meet
          case rel => exact ⟨some ⟨gj, 0, none⟩, cq, by rw [HQ2.out], by rw [HQ2.out, ← HFF.out], by rw [HQ2.out]; exact HP11.out, HB11.out, HZ11.out⟩
         ·have HQ2 : Hid (QJ = (IN j).q ++ [⟨(T : Int), (Z : Int)⟩]) := Lib.hid (by rw [← HQJ.out, HJ2.out]; exact (bq1_no hm).1)
          have HIX : Hid (QJ.idxOf (⟨(T : Int), (Z : Int)⟩ : P2) = (IN j).q.length) := Lib.hid (by rw [HQ2.out, List.idxOf_append, if_neg hm]; simp)
          have HFF : Hid (FN = -1) := Lib.hid (by rw [← HFN2.out]; unfold fndP; rw [if_neg hm])
          have hlt0 : FN < 0 := by rw [HFF.out]; decide
          have HP14 := Lib.hid (HP11.out.quiet (below_grows ((Below.refl _ _).alloc (Nat.le_refl _) (.cells #[.int .i64 (T : Int), .int .i64 (Z : Int), .slice none 0 0] 101)) none))
          have HB14 : Hid (Below (w.heap.size + 3) W3 (w11.alloc (.cells #[.int .i64 (T : Int), .int .i64 (Z : Int), .slice none 0 0] 101))) := Lib.hid (HB11.out.alloc (by have := HZ11.out; have := HPB.out; have := HBO.out; omega) _)
          have HZ14 : Hid (w.heap.size + 3 ≤ (w11.alloc (.cells #[.int .i64 (T : Int), .int .i64 (Z : Int), .slice none 0 0] 101)).heap.size ∧ pb + 1 ≤ (w11.alloc (.cells #[.int .i64 (T : Int), .int .i64 (Z : Int), .slice none 0 0] 101)).heap.size) := Lib.hid (by have := HZ11.out; have := HPB.out; have := HBO.out; constructor <;> (simp; omega))
          clear hm
          go_wp2_with (at_builtin; refine app_pcs elRP rfl _ _ rfl 1 rfl HP14.out rfl rfl (new_src w11 #[.int .i64 (T : Int), .int .i64 (Z : Int), .slice none 0 0] _ rfl) trip_one (by have := HN.out; omega) HZ14.out.1 ?_; intro a15 c15 w15 hp15 hb15)
          go_meet
          case rel =>
           refine ⟨a15, c15, by rw [HQ2.out, List.length_append]; rfl, by rw [HIX.out], ?_, HB14.out.trans hb15, Nat.le_trans HZ14.out.2 hb15.size⟩
           rw [HQ2.out]
           unfold rpPs
           simp only
           rw [rv3_append, List.length_append]
           exact hp15
        case rest =>
         obtain ⟨aq, cq, rfl, rfl, hPc, hBc, hzc⟩ := hcut
         obtain ⟨n1, hn1⟩ : ∃ n1, QJ.idxOf (⟨(T : Int), (Z : Int)⟩ : P2) = n1 := ⟨_, rfl⟩
         have HN2 := Lib.hid hn1
         have HPC := Lib.hid hPc
         have HBC := Lib.hid hBc
         have HZC := Lib.hid hzc
         rw [hn1]
         clear hPc hBc hzc hn1 y3n2
         have d7 : j < OL := HJL.out
         go_upto_region 20 with (fail)
         obtain ⟨S, hSd⟩ : ∃ S : (Nat → Bool) → (Nat → Value) → World → Prop, S = fun L f W => Below (w.heap.size + 3) W3 W ∧ pb + 1 ≤ W.heap.size ∧ (L 10 = true → L 11 = false → ∃ q, f 10 = .slice (some ⟨q, 0, none⟩) 1 1 ∧ BlkAt W q #[.int .i64 (k : Int), .int .i64 (l : Int), .int .i64 (n1 : Int)]) ∧ Pcs W (w.heap.size + 3) (rpPs bo ⟨QJ, [], if L 11 = true then (IN j).a ++ [⟨(k : Int), (l : Int), (n1 : Int)⟩] else (IN j).a⟩ (fs ++ [FB]) (.slice aq QJ.length cq) (.slice a7 (k + 1) c7) (.slice a7 (k + 1) c7) (if L 13 = true then f 11 else .slice va (IN j).a.length ca) (if L 11 = true then f 11 else .slice va (IN j).a.length ca) ++ [.blk pb #[.int .i64 (A : Int), .int .i64 (Y : Int), .slice none 0 0], .row 66 3 (.slice (some ⟨xb, 0, none⟩) OL co) OL (tvs OE)]) := ⟨_, rfl⟩
         refine wp_region_st mixed (by kernel_rfl) [[], [(0, 102)], [], [], [], [(3, 105), (4, 106)], [(5, 107)], [(6, 108)], [], [(2, 104), (7, 109), (8, 110)], [(9, 111)], [(1, 103), (10, 112)], [(0, 102), (1, 103), (2, 104), (3, 105), (4, 106), (5, 107), (6, 108), (7, 109), (8, 110), (9, 111), (10, 112), (11, 113)], [(12, 114), (11, 113), (11, 113), (0, 102), (1, 103), (2, 104), (3, 105), (4, 106), (5, 107), (6, 108), (7, 109), (8, 110), (9, 111), (10, 112), (11, 113)]] [(0, 102), (1, 103), (2, 104), (3, 105), (4, 106), (5, 107), (6, 108), (7, 109), (8, 110), (9, 111), (10, 112), (11, 113), (12, 114)] rfl rfl [EV ?ey0, EV ?ey1, EV ?ey2, EV ?ey3, EV ?ey4, EV ?ey5, EV ?ey6, EV ?ey7, EV ?ey8, EV ?ey9, fun v => ∃ b, v = .slice (some ⟨b, 0, none⟩) 1 1, fun v => ∃ a c, v = .slice a ((IN j).a.length + 1) c, EV ?ey12, fun _ => True] S ?ystart ?ysteps ?yrest
         case ystart =>
          intro f
          rw [hSd]
          exact ⟨HBC.out.drew, HZC.out, fun h => (by cases h), HPC.out.quiet (below_grows ((Below.refl _ _).drew) none)⟩
         case ysteps =>
          refine ⟨fun L f W hi hd hdn hh hS => ?_, fun L f W hi hd hdn hh hS => ?_, fun L f W hi hd hdn hh hS => ?_, fun L f W hi hd hdn hh hS => ?_, fun L f W hi hd hdn hh hS => ?_, fun L f W hi hd hdn hh hS => ?_, fun L f W hi hd hdn hh hS => ?_, fun L f W hi hd hdn hh hS => ?_, fun L f W hi hd hdn hh hS => ?_, fun L f W hi hd hdn hh hS => ?_, fun L f W hi hd hdn hh hS => ?_, fun L f W hi hd hdn hh hS => ?_, fun L f W hi hd hdn hh hS => ?_, fun L f W hi hd hdn hh hS => ?_, trivial⟩
          ·
           unfold stStep
           rw [if_pos (by simp [Region.wanted])]
           intro K Q hK
           simp only [puts, foldr_nil]
           go_step
           refine st_ex hK rfl rfl (by simp only [Act.put, setIfInBounds_toArray, set_cons_succ, set_cons_zero, Array.getD_eq_getD_getElem?, List.getElem?_toArray, List.getElem?_cons_succ, List.getElem?_cons_zero, Option.getD_some] <;> rfl) rfl (by rw [hSd] at hS ⊢; exact hS)
          ·
           obtain ⟨h0, -⟩ := hh
           have g0 : f 0 = _ := h0
           have l11 : L 11 = false := Bool.eq_false_iff.2 fun h => by have q := hdn 11 _ h rfl 1 (by decide); rw [show L 1 = false from hi] at q; cases q
           have l13 : L 13 = false := Bool.eq_false_iff.2 fun h => by have q := hdn 13 _ h rfl 11 (by decide); rw [show L 11 = false from l11] at q; cases q
           unfold stStep
           rw [if_pos (by simp [Region.wanted])]
           intro K Q hK
           simp only [puts, Za, Zb, Zc, Zd, Ze, g0]
           have hS' := hS
           rw [hSd] at hS'
           simp only [l11, l13, if_false, Bool.false_eq_true] at hS'
           have x1 : W.cell? ⟨bo, 3, none⟩ = some (.slice va (IN j).a.length ca) := ((hS'.2.2.2.blk 0 rfl).2.cell 3).1
           go_step
           refine st_ex hK rfl rfl (by simp only [Act.put, setIfInBounds_toArray, set_cons_succ, set_cons_zero, Array.getD_eq_getD_getElem?, List.getElem?_toArray, List.getElem?_cons_succ, List.getElem?_cons_zero, Option.getD_some] <;> rfl) rfl (by rw [hSd] at hS ⊢; exact hS)
          ·
           unfold stStep
           rw [if_pos (by simp [Region.wanted])]
           intro K Q hK
           simp only [puts, foldr_nil]
           go_step
           refine st_ex hK rfl rfl (by simp only [Act.put, setIfInBounds_toArray, set_cons_succ, set_cons_zero, Array.getD_eq_getD_getElem?, List.getElem?_toArray, List.getElem?_cons_succ, List.getElem?_cons_zero, Option.getD_some] <;> rfl) rfl (by rw [hSd] at hS ⊢; exact hS)
          ·
           unfold stStep
           rw [if_pos (by simp [Region.wanted])]
           intro K Q hK
           simp only [puts, foldr_nil]
           go_step
           refine st_ex hK rfl rfl (by simp only [Act.put, setIfInBounds_toArray, set_cons_succ, set_cons_zero, Array.getD_eq_getD_getElem?, List.getElem?_toArray, List.getElem?_cons_succ, List.getElem?_cons_zero, Option.getD_some] <;> rfl) rfl (by rw [hSd] at hS ⊢; exact hS)
          ·
           unfold stStep
           rw [if_pos (by simp [Region.wanted])]
           intro K Q hK
           simp only [puts, foldr_nil]
           go_step
           refine st_ex hK rfl rfl (by simp only [Act.put, setIfInBounds_toArray, set_cons_succ, set_cons_zero, Array.getD_eq_getD_getElem?, List.getElem?_toArray, List.getElem?_cons_succ, List.getElem?_cons_zero, Option.getD_some] <;> rfl) rfl (by rw [hSd] at hS ⊢; exact hS)
          ·
           obtain ⟨h3, h4, -⟩ := hh
           have g3 : f 3 = _ := h3
           have g4 : f 4 = _ := h4
           unfold stStep
           rw [if_pos (by simp [Region.wanted])]
           intro K Q hK
           simp only [puts, Za, Zb, Zc, Zd, Ze, g3, g4]
           go_step
           refine st_ex hK rfl rfl (by simp only [Act.put, setIfInBounds_toArray, set_cons_succ, set_cons_zero, Array.getD_eq_getD_getElem?, List.getElem?_toArray, List.getElem?_cons_succ, List.getElem?_cons_zero, Option.getD_some] <;> rfl) rfl (by rw [hSd] at hS ⊢; exact hS)
          ·
           obtain ⟨h5, -⟩ := hh
           have g5 : f 5 = _ := h5
           unfold stStep
           rw [if_pos (by simp [Region.wanted])]
           intro K Q hK
           simp only [puts, Za, Zb, Zc, Zd, Ze, g5]
           go_step
           refine st_ex hK rfl rfl (by simp only [Act.put, setIfInBounds_toArray, set_cons_succ, set_cons_zero, Array.getD_eq_getD_getElem?, List.getElem?_toArray, List.getElem?_cons_succ, List.getElem?_cons_zero, Option.getD_some] <;> rfl) rfl (by rw [hSd] at hS ⊢; exact hS)
          ·
           obtain ⟨h6, -⟩ := hh
           have g6 : f 6 = _ := h6
           unfold stStep
           rw [if_pos (by simp [Region.wanted])]
           intro K Q hK
           simp only [puts, Za, Zb, Zc, Zd, Ze, g6]
           have hS' := hS
           rw [hSd] at hS'
           have x7 := ((IsArcs.of_owns (hS'.2.2.2.row 5 rfl)).1.get j HJL.out).2.1
           rw [HX.out] at x7
           simp only [Nat.zero_add] at x7
           go_step
           refine st_ex hK rfl rfl (by simp only [Act.put, setIfInBounds_toArray, set_cons_succ, set_cons_zero, Array.getD_eq_getD_getElem?, List.getElem?_toArray, List.getElem?_cons_succ, List.getElem?_cons_zero, Option.getD_some] <;> rfl) rfl (by rw [hSd] at hS ⊢; exact hS)
          ·
           unfold stStep
           rw [if_pos (by simp [Region.wanted])]
           intro K Q hK
           simp only [puts, foldr_nil]
           go_step
           refine st_ex hK rfl rfl (by simp only [Act.put, setIfInBounds_toArray, set_cons_succ, set_cons_zero, Array.getD_eq_getD_getElem?, List.getElem?_toArray, List.getElem?_cons_succ, List.getElem?_cons_zero, Option.getD_some] <;> rfl) rfl (by rw [hSd] at hS ⊢; exact hS)
          ·
           obtain ⟨h2, h7, h8, -⟩ := hh
           have g2 : f 2 = _ := h2
           have g7 : f 7 = _ := h7
           have g8 : f 8 = _ := h8
           unfold stStep
           rw [if_pos (by simp [Region.wanted])]
           intro K Q hK
           simp only [puts, Za, Zb, Zc, Zd, Ze, g2, g7, g8]
           go_step
           refine st_ex hK rfl rfl (by simp only [Act.put, setIfInBounds_toArray, set_cons_succ, set_cons_zero, Array.getD_eq_getD_getElem?, List.getElem?_toArray, List.getElem?_cons_succ, List.getElem?_cons_zero, Option.getD_some] <;> rfl) rfl (by rw [hSd] at hS ⊢; exact hS)
          ·
           obtain ⟨h9, -⟩ := hh
           have g9 : f 9 = _ := h9
           have l11 : L 11 = false := Bool.eq_false_iff.2 fun h => by have q := hdn 11 _ h rfl 10 (by decide); rw [show L 10 = false from hi] at q; cases q
           have l13 : L 13 = false := Bool.eq_false_iff.2 fun h => by have q := hdn 13 _ h rfl 11 (by decide); rw [show L 11 = false from l11] at q; cases q
           unfold stStep
           rw [if_pos (by simp [Region.wanted])]
           intro K Q hK
           simp only [puts, Za, Zb, Zc, Zd, Ze, g9]
           rw [hSd] at hS hK
           have l10 : L 10 = false := hi
           try simp only [stage, l11, l13, l10, if_true, if_false, Bool.false_eq_true] at hS
           obtain ⟨hbW, hzW, -, hPW⟩ := hS
           have hal : Below W.heap.size W (W.alloc (.cells #[.int .i64 (k : Int), .int .i64 (l : Int), .int .i64 (n1 : Int)] 66)) := (Below.refl _ _).alloc (Nat.le_refl _) _
           go_step
           refine hK.out _ _ rfl ⟨_, rfl⟩ ?_
           refine ⟨hbW.alloc (by have := HBO.out; have := HPB.out; omega) _, by simp; omega, fun _ _ => ⟨_, rfl, BlkAt.new W _ _⟩, ?_⟩
           simp only [l11, l13, Bool.false_eq_true, ↓reduceIte, Nat.reduceEqDiff] at hPW ⊢
           exact hPW.quiet (below_grows hal none)
          ·
           obtain ⟨h1, h10, -⟩ := hh
           have g1 : f 1 = _ := h1
           obtain ⟨b10, (g10 : f 10 = _)⟩ := h10
           have l10 : L 10 = true := hd 10 (by decide)
           have l13 : L 13 = false := Bool.eq_false_iff.2 fun h => by have q := hdn 13 _ h rfl 11 (by decide); rw [show L 11 = false from hi] at q; cases q
           unfold stStep
           rw [if_pos (by simp [Region.wanted])]
           intro K Q hK
           simp only [puts, Za, Zb, Zc, Zd, Ze, g1, g10]
           rw [hSd] at hS hK
           have l11 : L 11 = false := hi
           try simp only [stage, l13, l11, l10, if_true, if_false, Bool.false_eq_true] at hS
           obtain ⟨hbW, hzW, h10, hPW⟩ := hS
           obtain ⟨q, e10, hq⟩ := h10 trivial trivial
           rw [g10] at e10
           obtain rfl : b10 = q := by simpa using e10
           try simp only [l11, l13, if_false, Bool.false_eq_true] at hPW
           refine wp_app_pcs elRC _ _ rfl 3 (v := .slice va (IN j).a.length ca) (n := (IN j).a.length) rfl hPW rfl (news := [.int .i64 (k : Int), .int .i64 (l : Int), .int .i64 (n1 : Int)]) rfl ⟨rfl, fun ad e i u hi => by injection e with e; subst e; rw [addr_add, Nat.zero_add, (hq.cell i).1, ← hi]; simp, fun e => by cases e⟩ (by intro u hu; simp only [List.mem_cons, List.not_mem_nil, or_false] at hu; rcases hu with rfl | rfl | rfl <;> rfl) (by have := HIA.out j; have := HAK.out; omega) (by have := HBO.out; have := HPB.out; omega) ?_
           intro a' c' w' hp' hbw
           refine hK.out _ _ rfl ⟨a', c', rfl⟩ ?_
           refine ⟨hbW.trans hbw, Nat.le_trans hzW hbw.size, fun _ h => (by simp at h), ?_⟩
           simp only [l13, Bool.false_eq_true, ↓reduceIte, Nat.reduceEqDiff]
           unfold rpPs
           simp only
           have e9 : ((IN j).a ++ [(⟨(k : Int), (l : Int), (n1 : Int)⟩ : A3)]).length = (IN j).a.length + 1 := by rw [List.length_append]; rfl
           rw [tvs_append, e9]
           exact hp'
          ·
           obtain ⟨h0, h1, h2, h3, h4, h5, h6, h7, h8, h9, h10, h11, -⟩ := hh
           have g0 : f 0 = _ := h0
           have g1 : f 1 = _ := h1
           have g2 : f 2 = _ := h2
           have g3 : f 3 = _ := h3
           have g4 : f 4 = _ := h4
           have g5 : f 5 = _ := h5
           have g6 : f 6 = _ := h6
           have g7 : f 7 = _ := h7
           have g8 : f 8 = _ := h8
           have g9 : f 9 = _ := h9
           obtain ⟨b10, (g10 : f 10 = _)⟩ := h10
           obtain ⟨a11, c11, (g11 : f 11 = _)⟩ := h11
           unfold stStep
           rw [if_pos (by simp [Region.wanted])]
           intro K Q hK
           simp only [puts, Za, Zb, Zc, Zd, Ze, g0, g1, g2, g3, g4, g5, g6, g7, g8, g9, g10, g11]
           go_step
           refine st_ex hK rfl rfl (by simp only [Act.put, setIfInBounds_toArray, set_cons_succ, set_cons_zero, Array.getD_eq_getD_getElem?, List.getElem?_toArray, List.getElem?_cons_succ, List.getElem?_cons_zero, Option.getD_some] <;> rfl) rfl (by rw [hSd] at hS ⊢; exact hS)
          ·
           obtain ⟨h12, h11, _, h0, h1, h2, h3, h4, h5, h6, h7, h8, h9, h10, _, -⟩ := hh
           have g12 : f 12 = _ := h12
           obtain ⟨a11, c11, (g11 : f 11 = _)⟩ := h11
           have g0 : f 0 = _ := h0
           have g1 : f 1 = _ := h1
           have g2 : f 2 = _ := h2
           have g3 : f 3 = _ := h3
           have g4 : f 4 = _ := h4
           have g5 : f 5 = _ := h5
           have g6 : f 6 = _ := h6
           have g7 : f 7 = _ := h7
           have g8 : f 8 = _ := h8
           have g9 : f 9 = _ := h9
           obtain ⟨b10, (g10 : f 10 = _)⟩ := h10
           have l11 : L 11 = true := hd 11 (by decide)
           unfold stStep
           rw [if_pos (by simp [Region.wanted])]
           intro K Q hK
           simp only [puts, Za, Zb, Zc, Zd, Ze, g12, g11, g0, g1, g2, g3, g4, g5, g6, g7, g8, g9, g10]
           rw [hSd] at hS hK
           have l13 : L 13 = false := hi
           try simp only [stage, l13, l11, if_true, if_false, Bool.false_eq_true] at hS
           obtain ⟨hbW, hzW, -, hPW⟩ := hS
           have l11' : L 11 = true := hd 11 (by decide)
           simp only [l11', l13, if_false, if_true, Bool.false_eq_true, g11] at hPW
           have y1 := ((hPW.blk 0 rfl).2.cell 3)
           have y2 : W.cell? ⟨bo, 3, none⟩ = some (.slice va (IN j).a.length ca) := y1.1
           have y3 := y1.2
           go_step
           refine hK.out _ _ rfl trivial ?_
           refine ⟨hbW.setCell (by have := HBO.out; show _ ≤ bo; omega) _, by rw [World.size_setCell]; exact hzW, fun _ h => (by simp [l11'] at h), ?_⟩
           simp only [l11', ↓reduceIte, Nat.reduceEqDiff, g11]
           exact hPW.blkStore 0 rfl 3 _
         case yrest =>
          intro L f WY hL hh hS
          rw [hSd] at hS
          clear hSd
          have l10 : L 10 = true := hL 10 (by decide)
          have l11 : L 11 = true := hL 11 (by decide)
          have l13 : L 13 = true := hL 13 (by decide)
          simp only [stage, l10, l11, l13, if_true] at hS
          clear hL l10 l11 l13
          obtain ⟨h0, h1, h2, h3, h4, h5, h6, h7, h8, h9, h10, h11, h12, -⟩ := hh
          have g0 : f 0 = _ := h0
          have g1 : f 1 = _ := h1
          have g2 : f 2 = _ := h2
          have g3 : f 3 = _ := h3
          have g4 : f 4 = _ := h4
          have g5 : f 5 = _ := h5
          have g6 : f 6 = _ := h6
          have g7 : f 7 = _ := h7
          have g8 : f 8 = _ := h8
          have g9 : f 9 = _ := h9
          obtain ⟨b10, (g10 : f 10 = _)⟩ := h10
          obtain ⟨a11, c11, (g11 : f 11 = _)⟩ := h11
          have g12 : f 12 = _ := h12
          simp only [puts, Za, Zb, Zc, Zd, Ze, g0, g1, g2, g3, g4, g5, g6, g7, g8, g9, g10, g11, g12]
          clear h0 h1 h2 h3 h4 h5 h6 h7 h8 h9 h12 g0 g1 g2 g3 g4 g5 g6 g7 g8 g9 g12
          simp only [g11] at hS
          obtain ⟨hbY, hzY, -, hPY⟩ := hS
          have HJA : Hid ((IN (j + 1)).a = (IN j).a ++ [⟨(k : Int), (l : Int), (n1 : Int)⟩]) := Lib.hid (by
           rw [HJ2.out, bqG_one, ← HJ2.out, HQJ.out, HN2.out])
          have HPY := Lib.hid hPY
          have HBY := Lib.hid hbY
          have HZY := Lib.hid hzY
          clear hPY hbY hzY
          go_wp2_with (fail)
          go_roundw
          case rel =>
           refine ⟨j + 1, aq, cq, a11, c11, HJL.out, by go_num, by rw [HQJ.out], ?_, HBY.out, HZY.out⟩
           have h1 := HPY.out
           unfold rpPs at h1 ⊢
           rw [HQJ.out, HJA.out]
           simp only at h1
           have e9 : ((IN j).a ++ [(⟨(k : Int), (l : Int), (n1 : Int)⟩ : A3)]).length = (IN j).a.length + 1 := by rw [List.length_append]; rfl
           rw [e9] at h1 ⊢
           exact h1
          case measure => simp [intOf]; omega
     ·obtain rfl : j = OL := by omega
      have t2 : decide (j < j) = false := decide_eq_false (by omega)
      have hkv : k + 1 ≤ (BQ (k + 1)).q.length := by
       rw [← HIE.out]
       have h1 := (HIP.out j).length_le
       have h2 := HLT.out
       omega
      have HKV := Lib.hid hkv
      rw [HIE.out] at hP ⊢
      have HP := Lib.hid (Pcs.left (ps := rpPs bo (BQ (k + 1)) (fs ++ [FB]) (.slice aq (BQ (k + 1)).q.length cq) (.slice a7 (k + 1) c7) (.slice a7 (k + 1) c7) (.slice va (BQ (k + 1)).a.length ca) (.slice va (BQ (k + 1)).a.length ca)) (qs := [.blk pb #[.int .i64 (A : Int), .int .i64 (Y : Int), .slice none 0 0], .row 66 3 (.slice ao j co) j (tvs OE)]) hP)
      have hz0 : wr.cell? ⟨bo, 3, none⟩ = some (.slice va (BQ (k + 1)).a.length ca) := ((hP.blk 0 rfl).2.cell 3).1
      have hal : (BQ (k + 1)).a.length ≤ 20000 := by rw [← HIE.out]; have := HIA.out j; have := HAK.out; omega
      have hql : (BQ (k + 1)).q.length ≤ 1000 := by have := HLEN.out (k + 1); omega
      have d1 : decide (1000 < (BQ (k + 1)).q.length) = false := decide_eq_false (by omega)
      have d2 : decide (20000 < (BQ (k + 1)).a.length) = false := decide_eq_false (by omega)
      have d3 : decide ((1000 : Int) < ((BQ (k + 1)).q.length : Int)) = false := decide_eq_false (by omega)
      have d4 : decide ((20000 : Int) < ((BQ (k + 1)).a.length : Int)) = false := decide_eq_false (by omega)
      have HFS2 : Hid (((BQ (k + 1)).q.take (k + 1)).map fn = fs ++ [FB]) := Lib.hid (by
       obtain ⟨t, ht⟩ := HIP.out j
       rw [HIE.out] at ht
       have h2 := HLT.out
       rw [← ht, List.take_append_of_le_length (by omega), List.take_succ_eq_append_getElem h2, List.map_append, HFS.out]
       congr 1
       have h3 := HPQ.out
       rw [gp2_eq _ _ h2] at h3
       rw [h3, HFN.out, ← HFB.out]
       rfl)
      have hk1 : k < M := by have := HLT.out; have := HLEN.out k; omega
      have HB := Lib.hid hb
      clear hkv hP hb hdr her hjge hj hal hql
      go_wp2_with (fail)
      go_roundw
      case rel => exact ⟨k + 1, aq, cq, a7, c7, va, ca, HKV.out, by go_num, rfl, by rw [HFS2.out]; exact HP.out, HB.out, by have := HPB.out; omega⟩
      case measure => simp [intOf]; omega
  ·have hke : (BQ k).q.length = k := by omega
   have t1 : decide (k < (BQ k).q.length) = false := decide_eq_false (by omega)
   have HR := Lib.hid (HFI.out k (by omega))
   have HFT : Hid (((BQ k).q.take k).map fn = (BQ k).q.map fn) := Lib.hid (by rw [List.take_of_length_le (by omega)])
   obtain ⟨L, hL⟩ : ∃ L, (BQ k).q.length = L := ⟨_, rfl⟩
   have hB1 := (hP.blk 0 rfl).2
   have b0 := hB1.cell 0
   have hP5 := hP.blkStore 0 rfl 0 (.int .i64 (L : Int))
   obtain ⟨W5, hW5⟩ : ∃ W5, wr.setCell ⟨bo, 0, none⟩ (.int .i64 (L : Int)) = W5 := ⟨_, rfl⟩
   have hb5 : Below (w.heap.size + 3) W3 W5 := by rw [← hW5]; exact hb.setCell (by have := HBO.out; show _ ≤ bo; omega) _
   rw [hW5] at hP5
   have hB5 := (hP5.blk 0 rfl).2
   have f0 : W5.cell? ⟨bo, 0, none⟩ = some (.int .i64 (L : Int)) := (hB5.cell 0).1
   have f1 : W5.cell? ⟨bo, 1, none⟩ = some (.int .i64 0) := (hB5.cell 1).1
   have f2 : W5.cell? ⟨bo, 2, none⟩ = some (.slice af k cf) := (hB5.cell 2).1
   have f3 : W5.cell? ⟨bo, 3, none⟩ = some (.slice va (BQ k).a.length ca) := (hB5.cell 3).1
   have b01 : wr.cell? ⟨bo, 0, none⟩ = some (.int .i64 0) := b0.1
   have b02 := b0.2
   obtain ⟨-, -, -, -, hbW5, hZ5⟩ := HO.out W5 hb5
   have hZ6 := setRow_heap W5 (w.heap.size + 2) _ #[.int .i64 (L : Int), .int .i64 0, .slice af k cf, .slice va (BQ k).a.length ca] _ _ hZ5
   have hlen5 : (((BQ k).q.take k).map fn).length = k := by rw [List.length_map, List.length_take]; omega
   have hbs := below_setRow (g := w.heap.size + 2) (Below.refl (w.heap.size + 2) W5) (Nat.le_refl _) #[.int .i64 (L : Int), .int .i64 0, .slice af k cf, .slice va (BQ k).a.length ca]
   have hgs : W5.grownBy (W5.setRow (w.heap.size + 2) #[.int .i64 (L : Int), .int .i64 0, .slice af k cf, .slice va (BQ k).a.length ca]) (some (w.heap.size + 2)) := ⟨hbs.os, hbs.tape, hbs.output, hbs.size, fun b _ hne => setRow_other W5 _ b _ (fun e => hne (by rw [e]))⟩
   have hF5 := (hP5.each 2 _ rfl).grown hgs fun b hb e => by have := ((hP5.each 2 _ rfl).lt hb).1; injection e with e; omega
   have hA5 := (hP5.each 3 _ rfl).grown hgs fun b hb e => by have := ((hP5.each 3 _ rfl).lt hb).1; injection e with e; omega
   simp only [Pc.At] at hF5 hA5
   have hIF := (IsBools.of_owns hF5).1
   have hIA := (IsArcs.of_owns hA5).1
   have hb6 := below_setRow (g := w.heap.size + 2) hbW5 (by omega) #[.int .i64 (L : Int), .int .i64 0, .slice af k cf, .slice va (BQ k).a.length ca]
   have HH := Lib.hid (And.intro hIF hIA)
   have HE := Lib.hid hke
   have HLL := Lib.hid hL
   rw [hL] at t1 ⊢
   clear hIF hIA hF5 hA5 hlen5 hP5 hB5 hP hB1 b0 hke hL hk hge hbs hgs hvM
   go_wp2_with (show wpList _ _ _ (⟨_, .store 25 _ _, _, _, _, _⟩ :: _) _ _; refine wpList_store_row rfl 25 _ _ rfl (w.heap.size + 2) #[.int .i64 (L : Int), .int .i64 0, .slice af k cf, .slice va (BQ k).a.length ca] rfl rfl _ _ hZ5 ref_i rfl (dfa_one _ _ _ _ _ _ _ _) ?_)
   refine bodyPost_ret (results_cell_row2 rfl _ _ (w.heap.size + 2) _ _ _ _ rfl rfl hZ6 Try.underlying25 rfl ref_i) rfl ?_
   rw [HR.out]
   obtain ⟨hIF, hIA⟩ := HH.out
   rw [HFT.out, HFN.out] at hIF
   refine ⟨⟨⟨af, k, cf, va, (BQ k).a.length, ca⟩, ?_, hIF, hIA⟩, hb6⟩
   unfold vDf resP
   rw [HLL.out]
   rfl
theorem refProduct_any {a b : Dfa} {h k : DH} {w : World} (hs : ValidD a → ValidD b → nP a b ≤ 1000 ∧ nP a b * a.arcs.length ≤ 20000) (hd : IsDfa w h a) (he : IsDfa w k b) : Calls Try.prog 36 #[vDf a h, vDf b k] w (GivesDE (prodR a b) (prodE a b) w) := by
 unfold prodR prodE
 by_cases ha : ValidD a
 ·by_cases hb : ValidD b
  ·rw [vD_yes ha, vD_yes hb]
   exact refProduct_yes ha hb (hs ha hb).1 (hs ha hb).2 hd he
  ·rw [vD_yes ha, vD_no hb]
   exact refProduct_nb ha hb hd he
 ·rw [vD_no ha]
  exact refProduct_na ha hd he
end Go.Proofs.Ytpcbmhfnefhenaa
