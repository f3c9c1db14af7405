import Derived.Deep.DeepCutAuto
import Derived.Test.YtpcbmhfnefhenaaMG16
import Derived.Test.YtpcbmhfnefhenaaMG21
import Derived.Test.YtpcbmhfnefhenaaMG32
import Derived.Test.YtpcbmhfnefhenaaMG35
/-
  DfaNa, DfaSp
-/
set_option linter.unusedSimpArgs false
set_option linter.unusedVariables false
namespace Go.Proofs.Ytpcbmhfnefhenaa
open Go.RowKit
attribute [local go_sem] Oper.semAt_some

variable {d : Dfa} {h : DH} {w : World}
set_option maxRecDepth 20000 in
set_option maxHeartbeats 4000000 in
theorem refOuts_own (q : Int) (hd : IsDfa w h d) (hl : d.arcs.length ≤ 20000) :
  Calls Try.prog 63 #[vDf d h, .int .i64 q] w fun e w' => (∃ a' c', e = .returned (.slice a' (outsD d.arcs q).length c') ∧ w'.ownsRow (w.heap.size + 1) 66 3 (.slice a' (outsD d.arcs q).length c') (outsD d.arcs q).length (tvs (outsD d.arcs q))) ∧ Below w.heap.size w w' := by
 obtain ⟨W1, hW1, hs1, hb1, hO⟩ := boxRW d h w hd
 obtain ⟨⟨c1, c2, c3, c4⟩, -, -⟩ := hO W1 (Below.refl _ _)
 have he := hd.arcs
 obtain ⟨n, s, fin, es⟩ := d
 obtain ⟨fa, fl, fc, aa, al, ac⟩ := h
 simp only [vDf] at hW1 hs1 hb1 hO c1 c2 c3 c4 he hl ⊢
 have hlen := he.length
 rw [hlen] at hl
 have HX := Lib.hid hlen
 have HO := Lib.hid hO
 have HB1 := Lib.hid hb1
 have hsz1 : w.heap.size + 1 ≤ W1.heap.size := by omega
 have HS1 := Lib.hid hs1
 clear hlen hd hO
 go_enter Try.func63, Try.ntmps63
 go_wp2_with (fail)
 clear hW1 hb1 c1 c2 c3 c4 hs1
 go_loopw [5, 6] (fun v x W => ∃ (k : Nat) (ps : List A3) (ao : Option Addr) (co : Nat), k ≤ al ∧ x = .int .i64 (k : Int) ∧ v = .slice ao ps.length co ∧ Hid (ps = outsD (es.take k) q) ∧ W.ownsRow W1.heap.size 66 3 (.slice ao ps.length co) ps.length (tvs ps) ∧ Below W1.heap.size W1 W) (fun _ x _ => al - (intOf x).toNat)
 case atStart => exact ⟨0, [], none, 0, Nat.zero_le _, rfl, rfl, Lib.hid rfl, World.ownsRow_nil _ _ _ _, Below.refl _ _⟩
 case round =>
  obtain ⟨k, ps, ao, co, hk, rfl, rfl, HP, ho, hb⟩ := hrel
  have hbb : Below (w.heap.size + 1) W1 wr := hb.mono hsz1
  obtain ⟨⟨e1, e2, e3, e4⟩, -, hbW⟩ := HO.out wr hbb
  rcases Nat.lt_or_ge k al with hlt | hge
  ·have t1 : decide ((k : Int) < al) = true := decide_eq_true (by omega)
   obtain ⟨b, off, rfl, hcell⟩ := he.fix (by omega)
   obtain ⟨x1, x2, x3, hx⟩ : ∃ x1 x2 x3, g3 es k = ⟨x1, x2, x3⟩ := ⟨_, _, _, rfl⟩
   obtain ⟨cx1, cx2, cx3⟩ := hcell wr hbW k hlt
   rw [hx] at cx1 cx2 cx3
   have HK := Lib.hid hx
   have hsucc := outsD_succ (ar := es) (k := k) (by rw [HX.out]; exact hlt) q
   rw [hx] at hsucc
   have hpl : Hid (ps.length ≤ 20000) := Lib.hid (by
    rw [HP.out]
    refine Nat.le_trans (List.length_filter_le _ _) ?_
    rw [List.length_take]
    omega)
   clear hx hcell he hbb hbW
   by_cases h1 : x1 = q
   ·have t2 : (x1 == q) = true := by simpa using h1
    have HN : Hid (ps ++ [⟨x1, x2, x3⟩] = outsD (es.take (k + 1)) q) := Lib.hid (by rw [hsucc, if_pos h1, HP.out])
    clear h1 hsucc
    go_wp2_with (at_builtin; refine app_arc elRA rfl _ _ rfl rfl ho rfl (by have := hpl.out; omega) hb.size ?_; intro a1 c1 w1 ho1 hb1 hs1)
    go_roundw
    case rel => exact ⟨k + 1, ps ++ [⟨x1, x2, x3⟩], a1, c1, hlt, by go_num, by rw [List.length_append]; rfl, HN, by rw [List.length_append]; exact ho1, hb.trans hb1⟩
    case measure => simp [intOf]; omega
   ·have t2 : (x1 == q) = false := by simpa using h1
    have HN : Hid (ps = outsD (es.take (k + 1)) q) := Lib.hid (by rw [hsucc, if_neg h1, HP.out, List.append_nil])
    clear h1 hsucc
    go_wp2_with (fail)
    go_roundw
    case rel => exact ⟨k + 1, ps, ao, co, hlt, by go_num, rfl, HN, ho, hb⟩
    case measure => simp [intOf]; omega
  ·have t1 : decide ((k : Int) < al) = false := decide_eq_false (by omega)
   have HR : Hid (outsD es q = ps) := Lib.hid (by rw [HP.out, List.take_of_length_le (by rw [HX.out]; exact hge)])
   have hO9 : wr.ownsRow (w.heap.size + 1) 66 3 (.slice ao ps.length co) ps.length (tvs ps) := ho.from_mono (by omega)
   have HO9 := Lib.hid hO9
   clear hO9
   go_wp2_with (fail)
   go_ret
   rw [HR.out]
   exact ⟨⟨ao, co, rfl, HO9.out⟩, hbW⟩

set_option maxRecDepth 20000 in
theorem refAll_any (hd : IsDfa w h d) (hn : 0 ≤ d.n ∧ d.n ≤ 100000) : Calls Try.prog 40 #[vDf d h] w fun e w' => (∃ a' c', e = .returned (.slice a' d.n.toNat c') ∧ IsInts .i64 w' a' d.n.toNat c' (lets d.n.toNat)) ∧ Below w.heap.size w w' := by
 obtain ⟨W1, hW1, hs1, hb1, hO⟩ := boxRW d h w hd
 obtain ⟨n, s, fin, es⟩ := d
 obtain ⟨fa, fl, fc, aa, al, ac⟩ := h
 simp only [vDf] at hW1 hs1 hb1 hO hn ⊢
 obtain ⟨N, rfl⟩ := Int.eq_ofNat_of_zero_le hn.1
 rw [Int.toNat_natCast]
 have HO : Hid (∀ W, Below W1.heap.size W1 W → W.cell? ⟨w.heap.size, 0, none⟩ = some (.int .i64 (N : Int)) ∧ Below w.heap.size w W) := Lib.hid (fun W hb => by
  have h1 := hO W (hb.mono (by omega))
  exact ⟨h1.1.1, h1.2.2⟩)
 clear hO hd
 go_enter Try.func40, Try.ntmps40
 go_wp2_with (fail)
 clear hW1 hb1
 go_loopw [3, 4] (fun v x W => ∃ (k : Nat) (ao : Option Addr) (co : Nat), k ≤ N ∧ x = .int .i64 (k : Int) ∧ v = .slice ao k co ∧ W.ownsRow W1.heap.size 3 1 (.slice ao k co) k (ivs .i64 (lets k)) ∧ Below W1.heap.size W1 W) (fun _ x _ => N - (intOf x).toNat)
 case atStart => exact ⟨0, none, 0, Nat.zero_le _, rfl, rfl, World.ownsRow_nil _ _ _ _, Below.refl _ _⟩
 case round =>
  obtain ⟨k, ao, co, hk, rfl, rfl, ho, hb⟩ := hrel
  obtain ⟨c1, hbW⟩ := HO.out wr hb
  rcases Nat.lt_or_ge k N with hlt | hge
  ·have t1 : decide ((k : Int) < (N : Int)) = true := decide_eq_true (by omega)
   have HN : Hid (ivs .i64 (lets (k + 1)) = ivs .i64 (lets k) ++ [.int .i64 (k : Int)]) := Lib.hid (by unfold lets ivs; rw [List.range_succ, List.map_append, List.map_append]; rfl)
   go_wp2_with (at_builtin; refine app_one elI64 rfl _ _ rfl rfl ho rfl (by omega) hb.size ?_; intro a1 ca1 w1 ho1 hb1)
   go_roundw
   case rel => exact ⟨k + 1, a1, ca1, hlt, by go_num, rfl, by rw [HN.out]; simpa [ivs] using ho1, hb.trans hb1⟩
   case measure => simp [intOf]; omega
  ·have t1 : decide ((k : Int) < (N : Int)) = false := decide_eq_false (by omega)
   obtain rfl : k = N := by omega
   have hI := (IsInts.of_owns ho).1
   go_wp2_with (fail)
   go_ret
   exact ⟨⟨ao, co, rfl, hI⟩, hbW⟩
end Go.Proofs.Ytpcbmhfnefhenaa

set_option linter.unusedSimpArgs false
set_option linter.unusedVariables false
namespace Go.Proofs.Ytpcbmhfnefhenaa
open List (foldr_cons foldr_nil setIfInBounds_toArray set_cons_succ set_cons_zero)
open Go.RowKit
attribute [local go_sem] Oper.semAt_some

def oPs (oa : Option Addr) (oc : Nat) (vs : List Wd) (X : List Pc) : List Pc := .row 40 1 (.slice oa vs.length oc) vs.length (vs.map Wd.v) :: (vs.map Wd.pc ++ X)
section
variable {W W' : World} {B oc : Nat} {oa : Option Addr} {vs : List Wd} {X : List Pc}
theorem o_more {p : Pc} (hP : Pcs W B (oPs oa oc vs X)) (hb : Below W.heap.size W W') (h0 : p.At W' B) (hk : ∀ k, p.own = some k → W.heap.size ≤ k) : Pcs W' B (oPs oa oc vs (p :: X)) := by
 refine (hP.add p (below_grows hb none) h0 hk).turn ?_
 unfold oPs
 rw [List.cons_append, List.append_assoc]
 exact .cons _ (List.Perm.append_left _ (List.perm_append_singleton _ _))
theorem o_drop {p : Pc} (hP : Pcs W B (oPs oa oc vs (p :: X))) : Pcs W B (oPs oa oc vs X) :=
 hP.sub (.cons_cons _ ((List.Sublist.refl _).append (List.sublist_cons_self _ _)))
theorem o_in (hP : Pcs W B (oPs oa oc vs X)) : ∀ p ∈ X, p.At W B := fun p hp => (pcsIff.1 hP).1 p (List.mem_cons_of_mem _ (List.mem_append_right _ hp))
theorem o_ws (hP : Pcs W B (oPs oa oc vs X)) : IsWs W oa vs.length oc (vs.map Wd.z) :=
 ws_of (hP.row 0 rfl) fun x hx => (pcsIff.1 hP).1 _ (List.mem_cons_of_mem _ (List.mem_append_left _ (List.mem_map_of_mem hx)))
theorem o_push {x : Wd} {a : Option Addr} {c : Nat} (hP : Pcs W B ((oPs oa oc vs (x.pc :: X)).set 0 (.row 40 1 (.slice a (vs.length + 1) c) (vs.length + 1) (vs.map Wd.v ++ [x.v])))) : Pcs W B (oPs a c (vs ++ [x]) X) := by
 have e : oPs a c (vs ++ [x]) X = (oPs oa oc vs (x.pc :: X)).set 0 (.row 40 1 (.slice a (vs.length + 1) c) (vs.length + 1) (vs.map Wd.v ++ [x.v])) := by
  unfold oPs
  rw [List.map_append, List.map_append, List.length_append, List.append_assoc]
  rfl
 rw [e]
 exact hP
end
variable {d : Dfa} {h : DH} {W0 W : World} {B m cl cc oc wc : Nat} {ca oa wa : Option Addr} {vs : List Wd} {X : List Pc} {word : List Int}
def SpX (d : Dfa) (W0 : World) (B : Nat) (ca : Option Addr) (cl : Nat) (wa : Option Addr) (wc : Nat) (word : List Int) (X : List Pc) : Prop := ∀ W, Below B W0 W → (∀ p ∈ X, p.At W B) → IsTab W ca cl (canT d) ∧ IsInts .i64 W wa word.length wc word
def SpPost (W0 : World) (B : Nat) (X : List Pc) (Q : List (List Int)) (e : Ending) (W : World) : Prop := ∃ oa oc vs, e = .returned (.slice oa vs.length oc) ∧ vs.map Wd.z = Q ∧ Pcs W B (oPs oa oc vs X) ∧ Below B W0 W
theorem SpX.cons {p : Pc} (hX : SpX d W0 B ca cl wa wc word X) : SpX d W0 B ca cl wa wc word (p :: X) := fun W hb hp => hX W hb fun q hq => hp q (List.mem_cons_of_mem _ hq)
theorem SpX.push {x : Wd} (hX : SpX d W0 B ca cl wa wc word X) : SpX d W0 B ca cl x.a x.c x.z (x.pc :: X) := fun W hb hp => ⟨(hX W hb fun p hq => hp p (List.mem_cons_of_mem _ hq)).1, Wd.ints (hp _ List.mem_cons_self)⟩
set_option maxRecDepth 20000 in
set_option maxHeartbeats 4000000 in
theorem spell_stop (hv : ValidD d) (hD : ∀ W, Below B W0 W → IsDfa W h d) {k : Nat} {q : Int} (hq : InD d q) (hk : k < cl) (hX : SpX d W0 B ca cl wa wc word X) (hP : Pcs W B (oPs oa oc vs X)) (hb : Below B W0 W) (hsz : B ≤ W.heap.size) (hs : m ≤ vs.length ∨ canB d k q = false) :
  Calls Try.prog 61 #[vDf d h, .slice ca cl cc, .int .i64 q, .int .i64 (k : Int), .slice wa word.length wc, .slice oa vs.length oc, .int .i64 (m : Int)] W fun e w' => e = .returned (.slice oa vs.length oc) ∧ Below W.heap.size W w' := by
 obtain ⟨W1, hW1, hs1, hb1, hO⟩ := boxRW d h W (hD W hb)
 obtain ⟨⟨c1, c2, c3, c4⟩, -, -⟩ := hO W1 (by rw [← hs1]; exact Below.refl _ _)
 have hB1 : Below B W0 W1 := hb.trans (hb1.mono hsz)
 have hP1 := hP.quiet (below_grows hb1 none)
 obtain ⟨hT, -⟩ := hX W1 hB1 (o_in hP1)
 have hqi := hq
 obtain ⟨Q, rfl⟩ := Int.eq_ofNat_of_zero_le hq.1
 have hQ : Q < d.n.toNat := by have := hq.2; omega
 obtain ⟨b, off, x, c, rfl, t1, t2⟩ := hT k hk
 rw [canT_len] at t1 t2
 obtain ⟨bx, ox, rfl, hx⟩ := t2.fix (by omega)
 have t3 := hx W1 (Below.refl _ _) Q hQ
 rw [canT_at hq.2] at t3
 obtain ⟨N, hN⟩ : ∃ N, d.n.toNat = N := ⟨_, rfl⟩
 rw [hN] at t1 hQ
 have HB1 := Lib.hid hb1
 unfold vDf
 clear hP hP1 hX hT hx t2 hN hq hqi hv hO hB1 hb hb1
 by_cases h1 : m ≤ vs.length
 ·have q1 : decide ((m : Int) ≤ (vs.length : Int)) = true := decide_eq_true (by omega)
  have q2 : decide (m ≤ vs.length) = true := decide_eq_true h1
  clear hs
  go_enter Try.func61, Try.ntmps61
  go_wp2_with (fail)
  go_ret
  exact ⟨rfl, HB1.out⟩
 ·have q1 : decide ((m : Int) ≤ (vs.length : Int)) = false := decide_eq_false (by omega)
  have q2 : decide (m ≤ vs.length) = false := decide_eq_false h1
  rw [hs.resolve_left h1] at t3
  clear hs h1
  go_enter Try.func61, Try.ntmps61
  go_wp2_with (fail)
  go_ret
  exact ⟨rfl, HB1.out⟩
set_option maxRecDepth 20000 in
set_option maxHeartbeats 4000000 in
theorem spell_last (hv : ValidD d) (hD : ∀ W, Below B W0 W → IsDfa W h d) {q : Int} (hq : InD d q) (hk : 0 < cl) (hX : SpX d W0 B ca cl wa wc word X) (hwl : word.length ≤ 100000) (hP : Pcs W B (oPs oa oc vs X)) (hb : Below B W0 W) (hsz : B ≤ W.heap.size) (hm : m ≤ 1000) (h1 : ¬ m ≤ vs.length) (h2 : canB d 0 q = true) :
  Calls Try.prog 61 #[vDf d h, .slice ca cl cc, .int .i64 q, .int .i64 0, .slice wa word.length wc, .slice oa vs.length oc, .int .i64 (m : Int)] W (SpPost W0 B X (vs.map Wd.z ++ [word])) := by
 obtain ⟨W1, hW1, hs1, hb1, hO⟩ := boxRW d h W (hD W hb)
 obtain ⟨⟨c1, c2, c3, c4⟩, -, -⟩ := hO W1 (by rw [← hs1]; exact Below.refl _ _)
 have hB1 : Below B W0 W1 := hb.trans (hb1.mono hsz)
 have hP1 := hP.quiet (below_grows hb1 none)
 obtain ⟨hT, -⟩ := hX W1 hB1 (o_in hP1)
 have hqi := hq
 obtain ⟨Q, rfl⟩ := Int.eq_ofNat_of_zero_le hq.1
 have hQ : Q < d.n.toNat := by have := hq.2; omega
 obtain ⟨b, off, x, c, rfl, t1, t2⟩ := hT 0 hk
 rw [canT_len] at t1 t2
 obtain ⟨bx, ox, rfl, hx⟩ := t2.fix (by omega)
 have t3 := hx W1 (Below.refl _ _) Q hQ
 rw [canT_at hq.2] at t3
 obtain ⟨N, hN⟩ : ∃ N, d.n.toNat = N := ⟨_, rfl⟩
 rw [hN] at t1 hQ
 rw [Nat.add_zero] at t1
 rw [h2] at t3
 have hbE : Below W1.heap.size W1 (W1.alloc (.cells #[] 3)) := (Below.refl _ _).alloc (Nat.le_refl _) _
 have ho1 : (W1.alloc (.cells #[] 3)).ownsRow W1.heap.size 3 1 (.slice (some ⟨W1.heap.size, 0, none⟩) 0 0) 0 [] := World.ownsRow_lit (base := W1.heap.size) (e := 3) (size := 1) W1 #[] 0 (Nat.le_refl _) (by decide) (by simp)
 have hin := (hX (W1.alloc (.cells #[] 3)) (hB1.trans (hbE.mono (Nat.le_trans hsz hb1.size))) (o_in (hP1.quiet (below_grows hbE none)))).2
 have HIN := Lib.hid hin
 have HO1 := Lib.hid ho1
 have HP1 := Lib.hid hP1
 have HBE := Lib.hid hbE
 have HB1 := Lib.hid hB1
 have HSZ : Hid (B ≤ W1.heap.size) := Lib.hid (Nat.le_trans hsz hb1.size)
 have q1 : decide ((m : Int) ≤ (vs.length : Int)) = false := decide_eq_false (by omega)
 have q2 : decide (m ≤ vs.length) = false := decide_eq_false h1
 have hvl : vs.length < 1000 := by omega
 unfold vDf
 clear hP hP1 hX hT hx t2 hN hq hqi hv hO hB1 hb hb1 hin ho1 hbE h2 hs1
 go_enter Try.func61, Try.ntmps61
 go_upto_region 4 with (fail)
 go_wp2_with (first
  | (at_builtin; (refine app_own (v := .slice (some ⟨W1.heap.size, 0, none⟩) 0 0) (n := 0) elI64 rfl _ _ rfl rfl HO1.out rfl (news := ivs .i64 word) (ints_src HIN.out) (ivs_one _ _) (by omega) HBE.out.size ?_; intro a3 c3 w3 ho3 hg3 hb3 hk3; rw [Nat.zero_add, List.nil_append] at ho3; rw [Nat.zero_add]; have hbw : Below W1.heap.size W1 w3 := HBE.out.trans hb3; have hp3 := o_more (p := Wd.pc ⟨a3, c3, word⟩) HP1.out hbw (World.ownsRow.from_mono ho3 HSZ.out) (fun k hk => (World.ownsRow.lt ho3 k hk).1); have hal : Below w3.heap.size w3 (w3.alloc (.cells #[.slice a3 word.length c3] 40)) := (Below.refl _ _).alloc (Nat.le_refl _) _; have HP4 := Lib.hid (hp3.quiet (below_grows hal none)); have HB4 : Hid (Below B W0 (w3.alloc (.cells #[.slice a3 word.length c3] 40)) ∧ B ≤ (w3.alloc (.cells #[.slice a3 word.length c3] 40)).heap.size) := Lib.hid ⟨HB1.out.trans ((hbw.trans (hal.mono hbw.size)).mono HSZ.out), Nat.le_trans HSZ.out (Nat.le_trans hbw.size hal.size)⟩; clear ho3 hg3 hb3 hk3 hbw hp3 hal))
  | (at_builtin; refine app_pcs elWW rfl _ _ rfl 0 rfl HP4.out rfl rfl (new_src w3 #[.slice a3 word.length c3] _ rfl) (by intro u hu; rw [List.mem_singleton.1 hu]; rfl) (by omega) HB4.out.2 ?_; (intro a5 c5 w5 hp5 hb5; have HP5 := Lib.hid (o_push (x := ⟨a3, c3, word⟩) hp5); have HB5 := Lib.hid hb5; clear hp5 hb5)))
 go_ret
 exact ⟨a5, c5, vs ++ [⟨a3, c3, word⟩], by rw [List.length_append]; rfl, by rw [List.map_append]; rfl, HP5.out, HB4.out.1.trans HB5.out⟩
theorem cell_up {W W' : World} {b j : Nat} {v : Value} (hb : Below W.heap.size W W') (h : W.cell? ⟨b, j, none⟩ = some v) : W'.cell? ⟨b, j, none⟩ = some v := (hb.cell (p := ⟨b, j, none⟩) (lt_of_cell h)).trans h
theorem sp_go {k : Nat}
  (ih : ∀ (q : Int) (word : List Int) (wa : Option Addr) (wc : Nat) (X : List Pc) (vs : List Wd) (oa : Option Addr) (oc : Nat) (W : World), InD d q → k < cl → SpX d W0 B ca cl wa wc word X → word.length + k ≤ 100000 → Pcs W B (oPs oa oc vs X) → Below B W0 W → B ≤ W.heap.size →
   Calls Try.prog 61 #[vDf d h, .slice ca cl cc, .int .i64 q, .int .i64 (k : Int), .slice wa word.length wc, .slice oa vs.length oc, .int .i64 (m : Int)] W (SpPost W0 B X (tk m (vs.map Wd.z) ((wordsL d k q).map fun v => word ++ v))))
  {Wn : World} {oa' a : Option Addr} {oc' c : Nat} {vs' : List Wd} {l x3 : Int} (hX : SpX d W0 B ca cl wa wc word X) (hP : Pcs Wn B (oPs oa' oc' vs' X)) (hBn : Below B W0 Wn) (hsn : B ≤ Wn.heap.size) (hbW : Below Wn.heap.size Wn W) (ho : W.ownsRow Wn.heap.size 3 1 (.slice a (word.length + 1) c) (word.length + 1) (ivs .i64 (word ++ [l]))) (hin : InD d x3) (hk : k + 1 < cl) (hwl : word.length + (k + 1) ≤ 100000) :
  Calls Try.prog 61 #[vDf d h, .slice ca cl cc, .int .i64 x3, .int .i64 (k : Int), .slice a (word.length + 1) c, .slice oa' vs'.length oc', .int .i64 (m : Int)] W (SpPost W0 B X (tk m (vs'.map Wd.z) ((wordsL d k x3).map fun v => (word ++ [l]) ++ v))) := by
 have hln : (word ++ [l]).length = word.length + 1 := by rw [List.length_append]; rfl
 have hat : Pc.At W Wn.heap.size (Wd.pc ⟨a, c, word ++ [l]⟩) := by
  show W.ownsRow _ _ 1 (.slice a (word ++ [l]).length c) (word ++ [l]).length _
  rw [hln]
  exact ho
 have hp3 := o_more hP hbW (Pc.At.low hat hsn) (fun k hk => (hat.lt hk).1)
 have hcall := ih x3 (word ++ [l]) a c (Wd.pc ⟨a, c, word ++ [l]⟩ :: X) vs' oa' oc' W hin (by omega) (SpX.push (x := ⟨a, c, word ++ [l]⟩) hX) (by rw [hln]; omega) hp3 (hBn.trans (hbW.mono hsn)) (Nat.le_trans hsn hbW.size)
 rw [hln] at hcall
 refine hcall.mono ?_
 rintro e w' ⟨oa2, oc2, vs2, rfl, hz2, hp2, hb2⟩
 exact ⟨oa2, oc2, vs2, rfl, hz2, o_drop hp2, hb2⟩
set_option maxRecDepth 20000 in
set_option maxHeartbeats 4000000 in
theorem spell_more (hv : ValidD d) (hD : ∀ W, Below B W0 W → IsDfa W h d) (hm : m ≤ 1000) {k : Nat}
  (ih : ∀ (q : Int) (word : List Int) (wa : Option Addr) (wc : Nat) (X : List Pc) (vs : List Wd) (oa : Option Addr) (oc : Nat) (W : World), InD d q → k < cl → SpX d W0 B ca cl wa wc word X → word.length + k ≤ 100000 → Pcs W B (oPs oa oc vs X) → Below B W0 W → B ≤ W.heap.size →
   Calls Try.prog 61 #[vDf d h, .slice ca cl cc, .int .i64 q, .int .i64 (k : Int), .slice wa word.length wc, .slice oa vs.length oc, .int .i64 (m : Int)] W (SpPost W0 B X (tk m (vs.map Wd.z) ((wordsL d k q).map fun v => word ++ v))))
  {q : Int} (hq : InD d q) (hk : k + 1 < cl) (hX : SpX d W0 B ca cl wa wc word X) (hwl : word.length + (k + 1) ≤ 100000) (hP : Pcs W B (oPs oa oc vs X)) (hb : Below B W0 W) (hsz : B ≤ W.heap.size) (h1 : ¬ m ≤ vs.length) (h2 : canB d (k + 1) q = true) :
  Calls Try.prog 61 #[vDf d h, .slice ca cl cc, .int .i64 q, .int .i64 ((k + 1 : Nat) : Int), .slice wa word.length wc, .slice oa vs.length oc, .int .i64 (m : Int)] W (SpPost W0 B X (tk m (vs.map Wd.z) ((wordsL d (k + 1) q).map fun v => word ++ v))) := by
 obtain ⟨W1, hW1, hs1, hb1, hO⟩ := boxRW d h W (hD W hb)
 obtain ⟨⟨c1, c2, c3, c4⟩, -, -⟩ := hO W1 (by rw [← hs1]; exact Below.refl _ _)
 have hB1 : Below B W0 W1 := hb.trans (hb1.mono hsz)
 have hP1 := hP.quiet (below_grows hb1 none)
 obtain ⟨hT, -⟩ := hX W1 hB1 (o_in hP1)
 have hqi := hq
 obtain ⟨Q, rfl⟩ := Int.eq_ofNat_of_zero_le hq.1
 have hQ : Q < d.n.toNat := by have := hq.2; omega
 obtain ⟨b, off, x, c, rfl, t1, t2⟩ := hT (k + 1) hk
 rw [canT_len] at t1 t2
 obtain ⟨bx, ox, rfl, hx⟩ := t2.fix (by omega)
 have t3 := hx W1 (Below.refl _ _) Q hQ
 rw [canT_at hq.2] at t3
 obtain ⟨N, hN⟩ : ∃ N, d.n.toNat = N := ⟨_, rfl⟩
 rw [hN] at t1 hQ
 rw [h2] at t3
 have hout := refOuts_own (Q : Int) (hO W1 (by rw [← hs1]; exact Below.refl _ _)).2.1 hv.2.2.2.1
 unfold vDf at hout
 have hPB := o_more hP (W' := W1) (p := .blk W.heap.size #[.int .i64 d.n, .int .i64 d.s, .slice h.fa h.fl h.fc, .slice h.aa h.al h.ac]) hb1 ⟨hsz, by rw [← hW1]; exact BlkAt.new W _ _⟩ (fun k hk => by injection hk with hk; omega)
 have hoin : ∀ j, j < (outsD d.arcs (Q : Int)).length → InD d (g3 (outsD d.arcs (Q : Int)) j).t := fun j hj => (hv.arc (outsD_mem.1 (g3_mem _ _ hj)).1).1.2
 have hosl : (outsD d.arcs (Q : Int)).length ≤ 20000 := Nat.le_trans (List.length_filter_le _ _) hv.2.2.2.1
 have hfin := tk_arcs m (vs.map Wd.z) d k word (Q : Int)
 obtain ⟨es, hes⟩ : ∃ es, outsD d.arcs (Q : Int) = es := ⟨_, rfl⟩
 rw [hes] at hout hoin hfin hosl
 rw [← hfin]
 have HOU := Lib.hid hout
 have HOI := Lib.hid hoin
 have HPB := Lib.hid hPB
 have HB1 := Lib.hid hB1
 have HX := Lib.hid hX
 have HIH := Lib.hid ih
 have HSZ : Hid (B ≤ W1.heap.size) := Lib.hid (Nat.le_trans hsz hb1.size)
 have q1 : decide ((m : Int) ≤ (vs.length : Int)) = false := decide_eq_false (by omega)
 have q1n : decide (m ≤ vs.length) = false := decide_eq_false h1
 have q2 : (((k : Int) + 1) == 0) = false := by simp; omega
 unfold vDf
 clear hP hP1 hX hT hx t2 hN hq hqi hv hO hB1 hb hb1 h2 hout hoin ih hfin hes hPB hD
 go_enter Try.func61, Try.ntmps61
 go_wp2_with (go_at_call 63; refine HOU.out.mono ?_; rintro e w3 ⟨⟨aE, cE, rfl, hE⟩, hb3⟩)
 have HP3 : Hid (Pcs w3 B (oPs oa oc vs (.row 66 3 (.slice aE es.length cE) es.length (tvs es) :: .blk W.heap.size #[.int .i64 d.n, .int .i64 d.s, .slice h.fa h.fl h.fc, .slice h.aa h.al h.ac] :: X))) := Lib.hid (o_more HPB.out hb3 (World.ownsRow.from_mono hE (Nat.le_succ_of_le HSZ.out)) (fun k hk => Nat.le_of_succ_le (World.ownsRow.lt hE k hk).1))
 have HB3 : Hid (Below B W0 w3 ∧ B ≤ w3.heap.size) := Lib.hid ⟨HB1.out.trans (hb3.mono HSZ.out), Nat.le_trans HSZ.out hb3.size⟩
 obtain ⟨X2, hX2⟩ : ∃ X2, (.row 66 3 (.slice aE es.length cE) es.length (tvs es) :: .blk W.heap.size #[.int .i64 d.n, .int .i64 d.s, .slice h.fa h.fl h.fc, .slice h.aa h.al h.ac] :: X : List Pc) = X2 := ⟨_, rfl⟩
 have HX2 : Hid (SpX d W0 B (some ⟨b, off, none⟩) cl wa wc word X2) := Lib.hid (by rw [← hX2]; exact HX.out.cons.cons)
 have HDR : Hid (∀ W' oa' oc' vs', Pcs W' B (oPs oa' oc' vs' X2) → Pcs W' B (oPs oa' oc' vs' X) ∧ IsArcs W' aE es.length cE es ∧ BlkAt W' W.heap.size #[.int .i64 d.n, .int .i64 d.s, .slice h.fa h.fl h.fc, .slice h.aa h.al h.ac]) := Lib.hid (fun W' oa' oc' vs' hp => by
  rw [← hX2] at hp
  exact ⟨o_drop (o_drop hp), (IsArcs.of_owns (o_in hp _ List.mem_cons_self)).1, (o_in hp (.blk W.heap.size _) (List.mem_cons_of_mem _ List.mem_cons_self)).2⟩)
 rw [hX2] at HP3
 obtain ⟨el, hel⟩ : ∃ el, es.length = el := ⟨_, rfl⟩
 have HEL := Lib.hid hel
 rw [hel] at hosl HDR ⊢
 have hWB : B ≤ W.heap.size := hsz
 clear hb3 hE hel c1 c2 c3 c4 t1 t3 hW1 hX2
 go_wp2_with (fail)
 go_loopw [5, 16] (fun vo c W => ∃ (j : Nat) (oa' : Option Addr) (oc' : Nat) (vs' : List Wd), j ≤ el ∧ c = .int .i64 (j : Int) ∧ vo = .slice oa' vs'.length oc' ∧ Hid (vs'.map Wd.z = tk m (vs.map Wd.z) (arcW d k word (es.take j))) ∧ Pcs W B (oPs oa' oc' vs' X2) ∧ Below B W0 W ∧ B ≤ W.heap.size) (fun _ c _ => el - (intOf c).toNat)
 case atStart => exact ⟨0, oa, oc, vs, Nat.zero_le _, rfl, rfl, Lib.hid (by rw [List.take_zero, arcW_nil, tk_nil]), HP3.out, HB3.out.1, HB3.out.2⟩
 case round =>
  clear HP3 HB3
  obtain ⟨j, oa', oc', vs', hj, rfl, rfl, HVZ, hp', hb', hs'⟩ := hrel
  have HPR := Lib.hid hp'
  have HBR := Lib.hid (And.intro hb' hs')
  rcases Nat.lt_or_ge j el with hlt | hge
  ·have t4 : decide (j < el) = true := decide_eq_true hlt
   obtain ⟨-, hae, hbk⟩ := HDR.out wr _ _ _ hp'
   have z1 := (hbk.cell 0).1
   have z2 := (hbk.cell 1).1
   have z3 := (hbk.cell 2).1
   have z4 := (hbk.cell 3).1
   obtain ⟨ba, oaa, rfl, hac⟩ := hae.fix (by omega)
   obtain ⟨y1, y2, y3⟩ := hac wr (Below.refl _ _) j hlt
   obtain ⟨⟨x1, x2, x3⟩, hx⟩ : ∃ x, g3 es j = x := ⟨_, rfl⟩
   have hin := HOI.out j (by rw [HEL.out]; exact hlt)
   have HTK : Hid (tk m (vs'.map Wd.z) ((wordsL d k x3).map fun v => (word ++ [x2]) ++ v) = tk m (vs.map Wd.z) (arcW d k word (es.take (j + 1)))) := Lib.hid (by
    have h9 := tk_cut m (vs.map Wd.z) d k word es (j := j) (by rw [HEL.out]; exact hlt)
    rw [hx] at h9
    rw [HVZ.out]
    exact h9)
   rw [hx] at y1 y2 y3 hin
   simp only at y1 y2 y3 hin
   have HIN := Lib.hid hin
   have HIW : Hid (∀ W, Below wr.heap.size wr W → IsInts .i64 W wa word.length wc word) := Lib.hid (fun W hW => (HX2.out W (HBR.out.1.trans (hW.mono HBR.out.2)) (o_in (HPR.out.quiet (below_grows hW none)))).2)
   clear hx hac hin hae hbk hp' hb' hs'
   go_upto_region 9 with (fail)
   obtain ⟨S, hSd⟩ : ∃ S : (Nat → Bool) → (Nat → Value) → World → Prop, S = fun L f W => (L 21 = false → Bld wr 3 1 W (if L 18 = true then f 18 else if L 11 = true then f 11 else if L 9 = true then f 9 else undef) (if L 18 = true then word.length + 1 else if L 11 = true then word.length else 0) (if L 18 = true then ivs .i64 (word ++ [x2]) else if L 11 = true then ivs .i64 word else []) (if L 18 = true then undef else if L 17 = true then f 17 else undef) #[.int .i64 x2] undef #[]) ∧ (L 21 = true → (L 22 = true → f 22 = f 21) ∧ ∃ oa2 oc2 vs2, f 21 = .slice oa2 vs2.length oc2 ∧ vs2.map Wd.z = tk m (vs.map Wd.z) (arcW d k word (es.take (j + 1))) ∧ Pcs W B (oPs oa2 oc2 vs2 X2) ∧ Below B W0 W) := ⟨_, rfl⟩
   refine wp_region_st mixed (by kernel_rfl) [[], [], [], [], [(2, 51), (3, 52)], [(4, 53)], [(5, 54)], [], [(7, 56)], [], [], [(9, 58), (10, 59)], [], [], [(12, 61), (13, 62)], [(14, 63)], [(15, 64)], [(16, 65)], [(11, 60), (17, 66), (11, 60)], [], [], [(0, 49), (1, 50), (6, 55), (8, 57), (18, 67), (19, 68), (20, 69), (18, 67)], [(21, 70), (21, 70), (0, 49), (1, 50), (2, 51), (3, 52), (4, 53), (5, 54), (6, 55), (7, 56), (8, 57), (9, 58), (10, 59), (11, 60), (12, 61), (13, 62), (14, 63), (15, 64), (16, 65), (17, 66), (18, 67), (19, 68), (20, 69), (21, 70)]] [(0, 49), (1, 50), (2, 51), (3, 52), (4, 53), (5, 54), (6, 55), (7, 56), (8, 57), (9, 58), (10, 59), (11, 60), (12, 61), (13, 62), (14, 63), (15, 64), (16, 65), (17, 66), (18, 67), (19, 68), (20, 69), (21, 70), (22, 5)] rfl rfl [EV ?e0, EV ?e1, EV ?e2, EV ?e3, EV ?e4, EV ?e5, EV ?e6, EV ?e7, EV ?e8, fun v => ∃ b, v = .slice (some ⟨b, 0, none⟩) 0 0, EV ?e10, fun v => ∃ a c, v = .slice a word.length c, EV ?e12, EV ?e13, EV ?e14, EV ?e15, EV ?e16, fun v => ∃ b, v = .slice (some ⟨b, 0, none⟩) 1 1, fun v => ∃ a c, v = .slice a (word.length + 1) c, EV ?e19, EV ?e20, fun v => ∃ a n c, v = .slice a n c, fun v => ∃ a n c, v = .slice a n c] S ?start ?steps ?rest
   case start =>
    intro f
    rw [hSd]
    exact ⟨fun _ => Bld.start wr _ _ _ _, fun h => (by cases h)⟩
   case steps =>
    refine ⟨fun L f W hi hd hdn hh hS => ?_, fun L f W hi hd hdn hh hS => ?_, fun L f W hi hd hdn hh hS => ?_, fun L f W hi hd hdn hh hS => ?_, fun L f W hi hd hdn hh hS => ?_, fun L f W hi hd hdn hh hS => ?_, fun L f W hi hd hdn hh hS => ?_, fun L f W hi hd hdn hh hS => ?_, fun L f W hi hd hdn hh hS => ?_, fun L f W hi hd hdn hh hS => ?_, fun L f W hi hd hdn hh hS => ?_, fun L f W hi hd hdn hh hS => ?_, fun L f W hi hd hdn hh hS => ?_, fun L f W hi hd hdn hh hS => ?_, fun L f W hi hd hdn hh hS => ?_, fun L f W hi hd hdn hh hS => ?_, fun L f W hi hd hdn hh hS => ?_, fun L f W hi hd hdn hh hS => ?_, fun L f W hi hd hdn hh hS => ?_, fun L f W hi hd hdn hh hS => ?_, fun L f W hi hd hdn hh hS => ?_, fun L f W hi hd hdn hh hS => ?_, fun L f W hi hd hdn hh hS => ?_, trivial⟩
    ·
     have l21 : L 21 = false := Bool.eq_false_iff.2 fun h => by have q := hdn 21 _ h rfl 0 (by decide); rw [show L 0 = false from hi] at q; cases q
     unfold stStep
     rw [if_pos (by simp [Region.wanted])]
     intro K Q hK
     simp only [puts, foldr_nil]
     have hS' := hS
     rw [hSd] at hS'
     have hB' := (hS'.1 l21).bel
     have m1 := cell_up hB' z1
     have m2 := cell_up hB' z2
     have m3 := cell_up hB' z3
     have m4 := cell_up hB' z4
     go_step
     refine st_ex hK rfl rfl (by simp only [Act.put, setIfInBounds_toArray, set_cons_succ, set_cons_zero, Array.getD_eq_getD_getElem?, List.getElem?_toArray, List.getElem?_cons_succ, List.getElem?_cons_zero, Option.getD_some] <;> rfl) rfl (by rw [hSd] at hS ⊢; exact hS)
    ·
     unfold stStep
     rw [if_pos (by simp [Region.wanted])]
     intro K Q hK
     simp only [puts, foldr_nil]
     go_step
     refine st_ex hK rfl rfl (by simp only [Act.put, setIfInBounds_toArray, set_cons_succ, set_cons_zero, Array.getD_eq_getD_getElem?, List.getElem?_toArray, List.getElem?_cons_succ, List.getElem?_cons_zero, Option.getD_some] <;> rfl) rfl (by rw [hSd] at hS ⊢; exact hS)
    ·
     unfold stStep
     rw [if_pos (by simp [Region.wanted])]
     intro K Q hK
     simp only [puts, foldr_nil]
     go_step
     refine st_ex hK rfl rfl (by simp only [Act.put, setIfInBounds_toArray, set_cons_succ, set_cons_zero, Array.getD_eq_getD_getElem?, List.getElem?_toArray, List.getElem?_cons_succ, List.getElem?_cons_zero, Option.getD_some] <;> rfl) rfl (by rw [hSd] at hS ⊢; exact hS)
    ·
     unfold stStep
     rw [if_pos (by simp [Region.wanted])]
     intro K Q hK
     simp only [puts, foldr_nil]
     go_step
     refine st_ex hK rfl rfl (by simp only [Act.put, setIfInBounds_toArray, set_cons_succ, set_cons_zero, Array.getD_eq_getD_getElem?, List.getElem?_toArray, List.getElem?_cons_succ, List.getElem?_cons_zero, Option.getD_some] <;> rfl) rfl (by rw [hSd] at hS ⊢; exact hS)
    ·
     obtain ⟨h2, h3, -⟩ := hh
     have g2 : f 2 = _ := h2
     have g3 : f 3 = _ := h3
     unfold stStep
     rw [if_pos (by simp [Region.wanted])]
     intro K Q hK
     simp only [puts, Za, Zb, Zc, Zd, Ze, g2, g3]
     go_step
     refine st_ex hK rfl rfl (by simp only [Act.put, setIfInBounds_toArray, set_cons_succ, set_cons_zero, Array.getD_eq_getD_getElem?, List.getElem?_toArray, List.getElem?_cons_succ, List.getElem?_cons_zero, Option.getD_some] <;> rfl) rfl (by rw [hSd] at hS ⊢; exact hS)
    ·
     obtain ⟨h4, -⟩ := hh
     have g4 : f 4 = _ := h4
     unfold stStep
     rw [if_pos (by simp [Region.wanted])]
     intro K Q hK
     simp only [puts, Za, Zb, Zc, Zd, Ze, g4]
     go_step
     refine st_ex hK rfl rfl (by simp only [Act.put, setIfInBounds_toArray, set_cons_succ, set_cons_zero, Array.getD_eq_getD_getElem?, List.getElem?_toArray, List.getElem?_cons_succ, List.getElem?_cons_zero, Option.getD_some] <;> rfl) rfl (by rw [hSd] at hS ⊢; exact hS)
    ·
     obtain ⟨h5, -⟩ := hh
     have g5 : f 5 = _ := h5
     have l21 : L 21 = false := Bool.eq_false_iff.2 fun h => by have q := hdn 21 _ h rfl 6 (by decide); rw [show L 6 = false from hi] at q; cases q
     unfold stStep
     rw [if_pos (by simp [Region.wanted])]
     intro K Q hK
     simp only [puts, Za, Zb, Zc, Zd, Ze, g5]
     have hS' := hS
     rw [hSd] at hS'
     have hB' := (hS'.1 l21).bel
     have m1 := cell_up hB' y3
     go_step
     refine st_ex hK rfl rfl (by simp only [Act.put, setIfInBounds_toArray, set_cons_succ, set_cons_zero, Array.getD_eq_getD_getElem?, List.getElem?_toArray, List.getElem?_cons_succ, List.getElem?_cons_zero, Option.getD_some] <;> rfl) rfl (by rw [hSd] at hS ⊢; exact hS)
    ·
     unfold stStep
     rw [if_pos (by simp [Region.wanted])]
     intro K Q hK
     simp only [puts, foldr_nil]
     go_step
     refine st_ex hK rfl rfl (by simp only [Act.put, setIfInBounds_toArray, set_cons_succ, set_cons_zero, Array.getD_eq_getD_getElem?, List.getElem?_toArray, List.getElem?_cons_succ, List.getElem?_cons_zero, Option.getD_some] <;> rfl) rfl (by rw [hSd] at hS ⊢; exact hS)
    ·
     obtain ⟨h7, -⟩ := hh
     have g7 : f 7 = _ := h7
     unfold stStep
     rw [if_pos (by simp [Region.wanted])]
     intro K Q hK
     simp only [puts, Za, Zb, Zc, Zd, Ze, g7]
     go_step
     refine st_ex hK rfl rfl (by simp only [Act.put, setIfInBounds_toArray, set_cons_succ, set_cons_zero, Array.getD_eq_getD_getElem?, List.getElem?_toArray, List.getElem?_cons_succ, List.getElem?_cons_zero, Option.getD_some] <;> rfl) rfl (by rw [hSd] at hS ⊢; exact hS)
    ·
     have l11 : L 11 = false := Bool.eq_false_iff.2 fun h => by have q := hdn 11 _ h rfl 9 (by decide); rw [show L 9 = false from hi] at q; cases q
     have l18 : L 18 = false := Bool.eq_false_iff.2 fun h => by have q := hdn 18 _ h rfl 11 (by decide); rw [show L 11 = false from l11] at q; cases q
     have l21 : L 21 = false := Bool.eq_false_iff.2 fun h => by have q := hdn 21 _ h rfl 18 (by decide); rw [show L 18 = false from l18] at q; cases q
     unfold stStep
     rw [if_pos (by simp [Region.wanted])]
     intro K Q hK
     simp only [puts, foldr_nil]
     rw [hSd] at hS hK
     have l9 : L 9 = false := hi
     try simp only [stage, l11, l18, l21, l9, if_true, if_false, Bool.false_eq_true] at hS
     obtain ⟨hBl, h21⟩ := hS
     have hBl := hBl trivial
     try simp only [l9, l11, l18, if_false, Bool.false_eq_true] at hBl
     go_step
     refine hK.out _ _ rfl ⟨_, rfl⟩ ?_
     have q := hBl.lit
     try simp only [l11, l18, l21, Bool.false_eq_true, ↓reduceIte, Nat.reduceEqDiff]
     exact ⟨fun _ => q, fun h => (by cases h)⟩
    ·
     unfold stStep
     rw [if_pos (by simp [Region.wanted])]
     intro K Q hK
     simp only [puts, foldr_nil]
     go_step
     refine st_ex hK rfl rfl (by simp only [Act.put, setIfInBounds_toArray, set_cons_succ, set_cons_zero, Array.getD_eq_getD_getElem?, List.getElem?_toArray, List.getElem?_cons_succ, List.getElem?_cons_zero, Option.getD_some] <;> rfl) rfl (by rw [hSd] at hS ⊢; exact hS)
    ·
     obtain ⟨h9, h10, -⟩ := hh
     obtain ⟨b9, (g9 : f 9 = _)⟩ := h9
     have g10 : f 10 = _ := h10
     have l9 : L 9 = true := hd 9 (by decide)
     have l18 : L 18 = false := Bool.eq_false_iff.2 fun h => by have q := hdn 18 _ h rfl 11 (by decide); rw [show L 11 = false from hi] at q; cases q
     have l21 : L 21 = false := Bool.eq_false_iff.2 fun h => by have q := hdn 21 _ h rfl 18 (by decide); rw [show L 18 = false from l18] at q; cases q
     unfold stStep
     rw [if_pos (by simp [Region.wanted])]
     intro K Q hK
     simp only [puts, Za, Zb, Zc, Zd, Ze, g9, g10]
     rw [hSd] at hS hK
     have l11 : L 11 = false := hi
     try simp only [stage, l18, l21, l11, l9, if_true, if_false, Bool.false_eq_true] at hS
     obtain ⟨hBl, h21⟩ := hS
     have hBl := hBl trivial
     have l9' : L 9 = true := hd 9 (by decide)
     try simp only [l9', l11, l18, if_false, if_true, Bool.false_eq_true, g9] at hBl
     have hown := hBl.own.resolve_left (by intro h; cases h)
     have hin := HIW.out W hBl.bel
     refine wp_app_blk elI64 _ _ rfl rfl hown rfl (ints_src hin) (ivs_one _ _) (by omega) hBl.bel.size ?_
     intro a' c' w' ho hg hbw hblk
     try simp only [Nat.zero_add, List.nil_append] at ho hblk ⊢
     refine hK.out _ _ rfl ⟨a', c', rfl⟩ ?_
     have q := hBl.app ho hg hbw hblk
     try simp only [l18, l21, Bool.false_eq_true, ↓reduceIte, Nat.reduceEqDiff]
     exact ⟨fun _ => q, fun h => (by cases h)⟩
    ·
     unfold stStep
     rw [if_pos (by simp [Region.wanted])]
     intro K Q hK
     simp only [puts, foldr_nil]
     go_step
     refine st_ex hK rfl rfl (by simp only [Act.put, setIfInBounds_toArray, set_cons_succ, set_cons_zero, Array.getD_eq_getD_getElem?, List.getElem?_toArray, List.getElem?_cons_succ, List.getElem?_cons_zero, Option.getD_some] <;> rfl) rfl (by rw [hSd] at hS ⊢; exact hS)
    ·
     unfold stStep
     rw [if_pos (by simp [Region.wanted])]
     intro K Q hK
     simp only [puts, foldr_nil]
     go_step
     refine st_ex hK rfl rfl (by simp only [Act.put, setIfInBounds_toArray, set_cons_succ, set_cons_zero, Array.getD_eq_getD_getElem?, List.getElem?_toArray, List.getElem?_cons_succ, List.getElem?_cons_zero, Option.getD_some] <;> rfl) rfl (by rw [hSd] at hS ⊢; exact hS)
    ·
     obtain ⟨h12, h13, -⟩ := hh
     have g12 : f 12 = _ := h12
     have g13 : f 13 = _ := h13
     unfold stStep
     rw [if_pos (by simp [Region.wanted])]
     intro K Q hK
     simp only [puts, Za, Zb, Zc, Zd, Ze, g12, g13]
     go_step
     refine st_ex hK rfl rfl (by simp only [Act.put, setIfInBounds_toArray, set_cons_succ, set_cons_zero, Array.getD_eq_getD_getElem?, List.getElem?_toArray, List.getElem?_cons_succ, List.getElem?_cons_zero, Option.getD_some] <;> rfl) rfl (by rw [hSd] at hS ⊢; exact hS)
    ·
     obtain ⟨h14, -⟩ := hh
     have g14 : f 14 = _ := h14
     unfold stStep
     rw [if_pos (by simp [Region.wanted])]
     intro K Q hK
     simp only [puts, Za, Zb, Zc, Zd, Ze, g14]
     go_step
     refine st_ex hK rfl rfl (by simp only [Act.put, setIfInBounds_toArray, set_cons_succ, set_cons_zero, Array.getD_eq_getD_getElem?, List.getElem?_toArray, List.getElem?_cons_succ, List.getElem?_cons_zero, Option.getD_some] <;> rfl) rfl (by rw [hSd] at hS ⊢; exact hS)
    ·
     obtain ⟨h15, -⟩ := hh
     have g15 : f 15 = _ := h15
     have l17 : L 17 = false := Bool.eq_false_iff.2 fun h => by have q := hdn 17 _ h rfl 16 (by decide); rw [show L 16 = false from hi] at q; cases q
     have l18 : L 18 = false := Bool.eq_false_iff.2 fun h => by have q := hdn 18 _ h rfl 17 (by decide); rw [show L 17 = false from l17] at q; cases q
     have l21 : L 21 = false := Bool.eq_false_iff.2 fun h => by have q := hdn 21 _ h rfl 18 (by decide); rw [show L 18 = false from l18] at q; cases q
     unfold stStep
     rw [if_pos (by simp [Region.wanted])]
     intro K Q hK
     simp only [puts, Za, Zb, Zc, Zd, Ze, g15]
     have hS' := hS
     rw [hSd] at hS'
     have hB' := (hS'.1 l21).bel
     have m1 := cell_up hB' y2
     go_step
     refine st_ex hK rfl rfl (by simp only [Act.put, setIfInBounds_toArray, set_cons_succ, set_cons_zero, Array.getD_eq_getD_getElem?, List.getElem?_toArray, List.getElem?_cons_succ, List.getElem?_cons_zero, Option.getD_some] <;> rfl) rfl (by rw [hSd] at hS ⊢; exact hS)
    ·
     obtain ⟨h16, -⟩ := hh
     have g16 : f 16 = _ := h16
     have l18 : L 18 = false := Bool.eq_false_iff.2 fun h => by have q := hdn 18 _ h rfl 17 (by decide); rw [show L 17 = false from hi] at q; cases q
     have l21 : L 21 = false := Bool.eq_false_iff.2 fun h => by have q := hdn 21 _ h rfl 18 (by decide); rw [show L 18 = false from l18] at q; cases q
     unfold stStep
     rw [if_pos (by simp [Region.wanted])]
     intro K Q hK
     simp only [puts, Za, Zb, Zc, Zd, Ze, g16]
     rw [hSd] at hS hK
     have l17 : L 17 = false := hi
     try simp only [stage, l18, l21, l17, if_true, if_false, Bool.false_eq_true] at hS
     obtain ⟨hBl, h21⟩ := hS
     have hBl := hBl trivial
     try simp only [l17, l18, if_false, Bool.false_eq_true] at hBl
     go_step
     refine hK.out _ _ rfl ⟨_, rfl⟩ ?_
     have q := hBl.elem 3
     try simp only [l18, l21, Bool.false_eq_true, ↓reduceIte, Nat.reduceEqDiff]
     exact ⟨fun _ => q, fun h => (by cases h)⟩
    ·
     obtain ⟨h11, h17, _, -⟩ := hh
     obtain ⟨a11, c11, (g11 : f 11 = _)⟩ := h11
     obtain ⟨b17, (g17 : f 17 = _)⟩ := h17
     have l11 : L 11 = true := hd 11 (by decide)
     have l17 : L 17 = true := hd 17 (by decide)
     have l21 : L 21 = false := Bool.eq_false_iff.2 fun h => by have q := hdn 21 _ h rfl 18 (by decide); rw [show L 18 = false from hi] at q; cases q
     unfold stStep
     rw [if_pos (by simp [Region.wanted])]
     intro K Q hK
     simp only [puts, Za, Zb, Zc, Zd, Ze, g11, g17]
     rw [hSd] at hS hK
     have l18 : L 18 = false := hi
     try simp only [stage, l21, l18, l11, l17, if_true, if_false, Bool.false_eq_true] at hS
     obtain ⟨hBl, h21⟩ := hS
     have hBl := hBl trivial
     have l11' : L 11 = true := hd 11 (by decide)
     have l17' : L 17 = true := hd 17 (by decide)
     try simp only [l11', l17', l18, if_false, if_true, Bool.false_eq_true, g11, g17] at hBl
     have hown := hBl.own.resolve_left (by intro h; cases h)
     have hpr := (hBl.pair _ rfl).1
     refine wp_app_blk elI64 _ _ rfl rfl hown rfl (m := 1) (news := [.int .i64 x2]) ⟨rfl, fun ad e i u hi => by injection e with e; subst e; rw [addr_add, Nat.zero_add, (hpr.cell i).1, ← hi]; simp, fun e => by cases e⟩ (by intro u hu; rw [List.mem_singleton.1 hu]; rfl) (by omega) hBl.bel.size ?_
     intro a' c' w' ho hg hbw hblk
     refine hK.out _ _ rfl ⟨a', c', rfl⟩ ?_
     have q := hBl.app ho hg hbw hblk
     have e9 : ivs .i64 word ++ [.int .i64 x2] = ivs .i64 (word ++ [x2]) := by simp [ivs]
     rw [e9] at q
     try simp only [l21, Bool.false_eq_true, ↓reduceIte, Nat.reduceEqDiff]
     exact ⟨fun _ => ⟨q.bel, q.own, fun b h => (by cases h), fun d h => (by cases h)⟩, fun h => (by cases h)⟩
    ·
     unfold stStep
     rw [if_pos (by simp [Region.wanted])]
     intro K Q hK
     simp only [puts, foldr_nil]
     go_step
     refine st_ex hK rfl rfl (by simp only [Act.put, setIfInBounds_toArray, set_cons_succ, set_cons_zero, Array.getD_eq_getD_getElem?, List.getElem?_toArray, List.getElem?_cons_succ, List.getElem?_cons_zero, Option.getD_some] <;> rfl) rfl (by rw [hSd] at hS ⊢; exact hS)
    ·
     unfold stStep
     rw [if_pos (by simp [Region.wanted])]
     intro K Q hK
     simp only [puts, foldr_nil]
     go_step
     refine st_ex hK rfl rfl (by simp only [Act.put, setIfInBounds_toArray, set_cons_succ, set_cons_zero, Array.getD_eq_getD_getElem?, List.getElem?_toArray, List.getElem?_cons_succ, List.getElem?_cons_zero, Option.getD_some] <;> rfl) rfl (by rw [hSd] at hS ⊢; exact hS)
    ·
     obtain ⟨h0, h1, h6, h8, h18, h19, h20, _, -⟩ := hh
     have g0 : f 0 = _ := h0
     have g1 : f 1 = _ := h1
     have g6 : f 6 = _ := h6
     have g8 : f 8 = _ := h8
     obtain ⟨a18, c18, (g18 : f 18 = _)⟩ := h18
     have g19 : f 19 = _ := h19
     have g20 : f 20 = _ := h20
     have l18 : L 18 = true := hd 18 (by decide)
     have l22 : L 22 = false := Bool.eq_false_iff.2 fun h => by have q := hdn 22 _ h rfl 21 (by decide); rw [show L 21 = false from hi] at q; cases q
     unfold stStep
     rw [if_pos (by simp [Region.wanted])]
     intro K Q hK
     simp only [puts, Za, Zb, Zc, Zd, Ze, g0, g1, g6, g8, g18, g19, g20]
     rw [hSd] at hS hK
     have l21 : L 21 = false := hi
     try simp only [stage, l22, l21, l18, if_true, if_false, Bool.false_eq_true] at hS
     obtain ⟨hBl, h21⟩ := hS
     have hBl := hBl trivial
     have l18' : L 18 = true := hd 18 (by decide)
     try simp only [l18', if_true, g18] at hBl
     have ho := hBl.own.resolve_left (by intro h; cases h)
     go_step
     go_at_call 61
     refine (sp_go HIH.out HX2.out HPR.out HBR.out.1 HBR.out.2 hBl.bel ho HIN.out hk (by omega)).mono ?_
     rintro e w' ⟨oa2, oc2, vs2, rfl, hz2, hp2, hb2⟩
     rw [HTK.out] at hz2
     refine hK.out _ _ rfl ⟨_, _, _, rfl⟩ ?_
     exact ⟨fun h => (by simp at h), fun _ => ⟨fun h => (by simp [l22] at h), oa2, oc2, vs2, rfl, hz2, hp2, hb2⟩⟩
    ·
     obtain ⟨h21, _, h0, h1, h2, h3, h4, h5, h6, h7, h8, h9, h10, h11, h12, h13, h14, h15, h16, h17, h18, h19, h20, _, -⟩ := hh
     obtain ⟨a21, n21, c21, (g21 : f 21 = _)⟩ := h21
     have g0 : f 0 = _ := h0
     have g1 : f 1 = _ := h1
     have g2 : f 2 = _ := h2
     have g3 : f 3 = _ := h3
     have g4 : f 4 = _ := h4
     have g5 : f 5 = _ := h5
     have g6 : f 6 = _ := h6
     have g7 : f 7 = _ := h7
     have g8 : f 8 = _ := h8
     obtain ⟨b9, (g9 : f 9 = _)⟩ := h9
     have g10 : f 10 = _ := h10
     obtain ⟨a11, c11, (g11 : f 11 = _)⟩ := h11
     have g12 : f 12 = _ := h12
     have g13 : f 13 = _ := h13
     have g14 : f 14 = _ := h14
     have g15 : f 15 = _ := h15
     have g16 : f 16 = _ := h16
     obtain ⟨b17, (g17 : f 17 = _)⟩ := h17
     obtain ⟨a18, c18, (g18 : f 18 = _)⟩ := h18
     have g19 : f 19 = _ := h19
     have g20 : f 20 = _ := h20
     have l21 : L 21 = true := hd 21 (by decide)
     unfold stStep
     rw [if_pos (by simp [Region.wanted])]
     intro K Q hK
     simp only [puts, Za, Zb, Zc, Zd, Ze, g21, g0, g1, g2, g3, g4, g5, g6, g7, g8, g9, g10, g11, g12, g13, g14, g15, g16, g17, g18, g19, g20]
     rw [hSd] at hS hK
     have l22 : L 22 = false := hi
     try simp only [stage, l22, l21, if_true, if_false, Bool.false_eq_true] at hS
     obtain ⟨-, h21⟩ := hS
     obtain ⟨-, oa2, oc2, vs2, e21, hz2, hp2, hb2⟩ := h21 trivial
     go_step
     refine hK.out _ _ rfl ⟨_, _, _, rfl⟩ ?_
     try simp only [l21, Bool.false_eq_true, ↓reduceIte, Nat.reduceEqDiff]
     exact ⟨fun h => (by simp at h), fun _ => ⟨fun _ => (by rw [g21]; rfl), oa2, oc2, vs2, e21, hz2, hp2, hb2⟩⟩
   case rest =>
    intro L f WZ hL hh hS
    rw [hSd] at hS
    clear hSd
    have l21 : L 21 = true := hL 21 (by decide)
    have l22 : L 22 = true := hL 22 (by decide)
    simp only [stage, l21, l22, if_true] at hS
    clear hL l21 l22
    obtain ⟨h0, h1, h2, h3, h4, h5, h6, h7, h8, h9, h10, h11, h12, h13, h14, h15, h16, h17, h18, h19, h20, h21, h22, -⟩ := hh
    have g0 : f 0 = _ := h0
    have g1 : f 1 = _ := h1
    have g2 : f 2 = _ := h2
    have g3 : f 3 = _ := h3
    have g4 : f 4 = _ := h4
    have g5 : f 5 = _ := h5
    have g6 : f 6 = _ := h6
    have g7 : f 7 = _ := h7
    have g8 : f 8 = _ := h8
    obtain ⟨b9, (g9 : f 9 = _)⟩ := h9
    have g10 : f 10 = _ := h10
    obtain ⟨a11, c11, (g11 : f 11 = _)⟩ := h11
    have g12 : f 12 = _ := h12
    have g13 : f 13 = _ := h13
    have g14 : f 14 = _ := h14
    have g15 : f 15 = _ := h15
    have g16 : f 16 = _ := h16
    obtain ⟨b17, (g17 : f 17 = _)⟩ := h17
    obtain ⟨a18, c18, (g18 : f 18 = _)⟩ := h18
    have g19 : f 19 = _ := h19
    have g20 : f 20 = _ := h20
    obtain ⟨a21, n21, c21, (g21 : f 21 = _)⟩ := h21
    obtain ⟨a22, n22, c22, (g22 : f 22 = _)⟩ := h22
    simp only [puts, Za, Zb, Zc, Zd, Ze, g0, g1, g2, g3, g4, g5, g6, g7, g8, g9, g10, g11, g12, g13, g14, g15, g16, g17, g18, g19, g20, g21, g22]
    clear h0 h1 h2 h3 h4 h5 h6 h7 h8 h10 h12 h13 h14 h15 h16 h19 h20 g0 g1 g2 g3 g4 g5 g6 g7 g8 g10 g12 g13 g14 g15 g16 g19 g20
    obtain ⟨-, h21⟩ := hS
    obtain ⟨e22, oa2, oc2, vs2, e21, hz2, hp2, hb2⟩ := h21 (by trivial)
    have e23 := e22 (by trivial)
    rw [e21, g22] at e23
    obtain ⟨rfl, rfl, rfl⟩ : a22 = oa2 ∧ n22 = vs2.length ∧ c22 = oc2 := by simpa using e23
    have HP2 := Lib.hid hp2
    have HB2 := Lib.hid hb2
    have HZ2 := Lib.hid hz2
    have hsz2 : B ≤ WZ.heap.size := by
     obtain ⟨-, -, hb9⟩ := HDR.out WZ _ _ _ hp2
     have h9 := hb9.lt
     omega
    clear h21 e22 e21 e23 hp2 hb2 hz2
    go_wp2_with (fail)
    go_roundw
    case rel => exact ⟨j + 1, a22, c22, vs2, hlt, by go_num, rfl, HZ2, HP2.out, HB2.out, hsz2⟩
    case measure => simp [intOf]; omega
  ·obtain rfl : j = el := by omega
   have t4 : decide (j < j) = false := decide_eq_false (by omega)
   obtain ⟨hpX, -, -⟩ := HDR.out wr _ _ _ hp'
   have HPX := Lib.hid hpX
   clear hp' hb' hs' hpX
   go_wp2_with (fail)
   go_ret
   rw [HEL.out]
   exact ⟨oa', oc', vs', rfl, HVZ.out, HPX.out, HBR.out.1⟩
theorem spell_any (hv : ValidD d) (hD : ∀ W, Below B W0 W → IsDfa W h d) (hm : m ≤ 1000) : ∀ (k : Nat) (q : Int) (word : List Int) (wa : Option Addr) (wc : Nat) (X : List Pc) (vs : List Wd) (oa : Option Addr) (oc : Nat) (W : World), InD d q → k < cl → SpX d W0 B ca cl wa wc word X → word.length + k ≤ 100000 → Pcs W B (oPs oa oc vs X) → Below B W0 W → B ≤ W.heap.size →
  Calls Try.prog 61 #[vDf d h, .slice ca cl cc, .int .i64 q, .int .i64 (k : Int), .slice wa word.length wc, .slice oa vs.length oc, .int .i64 (m : Int)] W (SpPost W0 B X (tk m (vs.map Wd.z) ((wordsL d k q).map fun v => word ++ v))) := by
 intro k
 have stop : ∀ (k : Nat) (q : Int) (word : List Int) (wa : Option Addr) (wc : Nat) (X : List Pc) (vs : List Wd) (oa : Option Addr) (oc : Nat) (W : World), InD d q → k < cl → SpX d W0 B ca cl wa wc word X → Pcs W B (oPs oa oc vs X) → Below B W0 W → B ≤ W.heap.size → (m ≤ vs.length ∨ canB d k q = false) →
   Calls Try.prog 61 #[vDf d h, .slice ca cl cc, .int .i64 q, .int .i64 (k : Int), .slice wa word.length wc, .slice oa vs.length oc, .int .i64 (m : Int)] W (SpPost W0 B X (tk m (vs.map Wd.z) ((wordsL d k q).map fun v => word ++ v))) := by
  intro k q word wa wc X vs oa oc W hq hk hX hP hb hsz hs
  refine (spell_stop hv hD hq hk hX hP hb hsz hs).mono ?_
  rintro e w' ⟨rfl, hb'⟩
  refine ⟨oa, oc, vs, rfl, ?_, hP.quiet (below_grows hb' none), hb.trans (hb'.mono hsz)⟩
  rcases hs with hs | hs
  ·rw [tk_full (by rw [List.length_map]; exact hs)]
  ·rw [tk_empty m _ word hs]
 induction k with
 | zero =>
  intro q word wa wc X vs oa oc W hq hk hX hwl hP hb hsz
  by_cases hs : m ≤ vs.length ∨ canB d 0 q = false
  ·exact stop 0 q word wa wc X vs oa oc W hq hk hX hP hb hsz hs
  ·have h1 : ¬ m ≤ vs.length := fun h => hs (.inl h)
   have h2 : canB d 0 q = true := by
    cases e : canB d 0 q with
    | true => rfl
    | false => exact absurd (.inr e) hs
   rw [words_zero word h2, tk_one (by rw [List.length_map]; omega)]
   exact spell_last hv hD hq hk hX (by omega) hP hb hsz hm h1 h2
 | succ k ih =>
  intro q word wa wc X vs oa oc W hq hk hX hwl hP hb hsz
  by_cases hs : m ≤ vs.length ∨ canB d (k + 1) q = false
  ·exact stop (k + 1) q word wa wc X vs oa oc W hq hk hX hP hb hsz hs
  ·have h1 : ¬ m ≤ vs.length := fun h => hs (.inl h)
   have h2 : canB d (k + 1) q = true := by
    cases e : canB d (k + 1) q with
    | true => rfl
    | false => exact absurd (.inr e) hs
   exact spell_more hv hD hm (fun q word wa wc X vs oa oc W => ih q word wa wc X vs oa oc W) hq hk hX hwl hP hb hsz h1 h2
end Go.Proofs.Ytpcbmhfnefhenaa
