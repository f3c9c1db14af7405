import Derived.Test.YtpcbmhfnefhenaaShelf
import Derived.Sort.OwnSortedInts
import Derived.Test.YtpcbmhfnefhenaaMG1
import Derived.Test.YtpcbmhfnefhenaaMG31
/-
  Rev, DfaIc
-/
set_option linter.unusedVariables false
namespace Go.Proofs.Ytpcbmhfnefhenaa
open Go.RowKit Go.Sort Go.Lib

theorem grow_none (w : World) : grow w #[] = w := by simp [grow]
theorem reverse_own {w : World} {B : Nat} {v : Value} {zs : List Int} (h : w.ownsRow B 3 1 v zs.length (ivs .i64 zs)) (hn : zs.length ≤ 9223372036854775807) :
  Calls Try.prog 57 #[v] w fun e w' => e = .returned (.tuple #[]) ∧ w'.ownsRow B 3 1 v zs.length (ivs .i64 zs.reverse) ∧ w.grownBy w' v.ownBlock := by
 have hl : zs.reverse.length = zs.length := List.length_reverse
 rcases h.2 with ⟨rfl, h0⟩ | ⟨g, cap, cur, rfl, hB, hg, h1, h2, h3, h4⟩
 ·have hz : zs = [] := List.eq_nil_of_length_eq_zero h0
  subst hz
  refine (Try.slices_Reverse_int_empty none 0 w).mono ?_
  rintro e w' ⟨rfl, rfl⟩
  exact ⟨rfl, by simpa using h, World.grownBy.refl _ _⟩
 ·rw [Nat.mul_one] at h4
  refine (Try.slices_Reverse_int g 0 cap zs w (holds_of_blockI hg (by rw [h4]; rfl)) hn).mono ?_
  rintro e w' ⟨rfl, n, rfl⟩
  have e1 := ownsRow_sortedI (n := n) (os := #[]) (e := 3) (base := B) hl hB hg h1 h2 h3
  have e2 := grownBy_sortedI (w := w) (n := n) (os := #[]) (g := g) zs.reverse.toArray
  rw [grow_none] at e1 e2
  exact ⟨rfl, e1, e2⟩
end Go.Proofs.Ytpcbmhfnefhenaa

set_option linter.unusedSimpArgs false
set_option linter.unusedVariables false
namespace Go.Proofs.Ytpcbmhfnefhenaa
open Go.RowKit
attribute [local go_sem] Oper.semAt_some

noncomputable def incR (a b : Dfa) : List Int := if vD a && vD b then (incW a b).getD [] else []
noncomputable def incOk (a b : Dfa) : Bool := vD a && vD b && (incW a b).isNone
noncomputable def incE (a b : Dfa) : Int := if vD a && vD b then 0 else 1
def GivesW (r : List Int) (ok : Bool) (x : Int) (w : World) (e : Ending) (w' : World) : Prop := (∃ aw cw, e = .returned (.tuple #[.slice aw r.length cw, .bool ok, .int .i64 x]) ∧ IsInts .i64 w' aw r.length cw r) ∧ Below w.heap.size w w'
def incPs (bm : Nat) (vs : List V4) (vq : Value) : List Pc := [.obj bm (MapObj keyP 4 (vs.map V4.p) (fun _ => .bool true)), .row 89 4 vq vs.length (qv4 vs)]
theorem box2W {a b : Dfa} {h k : DH} {w : World} (hd : IsDfa w h a) (he : IsDfa w k b) : ∃ W1 W2, w.alloc (.cells #[.int .i64 a.n, .int .i64 a.s, .slice h.fa h.fl h.fc, .slice h.aa h.al h.ac] 30) = W1 ∧ W1.alloc (.cells #[.int .i64 b.n, .int .i64 b.s, .slice k.fa k.fl k.fc, .slice k.aa k.al k.ac] 30) = W2 ∧ W1.heap.size = w.heap.size + 1 ∧ W2.heap.size = w.heap.size + 2 ∧
  ∀ W, Below (w.heap.size + 2) W2 W → (W.cell? ⟨w.heap.size, 0, none⟩ = some (.int .i64 a.n) ∧ W.cell? ⟨w.heap.size, 1, none⟩ = some (.int .i64 a.s) ∧ W.cell? ⟨w.heap.size, 2, none⟩ = some (.slice h.fa h.fl h.fc) ∧ W.cell? ⟨w.heap.size, 3, none⟩ = some (.slice h.aa h.al h.ac)) ∧
   (W.cell? ⟨w.heap.size + 1, 0, none⟩ = some (.int .i64 b.n) ∧ W.cell? ⟨w.heap.size + 1, 1, none⟩ = some (.int .i64 b.s) ∧ W.cell? ⟨w.heap.size + 1, 2, none⟩ = some (.slice k.fa k.fl k.fc) ∧ W.cell? ⟨w.heap.size + 1, 3, none⟩ = some (.slice k.aa k.al k.ac)) ∧ IsDfa W h a ∧ IsDfa W k b ∧ Below w.heap.size w W := by
 obtain ⟨W1, hW1, hs1, hb1, hO⟩ := boxDW a h w hd
 obtain ⟨W2, hW2, hs2, hb2, hP⟩ := boxDW b k W1 (he.later hb1)
 refine ⟨W1, W2, hW1, hW2, hs1, by omega, fun W hb => ?_⟩
 obtain ⟨p1, p2, p3⟩ := hO W ((hb2.mono (by omega)).trans (hb.mono (by omega)))
 obtain ⟨q1, q2, q3⟩ := hP W (hb.mono (by omega))
 rw [hs1] at q1
 exact ⟨p1, q1, p2, q2, p3⟩
set_option maxRecDepth 20000 in
set_option maxHeartbeats 4000000 in
theorem included_na {a b : Dfa} {h k : DH} {w : World} (hv : ¬ ValidD a) (hd : IsDfa w h a) (he : IsDfa w k b) : Calls Try.prog 30 #[vDf a h, vDf b k] w (GivesW [] false 1 w) := by
 obtain ⟨W1, W2, hW1, hW2, hs1, hs2, hO⟩ := box2W hd he
 obtain ⟨⟨c1, c2, c3, c4⟩, ⟨g1, g2, g3, g4⟩, hd2, he2, hb2⟩ := hO W2 (Below.refl _ _)
 have hva := valid_no hv hd2
 have HB2 := Lib.hid hb2
 unfold vDf at hva ⊢
 clear hO hd2 he2 hs2 hv hb2
 go_enter Try.func30, Try.ntmps30
 go_wp2_with (fail)
 refine hva.mono ?_
 rintro e w3 ⟨rfl, hb⟩
 have hB := HB2.out.trans (hb.mono HB2.out.size)
 go_wp2_with (fail)
 go_ret3
 exact ⟨⟨none, 0, rfl, .inl ⟨rfl, rfl, rfl, rfl⟩⟩, hB⟩
set_option maxRecDepth 20000 in
set_option maxHeartbeats 4000000 in
theorem included_nb {a b : Dfa} {h k : DH} {w : World} (hva : ValidD a) (hv : ¬ ValidD b) (hd : IsDfa w h a) (he : IsDfa w k b) : Calls Try.prog 30 #[vDf a h, vDf b k] w (GivesW [] false 1 w) := by
 obtain ⟨W1, W2, hW1, hW2, hs1, hs2, hO⟩ := box2W hd he
 obtain ⟨⟨c1, c2, c3, c4⟩, ⟨g1, g2, g3, g4⟩, hd2, he2, hb2⟩ := hO W2 (Below.refl _ _)
 have hya := valid_yes hva hd2
 have HB2 := Lib.hid hb2
 have HO := Lib.hid hO
 have HS := Lib.hid hs2
 have HVB := Lib.hid hv
 unfold vDf at hya ⊢
 clear hO hd2 he2 hs2 hv hb2 hva
 go_enter Try.func30, Try.ntmps30
 go_wp2_with (fail)
 refine hya.mono ?_
 rintro e w3 ⟨rfl, hb⟩
 obtain ⟨⟨k1, k2, k3, k4⟩, ⟨j1, j2, j3, j4⟩, hd3, he3, hb3⟩ := HO.out w3 (hb.mono (by rw [HS.out]; omega))
 have hnb := valid_no HVB.out he3
 unfold vDf at hnb
 have HB3 := Lib.hid hb3
 clear hb hd3 he3 hb3 c1 c2 c3 c4 g1 g2 g3 g4 hya
 go_wp2_with (fail)
 refine hnb.mono ?_
 rintro e w4 ⟨rfl, hb⟩
 have hB := HB3.out.trans (hb.mono HB3.out.size)
 go_wp2_with (fail)
 go_ret3
 exact ⟨⟨none, 0, rfl, .inl ⟨rfl, rfl, rfl, rfl⟩⟩, hB⟩
theorem incPs_start {W : World} {B bm : Nat} {s : P2} (hm : IsMapK keyP 4 [s] (fun _ => .bool true) W bm) (hb : B ≤ bm) : Pcs (W.alloc (.cells #[.int .i64 s.a, .int .i64 s.b, .int .i64 (-1), .int .i64 0] 89)) B (incPs bm [⟨s, -1, 0⟩] (.slice (some ⟨W.heap.size, 0, none⟩) 1 1)) := by
 have hlt := hm.lt
 have h1 : Pcs W B [.obj bm (MapObj keyP 4 [s] (fun _ => .bool true))] := Pcs.one ⟨hb, isMapK_iff.1 hm⟩
 exact h1.add (.row 89 4 (.slice (some ⟨W.heap.size, 0, none⟩) 1 1) 1 (qv4 [⟨s, -1, 0⟩])) (below_grows ((Below.refl _ _).alloc (Nat.le_refl _) _) none) (World.ownsRow_lit W _ 1 (by omega) (by unfold maxLen; omega) rfl) fun j e => by have e : some W.heap.size = some j := e; injection e with e; omega
theorem bqs_sub {α : Type} [DecidableEq α] (h : Nat) (st : Bq α) (l l' : List (Int × α)) : (bqs h st l).q.length ≤ (bqs h st (l ++ l')).q.length := by
 unfold bqs
 rw [List.foldl_append]
 exact (bqs_pre h l' (bqs h st l)).length_le
theorem ki_split (b : Dfa) (Y : Int) (l : List A3) (j : Nat) : ki b Y l = ki b Y (l.take j) ++ ki b Y (l.drop j) := by
 unfold ki
 rw [← List.map_append, List.take_append_drop]
theorem inc_store {W W' W2 : World} {B bm pb zb : Nat} {vs : List V4} {vq : Value} {p : P2} {c1 c2 : Array Value} {V : P2 → Lit} (hP : Pcs W B (incPs bm vs vq ++ [.blk pb c1, .blk zb c2, .blk (zb + 1) #[.int .i64 p.a, .int .i64 p.b]])) (hB : Below B W2 W) (hz : zb + 2 ≤ W.heap.size) (hbb : B ≤ bm)
  (hm : IsMapK keyP 4 (vs.map V4.p ++ [p]) V W' bm) (hg : W.grownBy W' (some bm)) (hV : ∀ x ∈ vs.map V4.p ++ [p], V x = .bool true) :
  Hid (Pcs W' B ([.obj bm (MapObj keyP 4 (vs.map V4.p ++ [p]) (fun _ => .bool true)), .row 89 4 vq vs.length (qv4 vs)] ++ [.blk pb c1, .blk zb c2, .blk (zb + 1) #[.int .i64 p.a, .int .i64 p.b]])) ∧ Hid (Below B W2 W') ∧ Hid (zb + 2 ≤ W'.heap.size) := by
 have hlt := ((hP.each 0 _ rfl).lt (k := bm) rfl).2
 have h1 := hP.put 0 (.obj bm (MapObj keyP 4 (vs.map V4.p ++ [p]) (fun _ => .bool true))) rfl hg ⟨hbb, isMapK_iff.1 (hm.vals hV)⟩ (fun q e => .inl e)
 exact ⟨Lib.hid h1, Lib.hid (hB.grown hg (by omega) (fun q e => by injection e with e; omega)), Lib.hid (Nat.le_trans hz hg.size)⟩
theorem quad_one {a b c d : Int} : ∀ u ∈ (#[Value.int .i64 a, .int .i64 b, .int .i64 c, .int .i64 d] : Array Value).toList, u.oneCell' = true := by
 intro u hu
 simp only [List.mem_cons, List.not_mem_nil, or_false] at hu
 rcases hu with rfl | rfl | rfl | rfl <;> rfl
theorem Pcs.left {W : World} {B : Nat} {ps qs : List Pc} (h : Pcs W B (ps ++ qs)) : Pcs W B ps := by
 have key : ∀ (i : Nat) (q : Pc), ps[i]? = some q → (ps ++ qs)[i]? = some q := fun i q hq => by
  rw [List.getElem?_append_left (List.getElem?_eq_some_iff.1 hq).1]; exact hq
 exact ⟨fun i q hq => h.each i q (key i q hq), fun i j q r hne hq hr => h.apart i j q r hne (key i q hq) (key j r hr)⟩
theorem map_made (w4 : World) (cs : Array Value) (T : TypeId) : IsMapK keyP 4 [] (fun _ => .bool true) ((w4.alloc (.cells cs T)).alloc (.map #[] 0)) (w4.heap.size + 1) := by
 have h := heap_alloc_new (w4.alloc (.cells cs T)) (.map #[] 0)
 rw [show (w4.alloc (.cells cs T)).heap.size = w4.heap.size + 1 by simp] at h
 exact isMapK_iff.2 ⟨_, h, mapObj_made keyP 4 (fun _ => .bool true)⟩
theorem map_first {w4 W6 : World} {s : P2} {V : P2 → Lit} (hm : IsMapK keyP 4 ([] ++ [s]) V W6 (w4.heap.size + 1)) (hV : V s = .bool true) (hg : ((w4.alloc (.cells #[.int .i64 s.a, .int .i64 s.b] 84)).alloc (.map #[] 0)).grownBy W6 (some (w4.heap.size + 1))) :
  (W6.cell? ⟨w4.heap.size, 0, none⟩ = some (.int .i64 s.a) ∧ W6.cell? ⟨w4.heap.size, 1, none⟩ = some (.int .i64 s.b)) ∧ IsMapK keyP 4 [s] (fun _ => .bool true) W6 (w4.heap.size + 1) ∧ Below w4.heap.size w4 W6 ∧ w4.heap.size + 2 ≤ W6.heap.size := by
 have h0 : ((w4.alloc (.cells #[.int .i64 s.a, .int .i64 s.b] 84)).alloc (.map #[] 0)).heap.size = w4.heap.size + 2 := by simp
 have hb : Below w4.heap.size w4 ((w4.alloc (.cells #[.int .i64 s.a, .int .i64 s.b] 84)).alloc (.map #[] 0)) := ((Below.refl _ _).alloc (Nat.le_refl _) _).alloc (by simp) _
 have hk : W6.heap[w4.heap.size]? = some (.cells #[.int .i64 s.a, .int .i64 s.b] 84 (0, 0)) := by
  rw [hg.block _ (by omega) (fun e => by injection e with e; omega)]
  have hb2 : Below (w4.heap.size + 1) (w4.alloc (.cells #[.int .i64 s.a, .int .i64 s.b] 84)) ((w4.alloc (.cells #[.int .i64 s.a, .int .i64 s.b] 84)).alloc (.map #[] 0)) := (Below.refl _ _).alloc (by simp) _
  rw [hb2.block _ (by omega)]
  exact heap_alloc_new w4 _
 refine ⟨⟨cell_of_row _ _ 0 _ _ _ hk, cell_of_row _ _ 1 _ _ _ hk⟩, ?_, hb.grown hg (by omega) (fun q e => by injection e with e; omega), by have := hg.size; omega⟩
 exact hm.vals fun x hx => by rw [List.nil_append] at hx; rw [List.mem_singleton.1 hx, hV]
set_option maxRecDepth 20000 in
set_option maxHeartbeats 1600000 in
theorem included_yes {a b : Dfa} {h kh : DH} {w : World} (hva : ValidD a) (hvb : ValidD b) (hd : IsDfa w h a) (he : IsDfa w kh b) : Calls Try.prog 30 #[vDf a h, vDf b kh] w (GivesW ((incW a b).getD []) (incW a b).isNone 0 w) := by
 obtain ⟨RW, hRW⟩ : ∃ R, (incW a b).getD [] = R := ⟨_, rfl⟩
 obtain ⟨RN, hRN⟩ : ∃ R, (incW a b).isNone = R := ⟨_, rfl⟩
 rw [hRW, hRN]
 have HRW := Lib.hid hRW
 have HRN := Lib.hid hRN
 clear hRW hRN
 obtain ⟨W1, W2, hW1, hW2, hs1, hs2, hO⟩ := box2W hd he
 obtain ⟨⟨c1, c2, c3, c4⟩, ⟨e1, e2, e3, e4⟩, hd2, he2, hb2⟩ := hO W2 (Below.refl _ _)
 have hya := valid_yes hva hd2
 have HO := Lib.hid hO
 have HS := Lib.hid hs2
 have HVA := Lib.hid hva
 have HVB := Lib.hid hvb
 have hmm := @run_makeMap Try.prog
 unfold vDf at hya ⊢
 clear hO hd2 he2 hs2 hb2 hva hvb hd he
 go_enter Try.func30, Try.ntmps30
 go_wp2_with (fail)
 refine hya.mono ?_
 rintro e w3 ⟨rfl, hb⟩
 replace hb := hb.mono (show w.heap.size + 2 ≤ W2.heap.size by rw [HS.out]; omega)
 obtain ⟨⟨k1, k2, k3, k4⟩, ⟨j1, j2, j3, j4⟩, hd3, he3, -⟩ := HO.out w3 hb
 have hyb := valid_yes HVB.out he3
 unfold vDf at hyb
 have HB3 := Lib.hid hb
 clear hb hd3 he3 c1 c2 c3 c4 e1 e2 e3 e4 hya hW1 hW2
 go_wp2_with (fail)
 refine hyb.mono ?_
 rintro e w4 ⟨rfl, hb⟩
 have hs3 := HB3.out.size
 have hb4 : Below (w.heap.size + 2) W2 w4 := HB3.out.trans (hb.mono (by rw [HS.out] at hs3; omega))
 obtain ⟨⟨c1, c2, c3, c4⟩, ⟨e1, e2, e3, e4⟩, hd4, he4, -⟩ := HO.out w4 hb4
 have hs4 := hb4.size
 rw [HS.out] at hs4
 have HB4 := Lib.hid hb4
 have HS4 := Lib.hid hs4
 clear hb hb4 hs3 hs4 hd4 he4 k1 k2 k3 k4 j1 j2 j3 j4 hyb
 have HKS : Hid (keyP.ok ⟨a.s, b.s⟩) := Lib.hid (keyP_ok (by have := HVA.out.2.1; have := HVA.out.1; omega) (by have := HVB.out.2.1; have := HVB.out.1; omega))
 go_wp2_with (first | (show wpList _ _ _ (⟨_, .insert 87 _ _ _, _, _, _, _⟩ :: _) _ _; refine wpList_map_entry rfl _ _ _ 87 rfl (map_made w4 _ _) Try.underlying87 (by unfold maxLen; decide) rfl ⟨a.s, b.s⟩ rfl HKS.out (by simp) (.bool true) rfl (bool_elem true) ?_; intro W6 hm6 hg6; obtain ⟨⟨s0, s1⟩, hm6, hb6, hz6⟩ := map_first hm6 (by simp) hg6))
 have hP7 := incPs_start (B := w.heap.size + 2) hm6 (by have := HS4.out; omega)
 have hB7 : Below (w.heap.size + 2) W2 (W6.alloc (.cells #[.int .i64 a.s, .int .i64 b.s, .int .i64 (-1), .int .i64 0] 89)) := (HB4.out.trans (hb6.mono HS4.out)).alloc (by have := HS4.out; omega) _
 have hz7 : w4.heap.size + 2 ≤ (W6.alloc (.cells #[.int .i64 a.s, .int .i64 b.s, .int .i64 (-1), .int .i64 0] 89)).heap.size := by simp; omega
 obtain ⟨BQ, hBQ⟩ : ∃ BQ, BQ = bq (oI a b) ⟨a.s, b.s⟩ := ⟨_, rfl⟩
 have HB0 : Hid (BQ 0 = ⟨[⟨a.s, b.s⟩], [[]], []⟩) := Lib.hid (by rw [hBQ]; rfl)
 obtain ⟨M, hM⟩ : ∃ M, nI a b = M := ⟨_, rfl⟩
 have HMM : Hid (M ≤ 1001000) := Lib.hid (by
  rw [← hM]
  unfold nI
  have h1 := HVA.out.1
  have h2 := HVB.out.1
  exact Nat.le_trans (Nat.mul_le_mul (show a.n.toNat ≤ 1000 by omega) (show b.n.toNat + 1 ≤ 1001 by omega)) (by decide))
 have HLEN : Hid (∀ k, (BQ k).q.length ≤ M) := Lib.hid (fun k => by rw [← hM, hBQ]; exact bqI_len HVA.out HVB.out k)
 have HIN : Hid (∀ k y, y ∈ (BQ k).q → InI a b y) := Lib.hid (fun k y hy => by rw [hBQ] at hy; exact bqI_in HVA.out HVB.out k y hy)
 have HST : Hid (∀ k, k < (BQ k).q.length → BQ (k + 1) = bqs k (BQ k) (ki b (gp2 (BQ k).q k).b (outsD a.arcs (gp2 (BQ k).q k).a))) := Lib.hid (fun k hk => by
  rw [hBQ] at hk ⊢
  rw [gp2_eq _ _ hk]
  exact bqh_at hk)
 have HSO : Hid (∀ k, k < (BQ k).q.length → (∀ i, i < k → badI a b (gp2 (BQ k).q i) = false) → badI a b (gp2 (BQ k).q k) = true → incW a b = some ((BQ k).w.getD k [])) := Lib.hid (fun k hk h1 h2 => by
  rw [hBQ] at hk h1 h2 ⊢
  refine incW_some HVA.out HVB.out (gp2_some hk) (fun i p hi hp => ?_) h2
  have := h1 i hi
  rw [gp2_some (show i < _ by omega)] at hp
  injection hp with hp
  rw [← hp]; exact this)
 have HNO : Hid (∀ k, (BQ k).q.length ≤ k → (∀ i, i < k → badI a b (gp2 (BQ k).q i) = false) → incW a b = none) := Lib.hid (fun k hk h1 => by
  rw [hBQ] at hk h1
  refine incW_none HVA.out HVB.out hk (fun i p hi hp => ?_)
  have := h1 i hi
  have hl := (List.getElem?_eq_some_iff.1 hp).1
  rw [gp2_some hl] at hp
  injection hp with hp
  rw [← hp]; exact this)
 have HWL : Hid (∀ k, (BQ k).w.length = (BQ k).q.length) := Lib.hid (fun k => by rw [hBQ]; exact bq_wlen _ _ k)
 have HWY : Hid (Ways [⟨⟨a.s, b.s⟩, -1, 0⟩] (BQ 0)) := Lib.hid (by rw [HB0.out]; exact Ways.start _)
 obtain ⟨bm, hbm⟩ : ∃ bm, w4.heap.size + 1 = bm := ⟨_, rfl⟩
 rw [hbm] at hP7 ⊢
 have HBM : Hid (w.heap.size + 3 ≤ bm ∧ bm = w4.heap.size + 1) := Lib.hid ⟨by have := HS4.out; omega, hbm.symm⟩
 have HZ : Hid (w4.heap.size + 2 = bm + 1) := Lib.hid (by omega)
 rw [HZ.out] at hz7
 have HP7 := Lib.hid hP7
 have HB7 := Lib.hid hB7
 have HZ7 := Lib.hid hz7
 clear hBQ hM hbm hP7 hB7 hz7 hm6 hg6 hb6 hz6 s0 s1 HKS hmm c1 c2 c3 c4 e1 e2 e3 e4 hs1
 go_loopw [4, 9, 10] (fun v4 vq c W => v4 = .slice none 0 0 ∧ ∃ (k : Nat) (vs : List V4) (aq : Option Addr) (cq : Nat), k ≤ vs.length ∧ c = .int .i64 (k : Int) ∧ vq = .slice aq vs.length cq ∧ Pcs W (w.heap.size + 2) (incPs bm vs (.slice aq vs.length cq)) ∧ Hid (Ways vs (BQ k)) ∧ Hid (∀ i, i < k → badI a b (gp2 (BQ k).q i) = false) ∧ Below (w.heap.size + 2) W2 W ∧ bm + 1 ≤ W.heap.size) (fun _ _ c _ => M - (intOf c).toNat)
 case atStart => exact ⟨rfl, 0, [⟨⟨a.s, b.s⟩, -1, 0⟩], some ⟨W6.heap.size, 0, none⟩, 1, Nat.zero_le _, rfl, rfl, HP7.out, HWY, Lib.hid (fun i hi => absurd hi (Nat.not_lt_zero _)), HB7.out, HZ7.out⟩
 case round =>
  clear HP7 HB7 HZ7 HWY
  obtain ⟨rfl, k, vs, aq, cq, hk, rfl, rfl, hP, HW, HG, hb, hz⟩ := hrel
  have hvl := HW.out.len
  have hvM : vs.length ≤ M := by rw [hvl]; exact HLEN.out k
  rcases Nat.lt_or_ge k vs.length with hlt | hge
  ·have t1 : decide (k < vs.length) = true := decide_eq_true hlt
   obtain ⟨gq, rfl, hgq, -⟩ := owns_addr (hP.row 1 rfl) (by omega)
   obtain ⟨q0, q1, -, -⟩ := own_quad (hP.row 1 rfl) k hlt
   obtain ⟨p, hp⟩ : ∃ p, (gv4 vs k).p = p := ⟨_, rfl⟩
   have hpq : gp2 (BQ k).q k = p := by rw [← HW.out.1, gp2_map hlt, hp]
   have hin : InI a b p := HIN.out k p (by rw [← hpq]; exact gp2_mem _ _ (by omega))
   rw [hp] at q0 q1
   obtain ⟨A, Y⟩ := p
   obtain ⟨⟨hA0, hA⟩, hY0, hY⟩ := hin
   obtain ⟨A, rfl⟩ := Int.eq_ofNat_of_zero_le hA0
   simp only at hA hY0 hY q0 q1
   have HPQ := Lib.hid hpq
   have HP := Lib.hid hP
   have HB := Lib.hid hb
   have HVL := Lib.hid hvl
   have HLT := Lib.hid hlt
   clear hpq hP hb hvl hk hp hA0 hlt
   go_upto_region 10 with (fail)
   obtain ⟨W8, hW8⟩ : ∃ W8, wr.alloc (.cells #[.int .i64 (A : Int), .int .i64 Y] 84) = W8 := ⟨_, rfl⟩
   have HS8 : Hid (W8.heap.size = wr.heap.size + 1) := Lib.hid (by rw [← hW8]; simp)
   have HP8 : Hid (Pcs W8 (w.heap.size + 2) (incPs bm vs (.slice (some ⟨gq, 0, none⟩) vs.length cq) ++ [.blk wr.heap.size #[.int .i64 (A : Int), .int .i64 Y]])) := Lib.hid (by rw [← hW8]; exact HP.out.new (by have := HBM.out.1; omega) _ _)
   have hB8 : Below (w.heap.size + 2) W2 W8 := by rw [← hW8]; exact HB.out.alloc (by have := HBM.out.1; omega) _
   have z0 : W8.cell? ⟨wr.heap.size, 0, none⟩ = some (.int .i64 (A : Int)) := by rw [← hW8]; exact cell_of_row _ _ 0 _ _ _ (heap_alloc_new wr _)
   have z1 : W8.cell? ⟨wr.heap.size, 1, none⟩ = some (.int .i64 Y) := by rw [← hW8]; exact cell_of_row _ _ 1 _ _ _ (heap_alloc_new wr _)
   rw [hW8]
   clear hW8 HP HB q0 q1
   obtain ⟨⟨c1, c2, c3, c4⟩, ⟨e1, e2, e3, e4⟩, hd8, he8, -⟩ := HO.out W8 hB8
   have HB8 := Lib.hid hB8
   obtain ⟨bf, of, hfa, hfc⟩ := hd8.1.fix (by have := hd8.1.length; have := HVA.out.2.2.1; omega)
   have ca := hfc W8 (Below.refl _ _) A (by have := hd8.1.length; have := HVA.out.2.2.1; omega)
   have da : A < h.fl := by have := hd8.1.length; have := HVA.out.2.2.1; omega
   rw [hfa] at c3
   have HE8 := Lib.hid he8
   clear hfc hB8 hd8 he8
   obtain ⟨BD, hBD⟩ : ∃ BD, badI a b ⟨(A : Int), Y⟩ = BD := ⟨_, rfl⟩
   have HBD := Lib.hid hBD
   clear hBD
   go_cut [67] (fun v wc => v = .bool BD ∧ wc = W8)
   case first =>
    by_cases xa : gb a.fin A = true
    ·rw [xa] at ca
     by_cases hy : Y < 0
     ·have d1 : decide (Y < 0) = true := decide_eq_true hy
      have HR : Hid (BD = true) := Lib.hid (by rw [← HBD.out]; unfold badI; simp [xa, hy])
      clear hy
      go_wp2_with (fail)
      go_meet
      case rel => exact ⟨by rw [HR.out], rfl⟩
     ·have d1 : decide (Y < 0) = false := decide_eq_false hy
      obtain ⟨Z, rfl⟩ := Int.eq_ofNat_of_zero_le (show 0 ≤ Y by omega)
      obtain ⟨bg, og, hga, hgc⟩ := HE8.out.1.fix (by have := HE8.out.1.length; have := HVB.out.2.2.1; omega)
      have cb := hgc W8 (Below.refl _ _) Z (by have := HE8.out.1.length; have := HVB.out.2.2.1; omega)
      have db : Z < kh.fl := by have := HE8.out.1.length; have := HVB.out.2.2.1; omega
      rw [hga] at e3
      obtain ⟨xb, hxb⟩ : ∃ xb, gb b.fin Z = xb := ⟨_, rfl⟩
      have HR : Hid (BD = !xb) := Lib.hid (by rw [← HBD.out]; unfold badI; simp [xa, ← hxb]; intro hh; omega)
      rw [hxb] at cb
      clear hgc hxb hy
      cases xb
      ·go_wp2_with (fail)
       go_meet
       case rel => exact ⟨by rw [HR.out]; rfl, rfl⟩
      ·go_wp2_with (fail)
       go_meet
       case rel => exact ⟨by rw [HR.out]; rfl, rfl⟩
    ·have xa : gb a.fin A = false := by simpa using xa
     rw [xa] at ca
     have HR : Hid (BD = false) := Lib.hid (by rw [← HBD.out]; unfold badI; simp [xa])
     go_wp2_with (fail)
     go_meet
     case rel => exact ⟨by rw [HR.out], rfl⟩
   case rest =>
    obtain ⟨rfl, rfl⟩ := hcut
    rw [← hfa] at c3
    clear ca hfa bf of
    cases BD
    ·have HGk : Hid (∀ i, i < k + 1 → badI a b (gp2 (BQ k).q i) = false) := Lib.hid (fun i hi => by
      rcases Nat.lt_or_ge i k with h1 | h1
      ·exact HG.out i h1
      ·rw [show i = k by omega, HPQ.out]; exact HBD.out)
     obtain ⟨-, -, hd8, -, -⟩ := HO.out wc HB8.out
     have hb8 := HB8.out
     go_wp2_with (fail)
     refine (out_in _ _ (A : Int) wc hd8 HVA.out.sorted (fun x hx => (HVA.out.arc hx).2.1) HVA.out.2.2.2.1 (by have := HVA.out.1; omega)).mono ?_
     rintro e w9 ⟨⟨ao, co, rfl, hO9⟩, hb9⟩
     have HO9 := Lib.hid hO9
     have HP9 := Lib.hid (HP8.out.quiet (below_grows hb9 none))
     have HB9 : Hid (Below (w.heap.size + 2) W2 w9) := Lib.hid (HB8.out.trans (hb9.mono (by have := HBM.out.1; have := HS8.out; omega)))
     have HZ9 : Hid (wr.heap.size + 1 ≤ w9.heap.size) := Lib.hid (by have := hb9.size; have := HS8.out; omega)
     have HOA : Hid (∀ j, j < (outsD a.arcs (A : Int)).length → ∃ l T : Nat, g3 (outsD a.arcs (A : Int)) j = ⟨A, l, T⟩ ∧ (T : Int) < a.n ∧ l ≤ 10000) := Lib.hid (fun j hj => by
      obtain ⟨l, T, h1, h2⟩ := outs_arc HVA.out hj
      refine ⟨l, T, h1, h2, ?_⟩
      have := (HVA.out.arc (outsD_mem.1 (g3_mem _ j hj)).1).2.2
      rw [h1] at this
      simp only at this
      omega)
     have hol : (outsD a.arcs (A : Int)).length ≤ 20000 := Nat.le_trans (List.length_filter_le _ _) HVA.out.2.2.2.1
     have HST1 : Hid (BQ (k + 1) = bqs k (BQ k) (ki b Y (outsD a.arcs (A : Int)))) := Lib.hid (by rw [HST.out k (by rw [← HVL.out]; exact HLT.out), HPQ.out])
     obtain ⟨OE, hOE⟩ : ∃ OE, outsD a.arcs (A : Int) = OE := ⟨_, rfl⟩
     rw [hOE] at HO9 HOA HST1 hol ⊢
     obtain ⟨IN, hIN⟩ : ∃ IN : Nat → Bq P2, IN = fun j => bqs k (BQ k) (ki b Y (OE.take j)) := ⟨_, rfl⟩
     have HI0 : Hid (IN 0 = BQ k) := Lib.hid (by rw [hIN]; rfl)
     have HIE : Hid (IN OE.length = BQ (k + 1)) := Lib.hid (by rw [hIN, HST1.out]; show bqs k (BQ k) (ki b Y (OE.take OE.length)) = _; rw [List.take_length])
     have HIS : Hid (∀ j l T : Nat, j < OE.length → g3 OE j = ⟨A, l, T⟩ → IN (j + 1) = bq1 k (IN j) ((l : Int), ⟨(T : Int), tgI b Y l⟩)) := Lib.hid (fun j l T hj hg => by
      rw [hIN]
      show bqs k (BQ k) (ki b Y (OE.take (j + 1))) = _
      rw [ki_take _ _ _ hj, bqs_snoc, hg])
     have HIW : Hid (∀ j, (IN j).w.length = (IN j).q.length) := Lib.hid (fun j => by rw [hIN]; exact bqs_wlen _ _ _ (HWL.out k))
     have HIP : Hid (∀ j, (BQ k).q <+: (IN j).q) := Lib.hid (fun j => by rw [hIN]; exact bqs_pre _ _ _)
     have HILE : Hid (∀ j, j ≤ OE.length → (IN j).q.length ≤ M) := Lib.hid (fun j hj => by
      refine Nat.le_trans ?_ (HLEN.out (k + 1))
      rw [HST1.out, hIN, ki_split b Y OE j]
      exact bqs_sub _ _ _ _)
     obtain ⟨OL, hOL⟩ : ∃ OL, OE.length = OL := ⟨_, rfl⟩
     have HOL := Lib.hid hOL
     rw [hOL] at HO9 HOA HIE HIS HILE hol ⊢
     have HW9 : Hid (Ways vs (IN 0)) := Lib.hid (by rw [HI0.out]; exact HW.out)
     obtain ⟨pb, hpb⟩ : ∃ pb, wr.heap.size = pb := ⟨_, rfl⟩
     have HPB : Hid (bm + 1 ≤ pb) := Lib.hid (by omega)
     rw [hpb] at HP9 HZ9 ⊢
     clear hIN hOL hOE hO9 hb9 hd8 hb8 HB8 HP8 HS8 z0 z1 hpb hz c1 c2 c3 c4 e1 e2 e3 e4
     go_wp2_with (fail)
     go_loopw [9, 96] (fun vq c W => ∃ (j : Nat) (vs' : List V4) (aq : Option Addr) (cq : Nat), j ≤ OL ∧ c = .int .i64 (j : Int) ∧ vq = .slice aq vs'.length cq ∧ Pcs W (w.heap.size + 2) (incPs bm vs' (.slice aq vs'.length cq) ++ [.blk pb #[.int .i64 (A : Int), .int .i64 Y]]) ∧ Hid (Ways vs' (IN j)) ∧ Below (w.heap.size + 2) W2 W ∧ pb + 1 ≤ W.heap.size) (fun _ c _ => OL - (intOf c).toNat)
     case atStart => exact ⟨0, vs, some ⟨gq, 0, none⟩, cq, Nat.zero_le _, rfl, rfl, HP9.out, HW9, HB9.out, HZ9.out⟩
     case round =>
      clear HP9 HB9 HW9 HZ9 hvM HW HG
      obtain ⟨j, vs', aq, cq, hj, rfl, rfl, hP, HW, hb, hz⟩ := hrel
      have hvl := HW.out.len
      have hvM : vs'.length ≤ M := by rw [hvl]; exact HILE.out j hj
      obtain ⟨⟨c1, c2, c3, c4⟩, ⟨e1, e2, e3, e4⟩, hdr, her, hbw⟩ := HO.out wr hb
      rcases Nat.lt_or_ge j OL with hjl | hjge
      ·have t2 : decide (j < OL) = true := decide_eq_true hjl
       obtain ⟨bo, oo, rfl, hco⟩ := (HO9.out wr hdr).fix (by omega)
       obtain ⟨l, T, hx, hT, hl⟩ := HOA.out j hjl
       obtain ⟨x1, x2, x3⟩ := hco wr (Below.refl _ _) j hjl
       rw [hx] at x1 x2 x3
       simp only at x1 x2 x3
       have HJ := Lib.hid (HIS.out j l T hjl hx)
       have HP := Lib.hid hP
       have HB := Lib.hid hb
       have HVJ := Lib.hid hvl
       have HJL := Lib.hid hjl
       obtain ⟨G, hG⟩ : ∃ G, tgI b Y l = G := ⟨_, rfl⟩
       have HTG := Lib.hid hG
       have hgr := tgI_in HVB.out Y (l : Int)
       rw [hG] at hgr HJ
       have z1 : wr.cell? ⟨pb, 1, none⟩ = some (.int .i64 Y) := ((hP.blk 2 rfl).2.cell 1).1
       clear hP hb hco hx hvl hdr her hbw hG hjl
       go_upto_region 21 with (fail)
       obtain ⟨W10, hW10⟩ : ∃ W10, (wr.alloc (.cells #[.int .i64 (A : Int), .int .i64 (l : Int), .int .i64 (T : Int)] 63)).alloc (.cells #[.int .i64 (T : Int), .int .i64 (-1)] 84) = W10 := ⟨_, rfl⟩
       have hP10 := (HP.out.new (by have := HBM.out.1; have := HPB.out; omega) #[.int .i64 (A : Int), .int .i64 (l : Int), .int .i64 (T : Int)] 63).new (by have := HBM.out.1; have := HPB.out; simp; omega) #[.int .i64 (T : Int), .int .i64 (-1)] 84
       have hB10 : Below (w.heap.size + 2) W2 W10 := by rw [← hW10]; exact (HB.out.alloc (by have := HBM.out.1; have := HPB.out; omega) _).alloc (by have := HBM.out.1; have := HPB.out; simp; omega) _
       have HS10 : Hid (W10.heap.size = wr.heap.size + 2) := Lib.hid (by rw [← hW10]; simp)
       rw [hW10] at hP10 ⊢
       rw [show (wr.alloc (.cells #[.int .i64 (A : Int), .int .i64 (l : Int), .int .i64 (T : Int)] 63)).heap.size = wr.heap.size + 1 by simp] at hP10
       have hP10 : Pcs W10 (w.heap.size + 2) (incPs bm vs' (.slice aq vs'.length cq) ++ [.blk pb #[.int .i64 (A : Int), .int .i64 Y], .blk wr.heap.size #[.int .i64 (A : Int), .int .i64 (l : Int), .int .i64 (T : Int)], .blk (wr.heap.size + 1) #[.int .i64 (T : Int), .int .i64 (-1)]]) := by simpa using hP10
       have z1 : W10.cell? ⟨pb, 1, none⟩ = some (.int .i64 Y) := ((hP10.blk 2 rfl).2.cell 1).1
       have x2 : W10.cell? ⟨wr.heap.size, 1, none⟩ = some (.int .i64 (l : Int)) := ((hP10.blk 3 rfl).2.cell 1).1
       have y1 : W10.cell? ⟨wr.heap.size + 1, 1, none⟩ = some (.int .i64 (-1)) := ((hP10.blk 4 rfl).2.cell 1).1
       have y2 := ((hP10.blk 4 rfl).2.cell 1).2
       obtain ⟨⟨c1, c2, c3, c4⟩, ⟨e1, e2, e3, e4⟩, hdr, her, hbw⟩ := HO.out W10 hB10
       have HER := Lib.hid her
       have HP10 := Lib.hid hP10
       have HB10 := Lib.hid hB10
       clear hW10 HP HB hP10 hB10 hdr her hbw x1 x3
       obtain ⟨zb, hzb⟩ : ∃ zb, wr.heap.size = zb := ⟨_, rfl⟩
       have HZB : Hid (pb + 1 ≤ zb) := Lib.hid (by omega)
       rw [hzb] at HP10 HS10 x2 y1 y2 ⊢
       clear hzb hz
       go_upto_if 105 with fail
       go_cut [] (fun wc => Pcs wc (w.heap.size + 2) (incPs bm vs' (.slice aq vs'.length cq) ++ [.blk pb #[.int .i64 (A : Int), .int .i64 Y], .blk zb #[.int .i64 (A : Int), .int .i64 (l : Int), .int .i64 (T : Int)], .blk (zb + 1) #[.int .i64 (T : Int), .int .i64 G]]) ∧ Below (w.heap.size + 2) W2 wc ∧ zb + 2 ≤ wc.heap.size)
       case first =>
        by_cases hy : 0 ≤ Y
        ·have hnx := next_any b kh Y (l : Int) W10 HER.out HVB.out.sorted HVB.out.2.2.2.1
         unfold nextV at hnx
         cases hn : nxtD b.arcs Y l with
         | none =>
          rw [hn] at hnx
          have HGG : Hid (G = -1) := Lib.hid (by rw [← HTG.out]; unfold tgI; rw [if_pos hy, hn])
          clear hn
          go_wp2_with (fail)
          refine hnx.mono ?_
          rintro e w11 ⟨rfl, hb11⟩
          have HB11 := Lib.hid hb11
          clear hb11 hnx
          go_wp2_with (fail)
          go_meet
          case rel => exact ⟨by rw [HGG.out]; exact HP10.out.quiet (below_grows HB11.out none), HB10.out.trans (HB11.out.mono (by have := HS10.out; have := HZB.out; have := HPB.out; have := HBM.out.1; omega)), by have := HB11.out.size; have := HS10.out; omega⟩
         | some z =>
          rw [hn] at hnx
          have HGG : Hid (G = z.t) := Lib.hid (by rw [← HTG.out]; unfold tgI; rw [if_pos hy, hn])
          clear hn
          go_wp2_with (fail)
          refine hnx.mono ?_
          rintro e w11 ⟨rfl, hb11⟩
          have HP11 := Lib.hid (HP10.out.quiet (below_grows hb11 none))
          have HB11 : Hid (Below (w.heap.size + 2) W2 w11) := Lib.hid (HB10.out.trans (hb11.mono (by have := HS10.out; have := HZB.out; have := HPB.out; have := HBM.out.1; omega)))
          have HZ11 : Hid (zb + 2 ≤ w11.heap.size) := Lib.hid (by have := hb11.size; have := HS10.out; omega)
          have y1 := ((HP11.out.blk 4 rfl).2.cell 1).1
          have y2 := ((HP11.out.blk 4 rfl).2.cell 1).2
          clear hb11 hnx
          go_wp2_with (fail)
          go_meet
          case rel => exact ⟨by rw [HGG.out]; exact HP11.out.blkStore 4 rfl 1 _, HB11.out.setCell (by have := HZB.out; have := HPB.out; have := HBM.out.1; show _ ≤ zb + 1; omega) _, by rw [World.size_setCell]; exact HZ11.out⟩
        ·have HGG : Hid (G = -1) := Lib.hid (by rw [← HTG.out]; unfold tgI; rw [if_neg hy])
         go_wp2_with (fail)
         go_meet
         case rel => exact ⟨by rw [HGG.out]; exact HP10.out, HB10.out, by rw [HS10.out]; omega⟩
       case rest =>
        obtain ⟨hPc, hBc, hzc⟩ := hcut
        have HOK : Hid (keyP.ok ⟨(T : Int), G⟩) := Lib.hid (keyP_ok (by have := HVA.out.1; omega) (by have := HVB.out.1; omega))
        have HM : Hid (IsMapK keyP 4 (vs'.map V4.p) (fun _ => .bool true) wc bm) := Lib.hid (isMapK_iff.2 (hPc.each 0 _ rfl).2)
        have y0 : wc.cell? ⟨zb + 1, 0, none⟩ = some (.int .i64 (T : Int)) := ((hPc.blk 4 rfl).2.cell 0).1
        have y1 : wc.cell? ⟨zb + 1, 1, none⟩ = some (.int .i64 G) := ((hPc.blk 4 rfl).2.cell 1).1
        by_cases hm : (⟨(T : Int), G⟩ : P2) ∈ vs'.map V4.p
        ·have HMI := Lib.hid hm
         have HW2 : Hid (Ways vs' (IN (j + 1))) := Lib.hid (by rw [HJ.out]; exact HW.out.old (by rw [← HW.out.1]; exact hm))
         have HPc := Lib.hid hPc
         have HBc := Lib.hid hBc
         clear hm hPc hBc
         go_wp2_with (at_lookup; refine wpList_map_at_yes rfl _ _ 87 rfl HM.out (elemAt_bool Try.underlying4) Try.underlying87 (.bool false) (zeroB _) (bool_elem false) rfl ⟨(T : Int), G⟩ rfl HOK.out HMI.out (v := .bool true) rfl ?_)
         go_roundw
         case rel => exact ⟨j + 1, vs', aq, cq, HJL.out, by go_num, rfl, Pcs.init (ps := _ ++ [_]) (Pcs.init (ps := _ ++ [_, _]) (by simpa using HPc.out)), HW2, HBc.out, by have := HZB.out; omega⟩
         case measure => simp [intOf]; omega
        ·have HMI := Lib.hid hm
         have HW2 : Hid (Ways (vs' ++ [⟨⟨(T : Int), G⟩, k, l⟩]) (IN (j + 1))) := Lib.hid (by
          rw [HJ.out]
          exact HW.out.new (x := ((l : Int), (⟨(T : Int), G⟩ : P2))) (HIW.out j) (Nat.lt_of_lt_of_le (by rw [← HVL.out]; exact HLT.out) (HIP.out j).length_le) (by rw [← HW.out.1]; exact hm))
         have HPc := Lib.hid hPc
         have HBc := Lib.hid hBc
         have hml : (vs'.map V4.p).length < maxLen := by rw [List.length_map]; unfold maxLen; have := HMM.out; omega
         have HML := Lib.hid hml
         clear hm hPc hBc hml
         go_wp2_with (first | (at_lookup; refine wpList_map_at_no rfl _ _ 87 rfl HM.out (elemAt_bool Try.underlying4) Try.underlying87 (.bool false) (zeroB _) (bool_elem false) rfl ⟨(T : Int), G⟩ rfl HOK.out HMI.out (v := .bool false) rfl ?_) | (at_mapUpdate; refine wpList_map_store rfl _ _ _ 87 rfl HM.out Try.underlying87 HML.out rfl ⟨(T : Int), G⟩ rfl HOK.out HMI.out (.bool true) rfl (bool_elem true) ?_; intro W12 hm12 hg12; obtain ⟨HP12, HB12, HZ12⟩ := inc_store HPc.out HBc.out hzc (by have := HZB.out; have := HPB.out; have := HBM.out.1; omega) hm12 hg12 (fun x _ => by simp); have y0 : W12.cell? ⟨zb + 1, 0, none⟩ = some (.int .i64 (T : Int)) := ((HP12.out.blk 4 rfl).2.cell 0).1; have y1 : W12.cell? ⟨zb + 1, 1, none⟩ = some (.int .i64 G) := ((HP12.out.blk 4 rfl).2.cell 1).1; have x2 : W12.cell? ⟨zb, 1, none⟩ = some (.int .i64 (l : Int)) := ((HP12.out.blk 3 rfl).2.cell 1).1; have HP13 := Lib.hid (HP12.out.quiet (below_grows ((Below.refl _ _).alloc (Nat.le_refl _) (.cells #[.int .i64 (T : Int), .int .i64 G, .int .i64 (k : Int), .int .i64 (l : Int)] 89)) none)); have HB13 : Hid (Below (w.heap.size + 2) W2 (W12.alloc (.cells #[.int .i64 (T : Int), .int .i64 G, .int .i64 (k : Int), .int .i64 (l : Int)] 89))) := Lib.hid (HB12.out.alloc (by have := HZ12.out; have := HZB.out; have := HPB.out; have := HBM.out.1; omega) _); have HZ13 : Hid (w.heap.size + 2 ≤ (W12.alloc (.cells #[.int .i64 (T : Int), .int .i64 G, .int .i64 (k : Int), .int .i64 (l : Int)] 89)).heap.size ∧ pb + 1 ≤ (W12.alloc (.cells #[.int .i64 (T : Int), .int .i64 G, .int .i64 (k : Int), .int .i64 (l : Int)] 89)).heap.size) := Lib.hid (by have := HZ12.out; have := HZB.out; have := HPB.out; have := HBM.out.1; constructor <;> (simp; omega)); clear hm12 hg12) | (at_builtin; refine app_pcs elV rfl _ _ rfl 1 rfl HP13.out rfl rfl (new_src W12 #[.int .i64 (T : Int), .int .i64 G, .int .i64 (k : Int), .int .i64 (l : Int)] _ rfl) quad_one (by have := HMM.out; omega) HZ13.out.1 ?_; intro a14 c14 w14 hp14 hb14))
         go_roundw
         case rel =>
          refine ⟨j + 1, vs' ++ [⟨⟨(T : Int), G⟩, k, l⟩], a14, c14, HJL.out, by go_num, by rw [List.length_append]; rfl, ?_, HW2, HB13.out.trans hb14, Nat.le_trans HZ13.out.2 hb14.size⟩
          have h1 := Pcs.left (qs := [.blk zb #[.int .i64 (A : Int), .int .i64 (l : Int), .int .i64 (T : Int)], .blk (zb + 1) #[.int .i64 (T : Int), .int .i64 G]]) (ps := [.obj bm (MapObj keyP 4 (vs'.map V4.p ++ [⟨(T : Int), G⟩]) (fun _ => .bool true)), .row 89 4 (.slice a14 (vs'.length + 1) c14) (vs'.length + 1) (qv4 vs' ++ [.int .i64 (T : Int), .int .i64 G, .int .i64 (k : Int), .int .i64 (l : Int)]), .blk pb #[.int .i64 (A : Int), .int .i64 Y]]) hp14
          unfold incPs
          rw [List.map_append, qv4_append, List.length_append]
          exact h1
         case measure => simp [intOf]; omega
      ·obtain rfl : j = OL := by omega
       have t2 : decide (j < j) = false := decide_eq_false (by omega)
       have HWE : Hid (Ways vs' (BQ (k + 1))) := Lib.hid (by rw [← HIE.out]; exact HW.out)
       have HGN1 : Hid (∀ i, i < k + 1 → badI a b (gp2 (BQ (k + 1)).q i) = false) := Lib.hid (fun i hi => by
        have h1 := HGk.out i hi
        obtain ⟨t, ht⟩ := HIP.out j
        rw [HIE.out] at ht
        rw [← ht, show gp2 ((BQ k).q ++ t) i = gp2 (BQ k).q i by
         have h2 := HVL.out
         have h3 := HLT.out
         unfold gp2
         rw [List.getD_eq_getElem?_getD, List.getD_eq_getElem?_getD, List.getElem?_append_left (by omega)]]
        exact h1)
       have hkv : k + 1 ≤ vs'.length := by
        rw [hvl]
        have h1 := (HIP.out j).length_le
        have h2 := HVL.out
        have h3 := HLT.out
        omega
       have HKV := Lib.hid hkv
       have HP := Lib.hid (Pcs.init (p := .blk pb #[.int .i64 (A : Int), .int .i64 Y]) hP)
       have HB := Lib.hid hb
       have hk1 : k < M := by omega
       have hk2 : k < 1001000 := by have := HMM.out; omega
       clear hkv hP hb hdr her hbw hvl hjge hj
       go_wp2_with (fail)
       go_roundw
       case rel => exact ⟨rfl, k + 1, vs', aq, cq, HKV.out, by go_num, rfl, HP.out, HWE, HGN1, HB.out, by have := HPB.out; omega⟩
       case measure => simp [intOf]; omega
    ·obtain ⟨WK, hWK⟩ : ∃ WK, (BQ k).w.getD k [] = WK := ⟨_, rfl⟩
     have HIW : Hid (incW a b = some WK) := Lib.hid (by rw [← hWK]; exact HSO.out k (by rw [← HVL.out]; exact HLT.out) HG.out (by rw [HPQ.out]; exact HBD.out))
     have HWK := Lib.hid hWK
     have hwl : WK.length ≤ k := by rw [← hWK]; exact HW.out.word_le k k (Nat.le_refl _) HLT.out
     have HGK : Hid (RW = WK) := Lib.hid (by rw [← HRW.out, HIW.out]; rfl)
     have HGN : Hid (RN = false) := Lib.hid (by rw [← HRN.out, HIW.out]; rfl)
     have hb8 := HB8.out
     have hkM : k ≤ 1001000 := by have := HLT.out; have := HMM.out; omega
     have HP8' : Hid (∀ i, i < vs.length → wc.cell? ⟨gq, i * 4 + 2, none⟩ = some (.int .i64 (gv4 vs i).h) ∧ wc.cell? ⟨gq, i * 4 + 3, none⟩ = some (.int .i64 (gv4 vs i).l)) := Lib.hid (fun i hi => (own_quad (HP8.out.row 1 rfl) i hi).2.2)
     clear hWK z0 z1 hz c1 c2 c3 c4 e1 e2 e3 e4
     go_wp2_with (fail)
     go_loopw [4, 12] (fun v4 c W => ∃ (i : Nat) (word : List Int) (aw : Option Addr) (cw : Nat), i < vs.length ∧ c = .int .i64 (i : Int) ∧ v4 = .slice aw word.length cw ∧ Hid (WK = (BQ k).w.getD i [] ++ word.reverse) ∧ W.ownsRow wc.heap.size 3 1 (.slice aw word.length cw) word.length (ivs .i64 word) ∧ Below wc.heap.size wc W) (fun _ c _ => (intOf c).toNat)
     case atStart => exact ⟨k, [], none, 0, HLT.out, rfl, rfl, Lib.hid (by rw [HWK.out]; simp), World.ownsRow_nil _ _ _ _, Below.refl _ _⟩
     case round =>
      obtain ⟨i, word, aw, cw, hi, rfl, rfl, HWD, ho, hbr⟩ := hrel
      obtain ⟨h2, h3⟩ := HP8'.out i hi
      have h2' := (hbr.cell (p := ⟨gq, i * 4 + 2, none⟩) (lt_of_cell h2)).trans h2
      have h3' := (hbr.cell (p := ⟨gq, i * 4 + 3, none⟩) (lt_of_cell h3)).trans h3
      have hgl : gq < wc.heap.size := lt_of_cell h2
      clear h2 h3
      have hwl2 : word.length ≤ 1001000 := by
       have h5 := congrArg List.length HWD.out
       rw [List.length_append, List.length_reverse] at h5
       omega
      have hbr2 : Below (w.heap.size + 2) W2 wr := hb8.trans (hbr.mono (by have h9 := hb8.size; rw [HS.out] at h9; exact h9))
      have HBR := Lib.hid hbr
      have HBR2 := Lib.hid hbr2
      rcases Nat.eq_zero_or_pos i with rfl | h0
      ·have e0 := HW.out.2.1
       rw [e0] at h2'
       have HWE : Hid (WK = word.reverse) := Lib.hid (by rw [HWD.out, HW.out.2.2.1]; rfl)
       have hrv := reverse_own (zs := word) ho (by omega)
       clear e0 HWD hwl hbr hbr2 hb8
       go_wp2_with (fail)
       refine hrv.mono ?_
       rintro e w4 ⟨rfl, hor, hgr⟩
       have hb4 := HBR.out.grown hgr HBR.out.size (fun q hq => (ho.lt q hq).1)
       have hb5 : Below w.heap.size w w4 := by
        have h9 := HB8.out.trans (hb4.mono (by have h9 := HB8.out.size; rw [HS.out] at h9; exact h9))
        exact (HO.out w4 h9).2.2.2.2
       obtain ⟨hii, -⟩ := IsInts.of_owns hor
       clear hor hgr hb4 hrv
       go_wp2_with (fail)
       go_ret3
       rw [HGK.out, HGN.out, HWE.out]
       unfold GivesW
       rw [List.length_reverse]
       exact ⟨⟨aw, cw, rfl, hii⟩, hb5⟩
      ·obtain ⟨y1, y2, y3⟩ := HW.out.2.2.2 i h0 hi
       obtain ⟨H, hH⟩ : ∃ H, (gv4 vs i).h = H := ⟨_, rfl⟩
       obtain ⟨LL, hLL⟩ : ∃ L, (gv4 vs i).l = L := ⟨_, rfl⟩
       rw [hH] at h2' y1 y2 y3
       rw [hLL] at h3' y3
       obtain ⟨H, rfl⟩ := Int.eq_ofNat_of_zero_le y1
       have HWE : Hid (WK = (BQ k).w.getD H [] ++ (word ++ [LL]).reverse) := Lib.hid (by rw [HWD.out, y3, List.reverse_append]; simp)
       have HH : Hid (H < i) := Lib.hid (by omega)
       clear y1 y2 y3 hH hLL HWD hwl hbr hbr2 hb8
       go_wp2_with (at_builtin; refine app_one (k := .i64) elI64 rfl _ _ rfl rfl ho rfl (by omega) HBR.out.size ?_; intro a6 c6 w6 ho6 hb6; have h6 := (hb6.cell (p := ⟨gq, i * 4 + 2, none⟩) hgl).trans h2')
       go_roundw
       case rel => exact ⟨H, word ++ [LL], a6, c6, by have := HH.out; omega, rfl, by rw [List.length_append]; rfl, HWE, by rw [List.length_append]; exact ho6, HBR.out.trans hb6⟩
       case measure => have := HH.out; simp [intOf]; omega
  ·have HR1 : Hid (RW = [] ∧ RN = true) := Lib.hid (by
    have := HNO.out k (by omega) HG.out
    exact ⟨by rw [← HRW.out, this]; rfl, by rw [← HRN.out, this]; rfl⟩)
   have t1 : decide (k < vs.length) = false := decide_eq_false (by omega)
   obtain ⟨-, -, -, -, hbw⟩ := HO.out wr hb
   clear hge hk hvl
   go_wp2_with (fail)
   go_ret3
   rw [HR1.out.1, HR1.out.2]
   exact ⟨⟨none, 0, rfl, .inl ⟨rfl, rfl, rfl, rfl⟩⟩, hbw⟩
theorem included_any {a b : Dfa} {h k : DH} {w : World} (hd : IsDfa w h a) (he : IsDfa w k b) : Calls Try.prog 30 #[vDf a h, vDf b k] w (GivesW (incR a b) (incOk a b) (incE a b) w) := by
 unfold incR incOk incE
 by_cases ha : ValidD a
 ·by_cases hb : ValidD b
  ·rw [vD_yes ha, vD_yes hb]
   exact included_yes ha hb hd he
  ·rw [vD_yes ha, vD_no hb]
   exact included_nb ha hb hd he
 ·rw [vD_no ha]
  exact included_na ha hd he
end Go.Proofs.Ytpcbmhfnefhenaa
