import Derived.Test.YtpcbmhfnefhenaaMG22
import Derived.Test.YtpcbmhfnefhenaaMG27
import Derived.Test.YtpcbmhfnefhenaaMG30
import Derived.Test.YtpcbmhfnefhenaaMG32
/-
  DfaPw, DfaIp
-/
set_option linter.unusedSimpArgs false
set_option linter.unusedVariables false
namespace Go.Proofs.Ytpcbmhfnefhenaa
open List (foldr_cons foldr_nil setIfInBounds_toArray set_cons_succ set_cons_zero)
open Go.RowKit
attribute [local go_sem] Oper.semAt_some

noncomputable def prodR (a b : Dfa) : Dfa := if vD a && vD b then prodD a b else zeroD
noncomputable def prodE (a b : Dfa) : Int := if vD a && vD b then 0 else 1
theorem box3W {a b : Dfa} {h k : DH} {w : World} (hd : IsDfa w h a) (he : IsDfa w k b) : ∃ W1 W2 W3, w.alloc (.cells #[.int .i64 a.n, .int .i64 a.s, .slice h.fa h.fl h.fc, .slice h.aa h.al h.ac] 30) = W1 ∧ W1.alloc (.cells #[.int .i64 b.n, .int .i64 b.s, .slice k.fa k.fl k.fc, .slice k.aa k.al k.ac] 30) = W2 ∧ W2.alloc (.cells #[.int .i64 0, .int .i64 0, .slice none 0 0, .slice none 0 0] 30) = W3 ∧ W1.heap.size = w.heap.size + 1 ∧ W2.heap.size = w.heap.size + 2 ∧ W3.heap.size = w.heap.size + 3 ∧
  ∀ W, Below (w.heap.size + 3) W3 W → (W.cell? ⟨w.heap.size, 0, none⟩ = some (.int .i64 a.n) ∧ W.cell? ⟨w.heap.size, 1, none⟩ = some (.int .i64 a.s) ∧ W.cell? ⟨w.heap.size, 2, none⟩ = some (.slice h.fa h.fl h.fc) ∧ W.cell? ⟨w.heap.size, 3, none⟩ = some (.slice h.aa h.al h.ac)) ∧
   (W.cell? ⟨w.heap.size + 1, 0, none⟩ = some (.int .i64 b.n) ∧ W.cell? ⟨w.heap.size + 1, 1, none⟩ = some (.int .i64 b.s) ∧ W.cell? ⟨w.heap.size + 1, 2, none⟩ = some (.slice k.fa k.fl k.fc) ∧ W.cell? ⟨w.heap.size + 1, 3, none⟩ = some (.slice k.aa k.al k.ac)) ∧ IsDfa W h a ∧ IsDfa W k b ∧ Below w.heap.size w W ∧ W.heap[w.heap.size + 2]? = some (.cells #[.int .i64 0, .int .i64 0, .slice none 0 0, .slice none 0 0] 30 (0, 0)) := by
 obtain ⟨W1, W2, hW1, hW2, hs1, hs2, hO⟩ := box2W hd he
 have hb : Below W2.heap.size W2 (W2.alloc (.cells #[.int .i64 0, .int .i64 0, .slice none 0 0, .slice none 0 0] 30)) := (Below.refl _ _).alloc (Nat.le_refl _) _
 have hz := heap_alloc_new W2 (.cells #[.int .i64 0, .int .i64 0, .slice none 0 0, .slice none 0 0] 30)
 refine ⟨W1, W2, _, hW1, hW2, rfl, hs1, hs2, by simp; omega, fun W hbW => ?_⟩
 obtain ⟨p1, p2, p3, p4, p5⟩ := hO W ((hb.mono (by omega)).trans (hbW.mono (by omega)))
 exact ⟨p1, p2, p3, p4, p5, by rw [hbW.block _ (by omega), ← hs2]; exact hz⟩
set_option maxRecDepth 20000 in
set_option maxHeartbeats 4000000 in
theorem product_na {a b : Dfa} {h k : DH} {w : World} (hv : ¬ ValidD a) (hd : IsDfa w h a) (he : IsDfa w k b) : Calls Try.prog 29 #[vDf a h, vDf b k] w (GivesDE zeroD 1 w) := by
 obtain ⟨W1, W2, W3, hW1, hW2, hW3, hs1, hs2, hs3, hO⟩ := box3W hd he
 obtain ⟨⟨c1, c2, c3, c4⟩, ⟨g1, g2, g3, g4⟩, hd2, he2, hb2, hZ2⟩ := hO W3 (Below.refl _ _)
 have hva := valid_no hv hd2
 have HO := Lib.hid hO
 have HS := Lib.hid hs3
 unfold vDf at hva ⊢
 clear hO hd2 he2 hs3 hv hb2 hZ2
 go_enter Try.func29, Try.ntmps29
 go_wp2_with (fail)
 refine hva.mono ?_
 rintro e w4 ⟨rfl, hb⟩
 obtain ⟨-, -, -, -, hb4, hZ4⟩ := HO.out w4 (hb.mono (by rw [HS.out]; omega))
 have HB4 := Lib.hid hb4
 clear hb hb4 hva
 go_wp2_with (show wpList _ _ _ (⟨_, .store 30 _ _, _, _, _, _⟩ :: _) _ _; refine wpList_store_row rfl 30 _ _ rfl (w.heap.size + 2) #[.int .i64 0, .int .i64 0, .slice none 0 0, .slice none 0 0] rfl rfl _ _ hZ4 dfa_i rfl (dfa_one _ _ _ _ _ _ _ _) ?_)
 refine bodyPost_ret (results_cell_row2 rfl _ _ (w.heap.size + 2) _ _ _ _ rfl rfl (setRow_heap _ _ _ _ _ _ hZ4) Try.underlying30 rfl dfa_i) rfl ?_
 exact ⟨⟨⟨none, 0, 0, none, 0, 0⟩, rfl, isDfa_zero _⟩, below_setRow HB4.out (by omega) _⟩
set_option maxRecDepth 20000 in
set_option maxHeartbeats 4000000 in
theorem product_nb {a b : Dfa} {h k : DH} {w : World} (hva : ValidD a) (hv : ¬ ValidD b) (hd : IsDfa w h a) (he : IsDfa w k b) : Calls Try.prog 29 #[vDf a h, vDf b k] w (GivesDE zeroD 1 w) := by
 obtain ⟨W1, W2, W3, hW1, hW2, hW3, hs1, hs2, hs3, hO⟩ := box3W hd he
 obtain ⟨⟨c1, c2, c3, c4⟩, ⟨g1, g2, g3, g4⟩, hd2, he2, hb2, hZ2⟩ := hO W3 (Below.refl _ _)
 have hya := valid_yes hva hd2
 have HO := Lib.hid hO
 have HS := Lib.hid hs3
 have HVB := Lib.hid hv
 unfold vDf at hya ⊢
 clear hO hd2 he2 hs3 hv hb2 hZ2 hva
 go_enter Try.func29, Try.ntmps29
 go_wp2_with (fail)
 refine hya.mono ?_
 rintro e w4 ⟨rfl, hb⟩
 have hb4' : Below (w.heap.size + 3) W3 w4 := hb.mono (by rw [HS.out]; omega)
 obtain ⟨⟨k1, k2, k3, k4⟩, ⟨j1, j2, j3, j4⟩, hd4, he4, hb4, hZ4⟩ := HO.out w4 hb4'
 have hnb := valid_no HVB.out he4
 unfold vDf at hnb
 have HB4 := Lib.hid hb4'
 have HS4 : Hid (w.heap.size + 3 ≤ w4.heap.size) := Lib.hid (by have := hb4'.size; rw [HS.out] at this; exact this)
 clear hb hb4' hb4 hd4 he4 c1 c2 c3 c4 g1 g2 g3 g4 hya hZ4
 go_wp2_with (fail)
 refine hnb.mono ?_
 rintro e w5 ⟨rfl, hb⟩
 obtain ⟨-, -, -, -, hb5, hZ5⟩ := HO.out w5 (HB4.out.trans (hb.mono HS4.out))
 have HB5 := Lib.hid hb5
 clear hb hb5 hnb k1 k2 k3 k4 j1 j2 j3 j4
 go_wp2_with (show wpList _ _ _ (⟨_, .store 30 _ _, _, _, _, _⟩ :: _) _ _; refine wpList_store_row rfl 30 _ _ rfl (w.heap.size + 2) #[.int .i64 0, .int .i64 0, .slice none 0 0, .slice none 0 0] rfl rfl _ _ hZ5 dfa_i rfl (dfa_one _ _ _ _ _ _ _ _) ?_)
 refine bodyPost_ret (results_cell_row2 rfl _ _ (w.heap.size + 2) _ _ _ _ rfl rfl (setRow_heap _ _ _ _ _ _ hZ5) Try.underlying30 rfl dfa_i) rfl ?_
 exact ⟨⟨⟨none, 0, 0, none, 0, 0⟩, rfl, isDfa_zero _⟩, below_setRow HB5.out (by omega) _⟩
def pqV (q : List P2) (p : P2) : Lit := .int .i64 ((q.idxOf p : Nat) : Int)
def prodPs (bm bo : Nat) (st : Bq P2) (fs : List Bool) (vq vfb vf vab va : Value) : List Pc :=
 [.obj bm (MapObj keyP 3 st.q (pqV st.q)), .blk bo #[.int .i64 0, .int .i64 0, vfb, vab], .row 84 2 vq st.q.length (pv2 st.q), .row 4 1 vf fs.length (bvs fs), .row 63 3 va st.a.length (tvs st.a)]
theorem mapI_made (w4 : World) (cs : Array Value) (T : TypeId) : IsMapK keyP 3 [] (fun _ => .int .i64 0) ((w4.alloc (.cells cs T)).alloc (.map #[] 0)) (w4.heap.size + 1) := by
 have h := heap_alloc_new (w4.alloc (.cells cs T)) (.map #[] 0)
 rw [show (w4.alloc (.cells cs T)).heap.size = w4.heap.size + 1 by simp] at h
 exact isMapK_iff.2 ⟨_, h, mapObj_made keyP 3 (fun _ => .int .i64 0)⟩
theorem mapI_first {w4 W6 : World} {s : P2} {V : P2 → Lit} (hm : IsMapK keyP 3 ([] ++ [s]) V W6 (w4.heap.size + 1)) (hV : V s = .int .i64 0) (hg : ((w4.alloc (.cells #[.int .i64 s.a, .int .i64 s.b] 84)).alloc (.map #[] 0)).grownBy W6 (some (w4.heap.size + 1))) :
  (W6.cell? ⟨w4.heap.size, 0, none⟩ = some (.int .i64 s.a) ∧ W6.cell? ⟨w4.heap.size, 1, none⟩ = some (.int .i64 s.b)) ∧ IsMapK keyP 3 [s] (pqV [s]) W6 (w4.heap.size + 1) ∧ Below w4.heap.size w4 W6 ∧ w4.heap.size + 2 ≤ W6.heap.size := by
 have h0 : ((w4.alloc (.cells #[.int .i64 s.a, .int .i64 s.b] 84)).alloc (.map #[] 0)).heap.size = w4.heap.size + 2 := by simp
 have hb : Below w4.heap.size w4 ((w4.alloc (.cells #[.int .i64 s.a, .int .i64 s.b] 84)).alloc (.map #[] 0)) := ((Below.refl _ _).alloc (Nat.le_refl _) _).alloc (by simp) _
 have hk : W6.heap[w4.heap.size]? = some (.cells #[.int .i64 s.a, .int .i64 s.b] 84 (0, 0)) := by
  rw [hg.block _ (by omega) (fun e => by injection e with e; omega)]
  have hb2 : Below (w4.heap.size + 1) (w4.alloc (.cells #[.int .i64 s.a, .int .i64 s.b] 84)) ((w4.alloc (.cells #[.int .i64 s.a, .int .i64 s.b] 84)).alloc (.map #[] 0)) := (Below.refl _ _).alloc (by simp) _
  rw [hb2.block _ (by omega)]
  exact heap_alloc_new w4 _
 refine ⟨⟨cell_of_row _ _ 0 _ _ _ hk, cell_of_row _ _ 1 _ _ _ hk⟩, ?_, hb.grown hg (by omega) (fun q e => by injection e with e; omega), by have := hg.size; omega⟩
 exact hm.vals fun x hx => by rw [List.nil_append] at hx; rw [List.mem_singleton.1 hx, hV]; simp [pqV]
theorem prodPs_start {W : World} {B bm : Nat} {s : P2} (hm : IsMapK keyP 3 [s] (pqV [s]) W bm) (hb : B ≤ bm) :
  Pcs ((W.alloc (.cells #[.int .i64 s.a, .int .i64 s.b] 84)).alloc (.cells #[.int .i64 0, .int .i64 0, .slice none 0 0, .slice none 0 0] 30)) B (prodPs bm (W.heap.size + 1) ⟨[s], [[]], []⟩ [] (.slice (some ⟨W.heap.size, 0, none⟩) 1 1) (.slice none 0 0) (.slice none 0 0) (.slice none 0 0) (.slice none 0 0)) := by
 have hlt := hm.lt
 have h1 : Pcs W B [.obj bm (MapObj keyP 3 [s] (pqV [s]))] := Pcs.one ⟨hb, isMapK_iff.1 hm⟩
 have h2 := h1.add (.row 84 2 (.slice (some ⟨W.heap.size, 0, none⟩) 1 1) 1 (pv2 [s])) (below_grows ((Below.refl _ _).alloc (Nat.le_refl _) (.cells #[.int .i64 s.a, .int .i64 s.b] 84)) none) (World.ownsRow_lit W _ 1 (by omega) (by unfold maxLen; omega) rfl) fun j e => by have e : some W.heap.size = some j := e; injection e with e; omega
 have h3 := h2.new (by simp; omega) #[.int .i64 0, .int .i64 0, .slice none 0 0, .slice none 0 0] 30
 rw [show (W.alloc (.cells #[.int .i64 s.a, .int .i64 s.b] 84)).heap.size = W.heap.size + 1 by simp] at h3
 have h4 := (h3.empty 4 1).empty 63 3
 refine Pcs.perm h4 ?_
 simp only [List.nil_append, List.cons_append, prodPs]
 exact .cons _ (.swap _ _ _)
theorem pair_one {a b : Int} : ∀ u ∈ (#[Value.int .i64 a, .int .i64 b] : Array Value).toList, u.oneCell' = true := by
 intro u hu
 simp only [List.mem_cons, List.not_mem_nil, or_false] at hu
 rcases hu with rfl | rfl <;> rfl
theorem arc_one {a b c : Int} : ∀ u ∈ (#[Value.int .i64 a, .int .i64 b, .int .i64 c] : Array Value).toList, u.oneCell' = true := by
 intro u hu
 simp only [List.mem_cons, List.not_mem_nil, or_false] at hu
 rcases hu with rfl | rfl | rfl <;> rfl
theorem prod_vals {q : List P2} {p : P2} (hp : p ∉ q) : ∀ x ∈ q ++ [p], (if x = p then Lit.int .i64 ((q.length : Nat) : Int) else pqV q x) = pqV (q ++ [p]) x := fun x hx => by
 unfold pqV
 rw [List.idxOf_append]
 by_cases e : x = p
 ·subst e
  rw [if_pos rfl, if_neg hp]
  simp
 ·rw [if_neg e]
  rcases List.mem_append.1 hx with h | h
  ·rw [if_pos h]
  ·exact absurd (List.mem_singleton.1 h) e
theorem prod_store {W W' W3 : World} {B bm bo pb xb qb : Nat} {st : Bq P2} {fs : List Bool} {vq vfb vf vab va : Value} {p : P2} {c1 c2 c3 : Array Value} {V : P2 → Lit} (hP : Pcs W B (prodPs bm bo st fs vq vfb vf vab va ++ [.blk pb c1, .blk xb c2, .blk qb c3])) (hB : Below B W3 W) (hz : qb + 1 ≤ W.heap.size) (hbb : B ≤ bm)
  (hm : IsMapK keyP 3 (st.q ++ [p]) V W' bm) (hg : W.grownBy W' (some bm)) (hV : ∀ x ∈ st.q ++ [p], V x = pqV (st.q ++ [p]) x) :
  Hid (Pcs W' B ([.obj bm (MapObj keyP 3 (st.q ++ [p]) (pqV (st.q ++ [p]))), .blk bo #[.int .i64 0, .int .i64 0, vfb, vab], .row 84 2 vq st.q.length (pv2 st.q), .row 4 1 vf fs.length (bvs fs), .row 63 3 va st.a.length (tvs st.a)] ++ [.blk pb c1, .blk xb c2, .blk qb c3])) ∧ Hid (Below B W3 W') ∧ Hid (qb + 1 ≤ W'.heap.size) := by
 have hlt := ((hP.each 0 _ rfl).lt (k := bm) rfl).2
 have h1 := hP.put 0 (.obj bm (MapObj keyP 3 (st.q ++ [p]) (pqV (st.q ++ [p])))) rfl hg ⟨hbb, isMapK_iff.1 (hm.vals hV)⟩ (fun q e => .inl e)
 exact ⟨Lib.hid h1, Lib.hid (hB.grown hg (by omega) (fun q e => by injection e with e; omega)), Lib.hid (Nat.le_trans hz hg.size)⟩
theorem bqG_one {α : Type} [DecidableEq α] (h : Nat) (st : Bq α) (l : Int) (x : α) : (bq1 h st (l, x)).a = st.a ++ [⟨h, l, (((bq1 h st (l, x)).q.idxOf x : Nat) : Int)⟩] := by
 by_cases hm : x ∈ st.q
 ·rw [(bq1_yes (x := (l, x)) hm).1]; rfl
 ·rw [(bq1_no (x := (l, x)) hm).1, List.idxOf_append, if_neg hm]
  show st.a ++ [⟨h, l, (st.q.idxOf x : Nat)⟩] = _
  rw [List.idxOf_eq_length hm]
  simp
theorem kp_split (b : Dfa) (Y : Int) (l : List A3) (j : Nat) : kp b Y l = kp b Y (l.take j) ++ kp b Y (l.drop j) := by
 unfold kp
 rw [← List.filterMap_append, List.take_append_drop]
set_option maxRecDepth 20000 in
set_option maxHeartbeats 4000000 in
theorem product_yes {a b : Dfa} {h kh : DH} {w : World} (hva : ValidD a) (hvb : ValidD b) (hn : nP a b ≤ 1000) (hm : nP a b * a.arcs.length ≤ 20000) (hd : IsDfa w h a) (he : IsDfa w kh b) : Calls Try.prog 29 #[vDf a h, vDf b kh] w (GivesDE (prodD a b) 0 w) := by
 obtain ⟨PD, hPD⟩ : ∃ P, prodD a b = P := ⟨_, rfl⟩
 rw [hPD]
 have HPD := Lib.hid hPD
 clear hPD
 obtain ⟨bf, of, hfa, hfc⟩ := hd.1.fix (by have := hd.1.length; have := hva.2.2.1; have := hva.1; omega)
 obtain ⟨bg, og, hga, hgc⟩ := he.1.fix (by have := he.1.length; have := hvb.2.2.1; have := hvb.1; omega)
 have HFC := Lib.hid hfc
 have HGC := Lib.hid hgc
 have HFA := Lib.hid hfa
 have HGA := Lib.hid hga
 have hfl : (h.fl : Int) = a.n := by rw [← hva.2.2.1, hd.1.length]
 have hgl : (kh.fl : Int) = b.n := by rw [← hvb.2.2.1, he.1.length]
 have HFL := Lib.hid hfl
 have HGL := Lib.hid hgl
 clear hfc hgc hfa hga hfl hgl
 obtain ⟨W1, W2, W3, hW1, hW2, hW3, hs1, hs2, hs3, hO⟩ := box3W hd he
 obtain ⟨⟨c1, c2, c3, c4⟩, ⟨e1, e2, e3, e4⟩, hd2, he2, hb2, -⟩ := hO W3 (Below.refl _ _)
 have hya := valid_yes hva hd2
 have HO := Lib.hid hO
 have HS := Lib.hid hs3
 have HVA := Lib.hid hva
 have HVB := Lib.hid hvb
 have HN := Lib.hid hn
 have HM := Lib.hid hm
 have hmm := @run_makeMap Try.prog
 unfold vDf at hya ⊢
 clear hO hd2 he2 hs3 hb2 hva hvb hd he hn hm
 go_enter Try.func29, Try.ntmps29
 go_wp2_with (fail)
 refine hya.mono ?_
 rintro e w4 ⟨rfl, hb⟩
 have hb4 : Below (w.heap.size + 3) W3 w4 := hb.mono (by rw [HS.out]; omega)
 obtain ⟨⟨k1, k2, k3, k4⟩, ⟨j1, j2, j3, j4⟩, hd4, he4, -, -⟩ := HO.out w4 hb4
 have hyb := valid_yes HVB.out he4
 unfold vDf at hyb
 have HB4 := Lib.hid hb4
 have HS4 : Hid (w.heap.size + 3 ≤ w4.heap.size) := Lib.hid (by have := hb4.size; rw [HS.out] at this; exact this)
 clear hb hb4 hd4 he4 c1 c2 c3 c4 e1 e2 e3 e4 hya
 go_wp2_with (fail)
 refine hyb.mono ?_
 rintro e w5 ⟨rfl, hb⟩
 have hb5 := HB4.out.trans (hb.mono HS4.out)
 obtain ⟨⟨c1, c2, c3, c4⟩, ⟨e1, e2, e3, e4⟩, hd5, he5, -, -⟩ := HO.out w5 hb5
 have HB5 := Lib.hid hb5
 have HS5 : Hid (w.heap.size + 3 ≤ w5.heap.size) := Lib.hid (by have := hb5.size; rw [HS.out] at this; exact this)
 clear hb hb5 hd5 he5 k1 k2 k3 k4 j1 j2 j3 j4 hyb
 have HKS : Hid (keyP.ok ⟨a.s, b.s⟩) := Lib.hid (keyP_ok (by have := HVA.out.2.1; have := HVA.out.1; omega) (by have := HVB.out.2.1; have := HVB.out.1; omega))
 go_wp2_with (first | (show wpList _ _ _ (⟨_, .insert 85 _ _ _, _, _, _, _⟩ :: _) _ _; refine wpList_map_entry rfl _ _ _ 85 rfl (mapI_made w5 _ _) Try.underlying85 (by unfold maxLen; decide) rfl ⟨a.s, b.s⟩ rfl HKS.out (by simp) (.int .i64 0) rfl (int_elem wfI0) ?_; intro W6 hm6 hg6; obtain ⟨⟨s0, s1⟩, hm6, hb6, hz6⟩ := mapI_first hm6 (by simp) hg6))
 have hP7 := prodPs_start (B := w.heap.size + 3) hm6 (by have := HS5.out; omega)
 obtain ⟨W7, hW7⟩ : ∃ W7, (W6.alloc (.cells #[.int .i64 a.s, .int .i64 b.s] 84)).alloc (.cells #[.int .i64 0, .int .i64 0, .slice none 0 0, .slice none 0 0] 30) = W7 := ⟨_, rfl⟩
 have hB7 : Below (w.heap.size + 3) W3 W7 := by rw [← hW7]; exact ((HB5.out.trans (hb6.mono HS5.out)).alloc (by have := HS5.out; omega) _).alloc (by have := HS5.out; simp; omega) _
 have hz7 : W7.heap.size = W6.heap.size + 2 := by rw [← hW7]; simp
 rw [hW7] at hP7 ⊢
 obtain ⟨bo, hbo⟩ : ∃ bo, W6.heap.size + 1 = bo := ⟨_, rfl⟩
 obtain ⟨bq0, hbq0⟩ : ∃ q, W6.heap.size = q := ⟨_, rfl⟩
 rw [hbo] at hP7 ⊢
 rw [hbq0] at hP7 ⊢
 have HZ7 : Hid (bo + 1 ≤ W7.heap.size) := Lib.hid (by omega)
 have HBO : Hid (w.heap.size + 4 ≤ bo) := Lib.hid (by have := HS5.out; omega)
 obtain ⟨bm, hbm⟩ : ∃ bm, w5.heap.size + 1 = bm := ⟨_, rfl⟩
 rw [hbm] at hP7 ⊢
 have HBM : Hid (w.heap.size + 4 ≤ bm) := Lib.hid (by have := HS5.out; omega)
 obtain ⟨BQ, hBQ⟩ : ∃ BQ, BQ = bq (oP a b) ⟨a.s, b.s⟩ := ⟨_, rfl⟩
 have HB0 : Hid (BQ 0 = ⟨[⟨a.s, b.s⟩], [[]], []⟩) := Lib.hid (by rw [hBQ]; rfl)
 obtain ⟨M, hM⟩ : ∃ M, nP a b = M := ⟨_, rfl⟩
 rw [hM] at HN HM
 have HLEN : Hid (∀ k, (BQ k).q.length ≤ M) := Lib.hid (fun k => by rw [← hM, hBQ]; exact bqP_len HVA.out HVB.out k)
 have HIN : Hid (∀ k y, y ∈ (BQ k).q → InP a b y) := Lib.hid (fun k y hy => by rw [hBQ] at hy; exact bqP_in HVA.out HVB.out k y hy)
 have HAL : Hid (∀ k, (BQ k).a.length ≤ k * a.arcs.length) := Lib.hid (fun k => by rw [hBQ]; exact bqG_alen oP_len k)
 have HST : Hid (∀ k, k < (BQ k).q.length → BQ (k + 1) = bqs k (BQ k) (kp b (gp2 (BQ k).q k).b (outsD a.arcs (gp2 (BQ k).q k).a))) := Lib.hid (fun k hk => by
  rw [hBQ] at hk ⊢
  rw [gp2_eq _ _ hk]
  exact bqh_at hk)
 have HFI : Hid (∀ k, (BQ k).q.length ≤ k → PD = resP a b (BQ k)) := Lib.hid (fun k hk => by
  rw [hBQ] at hk ⊢
  rw [← HPD.out]
  unfold prodD
  rw [bqP_fin HVA.out HVB.out hk])
 rw [← HB0.out] at hP7
 have HP7 := Lib.hid hP7
 have HB7 := Lib.hid hB7
 obtain ⟨fn, hfn⟩ : ∃ f : P2 → Bool, f = fun q => gb a.fin q.a.toNat && gb b.fin q.b.toNat := ⟨_, rfl⟩
 have HFN := Lib.hid hfn
 clear hW7 hbo hbq0 hbm hBQ hM hP7 hB7 hz7 hm6 hg6 hb6 hz6 s0 s1 HKS hmm c1 c2 c3 c4 e1 e2 e3 e4 hs1 hs2 hfn hW1 hW2 hW3
 go_loopw [8, 10] (fun vq c W => ∃ (k : Nat) (aq : Option Addr) (cq : Nat) (af : Option Addr) (cf : Nat) (va : Option Addr) (ca : Nat), k ≤ (BQ k).q.length ∧ c = .int .i64 (k : Int) ∧ vq = .slice aq (BQ k).q.length cq ∧ Pcs W (w.heap.size + 3) (prodPs bm bo (BQ k) (((BQ k).q.take k).map fn) (.slice aq (BQ k).q.length cq) (.slice af k cf) (.slice af k cf) (.slice va (BQ k).a.length ca) (.slice va (BQ k).a.length ca)) ∧ Below (w.heap.size + 3) W3 W ∧ bo + 1 ≤ W.heap.size) (fun _ c _ => M - (intOf c).toNat)
 case atStart => exact ⟨0, some ⟨bq0, 0, none⟩, 1, none, 0, none, 0, Nat.zero_le _, rfl, by rw [HB0.out]; rfl, by have := HP7.out; rw [HB0.out] at this ⊢; exact this, HB7.out, HZ7.out⟩
 case round =>
  clear HP7 HB7 HZ7
  obtain ⟨k, aq, cq, af, cf, va, ca, hk, rfl, rfl, hP, hb, hz⟩ := hrel
  have hvM := HLEN.out k
  have hMM : M ≤ 1000 := HN.out
  rcases Nat.lt_or_ge k (BQ k).q.length with hlt | hge
  ·have t1 : decide (k < (BQ k).q.length) = true := decide_eq_true hlt
   obtain ⟨gq, rfl, hgq, -⟩ := owns_addr (hP.row 2 rfl) (by omega)
   obtain ⟨q0, q1⟩ := own_pair (hP.row 2 rfl) k hlt
   obtain ⟨p, hp⟩ : ∃ p, gp2 (BQ k).q k = p := ⟨_, rfl⟩
   have hin : InP a b p := HIN.out k p (by rw [← hp]; exact gp2_mem _ _ hlt)
   rw [hp] at q0 q1
   obtain ⟨A, Y⟩ := p
   obtain ⟨⟨hA0, hA⟩, hY0, hY⟩ := hin
   obtain ⟨A, rfl⟩ := Int.eq_ofNat_of_zero_le hA0
   obtain ⟨Y, rfl⟩ := Int.eq_ofNat_of_zero_le hY0
   simp only at hA hY q0 q1
   have HPQ := Lib.hid hp
   have HP := Lib.hid hP
   have HB := Lib.hid hb
   have HLT := Lib.hid hlt
   obtain ⟨fs, hfs⟩ : ∃ fs, ((BQ k).q.take k).map fn = fs := ⟨_, rfl⟩
   have HFS := Lib.hid hfs
   have HFSL : Hid (fs.length = k) := Lib.hid (by rw [← hfs, List.length_map, List.length_take]; omega)
   rw [hfs] at HP
   obtain ⟨FB, hFB⟩ : ∃ x, (gb a.fin A && gb b.fin Y) = x := ⟨_, rfl⟩
   have HFB := Lib.hid hFB
   clear hP hb hk hp hA0 hY0 hlt hfs hFB
   go_upto_region 11 with (fail)
   obtain ⟨W8, hW8⟩ : ∃ W8, wr.alloc (.cells #[.int .i64 (A : Int), .int .i64 (Y : Int)] 84) = W8 := ⟨_, rfl⟩
   have HS8 : Hid (W8.heap.size = wr.heap.size + 1) := Lib.hid (by rw [← hW8]; simp)
   have HP8 : Hid (Pcs W8 (w.heap.size + 3) (prodPs bm bo (BQ k) fs (.slice (some ⟨gq, 0, none⟩) (BQ k).q.length cq) (.slice af k cf) (.slice af k cf) (.slice va (BQ k).a.length ca) (.slice va (BQ k).a.length ca) ++ [.blk wr.heap.size #[.int .i64 (A : Int), .int .i64 (Y : Int)]])) := Lib.hid (by rw [← hW8]; exact HP.out.new (by have := HBO.out; omega) _ _)
   have HB8 : Hid (Below (w.heap.size + 3) W3 W8) := Lib.hid (by rw [← hW8]; exact HB.out.alloc (by have := HBO.out; omega) _)
   rw [hW8]
   clear hW8 HP HB q0 q1
   obtain ⟨pb, hpb⟩ : ∃ pb, wr.heap.size = pb := ⟨_, rfl⟩
   have HPB : Hid (bo + 1 ≤ pb) := Lib.hid (by omega)
   rw [hpb] at HP8 HS8 ⊢
   clear hpb hz
   go_cut [] (fun wc => ∃ (a7 : Option Addr) (c7 : Nat), Pcs wc (w.heap.size + 3) (prodPs bm bo (BQ k) (fs ++ [FB]) (.slice (some ⟨gq, 0, none⟩) (BQ k).q.length cq) (.slice a7 (k + 1) c7) (.slice a7 (k + 1) c7) (.slice va (BQ k).a.length ca) (.slice va (BQ k).a.length ca) ++ [.blk pb #[.int .i64 (A : Int), .int .i64 (Y : Int)]]) ∧ Below (w.heap.size + 3) W3 wc ∧ pb + 1 ≤ wc.heap.size)
   case first =>
    have hAl : A < h.fl := by have := HFL.out; omega
    have hYl : Y < kh.fl := by have := HGL.out; omega
    cases hxa : gb a.fin A with
    | true =>
     have HXA := Lib.hid hxa
     have HXB : Hid (gb b.fin Y = FB) := Lib.hid (by rw [← HFB.out, hxa]; rfl)
     clear hxa
     obtain ⟨S, hSd⟩ : ∃ S : (Nat → Bool) → (Nat → Value) → World → Prop, S = fun L f W => Below (w.heap.size + 3) W3 W ∧ pb + 1 ≤ W.heap.size ∧ (L 16 = true → L 17 = false → ∃ q, f 16 = .slice (some ⟨q, 0, none⟩) 1 1 ∧ BlkAt W q #[.bool FB]) ∧ Pcs W (w.heap.size + 3) (prodPs bm bo (BQ k) (if L 17 = true then fs ++ [FB] else fs) (.slice (some ⟨gq, 0, none⟩) (BQ k).q.length cq) (if L 19 = true then f 17 else .slice af k cf) (if L 17 = true then f 17 else .slice af k cf) (.slice va (BQ k).a.length ca) (.slice va (BQ k).a.length ca) ++ [.blk pb #[.int .i64 (A : Int), .int .i64 (Y : Int)]]) := ⟨_, rfl⟩
     refine wp_region_st mixed (by kernel_rfl) [[], [(0, 48)], [], [(2, 50)], [], [(4, 52)], [(3, 51), (5, 53)], [(6, 54)], [(7, 55)], [(8, 56)], [(9, 57), (8, 56)], [(8, 56)], [(11, 59), (8, 56)], [(10, 58), (12, 60), (8, 56)], [(13, 61), (8, 56)], [(8, 56), (14, 62)], [(15, 63)], [(1, 49), (16, 64), (8, 56)], [(0, 48), (1, 49), (2, 50), (3, 51), (4, 52), (5, 53), (6, 54), (7, 55), (8, 56), (9, 57), (10, 58), (11, 59), (12, 60), (13, 61), (14, 62), (15, 63), (16, 64), (17, 65)], [(18, 66), (17, 65), (17, 65), (0, 48), (1, 49), (2, 50), (3, 51), (4, 52), (5, 53), (6, 54), (7, 55), (8, 56), (9, 57), (10, 58), (11, 59), (12, 60), (13, 61), (14, 62), (15, 63), (16, 64), (17, 65)]] [(0, 48), (1, 49), (2, 50), (3, 51), (4, 52), (5, 53), (6, 54), (7, 55), (8, 56), (9, 57), (10, 58), (11, 59), (12, 60), (13, 61), (14, 62), (15, 63), (16, 64), (17, 65), (18, 66)] rfl rfl [EV ?ep0, EV ?ep1, EV ?ep2, EV ?ep3, EV ?ep4, EV ?ep5, EV ?ep6, EV ?ep7, EV ?ep8, EV ?ep9, EV ?ep10, EV ?ep11, EV ?ep12, EV ?ep13, EV ?ep14, EV ?ep15, fun v => ∃ b, v = .slice (some ⟨b, 0, none⟩) 1 1, fun v => ∃ a c, v = .slice a (k + 1) c, EV ?ep18, fun _ => True] S ?pstart ?psteps ?prest
     case pstart =>
      intro f
      rw [hSd]
      exact ⟨HB8.out.drew, (by have := HS8.out; show pb + 1 ≤ W8.heap.size; omega), fun h => (by cases h), HP8.out.quiet (below_grows ((Below.refl _ _).drew) none)⟩
     case psteps =>
      refine ⟨fun L f W hi hd hdn hh hS => ?_, fun L f W hi hd hdn hh hS => ?_, fun L f W hi hd hdn hh hS => ?_, fun L f W hi hd hdn hh hS => ?_, fun L f W hi hd hdn hh hS => ?_, fun L f W hi hd hdn hh hS => ?_, fun L f W hi hd hdn hh hS => ?_, fun L f W hi hd hdn hh hS => ?_, fun L f W hi hd hdn hh hS => ?_, fun L f W hi hd hdn hh hS => ?_, fun L f W hi hd hdn hh hS => ?_, fun L f W hi hd hdn hh hS => ?_, fun L f W hi hd hdn hh hS => ?_, fun L f W hi hd hdn hh hS => ?_, fun L f W hi hd hdn hh hS => ?_, fun L f W hi hd hdn hh hS => ?_, fun L f W hi hd hdn hh hS => ?_, fun L f W hi hd hdn hh hS => ?_, fun L f W hi hd hdn hh hS => ?_, fun L f W hi hd hdn hh hS => ?_, trivial⟩
      ·
       unfold stStep
       rw [if_pos (by simp [Region.wanted])]
       intro K Q hK
       simp only [puts, foldr_nil]
       go_step
       refine st_ex hK rfl rfl (by simp only [Act.put, setIfInBounds_toArray, set_cons_succ, set_cons_zero, Array.getD_eq_getD_getElem?, List.getElem?_toArray, List.getElem?_cons_succ, List.getElem?_cons_zero, Option.getD_some] <;> rfl) rfl (by rw [hSd] at hS ⊢; exact hS)
      ·
       obtain ⟨h0, -⟩ := hh
       have g0 : f 0 = _ := h0
       have l17 : L 17 = false := Bool.eq_false_iff.2 fun h => by have q := hdn 17 _ h rfl 1 (by decide); rw [show L 1 = false from hi] at q; cases q
       have l19 : L 19 = false := Bool.eq_false_iff.2 fun h => by have q := hdn 19 _ h rfl 17 (by decide); rw [show L 17 = false from l17] at q; cases q
       unfold stStep
       rw [if_pos (by simp [Region.wanted])]
       intro K Q hK
       simp only [puts, Za, Zb, Zc, Zd, Ze, g0]
       have hS' := hS
       rw [hSd] at hS'
       simp only [l17, l19, if_false, Bool.false_eq_true] at hS'
       have x1 : W.cell? ⟨bo, 2, none⟩ = some (.slice af k cf) := ((hS'.2.2.2.blk 1 rfl).2.cell 2).1
       go_step
       refine st_ex hK rfl rfl (by simp only [Act.put, setIfInBounds_toArray, set_cons_succ, set_cons_zero, Array.getD_eq_getD_getElem?, List.getElem?_toArray, List.getElem?_cons_succ, List.getElem?_cons_zero, Option.getD_some] <;> rfl) rfl (by rw [hSd] at hS ⊢; exact hS)
      ·
       unfold stStep
       rw [if_pos (by simp [Region.wanted])]
       intro K Q hK
       simp only [puts, foldr_nil]
       go_step
       refine st_ex hK rfl rfl (by simp only [Act.put, setIfInBounds_toArray, set_cons_succ, set_cons_zero, Array.getD_eq_getD_getElem?, List.getElem?_toArray, List.getElem?_cons_succ, List.getElem?_cons_zero, Option.getD_some] <;> rfl) rfl (by rw [hSd] at hS ⊢; exact hS)
      ·
       obtain ⟨h2, -⟩ := hh
       have g2 : f 2 = _ := h2
       unfold stStep
       rw [if_pos (by simp [Region.wanted])]
       intro K Q hK
       simp only [puts, Za, Zb, Zc, Zd, Ze, g2]
       have hS' := hS
       rw [hSd] at hS'
       have x3 := (HO.out W hS'.1).1.2.2.1
       rw [HFA.out] at x3
       go_step
       refine st_ex hK rfl rfl (by simp only [Act.put, setIfInBounds_toArray, set_cons_succ, set_cons_zero, Array.getD_eq_getD_getElem?, List.getElem?_toArray, List.getElem?_cons_succ, List.getElem?_cons_zero, Option.getD_some] <;> rfl) rfl (by rw [hSd] at hS ⊢; exact hS)
      ·
       unfold stStep
       rw [if_pos (by simp [Region.wanted])]
       intro K Q hK
       simp only [puts, foldr_nil]
       go_step
       refine st_ex hK rfl rfl (by simp only [Act.put, setIfInBounds_toArray, set_cons_succ, set_cons_zero, Array.getD_eq_getD_getElem?, List.getElem?_toArray, List.getElem?_cons_succ, List.getElem?_cons_zero, Option.getD_some] <;> rfl) rfl (by rw [hSd] at hS ⊢; exact hS)
      ·
       obtain ⟨h4, -⟩ := hh
       have g4 : f 4 = _ := h4
       unfold stStep
       rw [if_pos (by simp [Region.wanted])]
       intro K Q hK
       simp only [puts, Za, Zb, Zc, Zd, Ze, g4]
       have hS' := hS
       rw [hSd] at hS'
       have x5 : W.cell? ⟨pb, 0, none⟩ = some (.int .i64 (A : Int)) := ((hS'.2.2.2.blk 5 rfl).2.cell 0).1
       go_step
       refine st_ex hK rfl rfl (by simp only [Act.put, setIfInBounds_toArray, set_cons_succ, set_cons_zero, Array.getD_eq_getD_getElem?, List.getElem?_toArray, List.getElem?_cons_succ, List.getElem?_cons_zero, Option.getD_some] <;> rfl) rfl (by rw [hSd] at hS ⊢; exact hS)
      ·
       obtain ⟨h3, h5, -⟩ := hh
       have g3 : f 3 = _ := h3
       have g5 : f 5 = _ := h5
       unfold stStep
       rw [if_pos (by simp [Region.wanted])]
       intro K Q hK
       simp only [puts, Za, Zb, Zc, Zd, Ze, g3, g5]
       go_step
       refine st_ex hK rfl rfl (by simp only [Act.put, setIfInBounds_toArray, set_cons_succ, set_cons_zero, Array.getD_eq_getD_getElem?, List.getElem?_toArray, List.getElem?_cons_succ, List.getElem?_cons_zero, Option.getD_some] <;> rfl) rfl (by rw [hSd] at hS ⊢; exact hS)
      ·
       obtain ⟨h6, -⟩ := hh
       have g6 : f 6 = _ := h6
       unfold stStep
       rw [if_pos (by simp [Region.wanted])]
       intro K Q hK
       simp only [puts, Za, Zb, Zc, Zd, Ze, g6]
       have hS' := hS
       rw [hSd] at hS'
       have x7 := HFC.out W (HO.out W hS'.1).2.2.2.2.1 A hAl
       rw [HXA.out] at x7
       go_step
       refine st_ex hK rfl rfl (by simp only [Act.put, setIfInBounds_toArray, set_cons_succ, set_cons_zero, Array.getD_eq_getD_getElem?, List.getElem?_toArray, List.getElem?_cons_succ, List.getElem?_cons_zero, Option.getD_some] <;> rfl) rfl (by rw [hSd] at hS ⊢; exact hS)
      ·
       obtain ⟨h7, -⟩ := hh
       have g7 : f 7 = _ := h7
       unfold stStep
       rw [if_pos (by simp [Region.wanted])]
       intro K Q hK
       simp only [puts, Za, Zb, Zc, Zd, Ze, g7]
       go_step
       refine st_ex hK rfl rfl (by simp only [Act.put, setIfInBounds_toArray, set_cons_succ, set_cons_zero, Array.getD_eq_getD_getElem?, List.getElem?_toArray, List.getElem?_cons_succ, List.getElem?_cons_zero, Option.getD_some] <;> rfl) rfl (by rw [hSd] at hS ⊢; exact hS)
      ·
       obtain ⟨h8, -⟩ := hh
       have g8 : f 8 = _ := h8
       refine st_yes g8 fun K Q hK => ?_
       simp only [puts, Za, Zb, Zc, Zd, Ze, g8]
       go_step
       refine st_ex hK rfl rfl (by simp only [Act.put, setIfInBounds_toArray, set_cons_succ, set_cons_zero, Array.getD_eq_getD_getElem?, List.getElem?_toArray, List.getElem?_cons_succ, List.getElem?_cons_zero, Option.getD_some] <;> rfl) rfl (by rw [hSd] at hS ⊢; exact hS)
      ·
       obtain ⟨h9, h8, -⟩ := hh
       have g9 : f 9 = _ := h9
       have g8 : f 8 = _ := h8
       refine st_yes g8 fun K Q hK => ?_
       simp only [puts, Za, Zb, Zc, Zd, Ze, g9, g8]
       have hS' := hS
       rw [hSd] at hS'
       have x10 := (HO.out W hS'.1).2.1.2.2.1
       rw [HGA.out] at x10
       go_step
       refine st_ex hK rfl rfl (by simp only [Act.put, setIfInBounds_toArray, set_cons_succ, set_cons_zero, Array.getD_eq_getD_getElem?, List.getElem?_toArray, List.getElem?_cons_succ, List.getElem?_cons_zero, Option.getD_some] <;> rfl) rfl (by rw [hSd] at hS ⊢; exact hS)
      ·
       obtain ⟨h8, -⟩ := hh
       have g8 : f 8 = _ := h8
       refine st_yes g8 fun K Q hK => ?_
       simp only [puts, Za, Zb, Zc, Zd, Ze, g8]
       go_step
       refine st_ex hK rfl rfl (by simp only [Act.put, setIfInBounds_toArray, set_cons_succ, set_cons_zero, Array.getD_eq_getD_getElem?, List.getElem?_toArray, List.getElem?_cons_succ, List.getElem?_cons_zero, Option.getD_some] <;> rfl) rfl (by rw [hSd] at hS ⊢; exact hS)
      ·
       obtain ⟨h11, h8, -⟩ := hh
       have g11 : f 11 = _ := h11
       have g8 : f 8 = _ := h8
       refine st_yes g8 fun K Q hK => ?_
       simp only [puts, Za, Zb, Zc, Zd, Ze, g11, g8]
       have hS' := hS
       rw [hSd] at hS'
       have x12 : W.cell? ⟨pb, 1, none⟩ = some (.int .i64 (Y : Int)) := ((hS'.2.2.2.blk 5 rfl).2.cell 1).1
       go_step
       refine st_ex hK rfl rfl (by simp only [Act.put, setIfInBounds_toArray, set_cons_succ, set_cons_zero, Array.getD_eq_getD_getElem?, List.getElem?_toArray, List.getElem?_cons_succ, List.getElem?_cons_zero, Option.getD_some] <;> rfl) rfl (by rw [hSd] at hS ⊢; exact hS)
      ·
       obtain ⟨h10, h12, h8, -⟩ := hh
       have g10 : f 10 = _ := h10
       have g12 : f 12 = _ := h12
       have g8 : f 8 = _ := h8
       refine st_yes g8 fun K Q hK => ?_
       simp only [puts, Za, Zb, Zc, Zd, Ze, g10, g12, g8]
       go_step
       refine st_ex hK rfl rfl (by simp only [Act.put, setIfInBounds_toArray, set_cons_succ, set_cons_zero, Array.getD_eq_getD_getElem?, List.getElem?_toArray, List.getElem?_cons_succ, List.getElem?_cons_zero, Option.getD_some] <;> rfl) rfl (by rw [hSd] at hS ⊢; exact hS)
      ·
       obtain ⟨h13, h8, -⟩ := hh
       have g13 : f 13 = _ := h13
       have g8 : f 8 = _ := h8
       refine st_yes g8 fun K Q hK => ?_
       simp only [puts, Za, Zb, Zc, Zd, Ze, g13, g8]
       have hS' := hS
       rw [hSd] at hS'
       have x14 := HGC.out W (HO.out W hS'.1).2.2.2.2.1 Y hYl
       rw [HXB.out] at x14
       go_step
       refine st_ex hK rfl rfl (by simp only [Act.put, setIfInBounds_toArray, set_cons_succ, set_cons_zero, Array.getD_eq_getD_getElem?, List.getElem?_toArray, List.getElem?_cons_succ, List.getElem?_cons_zero, Option.getD_some] <;> rfl) rfl (by rw [hSd] at hS ⊢; exact hS)
      ·
       obtain ⟨h8, h14, -⟩ := hh
       have g8 : f 8 = _ := h8
       have g14 : f 14 = _ := h14
       unfold stStep
       rw [if_pos (by simp [Region.wanted])]
       intro K Q hK
       simp only [puts, Za, Zb, Zc, Zd, Ze, g8, g14]
       go_step
       refine st_ex hK rfl rfl (by simp only [Act.put, setIfInBounds_toArray, set_cons_succ, set_cons_zero, Array.getD_eq_getD_getElem?, List.getElem?_toArray, List.getElem?_cons_succ, List.getElem?_cons_zero, Option.getD_some] <;> rfl) rfl (by rw [hSd] at hS ⊢; exact hS)
      ·
       obtain ⟨h15, -⟩ := hh
       have g15 : f 15 = _ := h15
       have l17 : L 17 = false := Bool.eq_false_iff.2 fun h => by have q := hdn 17 _ h rfl 16 (by decide); rw [show L 16 = false from hi] at q; cases q
       have l19 : L 19 = false := Bool.eq_false_iff.2 fun h => by have q := hdn 19 _ h rfl 17 (by decide); rw [show L 17 = false from l17] at q; cases q
       unfold stStep
       rw [if_pos (by simp [Region.wanted])]
       intro K Q hK
       simp only [puts, Za, Zb, Zc, Zd, Ze, g15]
       rw [hSd] at hS hK
       have l16 : L 16 = false := hi
       try simp only [stage, l17, l19, l16, if_true, if_false, Bool.false_eq_true] at hS
       obtain ⟨hbW, hzW, -, hPW⟩ := hS
       have hal : Below W.heap.size W (W.alloc (.cells #[.bool FB] 4)) := (Below.refl _ _).alloc (Nat.le_refl _) _
       go_step
       refine hK.out _ _ rfl ⟨_, rfl⟩ ?_
       refine ⟨hbW.alloc (by have := HPB.out; have := HBO.out; omega) _, by simp; omega, fun _ _ => ⟨_, rfl, BlkAt.new W _ _⟩, ?_⟩
       simp only [l17, l19, Bool.false_eq_true, ↓reduceIte, Nat.reduceEqDiff] at hPW ⊢
       exact hPW.quiet (below_grows hal none)
      ·
       obtain ⟨h1, h16, h8, -⟩ := hh
       have g1 : f 1 = _ := h1
       obtain ⟨b16, (g16 : f 16 = _)⟩ := h16
       have g8 : f 8 = _ := h8
       have l16 : L 16 = true := hd 16 (by decide)
       have l19 : L 19 = false := Bool.eq_false_iff.2 fun h => by have q := hdn 19 _ h rfl 17 (by decide); rw [show L 17 = false from hi] at q; cases q
       unfold stStep
       rw [if_pos (by simp [Region.wanted])]
       intro K Q hK
       simp only [puts, Za, Zb, Zc, Zd, Ze, g1, g16, g8]
       rw [hSd] at hS hK
       have l17 : L 17 = false := hi
       try simp only [stage, l19, l17, l16, if_true, if_false, Bool.false_eq_true] at hS
       obtain ⟨hbW, hzW, h16, hPW⟩ := hS
       obtain ⟨q, e16, hq⟩ := h16 trivial trivial
       rw [g16] at e16
       obtain rfl : b16 = q := by simpa using e16
       try simp only [l17, l19, if_false, Bool.false_eq_true] at hPW
       refine wp_app_pcs elB _ _ rfl 3 (v := .slice af k cf) (n := fs.length) rfl hPW rfl (news := [.bool FB]) rfl ⟨rfl, fun ad e j u hj => by injection e with e; subst e; rw [addr_add, Nat.zero_add, (hq.cell j).1, ← hj]; simp, fun e => by cases e⟩ (by intro u hu; rw [List.mem_singleton.1 hu]; rfl) (by have := HFSL.out; omega) (by have := HPB.out; have := HBO.out; omega) ?_
       intro a' c' w' hp' hbw
       rw [HFSL.out] at hp' ⊢
       refine hK.out _ _ rfl ⟨a', c', rfl⟩ ?_
       refine ⟨hbW.trans hbw, Nat.le_trans hzW hbw.size, fun _ h => (by simp at h), ?_⟩
       simp only [l19, Bool.false_eq_true, ↓reduceIte, Nat.reduceEqDiff]
       have e1 : (fs ++ [FB]).length = k + 1 := by rw [List.length_append, HFSL.out]; rfl
       have e2 : bvs (fs ++ [FB]) = bvs fs ++ [.bool FB] := by simp [bvs]
       unfold prodPs
       rw [e1, e2]
       exact hp'
      ·
       obtain ⟨h0, h1, h2, h3, h4, h5, h6, h7, h8, h9, h10, h11, h12, h13, h14, h15, h16, h17, -⟩ := hh
       have g0 : f 0 = _ := h0
       have g1 : f 1 = _ := h1
       have g2 : f 2 = _ := h2
       have g3 : f 3 = _ := h3
       have g4 : f 4 = _ := h4
       have g5 : f 5 = _ := h5
       have g6 : f 6 = _ := h6
       have g7 : f 7 = _ := h7
       have g8 : f 8 = _ := h8
       have g9 : f 9 = _ := h9
       have g10 : f 10 = _ := h10
       have g11 : f 11 = _ := h11
       have g12 : f 12 = _ := h12
       have g13 : f 13 = _ := h13
       have g14 : f 14 = _ := h14
       have g15 : f 15 = _ := h15
       obtain ⟨b16, (g16 : f 16 = _)⟩ := h16
       obtain ⟨a17, c17, (g17 : f 17 = _)⟩ := h17
       unfold stStep
       rw [if_pos (by simp [Region.wanted])]
       intro K Q hK
       simp only [puts, Za, Zb, Zc, Zd, Ze, g0, g1, g2, g3, g4, g5, g6, g7, g8, g9, g10, g11, g12, g13, g14, g15, g16, g17]
       go_step
       refine st_ex hK rfl rfl (by simp only [Act.put, setIfInBounds_toArray, set_cons_succ, set_cons_zero, Array.getD_eq_getD_getElem?, List.getElem?_toArray, List.getElem?_cons_succ, List.getElem?_cons_zero, Option.getD_some] <;> rfl) rfl (by rw [hSd] at hS ⊢; exact hS)
      ·
       obtain ⟨h18, h17, _, h0, h1, h2, h3, h4, h5, h6, h7, h8, h9, h10, h11, h12, h13, h14, h15, h16, _, -⟩ := hh
       have g18 : f 18 = _ := h18
       obtain ⟨a17, c17, (g17 : f 17 = _)⟩ := h17
       have g0 : f 0 = _ := h0
       have g1 : f 1 = _ := h1
       have g2 : f 2 = _ := h2
       have g3 : f 3 = _ := h3
       have g4 : f 4 = _ := h4
       have g5 : f 5 = _ := h5
       have g6 : f 6 = _ := h6
       have g7 : f 7 = _ := h7
       have g8 : f 8 = _ := h8
       have g9 : f 9 = _ := h9
       have g10 : f 10 = _ := h10
       have g11 : f 11 = _ := h11
       have g12 : f 12 = _ := h12
       have g13 : f 13 = _ := h13
       have g14 : f 14 = _ := h14
       have g15 : f 15 = _ := h15
       obtain ⟨b16, (g16 : f 16 = _)⟩ := h16
       have l17 : L 17 = true := hd 17 (by decide)
       unfold stStep
       rw [if_pos (by simp [Region.wanted])]
       intro K Q hK
       simp only [puts, Za, Zb, Zc, Zd, Ze, g18, g17, g0, g1, g2, g3, g4, g5, g6, g7, g8, g9, g10, g11, g12, g13, g14, g15, g16]
       rw [hSd] at hS hK
       have l19 : L 19 = false := hi
       try simp only [stage, l19, l17, if_true, if_false, Bool.false_eq_true] at hS
       obtain ⟨hbW, hzW, -, hPW⟩ := hS
       have l17' : L 17 = true := hd 17 (by decide)
       simp only [l17', l19, if_false, if_true, Bool.false_eq_true, g17] at hPW
       have y1 := ((hPW.blk 1 rfl).2.cell 2)
       have y2 : W.cell? ⟨bo, 2, none⟩ = some (.slice af k cf) := y1.1
       have y3 := y1.2
       go_step
       refine hK.out _ _ rfl trivial ?_
       refine ⟨hbW.setCell (by have := HBO.out; show _ ≤ bo; omega) _, by rw [World.size_setCell]; exact hzW, fun _ h => (by simp [l17'] at h), ?_⟩
       simp only [l17', ↓reduceIte, Nat.reduceEqDiff, g17]
       exact hPW.blkStore 1 rfl 2 _
     case prest =>
      intro L f WA hL hh hS
      rw [hSd] at hS
      clear hSd
      have l16 : L 16 = true := hL 16 (by decide)
      have l17 : L 17 = true := hL 17 (by decide)
      have l19 : L 19 = true := hL 19 (by decide)
      simp only [stage, l16, l17, l19, if_true] at hS
      clear hL l16 l17 l19
      obtain ⟨h0, h1, h2, h3, h4, h5, h6, h7, h8, h9, h10, h11, h12, h13, h14, h15, h16, h17, h18, -⟩ := hh
      have g0 : f 0 = _ := h0
      have g1 : f 1 = _ := h1
      have g2 : f 2 = _ := h2
      have g3 : f 3 = _ := h3
      have g4 : f 4 = _ := h4
      have g5 : f 5 = _ := h5
      have g6 : f 6 = _ := h6
      have g7 : f 7 = _ := h7
      have g8 : f 8 = _ := h8
      have g9 : f 9 = _ := h9
      have g10 : f 10 = _ := h10
      have g11 : f 11 = _ := h11
      have g12 : f 12 = _ := h12
      have g13 : f 13 = _ := h13
      have g14 : f 14 = _ := h14
      have g15 : f 15 = _ := h15
      obtain ⟨b16, (g16 : f 16 = _)⟩ := h16
      obtain ⟨a17, c17, (g17 : f 17 = _)⟩ := h17
      have g18 : f 18 = _ := h18
      simp only [puts, Za, Zb, Zc, Zd, Ze, g0, g1, g2, g3, g4, g5, g6, g7, g8, g9, g10, g11, g12, g13, g14, g15, g16, g17, g18]
      clear h0 h1 h2 h3 h4 h5 h6 h7 h8 h9 h10 h11 h12 h13 h14 h15 h18 g0 g1 g2 g3 g4 g5 g6 g7 g8 g9 g10 g11 g12 g13 g14 g15 g18
      simp only [g17] at hS
      obtain ⟨hbD, hzD, -, hPD⟩ := hS
      have HX : Hid (Pcs WA (w.heap.size + 3) (prodPs bm bo (BQ k) (fs ++ [FB]) (.slice (some ⟨gq, 0, none⟩) (BQ k).q.length cq) (.slice a17 (k + 1) c17) (.slice a17 (k + 1) c17) (.slice va (BQ k).a.length ca) (.slice va (BQ k).a.length ca) ++ [.blk pb #[.int .i64 (A : Int), .int .i64 (Y : Int)]]) ∧ Below (w.heap.size + 3) W3 WA ∧ pb + 1 ≤ WA.heap.size) := Lib.hid ⟨hPD, hbD, hzD⟩
      clear hbD hzD hPD
      go_wp2_with (fail)
      go_meet
      case rel => exact ⟨a17, c17, HX.out⟩
    | false =>
     have HXA := Lib.hid hxa
     have HFF : Hid (FB = false) := Lib.hid (by rw [← HFB.out, hxa]; rfl)
     clear hxa HFB
     obtain rfl := HFF.out
     obtain ⟨S, hSd⟩ : ∃ S : (Nat → Bool) → (Nat → Value) → World → Prop, S = fun L f W => Below (w.heap.size + 3) W3 W ∧ pb + 1 ≤ W.heap.size ∧ (L 16 = true → L 17 = false → ∃ q, f 16 = .slice (some ⟨q, 0, none⟩) 1 1 ∧ BlkAt W q #[.bool false]) ∧ Pcs W (w.heap.size + 3) (prodPs bm bo (BQ k) (if L 17 = true then fs ++ [false] else fs) (.slice (some ⟨gq, 0, none⟩) (BQ k).q.length cq) (if L 19 = true then f 17 else .slice af k cf) (if L 17 = true then f 17 else .slice af k cf) (.slice va (BQ k).a.length ca) (.slice va (BQ k).a.length ca) ++ [.blk pb #[.int .i64 (A : Int), .int .i64 (Y : Int)]]) := ⟨_, rfl⟩
     refine wp_region_st mixed (by kernel_rfl) [[], [(0, 48)], [], [(2, 50)], [], [(4, 52)], [(3, 51), (5, 53)], [(6, 54)], [(7, 55)], [(8, 56)], [(9, 57), (8, 56)], [(8, 56)], [(11, 59), (8, 56)], [(10, 58), (12, 60), (8, 56)], [(13, 61), (8, 56)], [(8, 56), (14, 62)], [(15, 63)], [(1, 49), (16, 64), (8, 56)], [(0, 48), (1, 49), (2, 50), (3, 51), (4, 52), (5, 53), (6, 54), (7, 55), (8, 56), (9, 57), (10, 58), (11, 59), (12, 60), (13, 61), (14, 62), (15, 63), (16, 64), (17, 65)], [(18, 66), (17, 65), (17, 65), (0, 48), (1, 49), (2, 50), (3, 51), (4, 52), (5, 53), (6, 54), (7, 55), (8, 56), (9, 57), (10, 58), (11, 59), (12, 60), (13, 61), (14, 62), (15, 63), (16, 64), (17, 65)]] [(0, 48), (1, 49), (2, 50), (3, 51), (4, 52), (5, 53), (6, 54), (7, 55), (8, 56), (9, 57), (10, 58), (11, 59), (12, 60), (13, 61), (14, 62), (15, 63), (16, 64), (17, 65), (18, 66)] rfl rfl [EV ?eq0, EV ?eq1, EV ?eq2, EV ?eq3, EV ?eq4, EV ?eq5, EV ?eq6, EV ?eq7, EV ?eq8, EV undef, EV undef, EV undef, EV undef, EV undef, EV undef, EV ?eq15, fun v => ∃ b, v = .slice (some ⟨b, 0, none⟩) 1 1, fun v => ∃ a c, v = .slice a (k + 1) c, EV ?eq18, fun _ => True] S ?qstart ?qsteps ?qrest
     case qstart =>
      intro f
      rw [hSd]
      exact ⟨HB8.out.drew, (by have := HS8.out; show pb + 1 ≤ W8.heap.size; omega), fun h => (by cases h), HP8.out.quiet (below_grows ((Below.refl _ _).drew) none)⟩
     case qsteps =>
      refine ⟨fun L f W hi hd hdn hh hS => ?_, fun L f W hi hd hdn hh hS => ?_, fun L f W hi hd hdn hh hS => ?_, fun L f W hi hd hdn hh hS => ?_, fun L f W hi hd hdn hh hS => ?_, fun L f W hi hd hdn hh hS => ?_, fun L f W hi hd hdn hh hS => ?_, fun L f W hi hd hdn hh hS => ?_, fun L f W hi hd hdn hh hS => ?_, fun L f W hi hd hdn hh hS => ?_, fun L f W hi hd hdn hh hS => ?_, fun L f W hi hd hdn hh hS => ?_, fun L f W hi hd hdn hh hS => ?_, fun L f W hi hd hdn hh hS => ?_, fun L f W hi hd hdn hh hS => ?_, fun L f W hi hd hdn hh hS => ?_, fun L f W hi hd hdn hh hS => ?_, fun L f W hi hd hdn hh hS => ?_, fun L f W hi hd hdn hh hS => ?_, fun L f W hi hd hdn hh hS => ?_, trivial⟩
      ·
       unfold stStep
       rw [if_pos (by simp [Region.wanted])]
       intro K Q hK
       simp only [puts, foldr_nil]
       go_step
       refine st_ex hK rfl rfl (by simp only [Act.put, setIfInBounds_toArray, set_cons_succ, set_cons_zero, Array.getD_eq_getD_getElem?, List.getElem?_toArray, List.getElem?_cons_succ, List.getElem?_cons_zero, Option.getD_some] <;> rfl) rfl (by rw [hSd] at hS ⊢; exact hS)
      ·
       obtain ⟨h0, -⟩ := hh
       have g0 : f 0 = _ := h0
       have l17 : L 17 = false := Bool.eq_false_iff.2 fun h => by have q := hdn 17 _ h rfl 1 (by decide); rw [show L 1 = false from hi] at q; cases q
       have l19 : L 19 = false := Bool.eq_false_iff.2 fun h => by have q := hdn 19 _ h rfl 17 (by decide); rw [show L 17 = false from l17] at q; cases q
       unfold stStep
       rw [if_pos (by simp [Region.wanted])]
       intro K Q hK
       simp only [puts, Za, Zb, Zc, Zd, Ze, g0]
       have hS' := hS
       rw [hSd] at hS'
       simp only [l17, l19, if_false, Bool.false_eq_true] at hS'
       have x1 : W.cell? ⟨bo, 2, none⟩ = some (.slice af k cf) := ((hS'.2.2.2.blk 1 rfl).2.cell 2).1
       go_step
       refine st_ex hK rfl rfl (by simp only [Act.put, setIfInBounds_toArray, set_cons_succ, set_cons_zero, Array.getD_eq_getD_getElem?, List.getElem?_toArray, List.getElem?_cons_succ, List.getElem?_cons_zero, Option.getD_some] <;> rfl) rfl (by rw [hSd] at hS ⊢; exact hS)
      ·
       unfold stStep
       rw [if_pos (by simp [Region.wanted])]
       intro K Q hK
       simp only [puts, foldr_nil]
       go_step
       refine st_ex hK rfl rfl (by simp only [Act.put, setIfInBounds_toArray, set_cons_succ, set_cons_zero, Array.getD_eq_getD_getElem?, List.getElem?_toArray, List.getElem?_cons_succ, List.getElem?_cons_zero, Option.getD_some] <;> rfl) rfl (by rw [hSd] at hS ⊢; exact hS)
      ·
       obtain ⟨h2, -⟩ := hh
       have g2 : f 2 = _ := h2
       unfold stStep
       rw [if_pos (by simp [Region.wanted])]
       intro K Q hK
       simp only [puts, Za, Zb, Zc, Zd, Ze, g2]
       have hS' := hS
       rw [hSd] at hS'
       have x3 := (HO.out W hS'.1).1.2.2.1
       rw [HFA.out] at x3
       go_step
       refine st_ex hK rfl rfl (by simp only [Act.put, setIfInBounds_toArray, set_cons_succ, set_cons_zero, Array.getD_eq_getD_getElem?, List.getElem?_toArray, List.getElem?_cons_succ, List.getElem?_cons_zero, Option.getD_some] <;> rfl) rfl (by rw [hSd] at hS ⊢; exact hS)
      ·
       unfold stStep
       rw [if_pos (by simp [Region.wanted])]
       intro K Q hK
       simp only [puts, foldr_nil]
       go_step
       refine st_ex hK rfl rfl (by simp only [Act.put, setIfInBounds_toArray, set_cons_succ, set_cons_zero, Array.getD_eq_getD_getElem?, List.getElem?_toArray, List.getElem?_cons_succ, List.getElem?_cons_zero, Option.getD_some] <;> rfl) rfl (by rw [hSd] at hS ⊢; exact hS)
      ·
       obtain ⟨h4, -⟩ := hh
       have g4 : f 4 = _ := h4
       unfold stStep
       rw [if_pos (by simp [Region.wanted])]
       intro K Q hK
       simp only [puts, Za, Zb, Zc, Zd, Ze, g4]
       have hS' := hS
       rw [hSd] at hS'
       have x5 : W.cell? ⟨pb, 0, none⟩ = some (.int .i64 (A : Int)) := ((hS'.2.2.2.blk 5 rfl).2.cell 0).1
       go_step
       refine st_ex hK rfl rfl (by simp only [Act.put, setIfInBounds_toArray, set_cons_succ, set_cons_zero, Array.getD_eq_getD_getElem?, List.getElem?_toArray, List.getElem?_cons_succ, List.getElem?_cons_zero, Option.getD_some] <;> rfl) rfl (by rw [hSd] at hS ⊢; exact hS)
      ·
       obtain ⟨h3, h5, -⟩ := hh
       have g3 : f 3 = _ := h3
       have g5 : f 5 = _ := h5
       unfold stStep
       rw [if_pos (by simp [Region.wanted])]
       intro K Q hK
       simp only [puts, Za, Zb, Zc, Zd, Ze, g3, g5]
       go_step
       refine st_ex hK rfl rfl (by simp only [Act.put, setIfInBounds_toArray, set_cons_succ, set_cons_zero, Array.getD_eq_getD_getElem?, List.getElem?_toArray, List.getElem?_cons_succ, List.getElem?_cons_zero, Option.getD_some] <;> rfl) rfl (by rw [hSd] at hS ⊢; exact hS)
      ·
       obtain ⟨h6, -⟩ := hh
       have g6 : f 6 = _ := h6
       unfold stStep
       rw [if_pos (by simp [Region.wanted])]
       intro K Q hK
       simp only [puts, Za, Zb, Zc, Zd, Ze, g6]
       have hS' := hS
       rw [hSd] at hS'
       have x7 := HFC.out W (HO.out W hS'.1).2.2.2.2.1 A hAl
       rw [HXA.out] at x7
       go_step
       refine st_ex hK rfl rfl (by simp only [Act.put, setIfInBounds_toArray, set_cons_succ, set_cons_zero, Array.getD_eq_getD_getElem?, List.getElem?_toArray, List.getElem?_cons_succ, List.getElem?_cons_zero, Option.getD_some] <;> rfl) rfl (by rw [hSd] at hS ⊢; exact hS)
      ·
       obtain ⟨h7, -⟩ := hh
       have g7 : f 7 = _ := h7
       unfold stStep
       rw [if_pos (by simp [Region.wanted])]
       intro K Q hK
       simp only [puts, Za, Zb, Zc, Zd, Ze, g7]
       go_step
       refine st_ex hK rfl rfl (by simp only [Act.put, setIfInBounds_toArray, set_cons_succ, set_cons_zero, Array.getD_eq_getD_getElem?, List.getElem?_toArray, List.getElem?_cons_succ, List.getElem?_cons_zero, Option.getD_some] <;> rfl) rfl (by rw [hSd] at hS ⊢; exact hS)
      ·
       obtain ⟨h8, -⟩ := hh
       have g8 : f 8 = _ := h8
       refine st_no (c := false) rfl g8 (by decide) rfl ?_
       rw [hSd] at hS ⊢
       exact hS
      ·
       obtain ⟨h9, h8, -⟩ := hh
       have g9 : f 9 = _ := h9
       have g8 : f 8 = _ := h8
       refine st_no (c := false) rfl g8 (by decide) rfl ?_
       rw [hSd] at hS ⊢
       exact hS
      ·
       obtain ⟨h8, -⟩ := hh
       have g8 : f 8 = _ := h8
       refine st_no (c := false) rfl g8 (by decide) rfl ?_
       rw [hSd] at hS ⊢
       exact hS
      ·
       obtain ⟨h11, h8, -⟩ := hh
       have g11 : f 11 = _ := h11
       have g8 : f 8 = _ := h8
       refine st_no (c := false) rfl g8 (by decide) rfl ?_
       rw [hSd] at hS ⊢
       exact hS
      ·
       obtain ⟨h10, h12, h8, -⟩ := hh
       have g10 : f 10 = _ := h10
       have g12 : f 12 = _ := h12
       have g8 : f 8 = _ := h8
       refine st_no (c := false) rfl g8 (by decide) rfl ?_
       rw [hSd] at hS ⊢
       exact hS
      ·
       obtain ⟨h13, h8, -⟩ := hh
       have g13 : f 13 = _ := h13
       have g8 : f 8 = _ := h8
       refine st_no (c := false) rfl g8 (by decide) rfl ?_
       rw [hSd] at hS ⊢
       exact hS
      ·
       obtain ⟨h8, h14, -⟩ := hh
       have g8 : f 8 = _ := h8
       have g14 : f 14 = _ := h14
       unfold stStep
       rw [if_pos (by simp [Region.wanted])]
       intro K Q hK
       simp only [puts, Za, Zb, Zc, Zd, Ze, g8, g14]
       go_step
       refine st_ex hK rfl rfl (by simp only [Act.put, setIfInBounds_toArray, set_cons_succ, set_cons_zero, Array.getD_eq_getD_getElem?, List.getElem?_toArray, List.getElem?_cons_succ, List.getElem?_cons_zero, Option.getD_some] <;> rfl) rfl (by rw [hSd] at hS ⊢; exact hS)
      ·
       obtain ⟨h15, -⟩ := hh
       have g15 : f 15 = _ := h15
       have l17 : L 17 = false := Bool.eq_false_iff.2 fun h => by have q := hdn 17 _ h rfl 16 (by decide); rw [show L 16 = false from hi] at q; cases q
       have l19 : L 19 = false := Bool.eq_false_iff.2 fun h => by have q := hdn 19 _ h rfl 17 (by decide); rw [show L 17 = false from l17] at q; cases q
       unfold stStep
       rw [if_pos (by simp [Region.wanted])]
       intro K Q hK
       simp only [puts, Za, Zb, Zc, Zd, Ze, g15]
       rw [hSd] at hS hK
       have l16 : L 16 = false := hi
       try simp only [stage, l17, l19, l16, if_true, if_false, Bool.false_eq_true] at hS
       obtain ⟨hbW, hzW, -, hPW⟩ := hS
       have hal : Below W.heap.size W (W.alloc (.cells #[.bool false] 4)) := (Below.refl _ _).alloc (Nat.le_refl _) _
       go_step
       refine hK.out _ _ rfl ⟨_, rfl⟩ ?_
       refine ⟨hbW.alloc (by have := HPB.out; have := HBO.out; omega) _, by simp; omega, fun _ _ => ⟨_, rfl, BlkAt.new W _ _⟩, ?_⟩
       simp only [l17, l19, Bool.false_eq_true, ↓reduceIte, Nat.reduceEqDiff] at hPW ⊢
       exact hPW.quiet (below_grows hal none)
      ·
       obtain ⟨h1, h16, h8, -⟩ := hh
       have g1 : f 1 = _ := h1
       obtain ⟨b16, (g16 : f 16 = _)⟩ := h16
       have g8 : f 8 = _ := h8
       have l16 : L 16 = true := hd 16 (by decide)
       have l19 : L 19 = false := Bool.eq_false_iff.2 fun h => by have q := hdn 19 _ h rfl 17 (by decide); rw [show L 17 = false from hi] at q; cases q
       unfold stStep
       rw [if_pos (by simp [Region.wanted])]
       intro K Q hK
       simp only [puts, Za, Zb, Zc, Zd, Ze, g1, g16, g8]
       rw [hSd] at hS hK
       have l17 : L 17 = false := hi
       try simp only [stage, l19, l17, l16, if_true, if_false, Bool.false_eq_true] at hS
       obtain ⟨hbW, hzW, h16, hPW⟩ := hS
       obtain ⟨q, e16, hq⟩ := h16 trivial trivial
       rw [g16] at e16
       obtain rfl : b16 = q := by simpa using e16
       try simp only [l17, l19, if_false, Bool.false_eq_true] at hPW
       refine wp_app_pcs elB _ _ rfl 3 (v := .slice af k cf) (n := fs.length) rfl hPW rfl (news := [.bool false]) rfl ⟨rfl, fun ad e j u hj => by injection e with e; subst e; rw [addr_add, Nat.zero_add, (hq.cell j).1, ← hj]; simp, fun e => by cases e⟩ (by intro u hu; rw [List.mem_singleton.1 hu]; rfl) (by have := HFSL.out; omega) (by have := HPB.out; have := HBO.out; omega) ?_
       intro a' c' w' hp' hbw
       rw [HFSL.out] at hp' ⊢
       refine hK.out _ _ rfl ⟨a', c', rfl⟩ ?_
       refine ⟨hbW.trans hbw, Nat.le_trans hzW hbw.size, fun _ h => (by simp at h), ?_⟩
       simp only [l19, Bool.false_eq_true, ↓reduceIte, Nat.reduceEqDiff]
       have e1 : (fs ++ [false]).length = k + 1 := by rw [List.length_append, HFSL.out]; rfl
       have e2 : bvs (fs ++ [false]) = bvs fs ++ [.bool false] := by simp [bvs]
       unfold prodPs
       rw [e1, e2]
       exact hp'
      ·
       obtain ⟨h0, h1, h2, h3, h4, h5, h6, h7, h8, h9, h10, h11, h12, h13, h14, h15, h16, h17, -⟩ := hh
       have g0 : f 0 = _ := h0
       have g1 : f 1 = _ := h1
       have g2 : f 2 = _ := h2
       have g3 : f 3 = _ := h3
       have g4 : f 4 = _ := h4
       have g5 : f 5 = _ := h5
       have g6 : f 6 = _ := h6
       have g7 : f 7 = _ := h7
       have g8 : f 8 = _ := h8
       have g9 : f 9 = _ := h9
       have g10 : f 10 = _ := h10
       have g11 : f 11 = _ := h11
       have g12 : f 12 = _ := h12
       have g13 : f 13 = _ := h13
       have g14 : f 14 = _ := h14
       have g15 : f 15 = _ := h15
       obtain ⟨b16, (g16 : f 16 = _)⟩ := h16
       obtain ⟨a17, c17, (g17 : f 17 = _)⟩ := h17
       unfold stStep
       rw [if_pos (by simp [Region.wanted])]
       intro K Q hK
       simp only [puts, Za, Zb, Zc, Zd, Ze, g0, g1, g2, g3, g4, g5, g6, g7, g8, g9, g10, g11, g12, g13, g14, g15, g16, g17]
       go_step
       refine st_ex hK rfl rfl (by simp only [Act.put, setIfInBounds_toArray, set_cons_succ, set_cons_zero, Array.getD_eq_getD_getElem?, List.getElem?_toArray, List.getElem?_cons_succ, List.getElem?_cons_zero, Option.getD_some] <;> rfl) rfl (by rw [hSd] at hS ⊢; exact hS)
      ·
       obtain ⟨h18, h17, _, h0, h1, h2, h3, h4, h5, h6, h7, h8, h9, h10, h11, h12, h13, h14, h15, h16, _, -⟩ := hh
       have g18 : f 18 = _ := h18
       obtain ⟨a17, c17, (g17 : f 17 = _)⟩ := h17
       have g0 : f 0 = _ := h0
       have g1 : f 1 = _ := h1
       have g2 : f 2 = _ := h2
       have g3 : f 3 = _ := h3
       have g4 : f 4 = _ := h4
       have g5 : f 5 = _ := h5
       have g6 : f 6 = _ := h6
       have g7 : f 7 = _ := h7
       have g8 : f 8 = _ := h8
       have g9 : f 9 = _ := h9
       have g10 : f 10 = _ := h10
       have g11 : f 11 = _ := h11
       have g12 : f 12 = _ := h12
       have g13 : f 13 = _ := h13
       have g14 : f 14 = _ := h14
       have g15 : f 15 = _ := h15
       obtain ⟨b16, (g16 : f 16 = _)⟩ := h16
       have l17 : L 17 = true := hd 17 (by decide)
       unfold stStep
       rw [if_pos (by simp [Region.wanted])]
       intro K Q hK
       simp only [puts, Za, Zb, Zc, Zd, Ze, g18, g17, g0, g1, g2, g3, g4, g5, g6, g7, g8, g9, g10, g11, g12, g13, g14, g15, g16]
       rw [hSd] at hS hK
       have l19 : L 19 = false := hi
       try simp only [stage, l19, l17, if_true, if_false, Bool.false_eq_true] at hS
       obtain ⟨hbW, hzW, -, hPW⟩ := hS
       have l17' : L 17 = true := hd 17 (by decide)
       simp only [l17', l19, if_false, if_true, Bool.false_eq_true, g17] at hPW
       have y1 := ((hPW.blk 1 rfl).2.cell 2)
       have y2 : W.cell? ⟨bo, 2, none⟩ = some (.slice af k cf) := y1.1
       have y3 := y1.2
       go_step
       refine hK.out _ _ rfl trivial ?_
       refine ⟨hbW.setCell (by have := HBO.out; show _ ≤ bo; omega) _, by rw [World.size_setCell]; exact hzW, fun _ h => (by simp [l17'] at h), ?_⟩
       simp only [l17', ↓reduceIte, Nat.reduceEqDiff, g17]
       exact hPW.blkStore 1 rfl 2 _
     case qrest =>
      intro L f WA hL hh hS
      rw [hSd] at hS
      clear hSd
      have l16 : L 16 = true := hL 16 (by decide)
      have l17 : L 17 = true := hL 17 (by decide)
      have l19 : L 19 = true := hL 19 (by decide)
      simp only [stage, l16, l17, l19, if_true] at hS
      clear hL l16 l17 l19
      obtain ⟨h0, h1, h2, h3, h4, h5, h6, h7, h8, h9, h10, h11, h12, h13, h14, h15, h16, h17, h18, -⟩ := hh
      have g0 : f 0 = _ := h0
      have g1 : f 1 = _ := h1
      have g2 : f 2 = _ := h2
      have g3 : f 3 = _ := h3
      have g4 : f 4 = _ := h4
      have g5 : f 5 = _ := h5
      have g6 : f 6 = _ := h6
      have g7 : f 7 = _ := h7
      have g8 : f 8 = _ := h8
      have g9 : f 9 = _ := h9
      have g10 : f 10 = _ := h10
      have g11 : f 11 = _ := h11
      have g12 : f 12 = _ := h12
      have g13 : f 13 = _ := h13
      have g14 : f 14 = _ := h14
      have g15 : f 15 = _ := h15
      obtain ⟨b16, (g16 : f 16 = _)⟩ := h16
      obtain ⟨a17, c17, (g17 : f 17 = _)⟩ := h17
      have g18 : f 18 = _ := h18
      simp only [puts, Za, Zb, Zc, Zd, Ze, g0, g1, g2, g3, g4, g5, g6, g7, g8, g9, g10, g11, g12, g13, g14, g15, g16, g17, g18]
      clear h0 h1 h2 h3 h4 h5 h6 h7 h8 h9 h10 h11 h12 h13 h14 h15 h18 g0 g1 g2 g3 g4 g5 g6 g7 g8 g9 g10 g11 g12 g13 g14 g15 g18
      simp only [g17] at hS
      obtain ⟨hbD, hzD, -, hPD⟩ := hS
      have HX : Hid (Pcs WA (w.heap.size + 3) (prodPs bm bo (BQ k) (fs ++ [false]) (.slice (some ⟨gq, 0, none⟩) (BQ k).q.length cq) (.slice a17 (k + 1) c17) (.slice a17 (k + 1) c17) (.slice va (BQ k).a.length ca) (.slice va (BQ k).a.length ca) ++ [.blk pb #[.int .i64 (A : Int), .int .i64 (Y : Int)]]) ∧ Below (w.heap.size + 3) W3 WA ∧ pb + 1 ≤ WA.heap.size) := Lib.hid ⟨hPD, hbD, hzD⟩
      clear hbD hzD hPD
      go_wp2_with (fail)
      go_meet
      case rel => exact ⟨a17, c17, HX.out⟩
   case rest =>
    obtain ⟨a7, c7, hP8, hB8, hz8⟩ := hcut
    obtain ⟨⟨c1, c2, c3, c4⟩, ⟨e1, e2, e3, e4⟩, hd8, he8, -, -⟩ := HO.out wc hB8
    have z0 : wc.cell? ⟨pb, 0, none⟩ = some (.int .i64 (A : Int)) := ((hP8.blk 5 rfl).2.cell 0).1
    have HP8 := Lib.hid hP8
    have HB8 := Lib.hid hB8
    have HS8 := Lib.hid hz8
    clear hP8 hB8 he8 hz8
    go_wp2_with (fail)
    refine (out_in _ _ (A : Int) wc hd8 HVA.out.sorted (fun x hx => (HVA.out.arc hx).2.1) HVA.out.2.2.2.1 (by have := HVA.out.1; omega)).mono ?_
    rintro e w9 ⟨⟨ao, co, rfl, hO9⟩, hb9⟩
    have HO9 := Lib.hid hO9
    have HP9 := Lib.hid (HP8.out.quiet (below_grows hb9 none))
    have HB9 : Hid (Below (w.heap.size + 3) W3 w9) := Lib.hid (HB8.out.trans (hb9.mono (by have := HBO.out; have := HPB.out; have := HS8.out; omega)))
    have HZ9 : Hid (pb + 1 ≤ w9.heap.size) := Lib.hid (by have := hb9.size; have := HS8.out; omega)
    have HOA : Hid (∀ j, j < (outsD a.arcs (A : Int)).length → ∃ l T : Nat, g3 (outsD a.arcs (A : Int)) j = ⟨A, l, T⟩ ∧ (T : Int) < a.n ∧ l ≤ 10000) := Lib.hid (fun j hj => by
     obtain ⟨l, T, h1, h2⟩ := outs_arc HVA.out hj
     refine ⟨l, T, h1, h2, ?_⟩
     have := (HVA.out.arc (outsD_mem.1 (g3_mem _ j hj)).1).2.2
     rw [h1] at this
     simp only at this
     omega)
    have hol : (outsD a.arcs (A : Int)).length ≤ 20000 := Nat.le_trans (List.length_filter_le _ _) HVA.out.2.2.2.1
    have holl : (outsD a.arcs (A : Int)).length ≤ a.arcs.length := List.length_filter_le _ _
    have HOLL := Lib.hid holl
    have HST1 : Hid (BQ (k + 1) = bqs k (BQ k) (kp b (Y : Int) (outsD a.arcs (A : Int)))) := Lib.hid (by rw [HST.out k HLT.out, HPQ.out])
    obtain ⟨OE, hOE⟩ : ∃ OE, outsD a.arcs (A : Int) = OE := ⟨_, rfl⟩
    rw [hOE] at HO9 HOA HST1 HOLL hol ⊢
    obtain ⟨IN, hIN⟩ : ∃ IN : Nat → Bq P2, IN = fun j => bqs k (BQ k) (kp b (Y : Int) (OE.take j)) := ⟨_, rfl⟩
    have HI0 : Hid (IN 0 = BQ k) := Lib.hid (by rw [hIN]; rfl)
    have HIE : Hid (IN OE.length = BQ (k + 1)) := Lib.hid (by rw [hIN, HST1.out]; show bqs k (BQ k) (kp b (Y : Int) (OE.take OE.length)) = _; rw [List.take_length])
    have HIS : Hid (∀ j l T : Nat, j < OE.length → g3 OE j = ⟨A, l, T⟩ → IN (j + 1) = (match nxtD b.arcs Y l with | some z => bq1 k (IN j) ((l : Int), ⟨(T : Int), z.t⟩) | none => IN j)) := Lib.hid (fun j l T hj hg => by
     rw [hIN]
     show bqs k (BQ k) (kp b (Y : Int) (OE.take (j + 1))) = _
     rw [kp_take _ _ _ hj, hg]
     cases nxtD b.arcs Y l with
     | none => simp
     | some z => simp [bqs_snoc])
    have HIP : Hid (∀ j, (BQ k).q <+: (IN j).q) := Lib.hid (fun j => by rw [hIN]; exact bqs_pre _ _ _)
    have HIA : Hid (∀ j, (IN j).a.length ≤ (BQ k).a.length + a.arcs.length) := Lib.hid (fun j => by
     rw [hIN]
     show (bqs k (BQ k) (kp b (Y : Int) (OE.take j))).a.length ≤ _
     rw [bqs_alen]
     have h1 := kp_len b (Y : Int) (OE.take j)
     have h2 : (OE.take j).length ≤ OE.length := by rw [List.length_take]; omega
     have h3 := HOLL.out
     omega)
    have HILE : Hid (∀ j, j ≤ OE.length → (IN j).q.length ≤ M) := Lib.hid (fun j hj => by
     refine Nat.le_trans ?_ (HLEN.out (k + 1))
     rw [HST1.out, hIN, kp_split b (Y : Int) OE j]
     exact bqs_sub _ _ _ _)
    have HAK : Hid ((BQ k).a.length + a.arcs.length ≤ 20000) := Lib.hid (by
     have h1 := HAL.out k
     have h2 : k + 1 ≤ M := by have := HLT.out; omega
     have h3 := Nat.mul_le_mul_right a.arcs.length h2
     rw [Nat.succ_mul] at h3
     have h4 := HM.out
     omega)
    obtain ⟨OL, hOL⟩ : ∃ OL, OE.length = OL := ⟨_, rfl⟩
    have HOL := Lib.hid hOL
    rw [hOL] at HO9 HOA HIE HIS HILE hol HOLL ⊢
    rw [← HI0.out] at HP9 ⊢
    clear hIN hOL hOE hO9 hb9 hd8 HB8 HP8 HS8 z0 c1 c2 c3 c4 e1 e2 e3 e4 holl
    go_wp2_with (fail)
    go_loopw [8, 72] (fun vq c W => ∃ (j : Nat) (aq : Option Addr) (cq : Nat) (va : Option Addr) (ca : Nat), j ≤ OL ∧ c = .int .i64 (j : Int) ∧ vq = .slice aq (IN j).q.length cq ∧ Pcs W (w.heap.size + 3) (prodPs bm bo (IN j) (fs ++ [FB]) (.slice aq (IN j).q.length cq) (.slice a7 (k + 1) c7) (.slice a7 (k + 1) c7) (.slice va (IN j).a.length ca) (.slice va (IN j).a.length ca) ++ [.blk pb #[.int .i64 (A : Int), .int .i64 (Y : Int)]]) ∧ Below (w.heap.size + 3) W3 W ∧ pb + 1 ≤ W.heap.size) (fun _ c _ => OL - (intOf c).toNat)
    case atStart => exact ⟨0, some ⟨gq, 0, none⟩, cq, va, ca, Nat.zero_le _, rfl, rfl, HP9.out, HB9.out, HZ9.out⟩
    case round =>
     clear HP9 HB9 HZ9
     obtain ⟨j, aq, cq, va, ca, hj, rfl, rfl, hP, hb, hz⟩ := hrel
     have hvM := HILE.out j hj
     obtain ⟨⟨c1, c2, c3, c4⟩, ⟨e1, e2, e3, e4⟩, hdr, her, -, -⟩ := HO.out wr hb
     rcases Nat.lt_or_ge j OL with hjl | hjge
     ·have t2 : decide (j < OL) = true := decide_eq_true hjl
      obtain ⟨bo', oo, rfl, hco⟩ := (HO9.out wr hdr).fix (by omega)
      obtain ⟨l, T, hx, hT, hl⟩ := HOA.out j hjl
      obtain ⟨x1, x2, x3⟩ := hco wr (Below.refl _ _) j hjl
      rw [hx] at x1 x2 x3
      simp only at x1 x2 x3
      have HJ := Lib.hid (HIS.out j l T hjl hx)
      have HP := Lib.hid hP
      have HB := Lib.hid hb
      have HJL := Lib.hid hjl
      clear hP hb hco hx hdr her hjl
      go_upto_region 15 with (fail)
      obtain ⟨W10, hW10⟩ : ∃ W10, wr.alloc (.cells #[.int .i64 (A : Int), .int .i64 (l : Int), .int .i64 (T : Int)] 63) = W10 := ⟨_, rfl⟩
      have hP10 := HP.out.new (by have := HBO.out; have := HPB.out; omega) #[.int .i64 (A : Int), .int .i64 (l : Int), .int .i64 (T : Int)] 63
      have hB10 : Below (w.heap.size + 3) W3 W10 := by rw [← hW10]; exact HB.out.alloc (by have := HBO.out; have := HPB.out; omega) _
      have HS10 : Hid (W10.heap.size = wr.heap.size + 1) := Lib.hid (by rw [← hW10]; simp)
      rw [hW10] at hP10 ⊢
      obtain ⟨xb, hxb⟩ : ∃ xb, wr.heap.size = xb := ⟨_, rfl⟩
      have HXB : Hid (pb + 1 ≤ xb) := Lib.hid (by omega)
      rw [hxb] at hP10 HS10 ⊢
      have hP10 : Pcs W10 (w.heap.size + 3) (prodPs bm bo (IN j) (fs ++ [FB]) (.slice aq (IN j).q.length cq) (.slice a7 (k + 1) c7) (.slice a7 (k + 1) c7) (.slice va (IN j).a.length ca) (.slice va (IN j).a.length ca) ++ [.blk pb #[.int .i64 (A : Int), .int .i64 (Y : Int)], .blk xb #[.int .i64 (A : Int), .int .i64 (l : Int), .int .i64 (T : Int)]]) := hP10
      have z1 : W10.cell? ⟨pb, 1, none⟩ = some (.int .i64 (Y : Int)) := ((hP10.blk 5 rfl).2.cell 1).1
      have x2 : W10.cell? ⟨xb, 1, none⟩ = some (.int .i64 (l : Int)) := ((hP10.blk 6 rfl).2.cell 1).1
      obtain ⟨⟨c1, c2, c3, c4⟩, ⟨e1, e2, e3, e4⟩, hdr, her, -, -⟩ := HO.out W10 hB10
      have hnx := next_any b kh (Y : Int) (l : Int) W10 her HVB.out.sorted HVB.out.2.2.2.1
      unfold nextV at hnx
      have HP10 := Lib.hid hP10
      have HB10 := Lib.hid hB10
      clear hW10 hxb HP HB hP10 hB10 hdr her x1 x3 hz
      cases hn : nxtD b.arcs (Y : Int) (l : Int) with
      | none =>
       rw [hn] at hnx HJ
       clear hn
       go_wp2_with (fail)
       refine hnx.mono ?_
       rintro e w11 ⟨rfl, hb11⟩
       have HP11 := Lib.hid (Pcs.left (qs := [.blk xb #[.int .i64 (A : Int), .int .i64 (l : Int), .int .i64 (T : Int)]]) (ps := prodPs bm bo (IN j) (fs ++ [FB]) (.slice aq (IN j).q.length cq) (.slice a7 (k + 1) c7) (.slice a7 (k + 1) c7) (.slice va (IN j).a.length ca) (.slice va (IN j).a.length ca) ++ [.blk pb #[.int .i64 (A : Int), .int .i64 (Y : Int)]]) (by have h1 := HP10.out.quiet (below_grows hb11 none); exact h1))
       have HB11 : Hid (Below (w.heap.size + 3) W3 w11) := Lib.hid (HB10.out.trans (hb11.mono (by have := HS10.out; have := HXB.out; have := HPB.out; have := HBO.out; omega)))
       have HZ11 : Hid (pb + 1 ≤ w11.heap.size) := Lib.hid (by have := hb11.size; have := HS10.out; have := HXB.out; omega)
       clear hb11 hnx
       go_wp2_with (fail)
       go_roundw
       case rel => exact ⟨j + 1, aq, cq, va, ca, HJL.out, by go_num, by rw [HJ.out], by rw [HJ.out]; exact HP11.out, HB11.out, HZ11.out⟩
       case measure => simp [intOf]; omega
      | some z =>
       rw [hn] at hnx HJ
       have hzt := (HVB.out.arc (nxtD_mem hn).1).1.2
       obtain ⟨Z, hZ⟩ := Int.eq_ofNat_of_zero_le hzt.1
       simp only [hZ] at hnx HJ hzt
       have HZT : Hid ((Z : Int) < b.n) := Lib.hid hzt.2
       clear hn hZ hzt
       go_wp2_with (fail)
       refine hnx.mono ?_
       rintro e w11 ⟨rfl, hb11⟩
       have hP11 := HP10.out.quiet (below_grows hb11 none)
       have HB11 : Hid (Below (w.heap.size + 3) W3 w11) := Lib.hid (HB10.out.trans (hb11.mono (by have := HS10.out; have := HXB.out; have := HPB.out; have := HBO.out; omega)))
       have HZ11 : Hid (xb + 1 ≤ w11.heap.size) := Lib.hid (by have := hb11.size; have := HS10.out; omega)
       have x3 : w11.cell? ⟨xb, 2, none⟩ = some (.int .i64 (T : Int)) := ((hP11.blk 6 rfl).2.cell 2).1
       have HP11 := Lib.hid hP11
       clear hb11 hnx hP11 HP10 HB10 HS10 z1 x2 c1 c2 c3 c4 e1 e2 e3 e4
       go_upto_region 18 with (fail)
       obtain ⟨W12, hW12⟩ : ∃ W12, w11.alloc (.cells #[.int .i64 (T : Int), .int .i64 (Z : Int)] 84) = W12 := ⟨_, rfl⟩
       have hP12 := HP11.out.new (by have := HBO.out; have := HPB.out; have := HXB.out; have := HZ11.out; omega) #[.int .i64 (T : Int), .int .i64 (Z : Int)] 84
       have hB12 : Below (w.heap.size + 3) W3 W12 := by rw [← hW12]; exact HB11.out.alloc (by have := HBO.out; have := HPB.out; have := HXB.out; have := HZ11.out; omega) _
       have HS12 : Hid (W12.heap.size = w11.heap.size + 1) := Lib.hid (by rw [← hW12]; simp)
       rw [hW12] at hP12 ⊢
       obtain ⟨qb, hqb⟩ : ∃ qb, w11.heap.size = qb := ⟨_, rfl⟩
       have HQB : Hid (xb + 1 ≤ qb) := Lib.hid (by have := HZ11.out; omega)
       rw [hqb] at hP12 HS12 ⊢
       have hP12 : Pcs W12 (w.heap.size + 3) (prodPs bm bo (IN j) (fs ++ [FB]) (.slice aq (IN j).q.length cq) (.slice a7 (k + 1) c7) (.slice a7 (k + 1) c7) (.slice va (IN j).a.length ca) (.slice va (IN j).a.length ca) ++ [.blk pb #[.int .i64 (A : Int), .int .i64 (Y : Int)], .blk xb #[.int .i64 (A : Int), .int .i64 (l : Int), .int .i64 (T : Int)], .blk qb #[.int .i64 (T : Int), .int .i64 (Z : Int)]]) := hP12
       have y0 : W12.cell? ⟨qb, 0, none⟩ = some (.int .i64 (T : Int)) := ((hP12.blk 7 rfl).2.cell 0).1
       have y1 : W12.cell? ⟨qb, 1, none⟩ = some (.int .i64 (Z : Int)) := ((hP12.blk 7 rfl).2.cell 1).1
       have HM12 : Hid (IsMapK keyP 3 (IN j).q (pqV (IN j).q) W12 bm) := Lib.hid (isMapK_iff.2 (hP12.each 0 _ rfl).2)
       have HP12 := Lib.hid hP12
       have HB12 := Lib.hid hB12
       have HOK : Hid (keyP.ok ⟨(T : Int), (Z : Int)⟩) := Lib.hid (keyP_ok (by have := HVA.out.1; omega) (by have := HVB.out.1; have := HZT.out; omega))
       clear hW12 hqb hP12 hB12 HP11 HB11 HZ11 x3
       obtain ⟨QJ, hQJ⟩ : ∃ Q, (IN (j + 1)).q = Q := ⟨_, rfl⟩
       have HQJ := Lib.hid hQJ
       clear hQJ
       obtain ⟨KB, hKB⟩ : ∃ KB, decide ((⟨(T : Int), (Z : Int)⟩ : P2) ∈ (IN j).q) = KB := ⟨_, rfl⟩
       obtain ⟨n0, hn0⟩ : ∃ n0, (if KB = true then (IN j).q.idxOf (⟨(T : Int), (Z : Int)⟩ : P2) else 0) = n0 := ⟨_, rfl⟩
       have HKB := Lib.hid hKB
       have HN0 := Lib.hid hn0
       clear hKB hn0
       go_cut [17, 18] (fun v17 v18 wc => v17 = .int .i64 (n0 : Int) ∧ v18 = .bool KB ∧ wc = W12)
       case first =>
        by_cases hm : (⟨(T : Int), (Z : Int)⟩ : P2) ∈ (IN j).q
        ·have HMI := Lib.hid hm
         have HK : Hid (KB = true) := Lib.hid (by rw [← HKB.out]; exact decide_eq_true hm)
         have HNN : Hid (n0 = (IN j).q.idxOf (⟨(T : Int), (Z : Int)⟩ : P2)) := Lib.hid (by rw [← HN0.out, if_pos HK.out])
         clear hm
         go_wp2_with (at_lookup; refine wpList_map_ok_yes rfl _ _ 85 rfl HM12.out (elemAt_i64 Try.underlying3) Try.underlying85 (.int .i64 0) (zeroInt _) (int_elem wfI0) rfl ⟨(T : Int), (Z : Int)⟩ rfl HOK.out HMI.out (v := .int .i64 (((IN j).q.idxOf (⟨(T : Int), (Z : Int)⟩ : P2) : Nat) : Int)) rfl ?_)
         go_meet
         case rel => exact ⟨by rw [HNN.out], by rw [HK.out], rfl⟩
        ·have HMI := Lib.hid hm
         have HK : Hid (KB = false) := Lib.hid (by rw [← HKB.out]; exact decide_eq_false hm)
         have HNN : Hid (n0 = 0) := Lib.hid (by rw [← HN0.out, HK.out]; rfl)
         clear hm
         go_wp2_with (at_lookup; refine wpList_map_ok_no rfl _ _ 85 rfl HM12.out (elemAt_i64 Try.underlying3) Try.underlying85 (.int .i64 0) (zeroInt _) (int_elem wfI0) rfl ⟨(T : Int), (Z : Int)⟩ rfl HOK.out HMI.out (v := .int .i64 0) rfl ?_)
         go_meet
         case rel => exact ⟨by rw [HNN.out]; rfl, by rw [HK.out], rfl⟩
       case rest =>
        obtain ⟨rfl, rfl, rfl⟩ := hcut
        go_upto_if 98 with fail
        go_cut [8, 17] (fun vq v17 wc => ∃ (aq : Option Addr) (cq : Nat), vq = .slice aq QJ.length cq ∧ v17 = .int .i64 ((QJ.idxOf (⟨(T : Int), (Z : Int)⟩ : P2) : Nat) : Int) ∧ Pcs wc (w.heap.size + 3) (prodPs bm bo ⟨QJ, [], (IN j).a⟩ (fs ++ [FB]) (.slice aq QJ.length cq) (.slice a7 (k + 1) c7) (.slice a7 (k + 1) c7) (.slice va (IN j).a.length ca) (.slice va (IN j).a.length ca) ++ [.blk pb #[.int .i64 (A : Int), .int .i64 (Y : Int)], .blk xb #[.int .i64 (A : Int), .int .i64 (l : Int), .int .i64 (T : Int)], .blk qb #[.int .i64 (T : Int), .int .i64 (Z : Int)]]) ∧ Below (w.heap.size + 3) W3 wc ∧ qb + 1 ≤ wc.heap.size)
        case first =>
         cases KB
         ·have hm : (⟨(T : Int), (Z : Int)⟩ : P2) ∉ (IN j).q := of_decide_eq_false HKB.out
          have hq2 : QJ = (IN j).q ++ [⟨(T : Int), (Z : Int)⟩] := by rw [← HQJ.out, HJ.out]; exact (bq1_no hm).1
          have HQ2 := Lib.hid hq2
          have HIX : Hid (QJ.idxOf (⟨(T : Int), (Z : Int)⟩ : P2) = (IN j).q.length) := Lib.hid (by rw [hq2, List.idxOf_append, if_neg hm]; simp)
          have HMI := Lib.hid hm
          have HML : Hid ((IN j).q.length < maxLen) := Lib.hid (by unfold maxLen; have := HN.out; omega)
          have HWF : Hid (wfI ((IN j).q.length : Int)) := Lib.hid (wf_small (by omega) (by have := HN.out; omega))
          clear hq2 hm
          go_wp2_with (first | (at_mapUpdate; refine wpList_map_store rfl _ _ _ 85 rfl HM12.out Try.underlying85 HML.out rfl ⟨(T : Int), (Z : Int)⟩ rfl HOK.out HMI.out (.int .i64 ((IN j).q.length : Int)) rfl (int_elem HWF.out) ?_; intro W13 hm13 hg13; obtain ⟨HP13, HB13, HZ13⟩ := prod_store HP12.out HB12.out (by have := HS12.out; omega) (by have := HBM.out; omega) hm13 hg13 (prod_vals HMI.out); have y0 : W13.cell? ⟨qb, 0, none⟩ = some (.int .i64 (T : Int)) := ((HP13.out.blk 7 rfl).2.cell 0).1; have y1 : W13.cell? ⟨qb, 1, none⟩ = some (.int .i64 (Z : Int)) := ((HP13.out.blk 7 rfl).2.cell 1).1; have HP14 := Lib.hid (HP13.out.quiet (below_grows ((Below.refl _ _).alloc (Nat.le_refl _) (.cells #[.int .i64 (T : Int), .int .i64 (Z : Int)] 84)) none)); have HB14 : Hid (Below (w.heap.size + 3) W3 (W13.alloc (.cells #[.int .i64 (T : Int), .int .i64 (Z : Int)] 84))) := Lib.hid (HB13.out.alloc (by have := HZ13.out; have := HQB.out; have := HXB.out; have := HPB.out; have := HBO.out; omega) _); have HZ14 : Hid (w.heap.size + 3 ≤ (W13.alloc (.cells #[.int .i64 (T : Int), .int .i64 (Z : Int)] 84)).heap.size ∧ qb + 1 ≤ (W13.alloc (.cells #[.int .i64 (T : Int), .int .i64 (Z : Int)] 84)).heap.size) := Lib.hid (by have := HZ13.out; have := HQB.out; have := HXB.out; have := HPB.out; have := HBO.out; constructor <;> (simp; omega)); clear hm13 hg13) | (at_builtin; refine app_pcs elP rfl _ _ rfl 2 rfl HP14.out rfl rfl (new_src W13 #[.int .i64 (T : Int), .int .i64 (Z : Int)] _ rfl) pair_one (by have := HN.out; omega) HZ14.out.1 ?_; intro a15 c15 w15 hp15 hb15))
          go_meet
          case rel =>
           refine ⟨a15, c15, by rw [HQ2.out, List.length_append]; rfl, by rw [HIX.out], ?_, HB14.out.trans hb15, Nat.le_trans HZ14.out.2 hb15.size⟩
           rw [HQ2.out]
           unfold prodPs
           simp only
           rw [pv2_append, List.length_append]
           exact hp15
         ·have hm : (⟨(T : Int), (Z : Int)⟩ : P2) ∈ (IN j).q := of_decide_eq_true HKB.out
          have HQ2 : Hid (QJ = (IN j).q) := Lib.hid (by rw [← HQJ.out, HJ.out]; exact (bq1_yes hm).1)
          have HNN : Hid (n0 = (IN j).q.idxOf (⟨(T : Int), (Z : Int)⟩ : P2)) := Lib.hid (by rw [← HN0.out, if_pos rfl])
          clear hm
          go_wp2_with (fail)
          go_meet
          case rel => exact ⟨aq, cq, by rw [HQ2.out], by rw [HQ2.out, HNN.out], by rw [HQ2.out]; exact HP12.out, HB12.out, by have := HS12.out; omega⟩
        case rest =>
         clear y0 y1
         obtain ⟨aq, cq, rfl, rfl, hPc, hBc, hzc⟩ := hcut
         obtain ⟨n1, hn1⟩ : ∃ n1, QJ.idxOf (⟨(T : Int), (Z : Int)⟩ : P2) = n1 := ⟨_, rfl⟩
         have HN1 := Lib.hid hn1
         rw [hn1]
         replace hPc : Pcs wc (w.heap.size + 3) ([.obj bm (MapObj keyP 3 QJ (pqV QJ)), .blk bo #[.int .i64 0, .int .i64 0, (.slice a7 (k + 1) c7), (.slice va (IN j).a.length ca)], .row 84 2 (.slice aq QJ.length cq) QJ.length (pv2 QJ), .row 4 1 (.slice a7 (k + 1) c7) (fs ++ [FB]).length (bvs (fs ++ [FB])), .row 63 3 (.slice va (IN j).a.length ca) (IN j).a.length (tvs (IN j).a)] ++ [.blk pb #[.int .i64 (A : Int), .int .i64 (Y : Int)], .blk xb #[.int .i64 (A : Int), .int .i64 (l : Int), .int .i64 (T : Int)], .blk qb #[.int .i64 (T : Int), .int .i64 (Z : Int)]]) := hPc
         have u0 : wc.cell? ⟨bo, 3, none⟩ = some (.slice va (IN j).a.length ca) := ((hPc.blk 1 rfl).2.cell 3).1
         have u1 : wc.cell? ⟨xb, 1, none⟩ = some (.int .i64 (l : Int)) := ((hPc.blk 6 rfl).2.cell 1).1
         have hal : (IN j).a.length ≤ 20000 := by have := HIA.out j; have := HAK.out; omega
         have HP14 := Lib.hid (hPc.quiet (below_grows ((Below.refl _ _).alloc (Nat.le_refl _) (.cells #[.int .i64 (k : Int), .int .i64 (l : Int), .int .i64 (n1 : Int)] 63)) none))
         have HB14 : Hid (Below (w.heap.size + 3) W3 (wc.alloc (.cells #[.int .i64 (k : Int), .int .i64 (l : Int), .int .i64 (n1 : Int)] 63))) := Lib.hid (hBc.alloc (by have := HQB.out; have := HXB.out; have := HPB.out; have := HBO.out; omega) _)
         have HZ14 : Hid (w.heap.size + 3 ≤ (wc.alloc (.cells #[.int .i64 (k : Int), .int .i64 (l : Int), .int .i64 (n1 : Int)] 63)).heap.size ∧ qb + 1 ≤ (wc.alloc (.cells #[.int .i64 (k : Int), .int .i64 (l : Int), .int .i64 (n1 : Int)] 63)).heap.size) := Lib.hid (by have := HQB.out; have := HXB.out; have := HPB.out; have := HBO.out; constructor <;> (simp; omega))
         clear hPc hBc hzc hn1
         go_wp2_with (at_builtin; refine app_pcs elA rfl _ _ rfl 4 rfl HP14.out rfl rfl (new_src wc #[.int .i64 (k : Int), .int .i64 (l : Int), .int .i64 (n1 : Int)] _ rfl) arc_one (by omega) HZ14.out.1 ?_; intro a15 c15 w15 hp15 hb15; have v0 := ((hp15.blk 1 rfl).2.cell 3); have v1 : w15.cell? ⟨bo, 3, none⟩ = some (.slice va (IN j).a.length ca) := v0.1; have v2 := v0.2; clear v0)
         have HJA : Hid ((IN (j + 1)).a = (IN j).a ++ [⟨(k : Int), (l : Int), (n1 : Int)⟩]) := Lib.hid (by
          rw [HJ.out]
          show (bq1 k (IN j) ((l : Int), (⟨(T : Int), (Z : Int)⟩ : P2))).a = _
          rw [bqG_one, ← HJ.out, HQJ.out, HN1.out])
         have HP16 := Lib.hid (hp15.blkStore 1 rfl 3 (.slice a15 ((IN j).a.length + 1) c15))
         have HB16 : Hid (Below (w.heap.size + 3) W3 (w15.setCell ⟨bo, 3, none⟩ (.slice a15 ((IN j).a.length + 1) c15))) := Lib.hid ((HB14.out.trans hb15).setCell (by have := HBO.out; show _ ≤ bo; omega) _)
         have HZ16 : Hid (pb + 1 ≤ (w15.setCell ⟨bo, 3, none⟩ (.slice a15 ((IN j).a.length + 1) c15)).heap.size) := Lib.hid (by rw [World.size_setCell]; have := hb15.size; have := HZ14.out.2; have := HQB.out; have := HXB.out; omega)
         clear hp15 hb15 HP14 HB14 HZ14 v1 v2 u0 u1
         go_roundw
         case rel =>
          refine ⟨j + 1, aq, cq, a15, c15, HJL.out, by go_num, by rw [HQJ.out], ?_, HB16.out, HZ16.out⟩
          have h1 := Pcs.left (ps := [.obj bm (MapObj keyP 3 QJ (pqV QJ)), .blk bo #[.int .i64 0, .int .i64 0, (.slice a7 (k + 1) c7), .slice a15 ((IN j).a.length + 1) c15], .row 84 2 (.slice aq QJ.length cq) QJ.length (pv2 QJ), .row 4 1 (.slice a7 (k + 1) c7) (fs ++ [FB]).length (bvs (fs ++ [FB])), .row 63 3 (.slice a15 ((IN j).a.length + 1) c15) ((IN j).a.length + 1) (tvs (IN j).a ++ [.int .i64 (k : Int), .int .i64 (l : Int), .int .i64 (n1 : Int)]), .blk pb #[.int .i64 (A : Int), .int .i64 (Y : Int)]]) (qs := [.blk xb #[.int .i64 (A : Int), .int .i64 (l : Int), .int .i64 (T : Int)], .blk qb #[.int .i64 (T : Int), .int .i64 (Z : Int)]]) HP16.out
          unfold prodPs
          rw [HQJ.out, HJA.out, tvs_append, List.length_append]
          exact h1
         case measure => simp [intOf]; omega
     ·obtain rfl : j = OL := by omega
      have t2 : decide (j < j) = false := decide_eq_false (by omega)
      have hkv : k + 1 ≤ (BQ (k + 1)).q.length := by
       rw [← HIE.out]
       have h1 := (HIP.out j).length_le
       have h2 := HLT.out
       omega
      have HKV := Lib.hid hkv
      rw [HIE.out] at hP ⊢
      have HP := Lib.hid (Pcs.left (qs := [.blk pb #[.int .i64 (A : Int), .int .i64 (Y : Int)]]) hP)
      have hz0 : wr.cell? ⟨bo, 3, none⟩ = some (.slice va (BQ (k + 1)).a.length ca) := ((hP.blk 1 rfl).2.cell 3).1
      have hal : (BQ (k + 1)).a.length ≤ 20000 := by rw [← HIE.out]; have := HIA.out j; have := HAK.out; omega
      have hql : (BQ (k + 1)).q.length ≤ 1000 := by have := HLEN.out (k + 1); omega
      have d1 : decide (1000 < (BQ (k + 1)).q.length) = false := decide_eq_false (by omega)
      have d2 : decide (20000 < (BQ (k + 1)).a.length) = false := decide_eq_false (by omega)
      have d3 : decide ((1000 : Int) < ((BQ (k + 1)).q.length : Int)) = false := decide_eq_false (by omega)
      have d4 : decide ((20000 : Int) < ((BQ (k + 1)).a.length : Int)) = false := decide_eq_false (by omega)
      have HFS2 : Hid (((BQ (k + 1)).q.take (k + 1)).map fn = fs ++ [FB]) := Lib.hid (by
       obtain ⟨t, ht⟩ := HIP.out j
       rw [HIE.out] at ht
       have h2 := HLT.out
       rw [← ht, List.take_append_of_le_length (by omega), List.take_succ_eq_append_getElem h2, List.map_append, HFS.out]
       congr 1
       have h3 := HPQ.out
       rw [gp2_eq _ _ h2] at h3
       rw [h3, HFN.out, ← HFB.out]
       rfl)
      have hk1 : k < M := by have := HLT.out; have := HLEN.out k; omega
      have HB := Lib.hid hb
      clear hkv hP hb hdr her hjge hj hal hql
      go_wp2_with (fail)
      go_roundw
      case rel => exact ⟨k + 1, aq, cq, a7, c7, va, ca, HKV.out, by go_num, rfl, by rw [HFS2.out]; exact HP.out, HB.out, by have := HPB.out; omega⟩
      case measure => simp [intOf]; omega
  ·have hke : (BQ k).q.length = k := by omega
   have t1 : decide (k < (BQ k).q.length) = false := decide_eq_false (by omega)
   have HR := Lib.hid (HFI.out k (by omega))
   have HFT : Hid (((BQ k).q.take k).map fn = (BQ k).q.map fn) := Lib.hid (by rw [List.take_of_length_le (by omega)])
   obtain ⟨L, hL⟩ : ∃ L, (BQ k).q.length = L := ⟨_, rfl⟩
   have hB1 := (hP.blk 1 rfl).2
   have b0 := hB1.cell 0
   have hP5 := hP.blkStore 1 rfl 0 (.int .i64 (L : Int))
   obtain ⟨W5, hW5⟩ : ∃ W5, wr.setCell ⟨bo, 0, none⟩ (.int .i64 (L : Int)) = W5 := ⟨_, rfl⟩
   have hb5 : Below (w.heap.size + 3) W3 W5 := by rw [← hW5]; exact hb.setCell (by have := HBO.out; show _ ≤ bo; omega) _
   rw [hW5] at hP5
   have hB5 := (hP5.blk 1 rfl).2
   have f0 : W5.cell? ⟨bo, 0, none⟩ = some (.int .i64 (L : Int)) := (hB5.cell 0).1
   have f1 : W5.cell? ⟨bo, 1, none⟩ = some (.int .i64 0) := (hB5.cell 1).1
   have f2 : W5.cell? ⟨bo, 2, none⟩ = some (.slice af k cf) := (hB5.cell 2).1
   have f3 : W5.cell? ⟨bo, 3, none⟩ = some (.slice va (BQ k).a.length ca) := (hB5.cell 3).1
   have b01 : wr.cell? ⟨bo, 0, none⟩ = some (.int .i64 0) := b0.1
   have b02 := b0.2
   obtain ⟨-, -, -, -, hbW5, hZ5⟩ := HO.out W5 hb5
   have hZ6 := setRow_heap W5 (w.heap.size + 2) _ #[.int .i64 (L : Int), .int .i64 0, .slice af k cf, .slice va (BQ k).a.length ca] _ _ hZ5
   have hlen5 : (((BQ k).q.take k).map fn).length = k := by rw [List.length_map, List.length_take]; omega
   have hbs := below_setRow (g := w.heap.size + 2) (Below.refl (w.heap.size + 2) W5) (Nat.le_refl _) #[.int .i64 (L : Int), .int .i64 0, .slice af k cf, .slice va (BQ k).a.length ca]
   have hgs : W5.grownBy (W5.setRow (w.heap.size + 2) #[.int .i64 (L : Int), .int .i64 0, .slice af k cf, .slice va (BQ k).a.length ca]) (some (w.heap.size + 2)) := ⟨hbs.os, hbs.tape, hbs.output, hbs.size, fun b _ hne => setRow_other W5 _ b _ (fun e => hne (by rw [e]))⟩
   have hF5 := (hP5.each 3 _ rfl).grown hgs fun b hb e => by have := ((hP5.each 3 _ rfl).lt hb).1; injection e with e; omega
   have hA5 := (hP5.each 4 _ rfl).grown hgs fun b hb e => by have := ((hP5.each 4 _ rfl).lt hb).1; injection e with e; omega
   simp only [Pc.At] at hF5 hA5
   have hIF := (IsBools.of_owns hF5).1
   have hIA := (IsArcs.of_owns hA5).1
   have hb6 := below_setRow (g := w.heap.size + 2) hbW5 (by omega) #[.int .i64 (L : Int), .int .i64 0, .slice af k cf, .slice va (BQ k).a.length ca]
   have HH := Lib.hid (And.intro hIF hIA)
   have HE := Lib.hid hke
   have HLL := Lib.hid hL
   rw [hL] at t1 ⊢
   clear hIF hIA hF5 hA5 hlen5 hP5 hB5 hP hB1 b0 hke hL hk hge hbs hgs hvM
   go_wp2_with (show wpList _ _ _ (⟨_, .store 30 _ _, _, _, _, _⟩ :: _) _ _; refine wpList_store_row rfl 30 _ _ rfl (w.heap.size + 2) #[.int .i64 (L : Int), .int .i64 0, .slice af k cf, .slice va (BQ k).a.length ca] rfl rfl _ _ hZ5 dfa_i rfl (dfa_one _ _ _ _ _ _ _ _) ?_)
   refine bodyPost_ret (results_cell_row2 rfl _ _ (w.heap.size + 2) _ _ _ _ rfl rfl hZ6 Try.underlying30 rfl dfa_i) rfl ?_
   rw [HR.out]
   obtain ⟨hIF, hIA⟩ := HH.out
   rw [HFT.out, HFN.out] at hIF
   refine ⟨⟨⟨af, k, cf, va, (BQ k).a.length, ca⟩, ?_, hIF, hIA⟩, hb6⟩
   unfold vDf resP
   rw [HLL.out]
   rfl
theorem product_any {a b : Dfa} {h k : DH} {w : World} (hs : ValidD a → ValidD b → nP a b ≤ 1000 ∧ nP a b * a.arcs.length ≤ 20000) (hd : IsDfa w h a) (he : IsDfa w k b) : Calls Try.prog 29 #[vDf a h, vDf b k] w (GivesDE (prodR a b) (prodE a b) w) := by
 unfold prodR prodE
 by_cases ha : ValidD a
 ·by_cases hb : ValidD b
  ·rw [vD_yes ha, vD_yes hb]
   exact product_yes ha hb (hs ha hb).1 (hs ha hb).2 hd he
  ·rw [vD_yes ha, vD_no hb]
   exact product_nb ha hb hd he
 ·rw [vD_no ha]
  exact product_na ha hd he
theorem few_prod {a b : Dfa} (ha : FewD a) (hb : FewD b) : nP a b ≤ 1000 ∧ nP a b * a.arcs.length ≤ 20000 := by
 have h1 : nP a b ≤ 144 := by
  unfold nP
  exact Nat.le_trans (Nat.mul_le_mul (show a.n.toNat ≤ 12 by have := ha.1; omega) (show b.n.toNat ≤ 12 by have := hb.1; omega)) (by decide)
 exact ⟨by omega, Nat.le_trans (Nat.mul_le_mul h1 ha.2.2) (by decide)⟩
end Go.Proofs.Ytpcbmhfnefhenaa

set_option linter.unusedVariables false
namespace Go.Proofs.Ytpcbmhfnefhenaa
section
variable {α : Type} [DecidableEq α]
def ShortW (st : Bq α) : Prop := st.w.length = st.q.length ∧ ∀ u ∈ st.w, u.length < st.q.length
theorem shortW_one {h : Nat} {st : Bq α} {x : Int × α} (hs : ShortW st) (hp : 0 < st.q.length) : ShortW (bq1 h st x) := by
 refine ⟨bq1_wlen h st x hs.1, ?_⟩
 by_cases hm : x.2 ∈ st.q
 ·have e := bq1_yes (h := h) hm
  rw [e.1, e.2]; exact hs.2
 ·have e := bq1_no (h := h) hm
  rw [e.1, e.2]
  intro u hu
  rw [List.length_append, List.length_singleton]
  rcases List.mem_append.1 hu with hu | hu
  ·have := hs.2 u hu; omega
  ·rw [List.mem_singleton.1 hu, List.length_append, List.length_singleton]
   have : (st.w.getD h []).length < st.q.length := by
    rcases Nat.lt_or_ge h st.w.length with h1 | h1
    ·rw [List.getD_eq_getElem?_getD, List.getElem?_eq_getElem h1]
     exact hs.2 _ (List.getElem_mem h1)
    ·rw [List.getD_eq_getElem?_getD, List.getElem?_eq_none h1]
     exact hp
   omega
theorem shortW_all {h : Nat} : ∀ (l : List (Int × α)) (st : Bq α), ShortW st → 0 < st.q.length → ShortW (bqs h st l)
 | [], st, hs, hp => hs
 | x :: l, st, hs, hp => shortW_all l _ (shortW_one hs hp) (Nat.lt_of_lt_of_le hp (bq1_pre h st x).length_le)
theorem shortW_bq (o : α → List (Int × α)) (s : α) : ∀ k, ShortW (bq o s k)
 | 0 => ⟨rfl, fun u hu => by have hu : u ∈ [([] : List Int)] := hu; rw [List.mem_singleton.1 hu]; show 0 < [s].length; simp⟩
 | k + 1 => by
  have ih := shortW_bq o s k
  have hp : 0 < (bq o s k).q.length := lastG_pos
  show ShortW (bqh o k (bq o s k))
  unfold bqh
  split
  ·exact shortW_all _ _ ih hp
  ·exact ih
end
theorem incW_len {a b : Dfa} (ha : ValidD a) (hb : ValidD b) {w : List Int} (h : incW a b = some w) : w.length ≤ nI a b := by
 unfold incW at h
 rw [Option.map_eq_some_iff] at h
 obtain ⟨i, hi, rfl⟩ := h
 have hs := shortW_bq (oI a b) ⟨a.s, b.s⟩ (nI a b)
 have hl := bqI_len ha hb (nI a b)
 have h1 : i < (bq (oI a b) ⟨a.s, b.s⟩ (nI a b)).w.length := by
  rw [hs.1]
  exact (List.findIdx?_eq_some_iff_getElem.1 hi).1
 show ((bq (oI a b) ⟨a.s, b.s⟩ (nI a b)).w.getD i []).length ≤ _
 rw [List.getD_eq_getElem?_getD, List.getElem?_eq_getElem h1]
 have := hs.2 _ (List.getElem_mem h1)
 simp only [Option.getD_some]
 omega
theorem nI_few {a b : Dfa} (ha : a.n ≤ 12) (hb : b.n ≤ 12) : nI a b ≤ 156 := by
 unfold nI
 exact Nat.le_trans (Nat.mul_le_mul (show a.n.toNat ≤ 12 by omega) (show b.n.toNat + 1 ≤ 13 by omega)) (by decide)
end Go.Proofs.Ytpcbmhfnefhenaa
