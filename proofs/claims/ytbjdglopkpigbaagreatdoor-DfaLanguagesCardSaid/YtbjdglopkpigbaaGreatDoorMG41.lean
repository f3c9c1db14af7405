import Derived.StringKeys
import Derived.Test.YtbjdglopkpigbaaGreatDoorShelf
import Derived.Sort.OwnSortedInts
import Derived.Test.YtbjdglopkpigbaaGreatDoorMG7
import Derived.Test.YtbjdglopkpigbaaGreatDoorMG23
import Derived.Test.YtbjdglopkpigbaaGreatDoorMG40
/-
  NaDf, NaNb, NaSo
-/
set_option linter.unusedSimpArgs false
set_option linter.unusedVariables false
set_option linter.unusedSectionVars false
namespace Go.Proofs.YtbjdglopkpigbaaGreatDoor.Na
section
variable {α : Type} [DecidableEq α] {o : α → List (Int × α)} {s : α} {N : Nat}
theorem hN_at {Q : List α} {i : Nat} (hi : i < Q.length) : headArcs o Q i = (o Q[i]).map fun x => ⟨i, x.1, (Q.idxOf x.2 : Nat)⟩ := by
 unfold headArcs
 rw [List.getElem?_eq_getElem hi]
theorem hN_f {Q : List α} {i : Nat} {x : A3} (h : x ∈ headArcs o Q i) : x.f = i ∧ i < Q.length := by
 rcases Nat.lt_or_ge i Q.length with hi | hi
 ·rw [hN_at hi] at h
  obtain ⟨y, _, rfl⟩ := List.mem_map.1 h
  exact ⟨rfl, hi⟩
 ·unfold headArcs at h
  rw [List.getElem?_eq_none hi] at h
  simp at h
theorem lastN_mem (hl : (bq o s N).q.length ≤ N) {x : A3} : x ∈ (bq o s N).a ↔ ∃ i, ∃ hi : i < (bq o s N).q.length, x.f = i ∧ ∃ y ∈ o (bq o s N).q[i], x.l = y.1 ∧ x.t = ((bq o s N).q.idxOf y.2 : Nat) := by
 rw [bq_arcs, List.mem_flatMap]
 constructor
 ·rintro ⟨i, _, hx⟩
  have hf := hN_f hx
  rw [hN_at hf.2] at hx
  obtain ⟨z, hz, rfl⟩ := List.mem_map.1 hx
  exact ⟨i, hf.2, rfl, z, hz, rfl, rfl⟩
 ·rintro ⟨i, hi, h1, y, hy, h4, h5⟩
  refine ⟨i, List.mem_range.2 (by omega), ?_⟩
  rw [hN_at hi]
  exact List.mem_map.2 ⟨y, hy, by rw [← h1, ← h4, ← h5]⟩
theorem lastN_sorted (ha : ∀ q, (o q).Pairwise fun x y => x.1 < y.1) : SortedA (bq o s N).a := by
 unfold SortedA
 rw [bq_arcs, List.pairwise_flatMap]
 refine ⟨fun i _ => ?_, ?_⟩
 ·rcases Nat.lt_or_ge i (bq o s N).q.length with hi | hi
  ·rw [hN_at hi, List.pairwise_map]
   exact List.Pairwise.imp (fun h => .inr ⟨rfl, h⟩) (ha _)
  ·unfold headArcs
   rw [List.getElem?_eq_none hi]
   exact List.Pairwise.nil
 ·refine List.Pairwise.imp ?_ (List.pairwise_lt_range)
  intro i j hij x hx y hy
  have h1 := (hN_f hx).1
  have h2 := (hN_f hy).1
  exact .inl (by omega)
theorem lastN_closed (hl : (bq o s N).q.length ≤ N) {i : Nat} (hi : i < (bq o s N).q.length) : ∀ x ∈ o (bq o s N).q[i], x.2 ∈ (bq o s N).q :=
 bq_closed o s N i (by omega) _ (List.getElem?_eq_getElem hi)
theorem lastN_pos : 0 < (bq o s N).q.length := by
 have := (bq_pre o s (Nat.zero_le N)).length_le
 exact Nat.lt_of_lt_of_le (by show 0 < [s].length; simp) this
theorem lastN_start : (bq o s N).q[0]'lastN_pos = s := by
 have h := bq_pre o s (Nat.zero_le N)
 obtain ⟨h', hg⟩ := get_pre h (show 0 < (bq o s 0).q.length by show 0 < [s].length; simp)
 rw [hg]
 rfl
theorem lastN_arc (hl : (bq o s N).q.length ≤ N) {x : A3} : x ∈ (bq o s N).a ↔ ∃ i, ∃ hi : i < (bq o s N).q.length, x.f = i ∧ ∃ y ∈ o (bq o s N).q[i], x.l = y.1 ∧ ∃ t, ∃ ht : t < (bq o s N).q.length, x.t = (t : Nat) ∧ (bq o s N).q[t] = y.2 := by
 have hnd := bq_nodup o s N
 rw [lastN_mem hl]
 constructor
 ·rintro ⟨i, hi, h1, y, hy, h2, h3⟩
  have ht := List.idxOf_lt_length_of_mem (lastN_closed hl hi y hy)
  exact ⟨i, hi, h1, y, hy, h2, _, ht, h3, List.getElem_idxOf ht⟩
 ·rintro ⟨i, hi, h1, y, hy, h2, t, ht, h3, h4⟩
  refine ⟨i, hi, h1, y, hy, h2, ?_⟩
  have hm : y.2 ∈ (bq o s N).q := lastN_closed hl hi y hy
  have h5 := List.idxOf_lt_length_of_mem hm
  have h6 : (bq o s N).q.idxOf y.2 = t := (List.getElem_inj hnd).1 ((List.getElem_idxOf h5).trans h4.symm)
  rw [h6, h3]
end
theorem out_mem {ar : List A3} {S : List Int} {c : Int} (h : c ∈ lvL ar S) : (c, movL ar S c) ∈ outN ar S := List.mem_map_of_mem h
noncomputable def detF (a : Nfa) : Bq (List Int) := detB a 1000
theorem detF_eq (a : Nfa) : detF a = bq (outN a.arcs) (cloL a.arcs a.s) 1000 := rfl
theorem movL_out {a : Nfa} (hv : ValidN a) {S : List Int} {c : Int} (h : ¬ (0 < c ∧ c ≤ 10000)) : movL a.arcs S c = [] := by
 refine List.eq_nil_iff_forall_not_mem.2 fun z hz => ?_
 obtain ⟨y, hy, _⟩ := (mem_cloL hv.arcsIn (tgtL_bd hv.arcsIn S c)).1 hz
 obtain ⟨h0, x, hx, h1, _⟩ := mem_tgtL.1 hy
 have := (hv.arc hx).2
 omega
theorem movL_ne {a : Nfa} (hv : ValidN a) {S : List Int} {c : Int} : movL a.arcs S c ≠ [] ↔ c ∈ lvL a.arcs S := by
 by_cases h : 0 < c ∧ c ≤ 10000
 ·exact movL_nil hv.arcsIn h
 ·rw [movL_out hv h, mem_lvL]
  exact ⟨fun e => absurd rfl e, fun e => absurd e.1 h⟩
section
variable {a : Nfa} {lim : Int} {N : Nat}
theorem DetOk.len (h : DetOk a lim) : (detF a).q.length ≤ 1000 := by
 have := h 1000
 have e : detF a = detB a 1000 := rfl
 rw [e]
 omega
theorem detB_zero (a : Nfa) (N : Nat) : gw (detB a N).q 0 = cloL a.arcs a.s := by
 rw [gw_eq _ _ (detB_pos a N)]
 exact lastN_start (o := outN a.arcs) (s := cloL a.arcs a.s) (N := N)
theorem detF_start (a : Nfa) : 0 < (detF a).q.length ∧ gw (detF a).q 0 = cloL a.arcs a.s := by
 rw [detF_eq]
 exact ⟨detB_pos a 1000, detB_zero a 1000⟩
theorem detB_nodup (a : Nfa) (N : Nat) : (detB a N).q.Nodup := bq_nodup _ _ _
theorem detF_nodup (a : Nfa) : (detF a).q.Nodup := by rw [detF_eq]; exact detB_nodup a 1000
theorem gw_distinct {l : List (List Int)} (hn : l.Nodup) {i k : Nat} (hi : i < l.length) (hk : k < i) : gw l i ≠ gw l k := fun e => by
 rw [gw_eq _ _ hi, gw_eq _ _ (by omega)] at e
 exact List.pairwise_iff_getElem.1 hn k i (by omega) hi hk e.symm
theorem gw_inj {l : List (List Int)} (hn : l.Nodup) {i k : Nat} (hi : i < l.length) (hk : k < l.length) (e : gw l i = gw l k) : i = k := by
 rcases Nat.lt_trichotomy i k with h | h | h
 ·exact absurd e.symm (gw_distinct hn hk h)
 ·exact h
 ·exact absurd e (gw_distinct hn hi h)
theorem mem_detB (hv : ValidN a) (hl : (detB a N).q.length ≤ N) {x : A3} : x ∈ (detB a N).a ↔ ∃ i : Nat, i < (detB a N).q.length ∧ x.f = i ∧ movL a.arcs (gw (detB a N).q i) x.l ≠ [] ∧ ∃ t : Nat, t < (detB a N).q.length ∧ x.t = t ∧ gw (detB a N).q t = movL a.arcs (gw (detB a N).q i) x.l := by
 have key := lastN_arc (o := outN a.arcs) (s := cloL a.arcs a.s) (N := N) hl (x := x)
 have e0 : detB a N = bq (outN a.arcs) (cloL a.arcs a.s) N := rfl
 rw [← e0] at key
 rw [key]
 clear key e0
 generalize detB a N = D at hl ⊢
 constructor
 ·rintro ⟨i, hi, h1, y, hy, h2, t, ht, h3, h4⟩
  rw [← gw_eq _ _ hi] at hy
  rw [← gw_eq _ _ ht] at h4
  have hy' := mem_outN.1 hy
  exact ⟨i, hi, h1, by rw [h2]; exact (movL_ne hv).2 hy'.1, t, ht, h3, by rw [h4, h2]; exact hy'.2⟩
 ·rintro ⟨i, hi, h1, h2, t, ht, h3, h4⟩
  have hm := out_mem ((movL_ne hv).1 h2)
  generalize movL a.arcs (gw D.q i) x.l = M at h4 hm
  refine ⟨i, hi, h1, (x.l, M), ?_, rfl, t, ht, h3, ?_⟩
  ·rw [← gw_eq _ _ hi]
   exact hm
  ·rw [← gw_eq _ _ ht]
   exact h4
theorem mem_detF (hv : ValidN a) (h : DetOk a lim) {x : A3} : x ∈ (detF a).a ↔ ∃ i : Nat, i < (detF a).q.length ∧ x.f = i ∧ movL a.arcs (gw (detF a).q i) x.l ≠ [] ∧ ∃ t : Nat, t < (detF a).q.length ∧ x.t = t ∧ gw (detF a).q t = movL a.arcs (gw (detF a).q i) x.l := by
 have hl := h.len
 rw [detF_eq] at hl ⊢
 exact mem_detB hv hl
theorem detF_sorted (a : Nfa) : SortedA (detF a).a := by
 rw [detF_eq]
 exact lastN_sorted (o := outN a.arcs) (s := cloL a.arcs a.s) (N := 1000) (outN_asc a.arcs)
theorem detB_closed (hl : (detB a N).q.length ≤ N) {i : Nat} (hi : i < (detB a N).q.length) : ∀ x ∈ outN a.arcs (gw (detB a N).q i), x.2 ∈ (detB a N).q := by
 rw [gw_eq _ _ hi]
 exact lastN_closed (o := outN a.arcs) (s := cloL a.arcs a.s) (N := N) hl hi
theorem detF_arc (hv : ValidN a) (h : DetOk a lim) {i : Nat} (hi : i < (detF a).q.length) {c : Int} (hc : movL a.arcs (gw (detF a).q i) c ≠ []) : ∃ t : Nat, t < (detF a).q.length ∧ gw (detF a).q t = movL a.arcs (gw (detF a).q i) c ∧ (⟨i, c, t⟩ : A3) ∈ (detF a).a ∧ ∀ x ∈ (detF a).a, x.f = i → x.l = c → x.t = t := by
 have hcl : ∀ x ∈ outN a.arcs (gw (detF a).q i), x.2 ∈ (detF a).q := by
  have hl := h.len
  rw [detF_eq] at hl hi ⊢
  exact detB_closed hl hi
 have hkey := fun x => mem_detF hv h (x := x)
 have hnd := detF_nodup a
 generalize detF a = D at hi hc hcl hkey hnd ⊢
 have hm := hcl _ (out_mem ((movL_ne hv).1 hc))
 simp only at hm
 obtain ⟨t, ht, e⟩ := List.getElem_of_mem hm
 have e' : gw D.q t = movL a.arcs (gw D.q i) c := by rw [gw_eq _ _ ht]; exact e
 refine ⟨t, ht, e', (hkey _).2 ⟨i, hi, rfl, hc, t, ht, rfl, e'⟩, fun x hx h1 h2 => ?_⟩
 obtain ⟨j, hj, h3, h4, u, hu, h5, h6⟩ := (hkey _).1 hx
 obtain rfl : j = i := by omega
 rw [h2, ← e'] at h6
 rw [h5, gw_inj hnd hu ht h6]
theorem detF_noarc (hv : ValidN a) (h : DetOk a lim) {i : Nat} {c : Int} (hc : movL a.arcs (gw (detF a).q i) c = []) : ∀ x ∈ (detF a).a, ¬ (x.f = i ∧ x.l = c) := fun x hx ⟨h1, h2⟩ => by
 obtain ⟨j, hj, h3, h4, _⟩ := (mem_detF hv h).1 hx
 obtain rfl : j = i := by omega
 rw [h2] at h4
 exact h4 hc
end
end Go.Proofs.YtbjdglopkpigbaaGreatDoor.Na
namespace Go.Proofs.YtbjdglopkpigbaaGreatDoor.Na
open List (foldr_cons foldr_nil setIfInBounds_toArray set_cons_succ set_cons_zero)
open Go.RowKit
attribute [local go_sem] Oper.semAt_some
def okS (S : List Int) : Prop := S.Pairwise (· < ·) ∧ Bd 4096 S
noncomputable def wdsOf (S : List Int) : List Int := Bt.wordsL (Bt.setL (inL S))
theorem wdsOf_is (S : List Int) : Bt.SetIs (wdsOf S) (inL S) := Bt.words_setL (inL S)
theorem wdsOf_eq {zs S : List Int} (h : Bt.SetIs zs (inL S)) : wdsOf S = zs := (wdsOf_is S).uniq h fun _ _ => rfl
theorem okS_ext {S T : List Int} (hS : okS S) (hT : okS T) (h : ∀ n, n < 4096 → inL S n = inL T n) : S = T := by
 refine pairwise_ext hS.1 hT.1 fun z => ?_
 constructor
 ·intro hz
  have hb := hS.2 z hz
  have h1 := h z.toNat (by omega)
  unfold inL at h1
  rw [Int.toNat_of_nonneg hb.1, decide_eq_true hz] at h1
  exact of_decide_eq_true h1.symm
 ·intro hz
  have hb := hT.2 z hz
  have h1 := h z.toNat (by omega)
  unfold inL at h1
  rw [Int.toNat_of_nonneg hb.1, decide_eq_true hz] at h1
  exact of_decide_eq_true h1
theorem wds_len (S : List Int) : (wdsOf S).length ≤ 64 := (wdsOf_is S).2.1.1
noncomputable def keyE : KeyEnc Tryz.prog 9 (List Int) where
 law := Maps.string_keyed Tryz.underlying9
 enc := fun S => .string (keyS (wdsOf S))
 ok := okS
 kl := fun S => .string (keyS (wdsOf S)).data.toList
 reads := fun S _ => WideMaps.keyOf_string_mk Tryz.underlying9 (by
  show (keyB (wdsOf S)).toArray.size ≤ maxLen
  rw [List.size_toArray]
  have h1 := keyB_len (wdsOf S)
  have h2 := wds_len S
  unfold maxLen
  omega)
 inj := fun S T hS hT h => by
  injection h with h
  have h1 : keyB (wdsOf S) = keyB (wdsOf T) := by
   have := congrArg (fun b : ByteArray => b.data.toList) h
   simpa [keyS] using this
  have h2 := keyB_inj (wdsOf_is S).1 (wdsOf_is T).1 h1
  refine okS_ext hS hT fun n hn => ?_
  rw [← (wdsOf_is S).2.2 n hn, h2, (wdsOf_is T).2.2 n hn]
section
variable {α : Type} [DecidableEq α]
def idxS (q : List α) (x : α) : Nat := q.idxOf x
theorem idxS_pre {q : List α} {x y : α} (hx : x ∈ q) : idxS (q ++ [y]) x = idxS q x := idx_pre (List.prefix_append q [y]) hx
theorem idxS_new {q : List α} {x : α} (hx : x ∉ q) : idxS (q ++ [x]) x = q.length := by
 unfold idxS
 rw [List.idxOf_append, if_neg hx]
 simp
end
def idxV (ks : List (List Int)) (S : List Int) : Lit := .int .i64 ((idxS ks S : Nat) : Int)
structure SP where
 g : Nat
 t : Nat
 M : Nat
 xs : List Int
 S : List Int
def SP.v (x : SP) : Value := .slice (some ⟨x.g, 0, none⟩) x.t x.t
def SP.pc (x : SP) : Pc := .row 104 1 (.slice (some ⟨x.g, 0, none⟩) x.M x.M) x.M (ivs .u64 x.xs)
def SP.ok (x : SP) : Prop := x.t ≤ x.M ∧ x.xs.length = x.M ∧ Bt.SetIs (x.xs.take x.t) (inL x.S) ∧ x.t ≤ 64
theorem SP.partN {x : SP} {W : World} {B : Nat} (h : x.pc.At W B) (hx : x.ok) : PartOf .u64 104 W B x.g x.t (x.xs.take x.t) := ⟨x.M, x.xs, hx.1, hx.2.1, rfl, h⟩
theorem _root_.Go.Proofs.YtbjdglopkpigbaaGreatDoor.Pcs.sub {W : World} {B : Nat} {ps qs : List Pc} (h : Pcs W B ps) (hs : qs.Sublist ps) : Pcs W B qs := by
 have h1 : ∀ p ∈ ps, p.At W B := fun p hp => by
  obtain ⟨i, hi, e⟩ := List.getElem_of_mem hp
  exact h.each i p (by rw [List.getElem?_eq_getElem hi, e])
 have h2 : ps.Pairwise (fun p q => ∀ k, p.own = some k → q.own ≠ some k) :=
  List.pairwise_iff_getElem.2 fun i j hi hj hij => h.apart i j _ _ (by omega) (List.getElem?_eq_getElem hi) (List.getElem?_eq_getElem hj)
 have h3 := h2.sublist hs
 refine ⟨fun i p hp => h1 p (hs.subset (List.mem_of_getElem? hp)), fun i j p q hne hp hq k hk e => ?_⟩
 obtain ⟨hi, e1⟩ := List.getElem?_eq_some_iff.1 hp
 obtain ⟨hj, e2⟩ := List.getElem?_eq_some_iff.1 hq
 rcases Nat.lt_or_ge i j with hij | hij
 ·exact List.pairwise_iff_getElem.1 h3 i j hi hj hij k (by rw [e1]; exact hk) (by rw [e2]; exact e)
 ·exact List.pairwise_iff_getElem.1 h3 j i hj hi (by omega) k (by rw [e2]; exact e) (by rw [e1]; exact hk)
def subPs (po pm mb : Nat) (cs : Array Value) (vS vF vA : Value) (vs : List SP) (fins : List Bool) (ar : List A3) (X : List Pc) : List Pc :=
 .blk po cs :: .row 68 1 vS vs.length (vs.map SP.v) :: .row 4 1 vF fins.length (bvs fins) :: .row 49 3 vA ar.length (tvs ar) :: .obj mb (MapObj keyE 3 (vs.map SP.S) (idxV (vs.map SP.S))) :: .blk pm #[.map (some mb)] :: (vs.map SP.pc ++ X)
theorem elSS : Elem Tryz.prog 60 68 (.slice none 0 0) 1 24 := ⟨Tryz.underlying60, by kernel_rfl, rfl, by decide⟩
theorem zeroInt (w : World) : (zeroValue 3).run Tryz.prog w = .ok (Lit.int .i64 0).value w := by kernel_rfl
theorem int_elem {n : Int} (h : (Lit.int .i64 n).wf = true) : plainElem (H := Unit) Tryz.prog 3 (Lit.int .i64 n).value = some (.lit (.int .i64 n), []) := plainElem_int Tryz.underlying3 h
theorem _root_.Go.Proofs.YtbjdglopkpigbaaGreatDoor.IsMapK.valsN {P : Program} {k e : TypeId} {α : Type} [DecidableEq α] {E : KeyEnc P k α} {ks : List α} {val val' : α → Lit} {W : World} {b : Nat} (h : IsMapK E e ks val W b) (hv : ∀ a ∈ ks, val a = val' a) : IsMapK E e ks val' W b := by
 rw [isMapK_iff] at h ⊢
 obtain ⟨o, h1, h2⟩ := h
 exact ⟨o, h1, h2.vals hv⟩
theorem sub_part {W : World} {B po pm mb : Nat} {cs : Array Value} {vS vF vA : Value} {vs : List SP} {fins : List Bool} {ar : List A3} {X : List Pc} (hP : Pcs W B (subPs po pm mb cs vS vF vA vs fins ar X)) {x : SP} (hm : x ∈ vs) (hx : x.ok) : PartOf .u64 104 W B x.g x.t (x.xs.take x.t) := by
 obtain ⟨i, hi, e⟩ := List.getElem_of_mem (show x.pc ∈ subPs po pm mb cs vS vF vA vs fins ar X from
  List.mem_cons_of_mem _ (List.mem_cons_of_mem _ (List.mem_cons_of_mem _ (List.mem_cons_of_mem _ (List.mem_cons_of_mem _ (List.mem_cons_of_mem _ (List.mem_append_left _ (List.mem_map_of_mem hm))))))))
 exact SP.partN (hP.each i x.pc (by rw [List.getElem?_eq_getElem hi, e])) hx
def addS (vs : List SP) (x : SP) : List SP := if x.S ∈ vs.map SP.S then vs else vs ++ [x]
def addF (vs : List SP) (fins : List Bool) (x : SP) (b : Bool) : List Bool := if x.S ∈ vs.map SP.S then fins else fins ++ [b]
def Numbered (B po pm mb : Nat) (vA : Value) (vs : List SP) (fins : List Bool) (ar : List A3) (X : List Pc) (W W' : World) : Prop :=
 (∃ aS cS aF cF, Pcs W' B (subPs po pm mb #[.slice aS vs.length cS, .slice aF fins.length cF, vA] (.slice aS vs.length cS) (.slice aF fins.length cF) vA vs fins ar X)) ∧ Below B W W'
set_option maxRecDepth 20000 in
set_option maxHeartbeats 8000000 in
theorem number_any {a : Nfa} {h : NH} {W1 W : World} {B pa po pm mb : Nat} {aS : Option Addr} {cS : Nat} {aF : Option Addr} {cF : Nat} {vA : Value} {vs : List SP} {fins : List Bool} {ar : List A3} {X : List Pc} {x : SP} (hv : ValidN a)
  (hO : ∀ W', Below B W1 W' → (W'.cell? ⟨pa, 0, none⟩ = some (.int .i64 a.n) ∧ W'.cell? ⟨pa, 1, none⟩ = some (.slice h.sa h.sl h.sc) ∧ W'.cell? ⟨pa, 2, none⟩ = some (.slice h.fa h.fl h.fc) ∧ W'.cell? ⟨pa, 3, none⟩ = some (.slice h.aa h.al h.ac)) ∧ IsNfa W' h a ∧ TabW W')
  (hb : Below B W1 W) (hBW : B ≤ W.heap.size) (hP : Pcs W B (subPs po pm mb #[.slice aS vs.length cS, .slice aF fins.length cF, vA] (.slice aS vs.length cS) (.slice aF fins.length cF) vA vs fins ar (x.pc :: X)))
  (hx : x.ok) (hcs : CS a x.S) (hlen : vs.length ≤ 100000) (hfl : fins.length = vs.length) :
  Calls Tryz.prog 62 #[x.v, .pointer (some ⟨pm, 0, none⟩), .pointer (some ⟨po, 0, none⟩), .pointer (some ⟨pa, 0, none⟩)] W fun e W' => e = .returned (.int .i64 ((idxS ((addS vs x).map SP.S) x.S : Nat) : Int)) ∧ Numbered B po pm mb vA (addS vs x) (addF vs fins x (finL a.fin x.S)) ar X W W' := by
 have hpart : ∀ W', Pcs W' B (subPs po pm mb #[.slice aS vs.length cS, .slice aF fins.length cF, vA] (.slice aS vs.length cS) (.slice aF fins.length cF) vA vs fins ar (x.pc :: X)) → PartOf .u64 104 W' B x.g x.t (x.xs.take x.t) := fun W' hP' => by
  obtain ⟨i, hi, e⟩ := List.getElem_of_mem (show x.pc ∈ subPs po pm mb #[.slice aS vs.length cS, .slice aF fins.length cF, vA] (.slice aS vs.length cS) (.slice aF fins.length cF) vA vs fins ar (x.pc :: X) by unfold subPs; simp)
  exact SP.partN (hP'.each i x.pc (by rw [List.getElem?_eq_getElem hi, e])) hx
 have hfl2 : fins.length ≤ 100000 := by omega
 clear hfl
 have hok : okS x.S := ⟨hcs.2.2, fun z hz => by have := hcs.1 z hz; have := hv.1; omega⟩
 have hki := (hpart W hP).ints
 have hkey := key_any hki hx.2.2.1.1 hx.2.2.2
 rw [← wdsOf_eq hx.2.2.1] at hkey
 have HPART := Lib.hid hpart
 have HX := Lib.hid hx
 have HCS := Lib.hid hcs
 have HV := Lib.hid hv
 have HO := Lib.hid hO
 have HOK := Lib.hid hok
 have HP := Lib.hid hP
 have HB := Lib.hid hb
 by_cases hin : x.S ∈ vs.map SP.S
 ·have HIN := Lib.hid hin
  have HA : Hid (addS vs x = vs ∧ addF vs fins x (finL a.fin x.S) = fins) := Lib.hid ⟨by unfold addS; rw [if_pos hin], by unfold addF; rw [if_pos hin]⟩
  unfold SP.v
  clear hpart hv hO hb hP hx hcs hok hki hin
  go_enter Tryz.func62, Tryz.ntmps62
  go_wp2_with (first
   | (go_at_call 63; refine hkey.mono ?_; rintro e w2 ⟨rfl, hb2⟩; have hP2 := HP.out.quiet (below_grows hb2 none); have cpm : w2.cell? ⟨pm, 0, none⟩ = some (.map (some mb)) := ((hP2.blk 5 rfl).2.cell 0).1; have HM : Hid (IsMapK keyE 3 (vs.map SP.S) (idxV (vs.map SP.S)) w2 mb) := Lib.hid (isMapK_iff.2 (hP2.each 4 _ rfl).2); have HP2 := Lib.hid hP2; clear hP2)
   | (at_lookup; refine wpList_map_ok_yes rfl _ _ 105 rfl HM.out (elemAt_i64 Tryz.underlying3) Tryz.underlying105 (.int .i64 0) (zeroInt _) (int_elem (wf_small (by omega) (by omega))) rfl x.S rfl HOK.out HIN.out rfl ?_))
  go_ret
  rw [HA.out.1, HA.out.2]
  refine ⟨rfl, ⟨aS, cS, aF, cF, HP2.out.sub ?_⟩, hb2.mono hBW⟩
  unfold subPs
  refine .cons_cons _ (.cons_cons _ (.cons_cons _ (.cons_cons _ (.cons_cons _ (.cons_cons _ ?_)))))
  exact List.Sublist.append_left (List.sublist_cons_self _ _) _
 ·have HIN := Lib.hid hin
  have HA : Hid (addS vs x = vs ++ [x] ∧ addF vs fins x (finL a.fin x.S) = fins ++ [finL a.fin x.S]) := Lib.hid ⟨by unfold addS; rw [if_neg hin], by unfold addF; rw [if_neg hin]⟩
  have HR : Hid (idxS ((vs ++ [x]).map SP.S) x.S = vs.length) := Lib.hid (by
   rw [List.map_append]
   have := idxS_new hin
   rw [List.length_map] at this
   exact this)
  have HVL : Hid (∀ S ∈ vs.map SP.S ++ [x.S], (if S = x.S then Lit.int .i64 (vs.length : Int) else idxV (vs.map SP.S) S) = idxV (vs.map SP.S ++ [x.S]) S) := Lib.hid (fun S hS => by
   by_cases e : S = x.S
   ·subst e
    rw [if_pos rfl]
    unfold idxV
    rw [idxS_new HIN.out, List.length_map]
   ·rw [if_neg e]
    unfold idxV
    rw [idxS_pre]
    rcases List.mem_append.1 hS with h | h
    ·exact h
    ·exact absurd (List.mem_singleton.1 h) e)
  have hwf : (Lit.int .i64 (vs.length : Int)).wf = true := wf_small (by omega) (by omega)
  have HWF := Lib.hid hwf
  have hks : (vs.map SP.S).length < maxLen := by rw [List.length_map]; unfold maxLen; omega
  unfold SP.v
  clear hpart hv hO hb hP hx hcs hok hki hin hwf
  go_enter Tryz.func62, Tryz.ntmps62
  go_wp2_with (first
   | (go_at_call 63; refine hkey.mono ?_; rintro e w2 ⟨rfl, hb2⟩; have hP2 := HP.out.quiet (below_grows hb2 none); have cpm : w2.cell? ⟨pm, 0, none⟩ = some (.map (some mb)) := ((hP2.blk 5 rfl).2.cell 0).1; have cpo : w2.cell? ⟨po, 0, none⟩ = some (.slice aS vs.length cS) := ((hP2.blk 0 rfl).2.cell 0).1; have HM : Hid (IsMapK keyE 3 (vs.map SP.S) (idxV (vs.map SP.S)) w2 mb) := Lib.hid (isMapK_iff.2 (hP2.each 4 _ rfl).2); have HP2 := Lib.hid hP2; have HB2 := Lib.hid hb2; clear hP2 hb2)
   | (at_lookup; refine wpList_map_ok_no rfl _ _ 105 rfl HM.out (elemAt_i64 Tryz.underlying3) Tryz.underlying105 (.int .i64 0) (zeroInt _) (int_elem (wf_small (by omega) (by omega))) rfl x.S rfl HOK.out HIN.out rfl ?_)
   | (at_mapUpdate; refine wpList_map_store rfl _ _ _ 105 rfl HM.out Tryz.underlying105 hks rfl x.S rfl HOK.out HIN.out (.int .i64 (vs.length : Int)) rfl (int_elem HWF.out) ?_; intro w3 hm3 hg3; refine Hid.out ?_))
  refine Lib.hid ?_
  have hbB : Below B W w2 := HB2.out.mono hBW
  have hg23 : Below B w2 w3 := (Below.refl B w2).grown hg3 (by have := hbB.size; omega) (fun k hk => by injection hk with hk; subst hk; exact (HP2.out.each 4 _ rfl).1)
  have hP3 : Pcs w3 B (.blk po #[.slice aS vs.length cS, .slice aF fins.length cF, vA] :: .row 68 1 (.slice aS vs.length cS) vs.length (vs.map SP.v) :: .row 4 1 (.slice aF fins.length cF) fins.length (bvs fins) :: .row 49 3 vA ar.length (tvs ar) :: .obj mb (MapObj keyE 3 (vs.map SP.S ++ [x.S]) (idxV (vs.map SP.S ++ [x.S]))) :: .blk pm #[.map (some mb)] :: (vs.map SP.pc ++ x.pc :: X)) :=
   HP2.out.put 4 (.obj mb (MapObj keyE 3 (vs.map SP.S ++ [x.S]) (idxV (vs.map SP.S ++ [x.S])))) rfl hg3 ⟨(HP2.out.each 4 _ rfl).1, isMapK_iff.1 (hm3.valsN HVL.out)⟩ (fun q e => .inl e)
  have cpo3 : w3.cell? ⟨po, 0, none⟩ = some (.slice aS vs.length cS) := ((hP3.blk 0 rfl).2.cell 0).1
  have hP3q := hP3.quiet (below_grows ((Below.refl _ _).alloc (Nat.le_refl _) (.cells #[.slice (some ⟨x.g, 0, none⟩) x.t x.t] 68)) none)
  have HP3 := Lib.hid hP3q
  have hs3 : B ≤ w3.heap.size := by have := hg23.size; have := hbB.size; omega
  have HB3 : Hid (Below B W (w3.alloc (.cells #[.slice (some ⟨x.g, 0, none⟩) x.t x.t] 68))) := Lib.hid ((hbB.trans hg23).alloc hs3 _)
  have HS3 : Hid (B ≤ (w3.alloc (.cells #[.slice (some ⟨x.g, 0, none⟩) x.t x.t] 68)).heap.size) := Lib.hid (by simp; omega)
  clear hP3 hP3q hm3 hg3 hbB hg23 cpm cpo HM HP2 HB2 hkey
  go_upto_region 7 with (at_builtin; refine app_pcs elSS rfl _ _ rfl 1 rfl HP3.out rfl rfl (new_src _ #[.slice (some ⟨x.g, 0, none⟩) x.t x.t] _ rfl) (by intro u hu; rw [List.mem_singleton.1 hu]; rfl) (by omega) HS3.out ?_; intro a9 c9 w9 hp9 hb9; have z9 := (hp9.blk 0 rfl).2.cell 0; have z9a : w9.cell? ⟨po, 0, none⟩ = some (.slice aS vs.length cS) := z9.1; have z9b : w9.frozen? ⟨po, 0, none⟩ = false := z9.2; clear z9; have hp5 := hp9.blkStore 0 rfl 0 (.slice a9 (vs.length + 1) c9); have HP9 := Lib.hid hp5; have HB9 : Hid (Below B W (w9.setCell ⟨po, 0, none⟩ (.slice a9 (vs.length + 1) c9))) := Lib.hid ((HB3.out.trans hb9).setCell (p := ⟨po, 0, none⟩) (hp9.blk 0 rfl).1 _); clear hp9 hb9 hp5)
  obtain ⟨W5, hW5⟩ : ∃ W5, w9.setCell ⟨po, 0, none⟩ (.slice a9 (vs.length + 1) c9) = W5 := ⟨_, rfl⟩
  rw [hW5] at HP9 HB9 ⊢
  clear hW5 z9a z9b HP3 HB3 HS3 cpo3
  have HS9 : Hid (B ≤ W5.heap.size) := Lib.hid (Nat.le_trans hBW HB9.out.size)
  obtain ⟨b, hb'⟩ : ∃ b, finL a.fin x.S = b := ⟨_, rfl⟩
  rw [hb'] at HA
  have HFN : Hid (finL a.fin x.S = b) := Lib.hid hb'
  clear hb'
  have HNW : Hid ((vs.map SP.v ++ #[Value.slice (some ⟨x.g, 0, none⟩) x.t x.t].toList) = (vs ++ [x]).map SP.v ∧ (vs.map SP.S ++ [x.S]) = (vs ++ [x]).map SP.S ∧ vs.length + 1 = (vs ++ [x]).length ∧ (vs.map SP.pc ++ x.pc :: X) = (vs ++ [x]).map SP.pc ++ X) := Lib.hid ⟨by rw [List.map_append]; rfl, by rw [List.map_append]; rfl, by simp, by rw [List.map_append, List.append_assoc]; rfl⟩
  have HPN : Hid (Pcs W5 B (subPs po pm mb #[.slice a9 (vs ++ [x]).length c9, .slice aF fins.length cF, vA] (.slice a9 (vs ++ [x]).length c9) (.slice aF fins.length cF) vA (vs ++ [x]) fins ar X)) := Lib.hid (by
   have h1 := HP9.out
   obtain ⟨n1, n2, n3, n4⟩ := HNW.out
   unfold subPs
   rw [← n1, ← n2, ← n3, ← n4]
   exact h1)
  clear HP9
  obtain ⟨S, hSd⟩ : ∃ S : (Nat → Bool) → (Nat → Value) → World → Prop, S = fun L f W' => Below B W W' ∧ B ≤ W'.heap.size ∧ (L 5 = true → L 6 = false → ∃ q, f 5 = .slice (some ⟨q, 0, none⟩) 1 1 ∧ BlkAt W' q #[.bool b]) ∧ Pcs W' B (subPs po pm mb #[.slice a9 (vs ++ [x]).length c9, (if L 8 = true then f 6 else .slice aF fins.length cF), vA] (.slice a9 (vs ++ [x]).length c9) (if L 6 = true then f 6 else .slice aF fins.length cF) vA (vs ++ [x]) (if L 6 = true then fins ++ [b] else fins) ar X) := ⟨_, rfl⟩
  refine wp_region_st mixed (by kernel_rfl) [[], [(0, 31)], [], [], [(2, 33), (3, 34)], [(4, 35)], [(1, 32), (5, 36), (4, 35)], [(0, 31), (1, 32), (2, 33), (3, 34), (4, 35), (5, 36), (6, 37)], [(7, 38), (6, 37), (6, 37), (0, 31), (1, 32), (2, 33), (3, 34), (4, 35), (5, 36), (6, 37)]] [(0, 31), (1, 32), (2, 33), (3, 34), (4, 35), (5, 36), (6, 37), (7, 38)] rfl rfl [EV ?e0, EV ?e1, EV ?e2, EV ?e3, EV (.bool b), fun v => ∃ q, v = .slice (some ⟨q, 0, none⟩) 1 1, fun v => ∃ a' c', v = .slice a' (fins.length + 1) c', EV ?e7, fun _ => True] S ?start ?steps ?rest
  case start =>
   intro f
   rw [hSd]
   exact ⟨HB9.out.drew, HS9.out, fun h => (by cases h), HPN.out.quiet (below_grows ((Below.refl _ _).drew) none)⟩
  case steps =>
   refine ⟨fun L f W hi hd hdn hh hS => ?_, fun L f W hi hd hdn hh hS => ?_, fun L f W hi hd hdn hh hS => ?_, fun L f W hi hd hdn hh hS => ?_, fun L f W hi hd hdn hh hS => ?_, fun L f W hi hd hdn hh hS => ?_, fun L f W hi hd hdn hh hS => ?_, fun L f W hi hd hdn hh hS => ?_, fun L f W hi hd hdn hh hS => ?_, trivial⟩
   ·
    unfold stStep
    rw [if_pos (by simp [Region.wanted])]
    intro K Q hK
    simp only [puts, foldr_nil];go_step
    refine st_ex hK rfl rfl (by simp only [Act.put, setIfInBounds_toArray, set_cons_succ, set_cons_zero, Array.getD_eq_getD_getElem?, List.getElem?_toArray, List.getElem?_cons_succ, List.getElem?_cons_zero, Option.getD_some] <;> rfl) rfl (by rw [hSd] at hS ⊢; exact hS)
   ·
    obtain ⟨h0, -⟩ := hh;have g0 : f 0=_:=h0
    have l6 : L 6 = false := Bool.eq_false_iff.2 fun h => by have q := hdn 6 _ h rfl 1 (by decide); rw [show L 1 = false from hi] at q; cases q
    have l8 : L 8 = false := Bool.eq_false_iff.2 fun h => by have q := hdn 8 _ h rfl 6 (by decide); rw [show L 6 = false from l6] at q; cases q
    unfold stStep
    rw [if_pos (by simp [Region.wanted])]
    intro K Q hK
    simp only [puts, Za, Zb, Zc, Zd, Ze, g0]
    have hS' := hS
    rw [hSd] at hS'
    simp only [l8, if_false, Bool.false_eq_true] at hS'
    have z1 := ((hS'.2.2.2.blk 0 rfl).2.cell 1).1
    have z1 : W.cell? ⟨po, 1, none⟩ = some (.slice aF fins.length cF) := z1
    go_step
    refine st_ex hK rfl rfl (by simp only [Act.put, setIfInBounds_toArray, set_cons_succ, set_cons_zero, Array.getD_eq_getD_getElem?, List.getElem?_toArray, List.getElem?_cons_succ, List.getElem?_cons_zero, Option.getD_some] <;> rfl) rfl (by rw [hSd] at hS ⊢; exact hS)
   ·
    unfold stStep
    rw [if_pos (by simp [Region.wanted])]
    intro K Q hK
    simp only [puts, foldr_nil]
    have hS' := hS
    rw [hSd] at hS'
    obtain ⟨⟨k1, k2, k3, k4⟩, -, -⟩ := HO.out _ (HB.out.trans hS'.1)
    go_step
    refine st_ex hK rfl rfl (by simp only [Act.put, setIfInBounds_toArray, set_cons_succ, set_cons_zero, Array.getD_eq_getD_getElem?, List.getElem?_toArray, List.getElem?_cons_succ, List.getElem?_cons_zero, Option.getD_some] <;> rfl) rfl (by rw [hSd] at hS ⊢; exact hS)
   ·
    unfold stStep
    rw [if_pos (by simp [Region.wanted])]
    intro K Q hK
    simp only [puts, foldr_nil];go_step
    refine st_ex hK rfl rfl (by simp only [Act.put, setIfInBounds_toArray, set_cons_succ, set_cons_zero, Array.getD_eq_getD_getElem?, List.getElem?_toArray, List.getElem?_cons_succ, List.getElem?_cons_zero, Option.getD_some] <;> rfl) rfl (by rw [hSd] at hS ⊢; exact hS)
   ·
    obtain ⟨h2, h3, -⟩ := hh;have g2 : f 2=_:=h2;have g3 : f 3=_:=h3
    have l5 : L 5 = false := Bool.eq_false_iff.2 fun h => by have q := hdn 5 _ h rfl 4 (by decide); rw [show L 4 = false from hi] at q; cases q
    have l6 : L 6 = false := Bool.eq_false_iff.2 fun h => by have q := hdn 6 _ h rfl 5 (by decide); rw [show L 5 = false from l5] at q; cases q
    have l8 : L 8 = false := Bool.eq_false_iff.2 fun h => by have q := hdn 8 _ h rfl 6 (by decide); rw [show L 6 = false from l6] at q; cases q
    unfold stStep
    rw [if_pos (by simp [Region.wanted])]
    intro K Q hK
    simp only [puts, Za, Zb, Zc, Zd, Ze, g2, g3]
    rw [hSd] at hS hK
    have l4 : L 4 = false := hi
    try simp only [stage, l5, l6, l8, l4, if_true, if_false, Bool.false_eq_true] at hS
    obtain ⟨hbW, hzW, -, hPW⟩ := hS
    obtain ⟨-, hdW, hTW⟩ := HO.out W (HB.out.trans hbW)
    have hf := final_any HV.out hdW (sub_part hPW (List.mem_append_right vs (List.mem_singleton.2 rfl)) HX.out).ints HX.out.2.2.1 HCS.out hTW
    rw [HFN.out] at hf
    simp only [vNf] at hf
    go_step
    go_at_call 31
    refine hf.mono ?_
    rintro e w' ⟨rfl, hbw⟩
    refine hK.out _ _ rfl rfl ?_
    simp only [l5, l6, l8, Bool.false_eq_true, ↓reduceIte, Nat.reduceEqDiff]
    exact ⟨hbW.trans (hbw.mono hzW), Nat.le_trans hzW hbw.size, fun h => (by cases h), hPW.quiet (below_grows hbw none)⟩
   ·
    obtain ⟨h4, -⟩ := hh;have g4 : f 4=_:=h4
    have l6 : L 6 = false := Bool.eq_false_iff.2 fun h => by have q := hdn 6 _ h rfl 5 (by decide); rw [show L 5 = false from hi] at q; cases q
    have l8 : L 8 = false := Bool.eq_false_iff.2 fun h => by have q := hdn 8 _ h rfl 6 (by decide); rw [show L 6 = false from l6] at q; cases q
    unfold stStep
    rw [if_pos (by simp [Region.wanted])]
    intro K Q hK
    simp only [puts, Za, Zb, Zc, Zd, Ze, g4]
    rw [hSd] at hS hK
    have l5 : L 5 = false := hi
    try simp only [stage, l6, l8, l5, if_true, if_false, Bool.false_eq_true] at hS
    obtain ⟨hbW, hzW, -, hPW⟩ := hS
    have hal : Below W.heap.size W (W.alloc (.cells #[.bool b] 4)) := (Below.refl _ _).alloc (Nat.le_refl _) _
    go_step
    refine hK.out _ _ rfl ⟨_, rfl⟩ ?_
    simp only [l6, l8, Bool.false_eq_true, ↓reduceIte, Nat.reduceEqDiff]
    exact ⟨hbW.alloc (Nat.le_trans hBW hbW.size) _, Nat.le_trans hzW hal.size, fun _ _ => ⟨_, rfl, BlkAt.new W _ _⟩, hPW.quiet (below_grows hal none)⟩
   ·
    obtain ⟨h1, h5, h4, -⟩ := hh;have g1 : f 1=_:=h1
    obtain ⟨q5, (g5 : f 5 = _)⟩ := h5
    have g4 : f 4=_:=h4
    have l5 : L 5 = true := hd 5 (by decide)
    have l8 : L 8 = false := Bool.eq_false_iff.2 fun h => by have q := hdn 8 _ h rfl 6 (by decide); rw [show L 6 = false from hi] at q; cases q
    unfold stStep
    rw [if_pos (by simp [Region.wanted])]
    intro K Q hK
    simp only [puts, Za, Zb, Zc, Zd, Ze, g1, g5, g4]
    rw [hSd] at hS hK
    have l6 : L 6 = false := hi
    try simp only [stage, l8, l6, l5, if_true, if_false, Bool.false_eq_true] at hS
    obtain ⟨hbW, hzW, h5', hPW⟩ := hS
    obtain ⟨q, e5, hq⟩ := h5' trivial trivial
    rw [g5] at e5
    obtain rfl : q5 = q := by simpa using e5
    refine wp_app_pcs elB _ _ rfl 2 rfl hPW rfl (n := fins.length) (m := 1) (news := [.bool b]) rfl ⟨rfl, fun ad e i u hi => by injection e with e; subst e; rw [addr_add, Nat.zero_add, (hq.cell i).1, ← hi]; simp, fun e => by cases e⟩ (by intro u hu; rw [List.mem_singleton.1 hu]; rfl) (by omega) hzW ?_
    intro a' c' w' hp' hbw
    refine hK.out _ _ rfl ⟨a', c', rfl⟩ ?_
    simp only [l8, Bool.false_eq_true, ↓reduceIte, Nat.reduceEqDiff]
    refine ⟨hbW.trans hbw, Nat.le_trans hzW hbw.size, fun _ h => (by simp at h), ?_⟩
    unfold subPs
    rw [show (fins ++ [b]).length = fins.length + 1 by simp, show bvs (fins ++ [b]) = bvs fins ++ [.bool b] by simp [bvs]]
    exact hp'
   ·
    obtain ⟨h0, h1, h2, h3, h4, h5, h6, -⟩ := hh;have g0 : f 0=_:=h0;have g1 : f 1=_:=h1;have g2 : f 2=_:=h2;have g3 : f 3=_:=h3;have g4 : f 4=_:=h4
    obtain ⟨q5, (g5 : f 5 = _)⟩ := h5
    obtain ⟨a6, c6, (g6 : f 6 = _)⟩ := h6
    unfold stStep
    rw [if_pos (by simp [Region.wanted])]
    intro K Q hK
    simp only [puts, Za, Zb, Zc, Zd, Ze, g0, g1, g2, g3, g4, g5, g6];go_step
    refine st_ex hK rfl rfl (by simp only [Act.put, setIfInBounds_toArray, set_cons_succ, set_cons_zero, Array.getD_eq_getD_getElem?, List.getElem?_toArray, List.getElem?_cons_succ, List.getElem?_cons_zero, Option.getD_some] <;> rfl) rfl (by rw [hSd] at hS ⊢; exact hS)
   ·
    obtain ⟨h7, h6, _, h0, h1, h2, h3, h4, h5, _, -⟩ := hh;have g7 : f 7=_:=h7
    obtain ⟨a6, c6, (g6 : f 6 = _)⟩ := h6
    have g0 : f 0=_:=h0;have g1 : f 1=_:=h1;have g2 : f 2=_:=h2;have g3 : f 3=_:=h3;have g4 : f 4=_:=h4
    obtain ⟨q5, (g5 : f 5 = _)⟩ := h5
    have l6 : L 6 = true := hd 6 (by decide)
    unfold stStep
    rw [if_pos (by simp [Region.wanted])]
    intro K Q hK
    simp only [puts, Za, Zb, Zc, Zd, Ze, g7, g6, g0, g1, g2, g3, g4, g5]
    rw [hSd] at hS hK
    have l8 : L 8 = false := hi
    try simp only [stage, l8, l6, if_true, if_false, Bool.false_eq_true] at hS
    obtain ⟨hbW, hzW, -, hPW⟩ := hS
    rw [g6] at hPW
    have z := (hPW.blk 0 rfl).2.cell 1
    have z1 : W.cell? ⟨po, 1, none⟩ = some (.slice aF fins.length cF) := z.1
    have z2 : W.frozen? ⟨po, 1, none⟩ = false := z.2
    have hq := hPW.blkStore 0 rfl 1 (.slice a6 (fins.length + 1) c6)
    have hpb := (hPW.blk 0 rfl).1
    go_step
    refine hK.out _ _ rfl trivial ?_
    simp only [l6, ↓reduceIte, Nat.reduceEqDiff, g6]
    exact ⟨hbW.setCell (p := ⟨po, 1, none⟩) hpb _, by rw [World.size_setCell]; exact hzW, fun _ h => (by simp at h), hq⟩
  case rest =>
   intro L f WF hL hh hS
   rw [hSd] at hS
   clear hSd
   have l5 : L 5 = true := hL 5 (by decide)
   have l6 : L 6 = true := hL 6 (by decide)
   have l8 : L 8 = true := hL 8 (by decide)
   simp only [stage, l5, l6, l8, if_true] at hS
   clear hL l5 l6 l8
   obtain ⟨h0, h1, h2, h3, h4, h5, h6, h7, -⟩ := hh;have g0 : f 0=_:=h0;have g1 : f 1=_:=h1;have g2 : f 2=_:=h2;have g3 : f 3=_:=h3;have g4 : f 4=_:=h4
   obtain ⟨q5, (g5 : f 5 = _)⟩ := h5
   obtain ⟨a6, c6, (g6 : f 6 = _)⟩ := h6
   have g7 : f 7=_:=h7;simp only [puts, Za, Zb, Zc, Zd, Ze, g0, g1, g2, g3, g4, g5, g6, g7]
   clear h0 h1 h2 h3 h4 h7 g0 g1 g2 g3 g4 g7
   obtain ⟨hbW, -, -, hPW⟩ := hS
   rw [g6] at hPW
   have HPW := Lib.hid hPW
   clear hPW
   go_wp2_with (fail)
   go_ret
   rw [HFN.out, HA.out.1, HA.out.2, HR.out]
   refine ⟨rfl, ⟨a9, c9, a6, c6, ?_⟩, hbW⟩
   rw [show (fins ++ [b]).length = fins.length + 1 by simp]
   exact HPW.out
end Go.Proofs.YtbjdglopkpigbaaGreatDoor.Na
namespace Go.Proofs.YtbjdglopkpigbaaGreatDoor.Na
open Go.RowKit Go.Sort Go.Lib
theorem mergeSort_asc (l : List Int) : (l.mergeSort fun x y => decide (x ≤ y)).Pairwise (· ≤ ·) := by
 have := List.pairwise_mergeSort (le := fun (x y : Int) => decide (x ≤ y)) (fun a b c h1 h2 => by simp at *; omega) (fun a b => by simp; omega) l
 exact this.imp fun h => by simpa using h
theorem sort_own {w : World} {B : Nat} {v : Value} {zs : List Int} (h : w.ownsRow B 3 1 v zs.length (ivs .i64 zs)) (hn : zs.length < 4611686018427387904) :
  Calls Tryz.prog 80 #[v] w fun e w' => e = .returned (.tuple #[]) ∧ w'.ownsRow B 3 1 v zs.length (ivs .i64 (zs.mergeSort fun x y => decide (x ≤ y))) ∧ w.grownBy w' v.ownBlock := by
 have hl : (zs.mergeSort fun x y => decide (x ≤ y)).length = zs.length := List.length_mergeSort zs
 rcases h.2 with ⟨rfl, h0⟩ | ⟨g, cap, cur, rfl, hB, hg, h1, h2, h3, h4⟩
 ·have hz : zs = [] := List.eq_nil_of_length_eq_zero h0
  subst hz
  refine (Tryz.slices_Sort_int_none none 0 w).mono ?_
  rintro e w' ⟨rfl, rfl⟩
  exact ⟨rfl, by simpa using h, World.grownBy.refl _ _⟩
 ·rw [Nat.mul_one] at h4
  refine (Tryz.slices_Sort_int g 0 cap zs w (holds_of_blockI hg (by rw [h4]; rfl)) (Array.getElem?_eq_some_iff.1 hg).1 hn).mono ?_
  rintro e w' ⟨rfl, n, os, rfl⟩
  exact ⟨rfl, ownsRow_sortedI hl hB hg h1 h2 h3, grownBy_sortedI _⟩
theorem owns_cut {w : World} {B e n cap m : Nat} {ao : Option Addr} {xs : List Value} (h : w.ownsRow B e 1 (.slice ao n cap) n xs) (hm : m ≤ n) (h0 : ao = none → m = n) : w.ownsRow B e 1 (.slice ao m cap) m (xs.take m) := by
 have hx := h.1
 rcases h.2 with ⟨e1, h0'⟩ | ⟨g, c, cur, e1, hB, hg, h1, h2, h3, h4⟩
 ·injection e1 with e1 e2 e3
  subst e1 e3
  have := h0 rfl
  subst this
  subst h0'
  have : xs = [] := List.eq_nil_of_length_eq_zero (by simpa using hx)
  subst this
  exact World.ownsRow_nil _ _ _ _
 ·injection e1 with e1 e2 e3
  subst e1 e3
  refine ⟨by simp; omega, .inr ⟨g, cap, cur, rfl, hB, hg, by omega, h2, h3, ?_⟩⟩
  rw [← h4, List.take_take, Nat.mul_one, Nat.mul_one, Nat.min_eq_left hm]
theorem compact_own {w : World} {B : Nat} {v : Value} {zs : List Int} (h : w.ownsRow B 3 1 v zs.length (ivs .i64 zs)) (hn : zs.length ≤ 9223372036854775807) :
  Calls Tryz.prog 81 #[v] w fun e w' => ∃ v', e = .returned v' ∧ w'.ownsRow B 3 1 v' (compact zs).length (ivs .i64 (compact zs)) ∧ w.grownBy w' v.ownBlock ∧ v'.ownBlock = v.ownBlock := by
 have hle := compact_length_le zs
 rcases h.2 with ⟨rfl, h0⟩ | ⟨g, cap, cur, rfl, hB, hg, h1, h2, h3, h4⟩
 ·have hz : zs = [] := List.eq_nil_of_length_eq_zero h0
  subst hz
  refine (Tryz.slices_Compact_int_empty none 0 w).mono ?_
  rintro e w' ⟨rfl, rfl⟩
  exact ⟨_, rfl, World.ownsRow_nil _ _ _ _, World.grownBy.refl _ _, rfl⟩
 ·rw [Nat.mul_one] at h4
  refine (Tryz.slices_Compact_int g 0 cap zs w (holds_of_blockI hg (by rw [h4]; rfl)) hn h1).mono ?_
  rintro e w' ⟨rfl, q, rfl⟩
  have hl : (compact zs ++ List.replicate (zs.length - (compact zs).length) 0).length = zs.length := by simp; omega
  have ho := ownsRow_sortedI (n := q) (os := #[]) hl hB hg h1 h2 h3
  have hgr := grownBy_sortedI (w := w) (g := g) (n := q) (os := #[]) (compact zs ++ List.replicate (zs.length - (compact zs).length) 0).toArray
  rw [grow_empty] at ho hgr
  have hc := owns_cut ho hle (fun e => by cases e)
  refine ⟨_, rfl, ?_, hgr, rfl⟩
  have : ((compact zs ++ List.replicate (zs.length - (compact zs).length) 0).map (Value.int .i64)).take (compact zs).length = ivs .i64 (compact zs) := by
   rw [← List.map_take, List.take_left]; rfl
  rw [this] at hc
  exact hc
theorem compact_spec (l : List Int) (hs : l.Pairwise (· ≤ ·)) : ∀ m, m ≤ l.length → (compactUpTo l.toArray m).Pairwise (· < ·) ∧ (∀ z, z ∈ compactUpTo l.toArray m ↔ z ∈ l.take m) := by
 have get : ∀ j, j < l.length → l.toArray[j]! = gi l j := fun j hj => by simp [gi, List.getD, hj]
 intro m
 induction m with
 | zero => intro _; simp [compactUpTo]
 | succ m ih =>
  intro hm
  obtain ⟨h1, h2⟩ := ih (by omega)
  have hle : ∀ i, i ≤ m → gi l i ≤ gi l m := fun i hi => by
   rcases Nat.lt_or_ge i m with h | h
   ·rw [gi_eq l i (by omega), gi_eq l m (by omega)]
    exact List.pairwise_iff_getElem.1 hs i m (by omega) (by omega) h
   ·rw [show i = m by omega]; exact Int.le_refl _
  rw [compactUpTo_succ, get m (by omega)]
  cases hk : keeps l.toArray m with
  | true =>
   rw [if_pos rfl]
   refine ⟨?_, fun z => by rw [List.mem_append, h2, take_succ_gi l m (by omega), List.mem_append]⟩
   refine List.pairwise_append.2 ⟨h1, List.pairwise_singleton _ _, fun x hx y hy => ?_⟩
   rw [List.mem_singleton.1 hy]
   obtain ⟨i, hi, e⟩ := List.getElem_of_mem ((h2 x).1 hx)
   rw [List.length_take] at hi
   rw [List.getElem_take, ← gi_eq l i (by omega)] at e
   unfold keeps at hk
   have hk := of_decide_eq_true hk
   rcases hk with h0 | h0
   ·omega
   ·rw [get m (by omega), get (m - 1) (by omega)] at h0
    have a1 := hle (m - 1) (by omega)
    have a2 : gi l i ≤ gi l (m - 1) := by
     rcases Nat.lt_or_ge i (m - 1) with h | h
     ·rw [gi_eq l i (by omega), gi_eq l (m - 1) (by omega)]
      exact List.pairwise_iff_getElem.1 hs i (m - 1) (by omega) (by omega) h
     ·rw [show i = m - 1 by omega]; exact Int.le_refl _
    omega
  | false =>
   rw [if_neg (by simp), List.append_nil]
   refine ⟨h1, fun z => ?_⟩
   rw [h2, take_succ_gi l m (by omega), List.mem_append, List.mem_singleton]
   constructor
   ·exact .inl
   ·rintro (h | rfl)
    ·exact h
    ·unfold keeps at hk
     have hk := of_decide_eq_false hk
     have hm0 : m ≠ 0 := fun h => hk (.inl h)
     have : l.toArray[m]! = l.toArray[m - 1]! := Classical.byContradiction fun h => hk (.inr h)
     rw [get m (by omega), get (m - 1) (by omega)] at this
     rw [this]
     exact List.mem_iff_getElem.2 ⟨m - 1, by rw [List.length_take]; omega, by rw [List.getElem_take, ← gi_eq l _ (by omega)]⟩
theorem compact_sorted (zs : List Int) : (compact (zs.mergeSort fun x y => decide (x ≤ y))).Pairwise (· < ·) ∧ ∀ z, z ∈ compact (zs.mergeSort fun x y => decide (x ≤ y)) ↔ z ∈ zs := by
 obtain ⟨h1, h2⟩ := compact_spec _ (mergeSort_asc zs) _ (Nat.le_refl _)
 refine ⟨h1, fun z => ?_⟩
 unfold compact
 rw [h2, List.take_of_length_le (Nat.le_refl _), List.mem_mergeSort]
end Go.Proofs.YtbjdglopkpigbaaGreatDoor.Na
