import Derived.Test.YtbjdglopkpigbaaGreatDoorMG27
import Derived.Test.YtbjdglopkpigbaaGreatDoorMG41
/-
  NaDl, DfaMo, LgA
-/
set_option linter.unusedVariables false
namespace Go.Proofs.YtbjdglopkpigbaaGreatDoor.Na
section
variable {a : Nfa} {lim : Int}
theorem det_arc (hv : ValidN a) (h : DetOk a lim) {i : Nat} (hi : i < (detF a).a.length) : 0 ≤ (g3 (detF a).a i).f ∧ (g3 (detF a).a i).f < ((detF a).q.length : Int) ∧ 0 ≤ (g3 (detF a).a i).t ∧ (g3 (detF a).a i).t < ((detF a).q.length : Int) := by
 obtain ⟨p, hp, h1, _, t, ht, h2, _⟩ := (mem_detF hv h).1 (g3_mem _ _ hi)
 rw [h1, h2]
 omega
theorem det_asc {i j : Nat} (hij : i < j) (hj : j < (detF a).a.length) : (g3 (detF a).a i).f < (g3 (detF a).a j).f ∨ ((g3 (detF a).a i).f = (g3 (detF a).a j).f ∧ (g3 (detF a).a i).l < (g3 (detF a).a j).l) := by
 have h1 := detF_sorted a
 unfold SortedA at h1
 rw [List.pairwise_iff_getElem] at h1
 have h2 := h1 i j (by omega) hj hij
 rw [← g3_eq, ← g3_eq] at h2
 exact h2
end
end Go.Proofs.YtbjdglopkpigbaaGreatDoor.Na
namespace Go.Proofs.YtbjdglopkpigbaaGreatDoor
theorem settles {f : Nat → Nat} {N : Nat} (hm : ∀ k, f k ≤ f (k + 1)) (hN : ∀ k, f k ≤ N) : ∃ k, f (k + 1) = f k := by
 apply Classical.byContradiction
 intro hno
 have h : ∀ k, k ≤ f k := by
  intro k
  induction k with
  | zero => omega
  | succ k ih =>
   have h1 := hm k
   have h2 : f (k + 1) ≠ f k := fun e => hno ⟨k, e⟩
   omega
 have h1 := h (N + 1)
 have h2 := hN (N + 1)
 omega
section
variable {a b d : Dfa}
theorem minD_facts (hv : ValidD d) : ValidD (minD d) ∧ lgD (minD d) 0 = lgD d d.s ∧ (minD d).n ≤ d.n := by
 have ht := trimD_valid hv
 have h1 := ht.1
 obtain ⟨k, hk⟩ := settles (f := ctK (trimD d).arcs (trimD d).n.toNat (trimD d).fin) (N := (trimD d).n.toNat) (ctK_mono (by omega)) (fun k => (ctK_le (by omega) k).2)
 obtain ⟨hC, hL⟩ := prog_classes hv hk
 obtain ⟨e1, e2, e3⟩ := minL_of ht (trimD_useful hv) hC hL
 have e4 := (ctK_le (es := (trimD d).arcs) (N := (trimD d).n.toNat) (fin := (trimD d).fin) (by omega) (k + 1)).2
 have e5 := trimD_n hv
 have e6 : lgD (trimD d) (trimD d).s = lgD d d.s := by rw [trimD_s, trimD_lang hv]
 rw [e6] at e1 e2 e3
 exact ⟨e1, e2, by show (minL (lgD d d.s)).n ≤ d.n; omega⟩
theorem minD_s (d : Dfa) : (minD d).s = 0 := rfl
theorem minD_iff (ha : ValidD a) (hb : ValidD b) : minD a = minD b ↔ lgD a a.s = lgD b b.s := by
 constructor
 ·intro e
  rw [← (minD_facts ha).2.1, ← (minD_facts hb).2.1, e]
 ·intro e
  show minL (lgD a a.s) = minL (lgD b b.s)
  rw [e]
end
end Go.Proofs.YtbjdglopkpigbaaGreatDoor
namespace Go.Proofs.YtbjdglopkpigbaaGreatDoor
def fromB (a : Na.Nfa) (D : Bq (List Int)) : Dfa := ⟨(D.q.length : Nat), 0, D.q.map (Na.finL a.fin), D.a⟩
section
variable {a : Na.Nfa} {lim : Int} {D : Bq (List Int)}
theorem fromB_fin {i : Nat} (hi : i < D.q.length) : gb (fromB a D).fin i = Na.finL a.fin (Na.gw D.q i) := by
 show gb (D.q.map (Na.finL a.fin)) i = _
 rw [gb_eq _ _ (by rw [List.length_map]; exact hi), Na.gw_eq _ _ hi]
 exact List.getElem_map _
theorem fromB_valid (hD : Na.detF a = D) (hv : Na.ValidN a) (h : Na.DetOk a lim) (hl : D.a.length ≤ 20000) : ValidD (fromB a D) := by
 have h0 := (Na.detF_start a).1
 have h1 := h.len
 have hA := fun i => Na.det_arc (i := i) hv h
 have hB := fun i j => Na.det_asc (a := a) (i := i) (j := j)
 have hM := fun x => Na.mem_detF (x := x) hv h
 simp only [hD] at h0 h1 hA hB hM
 refine ⟨⟨?_, ?_⟩, ⟨Int.le_refl _, ?_⟩, ?_, hl, fun i hi => ?_⟩
 ·show (1 : Int) ≤ (D.q.length : Nat); omega
 ·show (D.q.length : Int) ≤ 1000; omega
 ·show (0 : Int) < (D.q.length : Nat); omega
 ·show (((D.q.map (Na.finL a.fin)).length : Nat) : Int) = (D.q.length : Nat); rw [List.length_map]
 ·have hi : i < D.a.length := hi
  have h2 := hA i hi
  refine ⟨⟨⟨h2.1, h2.2.1⟩, h2.2.2⟩, ?_, fun hp => hB _ _ (by omega) hi⟩
  obtain ⟨p, hp, e1, e2, -⟩ := (hM _).1 (g3_mem _ _ hi)
  have h3 : ¬ ¬ (0 < (g3 D.a i).l ∧ (g3 D.a i).l ≤ 10000) := fun e => e2 (Na.movL_out hv e)
  show 1 ≤ (g3 D.a i).l ∧ (g3 D.a i).l ≤ 10000
  omega
theorem movL_of_nil (hv : Na.ValidN a) (c : Int) : Na.movL a.arcs [] c = [] := by
 by_cases h : Na.movL a.arcs [] c = []
 ·exact h
 ·have := ((Na.movL_ne hv).1 h)
  rw [Na.mem_lvL] at this
  obtain ⟨-, x, hx, h1, h2⟩ := this
  simp at h2
theorem fold_nil (hv : Na.ValidN a) : ∀ w : List Int, w.foldl (Na.movL a.arcs) [] = []
 | [] => rfl
 | c :: w => by rw [List.foldl_cons, movL_of_nil hv]; exact fold_nil hv w
theorem fromB_run (hv : Na.ValidN a) (hS : SortedA D.a)
  (hN : ∀ (p : Nat) (c : Int), Na.movL a.arcs (Na.gw D.q p) c = [] → ∀ x ∈ D.a, ¬ (x.f = p ∧ x.l = c))
  (hY : ∀ (p : Nat), p < D.q.length → ∀ c : Int, Na.movL a.arcs (Na.gw D.q p) c ≠ [] → ∃ t : Nat, t < D.q.length ∧ Na.gw D.q t = Na.movL a.arcs (Na.gw D.q p) c ∧ (⟨p, c, t⟩ : A3) ∈ D.a) :
  ∀ (w : List Int) (p : Nat), p < D.q.length → accQ (fromB a D) p w = Na.finL a.fin (w.foldl (Na.movL a.arcs) (Na.gw D.q p))
 | [], p, hp => by rw [accQ_nil]; exact fromB_fin hp
 | c :: w, p, hp => by
  rw [List.foldl_cons]
  by_cases hm : Na.movL a.arcs (Na.gw D.q p) c = []
  ·rw [hm, fold_nil hv, accQ_none (nxtD_none_iff.2 fun x hx h1 h2 => hN p c hm x hx ⟨h1, h2⟩)]
   rfl
  ·obtain ⟨t, ht, h1, h2⟩ := hY p hp c hm
   rw [accQ_some ((nxtD_iff (show SortedA (fromB a D).arcs from hS)).2 ⟨h2, rfl, rfl⟩), ← h1]
   exact fromB_run hv hS hN hY w t ht
theorem fromB_acc (hD : Na.detF a = D) (hv : Na.ValidN a) (h : Na.DetOk a lim) (hl : D.a.length ≤ 20000) (w : List Int) : accD (fromB a D) w = Na.accN a w := by
 have h0 := Na.detF_start a
 have hS := Na.detF_sorted a
 have hN := fun (p : Nat) (c : Int) => Na.detF_noarc (i := p) (c := c) hv h
 have hY := fun (p : Nat) (hp : p < (Na.detF a).q.length) (c : Int) (hc : Na.movL a.arcs (Na.gw (Na.detF a).q p) c ≠ []) => Na.detF_arc hv h hp hc
 simp only [hD] at h0 hS hN hY
 have h1 := fromB_run hv hS hN (fun p hp c hc => by obtain ⟨t, h1, h2, h3, -⟩ := hY p hp c hc; exact ⟨t, h1, h2, h3⟩) w 0 h0.1
 rw [h0.2] at h1
 unfold accD Na.accN
 rw [vD_yes (fromB_valid hD hv h hl), Na.vN_yes hv]
 exact congrArg (true && ·) h1
end
theorem canA_acc {d : Dfa} (hv : ValidD d) (w : List Int) : accD (canD d (allK d.n.toNat)) w = accD d w := by
 unfold accD
 rw [vD_yes hv, vD_yes (show ValidD (canD d (allK d.n.toNat)) from canD_valid hv _)]
 have h := congrFun (canD_lang_all hv) w
 have hs : (canD d (allK d.n.toNat)).s = 0 := canD_s _
 rw [hs]
 exact congrArg (true && ·) h
theorem trimD_acc {d : Dfa} (hv : ValidD d) (w : List Int) : accD (trimD d) w = accD d w := by
 unfold accD
 rw [vD_yes hv, vD_yes (trimD_valid hv), trimD_s]
 exact congrArg (true && ·) (congrFun (trimD_lang hv) w)
theorem minD_acc {d : Dfa} (hv : ValidD d) (w : List Int) : accD (minD d) w = accD d w := by
 obtain ⟨h1, h2, -⟩ := minD_facts hv
 unfold accD
 rw [vD_yes hv, vD_yes h1, minD_s]
 exact congrArg (true && ·) (congrFun h2 w)
theorem canD_le {d : Dfa} (hv : ValidD d) (keep : List Bool) : (canD d keep).n ≤ (canD d (allK d.n.toNat)).n := by
 have hs : gb (allK d.n.toNat) d.s.toNat = true := gb_allK (by have h1 := hv.2.1; omega)
 have e1 : canD d (allK d.n.toNat) = numD d (allK d.n.toNat) := by unfold canD; rw [if_pos hs]
 have h0 : 0 < (lastD d (allK d.n.toNat)).q.length := lastD_pos
 rw [e1]
 show (canD d keep).n ≤ (((lastD d (allK d.n.toNat)).q.length : Nat) : Int)
 unfold canD
 split
 ·show (((lastD d keep).q.length : Nat) : Int) ≤ _
  have hsub : ∀ x ∈ (lastD d keep).q, x ∈ (lastD d (allK d.n.toNat)).q := by
   refine bq_all (P := fun x => x ∈ (lastD d (allK d.n.toNat)).q) ?_ (fun y hy x hx => ?_) _
   ·have h1 : gi (lastD d (allK d.n.toNat)).q 0 = d.s := lastD_start
    rw [gi_eq _ _ h0] at h1
    rw [← h1]
    exact List.getElem_mem h0
   ·obtain ⟨i, hi, e⟩ := List.getElem_of_mem hy
    have h1 := lastD_closed (keep := allK d.n.toNat) hv hi x
    rw [gi_eq _ _ hi, e] at h1
    obtain ⟨z, hz, h2, h3, h4, -⟩ := oD_iff.1 hx
    have h5 := (hv.arc hz).1.2
    exact h1 (oD_iff.2 ⟨z, hz, h2, h3, h4, gb_allK (by omega)⟩)
  have hn : (lastD d keep).q.Nodup := bq_nodup _ _ _
  have := hn.length_le_of_subset hsub
  omega
 ·show (1 : Int) ≤ _
  omega
theorem trimD_le {d : Dfa} (hv : ValidD d) : (trimD d).n ≤ (canD d (allK d.n.toNat)).n := canD_le hv _
theorem minD_le {d : Dfa} (hv : ValidD d) : (minD d).n ≤ (canD d (allK d.n.toNat)).n := by
 have hc : ValidD (canD d (allK d.n.toNat)) := canD_valid hv _
 have hs : (canD d (allK d.n.toNat)).s = 0 := canD_s _
 have h : minD (canD d (allK d.n.toNat)) = minD d := (minD_iff hc hv).2 (by rw [hs]; exact canD_lang_all hv)
 rw [← h]
 exact (minD_facts hc).2.2
end Go.Proofs.YtbjdglopkpigbaaGreatDoor
