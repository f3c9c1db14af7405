import Derived.Lib.SmallJoins
import Derived.Test.YtpcbmhfnefhenaaMG0
import Derived.Test.YtpcbmhfnefhenaaMG4
/-
  DfaTop, DfaC
-/
set_option linter.unusedVariables false
namespace Go.Proofs.Ytpcbmhfnefhenaa
open Go.ChangeShapes Go.WideShapes Go.ChangeAt Go.RowKit Go.Deep

theorem spot_none {w : World} {a : Addr} {v : Value} (h : w.cell? a = some v) : a.spot = none := by
  obtain ⟨b, o, s⟩ := a
  cases s with
  | none => rfl
  | some x =>
    exfalso
    unfold World.cell? at h
    split at h
    · simp at h
    · cases h
section
variable {H : Type} {enc : TypeId × Value → H} {P : Program} {W : World}
theorem bools_trod {t e : TypeId} {fuel : Nat} {v : Value} {x : DataW H × List MemPlace} (ht : P.underlying t = some (.slice e)) (he : P.underlying e = some .bool) (ce : P.cellsOf e = 1)
    (h : DataW.trod enc P W 0 (fun _ => true) true fuel t [v] = some x) : ∃ a len cap ss, v = .slice a len cap ∧ IsBools W a len cap ss := by
  rcases Go.Deep.open_slice ht h with ⟨h2, _⟩ | ⟨x, len, cap, m, n, D, Pl, h2, hb, hl, hm, hmm, _, hx⟩
  · simp at h2
    exact ⟨_, _, _, [], h2, isBools_nil W⟩
  · simp only [List.cons.injEq, and_true] at h2
    have hm2 : m = cap := by simpa using hmm
    subst hm2
    rcases Nat.eq_zero_or_pos m with h0 | h0
    · exact ⟨_, _, _, [], h2, .inl ⟨by omega, h0, rfl⟩⟩
    have hsp : x.spot = none := by
      obtain ⟨cs', g1, g2⟩ := hx 0 h0
      rw [ce] at g1
      obtain ⟨_, hlen, hc⟩ := World.cells?_some g1
      match cs', hlen with
      | [u0], _ =>
        have f0 := hc 0 (by omega)
        simp [Addr.add] at f0
        exact spot_none f0
    obtain ⟨b, off, s⟩ := x
    simp only at hsp
    subst hsp
    have each : ∀ i, i < len → ∃ q : Bool, W.cell? ⟨b, off + i, none⟩ = some (.bool q) := by
      intro i hi
      obtain ⟨cs', g1, g2⟩ := hx i (by omega)
      rw [ce, Nat.mul_one] at g1
      obtain ⟨_, hlen, hc⟩ := World.cells?_some g1
      match cs', hlen with
      | [u0], _ =>
        obtain ⟨q, e0, -⟩ := DataW.trod_bool he g2
        simp only [List.cons.injEq, and_true] at e0
        subst e0
        have f0 := hc 0 (by omega)
        rw [addr_add, addr_add] at f0
        exact ⟨q, by simpa using f0⟩
    obtain ⟨q, hq⟩ := Go.Deep.choose_lt each
    have hg : ∀ i, i < len → gb ((List.range len).map q) i = q i := by
      intro i hi
      rw [gb_eq _ _ (by simpa using hi)]
      simp
    exact ⟨_, len, m, (List.range len).map q, h2, .inr ⟨b, off, rfl, hl, hm, by simp, fun i hi => by rw [hg i hi]; exact hq i hi⟩⟩
theorem arcs_trod {t e : TypeId} {f0 f1 f2 : Field} {fuel : Nat} {v : Value} {x : DataW H × List MemPlace} (ht : P.underlying t = some (.slice e)) (he : P.underlying e = some (.struct #[f0, f1, f2])) (hone : oneCellFields P #[f0, f1, f2] = true) (ce : P.cellsOf e = 3)
    (k0 : P.underlying f0.type = some (.int .i64)) (k1 : P.underlying f1.type = some (.int .i64)) (k2 : P.underlying f2.type = some (.int .i64))
    (h : DataW.trod enc P W 0 (fun _ => true) true fuel t [v] = some x) : ∃ a len cap es, v = .slice a len cap ∧ IsArcs W a len cap es := by
  rcases Go.Deep.open_slice ht h with ⟨h2, _⟩ | ⟨x, len, cap, m, n, D, Pl, h2, hb, hl, hm, hmm, _, hx⟩
  · simp at h2
    exact ⟨_, _, _, [], h2, isArcs_nil W⟩
  · simp only [List.cons.injEq, and_true] at h2
    have hm2 : m = cap := by simpa using hmm
    subst hm2
    rcases Nat.eq_zero_or_pos m with h0 | h0
    · exact ⟨_, _, _, [], h2, .inl ⟨by omega, h0, rfl⟩⟩
    have hsp : x.spot = none := by
      obtain ⟨cs', g1, g2⟩ := hx 0 h0
      rw [ce] at g1
      obtain ⟨_, hlen, hc⟩ := World.cells?_some g1
      match cs', hlen with
      | [u0, u1, u2], _ =>
        have f0 := hc 0 (by omega)
        simp [Addr.add] at f0
        exact spot_none f0
    obtain ⟨b, off, s⟩ := x
    simp only at hsp
    subst hsp
    obtain ⟨o0, c0⟩ := hone_of hone 0 f0 rfl
    obtain ⟨o1, c1⟩ := hone_of hone 1 f1 rfl
    obtain ⟨o2, c2⟩ := hone_of hone 2 f2 rfl
    have each : ∀ i, i < len → ∃ q : A3, W.cell? ⟨b, off + i * 3, none⟩ = some (.int .i64 q.f) ∧ W.cell? ⟨b, off + i * 3 + 1, none⟩ = some (.int .i64 q.l) ∧ W.cell? ⟨b, off + i * 3 + 2, none⟩ = some (.int .i64 q.t) := by
      intro i hi
      obtain ⟨cs', g1, g2⟩ := hx i (by omega)
      rw [ce] at g1
      obtain ⟨_, hlen, hc⟩ := World.cells?_some g1
      match cs', hlen with
      | [u0, u1, u2], _ =>
        obtain ⟨y0, y1, y2, n, _, _, t0, t1, t2⟩ := Go.Deep.trod_struct3 he g2
        rw [o0, c0] at t0
        rw [o1, c1] at t1
        rw [o2, c2] at t2
        obtain ⟨q0, e0, -⟩ := DataW.trod_int k0 t0
        obtain ⟨q1, e1, -⟩ := DataW.trod_int k1 t1
        obtain ⟨q2, e2, -⟩ := DataW.trod_int k2 t2
        simp at e0 e1 e2
        subst e0 e1 e2
        have f0 := hc 0 (by omega)
        have f1 := hc 1 (by omega)
        have f2 := hc 2 (by omega)
        rw [addr_add, addr_add] at f0 f1 f2
        exact ⟨⟨q0, q1, q2⟩, by simpa using f0, by simpa using f1, by simpa using f2⟩
    obtain ⟨q, hq⟩ := Go.Deep.choose_lt each
    have hg : ∀ i, i < len → g3 ((List.range len).map q) i = q i := by
      intro i hi
      rw [g3_eq _ _ (by simpa using hi)]
      simp
    exact ⟨_, len, m, (List.range len).map q, h2, .inr ⟨b, off, rfl, hl, hm, by simp, fun i hi => by rw [hg i hi]; exact hq i hi⟩⟩
theorem dfa_in {t bt at' : TypeId} {f0 f1 f2 f3 g0 g1 g2 : Field} {v : Value} {d : DataW H} {p : List MemPlace} {r : Reach} {b0 : Nat} (hs : P.underlying t = some (.struct #[f0, f1, f2, f3])) (hone : oneCellFields P #[f0, f1, f2, f3] = true) (hC : P.cellsOf t = 4)
    (k0 : P.underlying f0.type = some (.int .i64)) (k1 : P.underlying f1.type = some (.int .i64)) (k2 : P.underlying f2.type = some (.slice bt)) (kb : P.underlying bt = some .bool) (cb : P.cellsOf bt = 1)
    (k3 : P.underlying f3.type = some (.slice at')) (ka : P.underlying at' = some (.struct #[g0, g1, g2])) (honeA : oneCellFields P #[g0, g1, g2] = true) (ca : P.cellsOf at' = 3)
    (m0 : P.underlying g0.type = some (.int .i64)) (m1 : P.underlying g1.type = some (.int .i64)) (m2 : P.underlying g2.type = some (.int .i64))
    (hv : Value.okWide P W r b0 t v) (h : DataW.Trod enc P W 0 (fun _ => true) true t v d p) : ∃ D H', v = vDf D H' ∧ IsDfa W H' D := by
  obtain ⟨v0, v1, v2, v3, y0, y1, y2, y3, n, rfl, -, -, t0, t1, t2, t3⟩ := Go.Joins.open_agg4 hs hone hC hv h
  obtain ⟨q0, e0, -⟩ := DataW.trod_int k0 t0
  obtain ⟨q1, e1, -⟩ := DataW.trod_int k1 t1
  simp only [List.cons.injEq, and_true] at e0 e1
  subst e0 e1
  obtain ⟨fa, fl, fc, ss, rfl, h2⟩ := bools_trod k2 kb cb t2
  obtain ⟨aa, al, ac, es, rfl, h3⟩ := arcs_trod k3 ka honeA ca m0 m1 m2 t3
  exact ⟨⟨q0, q1, ss, es⟩, ⟨fa, fl, fc, aa, al, ac⟩, rfl, h2, h3⟩
end
end Go.Proofs.Ytpcbmhfnefhenaa

set_option linter.unusedSimpArgs false
set_option linter.unusedVariables false
namespace Go.Proofs.Ytpcbmhfnefhenaa
open Go.RowKit
attribute [local go_sem] Oper.semAt_some

def nextV (ar : List A3) (q c : Int) : Value := match nxtD ar q c with
  | some x => .tuple #[.int .i64 x.t, .bool true]
  | none => .tuple #[.int .i64 0, .bool false]
set_option maxRecDepth 20000 in
theorem next_any (d : Dfa) (h : DH) (q c : Int) (w : World) (hd : IsDfa w h d) (hS : SortedA d.arcs) (hl : d.arcs.length ≤ 20000) :
    Calls Try.prog 53 #[vDf d h, .int .i64 q, .int .i64 c] w fun e w' => e = .returned (nextV d.arcs q c) ∧ Below w.heap.size w w' := by
  obtain ⟨n, s, fin, es⟩ := d
  obtain ⟨fa, fl, fc, aa, al, ac⟩ := h
  obtain ⟨-, he⟩ := hd
  simp only at he hS hl ⊢
  have hlen := he.length
  rw [hlen] at hl
  obtain ⟨hb1, hs1, hO⟩ := boxD n s fa fl fc aa al ac w
  obtain ⟨W1, hW1⟩ : ∃ W1, w.alloc (.cells #[.int .i64 n, .int .i64 s, .slice fa fl fc, .slice aa al ac] 30) = W1 := ⟨_, rfl⟩
  rw [hW1] at hb1 hs1 hO
  obtain ⟨-, -, -, co⟩ := hO W1 (Below.refl _ _)
  have he1 := he.later hb1
  unfold vDf
  by_cases hh : hasAt es q c
  · have HR : Hid (nextV es q c = .tuple #[.int .i64 (g3 es (loP es ⟨q, c, 0⟩)).t, .bool true]) := Lib.hid (by unfold nextV; rw [nxtD_some hS hh])
    have hp := hh.1
    obtain ⟨b, off, rfl, hcell⟩ := he.fix (by omega)
    have hcall := search_any _ al ac es q c W1 he1 hS (by omega)
    have HH := Lib.hid hh
    obtain ⟨p, hpe⟩ : ∃ p, loP es ⟨q, c, 0⟩ = p := ⟨_, rfl⟩
    rw [hpe] at HR hp hcall
    clear hpe hh he he1
    go_enter Try.func53, Try.ntmps53
    go_wp2_with (go_at_call 70; refine hcall.mono ?_; rintro e w2 ⟨⟨u, rfl, hu⟩, hb2⟩; have hu2 : u = true := hu.2 HH.out; subst hu2; clear hu; obtain ⟨-, -, -, co2⟩ := hO w2 (hb2.mono (by omega)); obtain ⟨-, -, ct⟩ := hcell w2 (hb1.trans (hb2.mono hb1.size)) p (by omega))
    go_ret2
    exact ⟨by rw [HR.out]; rfl, hb1.trans (hb2.mono hb1.size)⟩
  · have HR : Hid (nextV es q c = .tuple #[.int .i64 0, .bool false]) := Lib.hid (by unfold nextV; rw [nxtD_none hS hh])
    have hcall := search_any _ al ac es q c W1 he1 hS (by omega)
    have HH := Lib.hid hh
    clear hh he he1
    go_enter Try.func53, Try.ntmps53
    go_wp2_with (go_at_call 70; refine hcall.mono ?_; rintro e w2 ⟨⟨u, rfl, hu⟩, hb2⟩; have hu2 : u = false := Bool.eq_false_iff.2 fun h => HH.out (hu.1 h); subst hu2; clear hu)
    go_ret2
    exact ⟨by rw [HR.out]; rfl, hb1.trans (hb2.mono hb1.size)⟩
theorem IsArcs.part {w : World} {b off al ac : Nat} {es : List A3} (h : IsArcs w (some ⟨b, off, none⟩) al ac es) {i k c : Nat} (hik : i ≤ k) (hk : k ≤ al) (hc : k - i ≤ c) (hcm : c ≤ maxLen) : IsArcs w (some ⟨b, off + i * 3, none⟩) (k - i) c ((es.drop i).take (k - i)) := by
  have hl := h.length
  refine .inr ⟨b, off + i * 3, rfl, hc, hcm, by rw [List.length_take, List.length_drop]; omega, fun j hj => ?_⟩
  have e : g3 ((es.drop i).take (k - i)) j = g3 es (i + j) := by
    unfold g3
    rw [List.getD_eq_getElem?_getD, List.getD_eq_getElem?_getD, List.getElem?_take_of_lt (by omega), List.getElem?_drop]
  rw [e]
  have := h.get (i + j) (by omega)
  rwa [show off + (i + j) * 3 = off + i * 3 + j * 3 by omega] at this
set_option maxRecDepth 20000 in
theorem out_any (d : Dfa) (h : DH) (q : Int) (w : World) (hd : IsDfa w h d) (hS : SortedA d.arcs) (hL : ∀ x ∈ d.arcs, 1 ≤ x.l) (hl : d.arcs.length ≤ 20000) (hq : 0 ≤ q ∧ q < 1000000) :
    Calls Try.prog 45 #[vDf d h, .int .i64 q] w fun e w' => (∃ a' c', e = .returned (.slice a' (outsD d.arcs q).length c') ∧ IsArcs w' a' (outsD d.arcs q).length c' (outsD d.arcs q)) ∧ Below w.heap.size w w' := by
  obtain ⟨n, s, fin, es⟩ := d
  obtain ⟨fa, fl, fc, aa, al, ac⟩ := h
  obtain ⟨-, he⟩ := hd
  simp only at he hS hl hL ⊢
  have hlen := he.length
  have hcap := he.capLe
  unfold maxLen at hcap
  rw [hlen] at hl
  obtain ⟨hb1, hs1, hO⟩ := boxD n s fa fl fc aa al ac w
  obtain ⟨W1, hW1⟩ : ∃ W1, w.alloc (.cells #[.int .i64 n, .int .i64 s, .slice fa fl fc, .slice aa al ac] 30) = W1 := ⟨_, rfl⟩
  rw [hW1] at hb1 hs1 hO
  obtain ⟨-, -, -, co⟩ := hO W1 (Below.refl _ _)
  have hcall := fun W (hb : Below w.heap.size w W) (c : Int) => search_any _ al ac es c 0 W (he.later hb) hS (by omega)
  obtain ⟨hik, hpart⟩ := outsD_part hS hL q
  have hk := loP_le es ⟨q + 1, 0, 0⟩
  rw [hlen] at hk
  have hc0 := hcall W1 hb1 q
  have hc1 := fun W hb => hcall W hb (q + 1)
  obtain ⟨i, hi⟩ : ∃ i, loP es ⟨q, 0, 0⟩ = i := ⟨_, rfl⟩
  obtain ⟨k, hk'⟩ : ∃ k, loP es ⟨q + 1, 0, 0⟩ = k := ⟨_, rfl⟩
  rw [hi] at hc0 hik hpart
  rw [hk'] at hc1 hik hpart hk
  simp only [vA] at hc0 hc1
  have HC := Lib.hid hc1
  have hol : (outsD es q).length = k - i := by rw [← hpart, List.length_take, List.length_drop]; omega
  have HP := Lib.hid hpart
  have HE := Lib.hid he
  unfold vDf
  rw [hol]
  clear hcall hi hk' hpart hc1 he hol
  have hi64 : ((i : Int) ≤ k) := by omega
  have hk64 : ((k : Int) ≤ ac) := by omega
  go_enter Try.func45, Try.ntmps45
  go_wp2_with (first | (go_at_call 70; with_reducible refine hc0.mono ?_; rintro e w2 ⟨⟨u, rfl, hu⟩, hb2⟩; have HB2 : Hid (Below w.heap.size w w2) := Lib.hid (hb1.trans (hb2.mono hb1.size)); obtain ⟨-, -, -, co2⟩ := hO w2 (hb2.mono (by omega)); have hc2 := HC.out w2 HB2.out) | (go_at_call 70; with_reducible refine hc2.mono ?_; rintro e w3 ⟨⟨u3, rfl, hu3⟩, hb3⟩; obtain ⟨-, -, -, co3⟩ := hO w3 ((hb2.trans (hb3.mono hb2.size)).mono (by omega))))
  all_goals (
    have hB3 : Below w.heap.size w w3 := HB2.out.trans (hb3.mono HB2.out.size)
    have hE3 := HE.out.later hB3
    rw [← HP.out])
  · go_ret
    have h0 : k - i = 0 := by omega
    exact ⟨⟨aa, 0, by rw [h0]; rfl, .inl ⟨h0, rfl, by rw [h0]; rfl⟩⟩, hB3⟩
  · rcases HE.out with ⟨h1, h2, h3⟩ | ⟨b, off, rfl, h4⟩
    · go_ret
      have h0 : k - i = 0 := by omega
      exact ⟨⟨_, ac - i, by rw [h0]; rfl, .inl ⟨h0, by omega, by rw [h0]; rfl⟩⟩, hB3⟩
    · go_ret
      exact ⟨⟨some ⟨b, off + i * 3, none⟩, ac - i, by rw [← addr_add]; rfl, hE3.part hik hk (by omega) (by unfold maxLen; omega)⟩, hB3⟩
end Go.Proofs.Ytpcbmhfnefhenaa
