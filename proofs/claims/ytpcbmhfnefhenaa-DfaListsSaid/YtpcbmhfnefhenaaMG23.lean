import Derived.Laws.ResultCell
import Derived.Maps.OwnSet
import Derived.Test.YtpcbmhfnefhenaaMG5
import Derived.Test.YtpcbmhfnefhenaaMG22
/-
  DfaEe, Mp
-/
set_option linter.unusedSimpArgs false
set_option linter.unusedVariables false
namespace Go.Proofs.Ytpcbmhfnefhenaa
open List (foldr_cons foldr_nil setIfInBounds_toArray set_cons_succ set_cons_zero)
open Go.RowKit
attribute [local go_sem] Oper.semAt_some

theorem canonical_any {d : Dfa} {h : DH} {w : World} (hv : ValidD d) (hd : IsDfa w h d) {ak : Option Addr} {lk ck : Nat} {keep : List Bool} (hk : IsBools w ak lk ck keep) (hkl : (lk : Int) = d.n) :
  Calls Try.prog 37 #[vDf d h, .slice ak lk ck] w (GivesD (canD d keep) w) := by
 cases h0 : gb keep d.s.toNat with
 | true => exact canonical_yes hv hd hk hkl h0
 | false => exact canonical_no hv hd hk hkl h0
def DBox (b : Nat) (D : Dfa) (W : World) : Prop := ∃ h', W.heap[b]? = some (.cells #[.int .i64 D.n, .int .i64 D.s, .slice h'.fa h'.fl h'.fc, .slice h'.aa h'.al h'.ac] 30 (0, 0)) ∧ IsDfa W h' D
theorem DBox.later {b : Nat} {D : Dfa} {W W' : World} (h : DBox b D W) (hb : Below W.heap.size W W') : DBox b D W' := by
 obtain ⟨h', h1, h2⟩ := h
 exact ⟨h', by rw [hb.block _ (Array.getElem?_eq_some_iff.1 h1).1]; exact h1, h2.later hb⟩
theorem DBox.open {b : Nat} {D : Dfa} {W : World} (h : DBox b D W) : ∃ h', IsDfa W h' D ∧ W.cell? ⟨b, 0, none⟩ = some (.int .i64 D.n) ∧ W.cell? ⟨b, 1, none⟩ = some (.int .i64 D.s) ∧ W.cell? ⟨b, 2, none⟩ = some (.slice h'.fa h'.fl h'.fc) ∧ W.cell? ⟨b, 3, none⟩ = some (.slice h'.aa h'.al h'.ac) := by
 obtain ⟨h', h1, h2⟩ := h
 exact ⟨h', h2, cell_of_row W _ 0 _ _ _ h1, cell_of_row W _ 1 _ _ _ h1, cell_of_row W _ 2 _ _ _ h1, cell_of_row W _ 3 _ _ _ h1⟩
theorem IsDfa.boxed {W : World} {h : DH} {D : Dfa} {b : Nat} {x y : Int} {a1 a2 : Option Addr} {l1 c1 l2 c2 : Nat} {T : TypeId} (cs : Array Value) (hZ : W.heap[b]? = some (.cells #[.int .i64 x, .int .i64 y, .slice a1 l1 c1, .slice a2 l2 c2] T (0, 0))) (hd : IsDfa W h D) : IsDfa (W.setRow b cs) h D := by
 have cz : ∀ k, W.cell? ⟨b, k, none⟩ = (#[Value.int .i64 x, .int .i64 y, .slice a1 l1 c1, .slice a2 l2 c2] : Array Value)[k]? := fun k => by simp [World.cell?, hZ]
 refine ⟨?_, ?_⟩
 ·rcases hd.fin with h0 | ⟨g, off, h1, h2, h3, h4, h5⟩
  ·exact .inl h0
  ·refine .inr ⟨g, off, h1, h2, h3, h4, fun i hi => ?_⟩
   have hc := h5 i hi
   by_cases e : g = b
   ·subst e
    rw [cz] at hc
    obtain ⟨k, hk⟩ : ∃ k, off + i = k := ⟨_, rfl⟩
    rw [hk] at hc
    match k, hc with
    | 0, hc => simp at hc
    | 1, hc => simp at hc
    | 2, hc => simp at hc
    | 3, hc => simp at hc
    | k + 4, hc => simp at hc
   ·rw [cell_setRow_other _ _ _ _ e]; exact hc
 ·rcases hd.arcs with h0 | ⟨g, off, h1, h2, h3, h4, h5⟩
  ·exact .inl h0
  ·refine .inr ⟨g, off, h1, h2, h3, h4, fun i hi => ?_⟩
   obtain ⟨k0, k1, k2⟩ := h5 i hi
   by_cases e : g = b
   ·subst e
    rw [cz] at k0 k2
    obtain ⟨k, hk⟩ : ∃ k, off + i * 3 = k := ⟨_, rfl⟩
    rw [hk] at k2
    match k, k2 with
    | 0, k2 => simp at k2
    | 1, k2 => simp at k2
    | k + 2, k2 => simp at k2
   ·exact ⟨by rw [cell_setRow_other _ _ _ _ e]; exact k0, by rw [cell_setRow_other _ _ _ _ e]; exact k1, by rw [cell_setRow_other _ _ _ _ e]; exact k2⟩
theorem DBox.put {W : World} {h : DH} {D : Dfa} {b : Nat} {x y : Int} {a1 a2 : Option Addr} {l1 c1 l2 c2 : Nat} (hZ : W.heap[b]? = some (.cells #[.int .i64 x, .int .i64 y, .slice a1 l1 c1, .slice a2 l2 c2] 30 (0, 0))) (hd : IsDfa W h D) :
  DBox b D (W.setRow b #[.int .i64 D.n, .int .i64 D.s, .slice h.fa h.fl h.fc, .slice h.aa h.al h.ac]) := ⟨h, setRow_heap _ _ _ _ _ _ hZ, hd.boxed _ hZ⟩
theorem results_cell_row2 {P : Program} {fn : Func} {p u : Tmp} {ty : TypeId} (h : fn.results = #[.cell p ty, .tmp u]) (tmps : Array Value) (w : World) (g : Nat) (t : TypeId) (cs : Array Value) (fr : Nat × Nat) (d : TypeDesc) {v : Value}
  (hp : tmps.getD p undef = .pointer (some ⟨g, 0, none⟩)) (hq : tmps.getD u undef = v) (hg : w.heap[g]? = some (.cells cs t fr))
  (hu : P.underlying ty = some d) (hd : (match d with | .struct _ | .array _ _ => true | _ => false) = true) (hi : (P.info? ty).map (·.size) = some cs.size) :
  (results fn tmps).run P w = .ok (.tuple #[.agg cs, v]) w := by
 rw [results_cell_tmp h, hp, hq]
 simp [asAddr, run_loadVar_row w g t ty cs fr d hg hu hd hi, Result.andThen]
def GivesDE (D : Dfa) (c : Int) (w : World) (e : Ending) (w' : World) : Prop := (∃ h', e = .returned (.tuple #[vDf D h', .int .i64 c]) ∧ IsDfa w' h' D) ∧ Below w.heap.size w w'
def zeroD : Dfa := ⟨0, 0, [], []⟩
theorem isDfa_zero (W : World) : IsDfa W ⟨none, 0, 0, none, 0, 0⟩ zeroD := ⟨isBools_nil W, isArcs_nil W⟩
def canF (d : Dfa) : Dfa := canD d (allK d.n.toNat)
open Classical in
noncomputable def orZero (d D : Dfa) : Dfa := if ValidD d then D else zeroD
open Classical in
noncomputable def orErr (d : Dfa) : Int := if ValidD d then 0 else 1
theorem box_ready {W1 : World} {B : Nat} (hs : W1.heap.size = B + 1) : ∃ W2, W1.alloc (.cells #[.int .i64 0, .int .i64 0, .slice none 0 0, .slice none 0 0] 30) = W2 ∧ Below W1.heap.size W1 W2 ∧ W2.heap.size = B + 2 ∧ W2.heap[B + 1]? = some (.cells #[.int .i64 0, .int .i64 0, .slice none 0 0, .slice none 0 0] 30 (0, 0)) :=
 ⟨_, rfl, (Below.refl _ _).alloc (Nat.le_refl _) _, by simp; omega, by rw [← hs]; exact heap_alloc_new W1 _⟩

set_option maxRecDepth 20000 in
set_option maxHeartbeats 4000000 in
theorem Canonical_yes {d : Dfa} {h : DH} {w : World} (hv : ValidD d) (hd : IsDfa w h d) : Calls Try.prog 13 #[vDf d h] w (GivesDE (canF d) 0 w) := by
 have HV := Lib.hid hv
 have hn := Lib.hid hv.1
 obtain ⟨W1, hW1, hs1, hb1, hO⟩ := boxDW d h w hd
 obtain ⟨W2, hW2, hb2, hs2, hZ2⟩ := box_ready hs1
 have HO : Hid (∀ W, Below (w.heap.size + 1) W2 W → (W.cell? ⟨w.heap.size, 0, none⟩ = some (.int .i64 d.n) ∧ W.cell? ⟨w.heap.size, 1, none⟩ = some (.int .i64 d.s) ∧ W.cell? ⟨w.heap.size, 2, none⟩ = some (.slice h.fa h.fl h.fc) ∧ W.cell? ⟨w.heap.size, 3, none⟩ = some (.slice h.aa h.al h.ac)) ∧ IsDfa W h d ∧ Below w.heap.size w W) := Lib.hid (fun W hb => hO W ((hb2.mono (by omega)).trans hb))
 obtain ⟨⟨c1, c2, c3, c4⟩, hd2, -⟩ := HO.out W2 (Below.refl _ _)
 have hva := valid_yes hv hd2
 have HS2 := Lib.hid hs2
 have HZ2 := Lib.hid hZ2
 unfold vDf at hva ⊢
 clear hO hb2 hb1 hd2 hv hs2 hZ2
 go_enter Try.func13, Try.ntmps13
 go_wp2_with (go_at_call 22; refine hva.mono ?_; rintro e w3 ⟨rfl, hb3⟩; obtain ⟨⟨k1, k2, k3, k4⟩, hd3, hbw3⟩ := HO.out w3 (hb3.mono (by rw [HS2.out]; omega)))
 have hb3' : Below (w.heap.size + 1) W2 w3 := hb3.mono (by rw [HS2.out]; omega)
 have hZ3 : w3.heap[w.heap.size + 1]? = some (.cells #[.int .i64 0, .int .i64 0, .slice none 0 0, .slice none 0 0] 30 (0, 0)) := by rw [hb3.block _ (by rw [HS2.out]; omega)]; exact HZ2.out
 have HS3 : Hid (w.heap.size + 2 ≤ w3.heap.size) := Lib.hid (by rw [← HS2.out]; exact hb3.size)
 have HZ3 := Lib.hid hZ3
 have HB3 := Lib.hid hb3'
 clear k1 k2 k3 k4 hd3 hbw3 c1 c2 c3 c4 hva hb3 hb3' hZ3 hs1 hW1 hW2
 obtain ⟨S, hSd⟩ : ∃ S : (Nat → Bool) → (Nat → Value) → World → Prop, S = fun L f W => Below (w.heap.size + 1) W2 W ∧ w.heap.size + 2 ≤ W.heap.size ∧ (if L 4 = true then DBox (w.heap.size + 1) (canF d) W else W.heap[w.heap.size + 1]? = some (.cells #[.int .i64 0, .int .i64 0, .slice none 0 0, .slice none 0 0] 30 (0, 0)) ∧ (L 2 = true → ∃ a c, f 2 = .slice a d.n.toNat c ∧ IsBools W a d.n.toNat c (allK d.n.toNat)) ∧ (L 3 = true → ∃ h', f 3 = vDf (canF d) h' ∧ IsDfa W h' (canF d))) := ⟨_, rfl⟩
 refine wp_region_st mixed (by kernel_rfl) [[], [], [(1, 9)], [(0, 8), (2, 10), (2, 10)], [(3, 11), (3, 11), (0, 8), (1, 9), (2, 10), (3, 11)], [(0, 8), (1, 9), (2, 10), (3, 11)]] [(0, 8), (1, 9), (2, 10), (3, 11), (5, 3)] rfl rfl [EV ?e0, EV ?e1, fun v => ∃ a c, v = .slice a d.n.toNat c, fun v => ∃ h', v = vDf (canF d) h', fun _ => True, EV ?e5] S ?start ?steps ?rest
 case start =>
  intro f
  rw [hSd]
  exact ⟨HB3.out.drew, HS3.out, HZ3.out, fun h => (by cases h), fun h => (by cases h)⟩
 case steps =>
  refine ⟨fun L f W hi hd hdn hh hS => ?_, fun L f W hi hd hdn hh hS => ?_, fun L f W hi hd hdn hh hS => ?_, fun L f W hi hd hdn hh hS => ?_, fun L f W hi hd hdn hh hS => ?_, fun L f W hi hd hdn hh hS => ?_, trivial⟩
  ·
   unfold stStep
   rw [if_pos (by simp [Region.wanted])]
   intro K Q hK
   simp only [puts, foldr_nil]
   have hS' := hS
   rw [hSd] at hS'
   obtain ⟨⟨k1, k2, k3, k4⟩, -, -⟩ := HO.out W hS'.1
   go_step
   refine st_ex hK rfl rfl (by simp only [go_sem] <;> rfl) rfl (by rw [hSd] at hS ⊢; exact hS)
  ·
   unfold stStep
   rw [if_pos (by simp [Region.wanted])]
   intro K Q hK
   simp only [puts, foldr_nil]
   have hS' := hS
   rw [hSd] at hS'
   obtain ⟨⟨k1, k2, k3, k4⟩, -, -⟩ := HO.out W hS'.1
   go_step
   refine st_ex hK rfl rfl (by simp only [go_sem] <;> rfl) rfl (by rw [hSd] at hS ⊢; exact hS)
  ·
   obtain ⟨h1, -⟩ := hh
   have g1 : f 1 = _ := h1
   have l3 : L 3 = false := Bool.eq_false_iff.2 fun h => by have q := hdn 3 _ h rfl 2 (by decide); rw [show L 2 = false from hi] at q; cases q
   have l4 : L 4 = false := Bool.eq_false_iff.2 fun h => by have q := hdn 4 _ h rfl 3 (by decide); rw [show L 3 = false from l3] at q; cases q
   unfold stStep
   rw [if_pos (by simp [Region.wanted])]
   intro K Q hK
   simp only [puts, Za, Zb, Zc, Zd, Ze, g1]
   rw [hSd] at hS hK
   have l2 : L 2 = false := hi
   try simp only [stage, l3, l4, l2, if_true, if_false, Bool.false_eq_true] at hS
   obtain ⟨hbW, hzW, hRest⟩ := hS
   obtain ⟨hZW, -, -⟩ := hRest
   obtain ⟨-, hdW, -⟩ := HO.out W hbW
   go_step
   go_at_call 38
   refine (every_any d h W (by have := hn.out; omega)).mono ?_
   rintro e w' ⟨⟨a', c', rfl, hI⟩, hb⟩
   refine hK.out _ _ rfl ⟨a', c', rfl⟩ ?_
   refine ⟨hbW.trans (hb.mono (by omega)), Nat.le_trans hzW hb.size, ?_⟩
   simp only [l3, l4, Bool.false_eq_true, ↓reduceIte, Nat.reduceEqDiff]
   exact ⟨by rw [hb.block _ (by omega)]; exact hZW, fun _ => ⟨a', c', rfl, hI⟩, fun h => (by cases h)⟩
  ·
   obtain ⟨h0, h2, _, -⟩ := hh
   have g0 : f 0 = _ := h0
   obtain ⟨a2, c2, (g2 : f 2 = _)⟩ := h2
   have l2 : L 2 = true := hd 2 (by decide)
   have l4 : L 4 = false := Bool.eq_false_iff.2 fun h => by have q := hdn 4 _ h rfl 3 (by decide); rw [show L 3 = false from hi] at q; cases q
   unfold stStep
   rw [if_pos (by simp [Region.wanted])]
   intro K Q hK
   simp only [puts, Za, Zb, Zc, Zd, Ze, g0, g2]
   rw [hSd] at hS hK
   have l3 : L 3 = false := hi
   try simp only [stage, l4, l3, l2, if_true, if_false, Bool.false_eq_true] at hS
   obtain ⟨hbW, hzW, hRest⟩ := hS
   obtain ⟨hZW, h2W, -⟩ := hRest
   obtain ⟨a', c', e2, hI⟩ := h2W trivial
   rw [g2] at e2
   injection e2 with e21 e22 e23
   subst e21 e23
   obtain ⟨-, hdW, -⟩ := HO.out W hbW
   go_step
   go_at_call 37
   refine (canonical_any HV.out hdW hI (by have := hn.out; omega)).mono ?_
   rintro e w' ⟨⟨h', rfl, hD⟩, hb⟩
   refine hK.out _ _ rfl ⟨h', rfl⟩ ?_
   refine ⟨hbW.trans (hb.mono (by omega)), Nat.le_trans hzW hb.size, ?_⟩
   simp only [l4, Bool.false_eq_true, ↓reduceIte, Nat.reduceEqDiff]
   exact ⟨by rw [hb.block _ (by omega)]; exact hZW, fun _ => ⟨_, _, g2, hI.later hb⟩, fun _ => ⟨h', rfl, hD⟩⟩
  ·
   obtain ⟨h3, _, h0, h1, h2, _, -⟩ := hh
   obtain ⟨y3, (g3 : f 3 = _)⟩ := h3
   have g0 : f 0 = _ := h0
   have g1 : f 1 = _ := h1
   obtain ⟨a2, c2, (g2 : f 2 = _)⟩ := h2
   have l3 : L 3 = true := hd 3 (by decide)
   unfold stStep
   rw [if_pos (by simp [Region.wanted])]
   intro K Q hK
   simp only [puts, Za, Zb, Zc, Zd, Ze, g3, g0, g1, g2]
   rw [hSd] at hS hK
   have l4 : L 4 = false := hi
   try simp only [stage, l4, l3, if_true, if_false, Bool.false_eq_true] at hS
   obtain ⟨hbW, hzW, hRest⟩ := hS
   obtain ⟨hZW, -, h3W⟩ := hRest
   obtain ⟨h', e3, hD⟩ := h3W trivial
   have e3' : f 3 = .agg #[.int .i64 (canF d).n, .int .i64 (canF d).s, .slice h'.fa h'.fl h'.fc, .slice h'.aa h'.al h'.ac] := e3
   rw [g3] at e3'
   simp only [e3']
   refine wp_store_row 30 _ _ rfl (w.heap.size + 1) #[.int .i64 (canF d).n, .int .i64 (canF d).s, .slice h'.fa h'.fl h'.fc, .slice h'.aa h'.al h'.ac] rfl rfl _ _ hZW dfa_i rfl (dfa_one _ _ _ _ _ _ _ _) ?_
   refine hK.out _ _ rfl trivial ?_
   refine ⟨below_setRow hbW (Nat.le_refl _) _, by simp [World.setRow]; omega, ?_⟩
   simp only [↓reduceIte, Nat.reduceEqDiff]
   exact DBox.put hZW hD
  ·
   obtain ⟨h0, h1, h2, h3, -⟩ := hh
   have g0 : f 0 = _ := h0
   have g1 : f 1 = _ := h1
   obtain ⟨a2, c2, (g2 : f 2 = _)⟩ := h2
   obtain ⟨y3, (g3 : f 3 = _)⟩ := h3
   unfold stStep
   rw [if_pos (by simp [Region.wanted])]
   intro K Q hK
   simp only [puts, Za, Zb, Zc, Zd, Ze, g0, g1, g2, g3]
   go_step
   refine st_ex hK rfl rfl (by simp only [go_sem] <;> rfl) rfl (by rw [hSd] at hS ⊢; exact hS)
 case rest =>
  intro L f WA hL hh hS
  rw [hSd] at hS
  clear hSd
  have l2 : L 2 = true := hL 2 (by decide)
  have l3 : L 3 = true := hL 3 (by decide)
  have l4 : L 4 = true := hL 4 (by decide)
  simp only [stage, l2, l3, l4, if_true] at hS
  clear hL l2 l3 l4
  obtain ⟨h0, h1, h2, h3, h5, -⟩ := hh
  have g0 : f 0 = _ := h0
  have g1 : f 1 = _ := h1
  obtain ⟨a2, c2, (g2 : f 2 = _)⟩ := h2
  obtain ⟨y3, (g3 : f 3 = _)⟩ := h3
  have g5 : f 5 = _ := h5
  simp only [puts, Za, Zb, Zc, Zd, Ze, g0, g1, g2, g3, g5]
  clear h0 h1 h5 g0 g1 g5
  obtain ⟨hbA, hzA, hDB⟩ := hS
  obtain ⟨h', hZA, hDA⟩ := hDB
  obtain ⟨-, -, hbw⟩ := HO.out WA hbA
  go_wp2_with (fail)
  refine bodyPost_ret (results_cell_row2 rfl _ _ (w.heap.size + 1) _ _ _ _ rfl rfl hZA Try.underlying30 rfl dfa_i) rfl ?_
  exact ⟨⟨h', rfl, hDA⟩, hbw⟩
set_option maxRecDepth 20000 in
theorem Canonical_no {d : Dfa} {h : DH} {w : World} (hv : ¬ ValidD d) (hd : IsDfa w h d) : Calls Try.prog 13 #[vDf d h] w (GivesDE zeroD 1 w) := by
 obtain ⟨W1, hW1, hs1, hb1, hO⟩ := boxDW d h w hd
 obtain ⟨W2, hW2, hb2, hs2, hZ2⟩ := box_ready hs1
 have HO : Hid (∀ W, Below (w.heap.size + 1) W2 W → (W.cell? ⟨w.heap.size, 0, none⟩ = some (.int .i64 d.n) ∧ W.cell? ⟨w.heap.size, 1, none⟩ = some (.int .i64 d.s) ∧ W.cell? ⟨w.heap.size, 2, none⟩ = some (.slice h.fa h.fl h.fc) ∧ W.cell? ⟨w.heap.size, 3, none⟩ = some (.slice h.aa h.al h.ac)) ∧ IsDfa W h d ∧ Below w.heap.size w W) := Lib.hid (fun W hb => hO W ((hb2.mono (by omega)).trans hb))
 obtain ⟨⟨c1, c2, c3, c4⟩, hd2, -⟩ := HO.out W2 (Below.refl _ _)
 have hva := valid_no hv hd2
 have HS2 := Lib.hid hs2
 have HZ2 := Lib.hid hZ2
 unfold vDf at hva ⊢
 clear hO hb2 hb1 hd2 hv hs2 hZ2
 go_enter Try.func13, Try.ntmps13
 go_wp2_with (first | (go_at_call 22; refine hva.mono ?_; rintro e w3 ⟨rfl, hb3⟩; obtain ⟨⟨k1, k2, k3, k4⟩, hd3, hbw3⟩ := HO.out w3 (hb3.mono (by rw [HS2.out]; omega)); have HZ3 : Hid (w3.heap[w.heap.size + 1]? = some (.cells #[.int .i64 0, .int .i64 0, .slice none 0 0, .slice none 0 0] 30 (0, 0))) := Lib.hid (by rw [hb3.block _ (by rw [HS2.out]; omega)]; exact HZ2.out)) | (show wpList _ _ _ (⟨_, .store 30 _ _, _, _, _, _⟩ :: _) _ _; refine wpList_store_row rfl 30 _ _ rfl (w.heap.size + 1) #[.int .i64 0, .int .i64 0, .slice none 0 0, .slice none 0 0] rfl rfl _ _ HZ3.out dfa_i rfl (dfa_one _ _ _ _ _ _ _ _) ?_))
 refine bodyPost_ret (results_cell_row2 rfl _ _ (w.heap.size + 1) _ _ _ _ rfl rfl (setRow_heap _ _ _ _ _ _ HZ3.out) Try.underlying30 rfl dfa_i) rfl ?_
 exact ⟨⟨⟨none, 0, 0, none, 0, 0⟩, rfl, isDfa_zero _⟩, below_setRow hbw3 (by omega) _⟩
theorem Canonical_any {d : Dfa} {h : DH} {w : World} (hd : IsDfa w h d) : Calls Try.prog 13 #[vDf d h] w (GivesDE (orZero d (canF d)) (orErr d) w) := by
 by_cases hv : ValidD d
 ·unfold orZero orErr
  rw [if_pos hv, if_pos hv]
  exact Canonical_yes hv hd
 ·unfold orZero orErr
  rw [if_neg hv, if_neg hv]
  exact Canonical_no hv hd

set_option maxRecDepth 20000 in
set_option maxHeartbeats 4000000 in
theorem Trim_yes {d : Dfa} {h : DH} {w : World} (hv : ValidD d) (hd : IsDfa w h d) : Calls Try.prog 16 #[vDf d h] w (GivesDE (trimD d) 0 w) := by
 have HV := Lib.hid hv
 have hn := Lib.hid hv.1
 obtain ⟨W1, hW1, hs1, hb1, hO⟩ := boxDW d h w hd
 obtain ⟨W2, hW2, hb2, hs2, hZ2⟩ := box_ready hs1
 have HO : Hid (∀ W, Below (w.heap.size + 1) W2 W → (W.cell? ⟨w.heap.size, 0, none⟩ = some (.int .i64 d.n) ∧ W.cell? ⟨w.heap.size, 1, none⟩ = some (.int .i64 d.s) ∧ W.cell? ⟨w.heap.size, 2, none⟩ = some (.slice h.fa h.fl h.fc) ∧ W.cell? ⟨w.heap.size, 3, none⟩ = some (.slice h.aa h.al h.ac)) ∧ IsDfa W h d ∧ Below w.heap.size w W) := Lib.hid (fun W hb => hO W ((hb2.mono (by omega)).trans hb))
 obtain ⟨⟨c1, c2, c3, c4⟩, hd2, -⟩ := HO.out W2 (Below.refl _ _)
 have hva := valid_yes hv hd2
 have HS2 := Lib.hid hs2
 have HZ2 := Lib.hid hZ2
 unfold vDf at hva ⊢
 clear hO hb2 hb1 hd2 hv hs2 hZ2
 go_enter Try.func16, Try.ntmps16
 go_wp2_with (go_at_call 22; refine hva.mono ?_; rintro e w3 ⟨rfl, hb3⟩; obtain ⟨⟨k1, k2, k3, k4⟩, hd3, hbw3⟩ := HO.out w3 (hb3.mono (by rw [HS2.out]; omega)))
 have hb3' : Below (w.heap.size + 1) W2 w3 := hb3.mono (by rw [HS2.out]; omega)
 have hZ3 : w3.heap[w.heap.size + 1]? = some (.cells #[.int .i64 0, .int .i64 0, .slice none 0 0, .slice none 0 0] 30 (0, 0)) := by rw [hb3.block _ (by rw [HS2.out]; omega)]; exact HZ2.out
 have HS3 : Hid (w.heap.size + 2 ≤ w3.heap.size) := Lib.hid (by rw [← HS2.out]; exact hb3.size)
 have HZ3 := Lib.hid hZ3
 have HB3 := Lib.hid hb3'
 clear k1 k2 k3 k4 hd3 hbw3 c1 c2 c3 c4 hva hb3 hb3' hZ3 hs1 hW1 hW2
 obtain ⟨S, hSd⟩ : ∃ S : (Nat → Bool) → (Nat → Value) → World → Prop, S = fun L f W => Below (w.heap.size + 1) W2 W ∧ w.heap.size + 2 ≤ W.heap.size ∧ (if L 4 = true then DBox (w.heap.size + 1) (trimD d) W else W.heap[w.heap.size + 1]? = some (.cells #[.int .i64 0, .int .i64 0, .slice none 0 0, .slice none 0 0] 30 (0, 0)) ∧ (L 2 = true → ∃ a c, f 2 = .slice a d.n.toNat c ∧ IsBools W a d.n.toNat c (keepU d)) ∧ (L 3 = true → ∃ h', f 3 = vDf (trimD d) h' ∧ IsDfa W h' (trimD d))) := ⟨_, rfl⟩
 refine wp_region_st mixed (by kernel_rfl) [[], [], [(1, 9)], [(0, 8), (2, 10), (2, 10)], [(3, 11), (3, 11), (0, 8), (1, 9), (2, 10), (3, 11)], [(0, 8), (1, 9), (2, 10), (3, 11)]] [(0, 8), (1, 9), (2, 10), (3, 11), (5, 3)] rfl rfl [EV ?e0, EV ?e1, fun v => ∃ a c, v = .slice a d.n.toNat c, fun v => ∃ h', v = vDf (trimD d) h', fun _ => True, EV ?e5] S ?start ?steps ?rest
 case start =>
  intro f
  rw [hSd]
  exact ⟨HB3.out.drew, HS3.out, HZ3.out, fun h => (by cases h), fun h => (by cases h)⟩
 case steps =>
  refine ⟨fun L f W hi hd hdn hh hS => ?_, fun L f W hi hd hdn hh hS => ?_, fun L f W hi hd hdn hh hS => ?_, fun L f W hi hd hdn hh hS => ?_, fun L f W hi hd hdn hh hS => ?_, fun L f W hi hd hdn hh hS => ?_, trivial⟩
  ·
   unfold stStep
   rw [if_pos (by simp [Region.wanted])]
   intro K Q hK
   simp only [puts, foldr_nil]
   have hS' := hS
   rw [hSd] at hS'
   obtain ⟨⟨k1, k2, k3, k4⟩, -, -⟩ := HO.out W hS'.1
   go_step
   refine st_ex hK rfl rfl (by simp only [go_sem] <;> rfl) rfl (by rw [hSd] at hS ⊢; exact hS)
  ·
   unfold stStep
   rw [if_pos (by simp [Region.wanted])]
   intro K Q hK
   simp only [puts, foldr_nil]
   have hS' := hS
   rw [hSd] at hS'
   obtain ⟨⟨k1, k2, k3, k4⟩, -, -⟩ := HO.out W hS'.1
   go_step
   refine st_ex hK rfl rfl (by simp only [go_sem] <;> rfl) rfl (by rw [hSd] at hS ⊢; exact hS)
  ·
   obtain ⟨h1, -⟩ := hh
   have g1 : f 1 = _ := h1
   have l3 : L 3 = false := Bool.eq_false_iff.2 fun h => by have q := hdn 3 _ h rfl 2 (by decide); rw [show L 2 = false from hi] at q; cases q
   have l4 : L 4 = false := Bool.eq_false_iff.2 fun h => by have q := hdn 4 _ h rfl 3 (by decide); rw [show L 3 = false from l3] at q; cases q
   unfold stStep
   rw [if_pos (by simp [Region.wanted])]
   intro K Q hK
   simp only [puts, Za, Zb, Zc, Zd, Ze, g1]
   rw [hSd] at hS hK
   have l2 : L 2 = false := hi
   try simp only [stage, l3, l4, l2, if_true, if_false, Bool.false_eq_true] at hS
   obtain ⟨hbW, hzW, hRest⟩ := hS
   obtain ⟨hZW, -, -⟩ := hRest
   obtain ⟨-, hdW, -⟩ := HO.out W hbW
   go_step
   go_at_call 41
   refine (ends_any HV.out hdW).mono ?_
   rintro e w' ⟨⟨a', c', rfl, hI⟩, hb⟩
   refine hK.out _ _ rfl ⟨a', c', rfl⟩ ?_
   refine ⟨hbW.trans (hb.mono (by omega)), Nat.le_trans hzW hb.size, ?_⟩
   simp only [l3, l4, Bool.false_eq_true, ↓reduceIte, Nat.reduceEqDiff]
   exact ⟨by rw [hb.block _ (by omega)]; exact hZW, fun _ => ⟨a', c', rfl, hI⟩, fun h => (by cases h)⟩
  ·
   obtain ⟨h0, h2, _, -⟩ := hh
   have g0 : f 0 = _ := h0
   obtain ⟨a2, c2, (g2 : f 2 = _)⟩ := h2
   have l2 : L 2 = true := hd 2 (by decide)
   have l4 : L 4 = false := Bool.eq_false_iff.2 fun h => by have q := hdn 4 _ h rfl 3 (by decide); rw [show L 3 = false from hi] at q; cases q
   unfold stStep
   rw [if_pos (by simp [Region.wanted])]
   intro K Q hK
   simp only [puts, Za, Zb, Zc, Zd, Ze, g0, g2]
   rw [hSd] at hS hK
   have l3 : L 3 = false := hi
   try simp only [stage, l4, l3, l2, if_true, if_false, Bool.false_eq_true] at hS
   obtain ⟨hbW, hzW, hRest⟩ := hS
   obtain ⟨hZW, h2W, -⟩ := hRest
   obtain ⟨a', c', e2, hI⟩ := h2W trivial
   rw [g2] at e2
   injection e2 with e21 e22 e23
   subst e21 e23
   obtain ⟨-, hdW, -⟩ := HO.out W hbW
   go_step
   go_at_call 37
   refine (canonical_any HV.out hdW hI (by have := hn.out; omega)).mono ?_
   rintro e w' ⟨⟨h', rfl, hD⟩, hb⟩
   refine hK.out _ _ rfl ⟨h', rfl⟩ ?_
   refine ⟨hbW.trans (hb.mono (by omega)), Nat.le_trans hzW hb.size, ?_⟩
   simp only [l4, Bool.false_eq_true, ↓reduceIte, Nat.reduceEqDiff]
   exact ⟨by rw [hb.block _ (by omega)]; exact hZW, fun _ => ⟨_, _, g2, hI.later hb⟩, fun _ => ⟨h', rfl, hD⟩⟩
  ·
   obtain ⟨h3, _, h0, h1, h2, _, -⟩ := hh
   obtain ⟨y3, (g3 : f 3 = _)⟩ := h3
   have g0 : f 0 = _ := h0
   have g1 : f 1 = _ := h1
   obtain ⟨a2, c2, (g2 : f 2 = _)⟩ := h2
   have l3 : L 3 = true := hd 3 (by decide)
   unfold stStep
   rw [if_pos (by simp [Region.wanted])]
   intro K Q hK
   simp only [puts, Za, Zb, Zc, Zd, Ze, g3, g0, g1, g2]
   rw [hSd] at hS hK
   have l4 : L 4 = false := hi
   try simp only [stage, l4, l3, if_true, if_false, Bool.false_eq_true] at hS
   obtain ⟨hbW, hzW, hRest⟩ := hS
   obtain ⟨hZW, -, h3W⟩ := hRest
   obtain ⟨h', e3, hD⟩ := h3W trivial
   have e3' : f 3 = .agg #[.int .i64 (trimD d).n, .int .i64 (trimD d).s, .slice h'.fa h'.fl h'.fc, .slice h'.aa h'.al h'.ac] := e3
   rw [g3] at e3'
   simp only [e3']
   refine wp_store_row 30 _ _ rfl (w.heap.size + 1) #[.int .i64 (trimD d).n, .int .i64 (trimD d).s, .slice h'.fa h'.fl h'.fc, .slice h'.aa h'.al h'.ac] rfl rfl _ _ hZW dfa_i rfl (dfa_one _ _ _ _ _ _ _ _) ?_
   refine hK.out _ _ rfl trivial ?_
   refine ⟨below_setRow hbW (Nat.le_refl _) _, by simp [World.setRow]; omega, ?_⟩
   simp only [↓reduceIte, Nat.reduceEqDiff]
   exact DBox.put hZW hD
  ·
   obtain ⟨h0, h1, h2, h3, -⟩ := hh
   have g0 : f 0 = _ := h0
   have g1 : f 1 = _ := h1
   obtain ⟨a2, c2, (g2 : f 2 = _)⟩ := h2
   obtain ⟨y3, (g3 : f 3 = _)⟩ := h3
   unfold stStep
   rw [if_pos (by simp [Region.wanted])]
   intro K Q hK
   simp only [puts, Za, Zb, Zc, Zd, Ze, g0, g1, g2, g3]
   go_step
   refine st_ex hK rfl rfl (by simp only [go_sem] <;> rfl) rfl (by rw [hSd] at hS ⊢; exact hS)
 case rest =>
  intro L f WA hL hh hS
  rw [hSd] at hS
  clear hSd
  have l2 : L 2 = true := hL 2 (by decide)
  have l3 : L 3 = true := hL 3 (by decide)
  have l4 : L 4 = true := hL 4 (by decide)
  simp only [stage, l2, l3, l4, if_true] at hS
  clear hL l2 l3 l4
  obtain ⟨h0, h1, h2, h3, h5, -⟩ := hh
  have g0 : f 0 = _ := h0
  have g1 : f 1 = _ := h1
  obtain ⟨a2, c2, (g2 : f 2 = _)⟩ := h2
  obtain ⟨y3, (g3 : f 3 = _)⟩ := h3
  have g5 : f 5 = _ := h5
  simp only [puts, Za, Zb, Zc, Zd, Ze, g0, g1, g2, g3, g5]
  clear h0 h1 h5 g0 g1 g5
  obtain ⟨hbA, hzA, hDB⟩ := hS
  obtain ⟨h', hZA, hDA⟩ := hDB
  obtain ⟨-, -, hbw⟩ := HO.out WA hbA
  go_wp2_with (fail)
  refine bodyPost_ret (results_cell_row2 rfl _ _ (w.heap.size + 1) _ _ _ _ rfl rfl hZA Try.underlying30 rfl dfa_i) rfl ?_
  exact ⟨⟨h', rfl, hDA⟩, hbw⟩
set_option maxRecDepth 20000 in
theorem Trim_no {d : Dfa} {h : DH} {w : World} (hv : ¬ ValidD d) (hd : IsDfa w h d) : Calls Try.prog 16 #[vDf d h] w (GivesDE zeroD 1 w) := by
 obtain ⟨W1, hW1, hs1, hb1, hO⟩ := boxDW d h w hd
 obtain ⟨W2, hW2, hb2, hs2, hZ2⟩ := box_ready hs1
 have HO : Hid (∀ W, Below (w.heap.size + 1) W2 W → (W.cell? ⟨w.heap.size, 0, none⟩ = some (.int .i64 d.n) ∧ W.cell? ⟨w.heap.size, 1, none⟩ = some (.int .i64 d.s) ∧ W.cell? ⟨w.heap.size, 2, none⟩ = some (.slice h.fa h.fl h.fc) ∧ W.cell? ⟨w.heap.size, 3, none⟩ = some (.slice h.aa h.al h.ac)) ∧ IsDfa W h d ∧ Below w.heap.size w W) := Lib.hid (fun W hb => hO W ((hb2.mono (by omega)).trans hb))
 obtain ⟨⟨c1, c2, c3, c4⟩, hd2, -⟩ := HO.out W2 (Below.refl _ _)
 have hva := valid_no hv hd2
 have HS2 := Lib.hid hs2
 have HZ2 := Lib.hid hZ2
 unfold vDf at hva ⊢
 clear hO hb2 hb1 hd2 hv hs2 hZ2
 go_enter Try.func16, Try.ntmps16
 go_wp2_with (first | (go_at_call 22; refine hva.mono ?_; rintro e w3 ⟨rfl, hb3⟩; obtain ⟨⟨k1, k2, k3, k4⟩, hd3, hbw3⟩ := HO.out w3 (hb3.mono (by rw [HS2.out]; omega)); have HZ3 : Hid (w3.heap[w.heap.size + 1]? = some (.cells #[.int .i64 0, .int .i64 0, .slice none 0 0, .slice none 0 0] 30 (0, 0))) := Lib.hid (by rw [hb3.block _ (by rw [HS2.out]; omega)]; exact HZ2.out)) | (show wpList _ _ _ (⟨_, .store 30 _ _, _, _, _, _⟩ :: _) _ _; refine wpList_store_row rfl 30 _ _ rfl (w.heap.size + 1) #[.int .i64 0, .int .i64 0, .slice none 0 0, .slice none 0 0] rfl rfl _ _ HZ3.out dfa_i rfl (dfa_one _ _ _ _ _ _ _ _) ?_))
 refine bodyPost_ret (results_cell_row2 rfl _ _ (w.heap.size + 1) _ _ _ _ rfl rfl (setRow_heap _ _ _ _ _ _ HZ3.out) Try.underlying30 rfl dfa_i) rfl ?_
 exact ⟨⟨⟨none, 0, 0, none, 0, 0⟩, rfl, isDfa_zero _⟩, below_setRow hbw3 (by omega) _⟩
theorem Trim_any {d : Dfa} {h : DH} {w : World} (hd : IsDfa w h d) : Calls Try.prog 16 #[vDf d h] w (GivesDE (orZero d (trimD d)) (orErr d) w) := by
 by_cases hv : ValidD d
 ·unfold orZero orErr
  rw [if_pos hv, if_pos hv]
  exact Trim_yes hv hd
 ·unfold orZero orErr
  rw [if_neg hv, if_neg hv]
  exact Trim_no hv hd
end Go.Proofs.Ytpcbmhfnefhenaa

set_option linter.unusedVariables false
set_option linter.unusedSectionVars false
set_option linter.unusedSimpArgs false
namespace Go.Proofs.Ytpcbmhfnefhenaa
open Go.RowKit Go.Maps
open Go.WideElems (Fit rg)

structure KeyEnc (P : Program) (k : TypeId) (α : Type) where
 law : Keyed P k
 enc : α → Value
 ok : α → Prop
 kl : α → Lit
 reads : ∀ a, ok a → keyOf P k (enc a) = some (kl a)
 inj : ∀ a b, ok a → ok b → enc a = enc b → a = b
section
variable {P : Program} {k : TypeId} {α : Type} [DecidableEq α]
theorem KeyEnc.key (E : KeyEnc P k α) {a : α} (h : E.ok a) : WideAt.IsKeyLit (E.kl a) := E.law.key (E.reads a h)
theorem KeyEnc.ne (E : KeyEnc P k α) {a b : α} (ha : E.ok a) (hb : E.ok b) (h : a ≠ b) : E.kl a ≠ E.kl b := fun e => by
 have h1 := E.reads a ha
 have h2 := E.reads b hb
 rw [e] at h1
 exact h (E.inj a b ha hb (E.law.inj h1 h2))
def MapObj (E : KeyEnc P k α) (e : TypeId) (ks : List α) (val : α → Lit) (o : Obj) : Prop := ∃ (es : Array MapEntry) (clock : Nat) (D : DataW Unit), o = .map es clock ∧ Fit P k (plainElem (H := Unit) P e) es clock ∧ es.size ≤ ks.length ∧ D = .map ((es.toList.map (rg P k (plainElem P e))).foldr DataW.insert []) ∧ Maps.size D = ks.length ∧ ∀ a, E.ok a → Maps.has D (E.kl a) = decide (a ∈ ks) ∧ (a ∈ ks → ∀ z, D.atKey (E.kl a) z = .lit (val a))
def IsMapK (E : KeyEnc P k α) (e : TypeId) (ks : List α) (val : α → Lit) (W : World) (b : Nat) : Prop := ∃ D : DataW Unit, W.ownsMap P k (plainElem P e) b ks.length D ∧ Maps.size D = ks.length ∧ ∀ a, E.ok a → Maps.has D (E.kl a) = decide (a ∈ ks) ∧ (a ∈ ks → ∀ z, D.atKey (E.kl a) z = .lit (val a))
variable {E : KeyEnc P k α} {e : TypeId} {ks : List α} {val : α → Lit} {W : World} {b : Nat}
theorem isMapK_iff : IsMapK E e ks val W b ↔ ∃ o, W.heap[b]? = some o ∧ MapObj E e ks val o := by
 constructor
 ·rintro ⟨D, ⟨es, clock, h1, h2, h3, h4⟩, h5, h6⟩
  exact ⟨_, h1, es, clock, D, rfl, h2, h3, h4, h5, h6⟩
 ·rintro ⟨o, h1, es, clock, D, rfl, h2, h3, h4, h5, h6⟩
  exact ⟨D, ⟨es, clock, h1, h2, h3, h4⟩, h5, h6⟩
theorem MapObj.vals {o : Obj} (h : MapObj E e ks val o) {val' : α → Lit} (hv : ∀ a ∈ ks, val a = val' a) : MapObj E e ks val' o := by
 obtain ⟨es, clock, D, h1, h2, h3, h4, h5, h6⟩ := h
 exact ⟨es, clock, D, h1, h2, h3, h4, h5, fun a ha => ⟨(h6 a ha).1, fun hm z => by rw [← hv a hm]; exact (h6 a ha).2 hm z⟩⟩
theorem mapObj_made (E : KeyEnc P k α) (e : TypeId) (val : α → Lit) : MapObj E e [] val (.map #[] 0) := by
 obtain ⟨es, clock, h1, h2, h3, h4⟩ := World.ownsMap_made (H := Unit) default P k (plainElem P e)
 rw [heap_alloc_new] at h1
 injection h1 with h1
 refine ⟨es, clock, .map [], h1, h2, h3, h4, rfl, fun a _ => ⟨by simp [Maps.has], fun h => by simp at h⟩⟩
def ElemAt (P : Program) (e : TypeId) : Prop := ∀ (v : Value) (z : DataW Unit × List MemPlace), plainElem P e v = some z → ∃ l : Lit, v = l.value ∧ z.1 = .lit l
theorem elemAt_i64 {e : TypeId} {q : IntKind} (he : P.underlying e = some (.int q)) : ElemAt P e := fun v z h => by
 obtain ⟨a, rfl, rfl, _⟩ := plainElem_int_inv he h
 exact ⟨.int q a, rfl, rfl⟩
theorem elemAt_bool (he : P.underlying e = some .bool) : ElemAt P e := fun v z h => by
 unfold plainElem at h
 rw [he] at h
 cases v <;> simp at h
 subst h
 exact ⟨.bool _, rfl, rfl⟩
theorem IsMapK.look {t : TypeId} (h : IsMapK E e ks val W b) (he : ElemAt P e) (ht : P.underlying t = some (.map k e)) {zl : Lit} (hz : (zeroValue e).run P W = .ok zl.value W) (hzd : plainElem (H := Unit) P e zl.value = some (.lit zl, [])) {a : α} (ha : E.ok a) (c : Bool) :
  (Instr.lookup t (.map (some b)) (E.enc a) c).run P W = .ok (if c then .tuple #[(if a ∈ ks then val a else zl).value, .bool (decide (a ∈ ks))] else (if a ∈ ks then val a else zl).value) W := by
 obtain ⟨D, ⟨es, clock, hb, F, hs, rfl⟩, h5, h6⟩ := h
 obtain ⟨h7, h8⟩ := h6 a ha
 rcases Maps.fit_look c E.law ht hz hb F (E.reads a ha) with ⟨hrun, _, hat⟩ | ⟨e0, y, _, _, hrun, hRv, hat, _⟩
 ·have hn : a ∉ ks := fun hm => by
   rw [Maps.has_false_of_atKey hat] at h7
   simp [hm] at h7
  rw [hrun]
  simp [hn]
 ·have hm : a ∈ ks := by
   rw [Maps.has_true_of_atKey hat] at h7
   simpa using h7.symm
  obtain ⟨l, hl, hy⟩ := he _ _ hRv
  have h9 := h8 hm (.lit zl)
  rw [hat, hy] at h9
  injection h9 with h9
  subst h9
  rw [hrun, hl]
  simp [hm]
theorem IsMapK.len {t : TypeId} (h : IsMapK E e ks val W b) (ht : P.underlying t = some (.map k e)) (ty : TypeId) : (Builtin.len_ #[t] ty #[.map (some b)]).run P W = .ok (.int .i64 (ks.length : Nat)) W := by
 obtain ⟨D, hown, h5, _⟩ := h
 rw [hown.len ht ty, h5]
theorem IsMapK.store {t : TypeId} (h : IsMapK E e ks val W b) (ht : P.underlying t = some (.map k e)) (hn : ks.length < maxLen) {a : α} (ha : E.ok a) (hnew : a ∉ ks) {l : Lit} (hl : plainElem (H := Unit) P e l.value = some (.lit l, [])) :
  ∃ W', (Instr.mapUpdate t (.map (some b)) (E.enc a) l.value).run P W = .ok () W' ∧ IsMapK E e (ks ++ [a]) (fun x => if x = a then l else val x) W' b ∧ W.grownBy W' (some b) := by
 obtain ⟨D, hown, h5, h6⟩ := h
 obtain ⟨W', hrun, hown', hturn⟩ := hown.store E.law ht hn (E.reads a ha) hl
 refine ⟨W', hrun, ⟨_, by rw [List.length_append]; exact hown', ?_, fun x hx => ?_⟩, hturn.grown⟩
 ·rw [Maps.size_put (hown.tidy E.law), (h6 a ha).1, h5]
  simp [hnew]
 ·by_cases e : x = a
  ·subst e
   exact ⟨by rw [Maps.has_put_same hown.isMap (E.key hx)]; simp, fun _ z => by rw [Maps.atKey_put_same hown.isMap (E.key hx)]; simp⟩
  ·have hne := E.ne hx ha e
   refine ⟨by rw [Maps.has_put_other hne, (h6 x hx).1]; simp [e], fun hm z => ?_⟩
   show (D.put (E.kl a) (.lit l)).atKey (E.kl x) z = .lit (if x = a then l else val x)
   rw [Maps.atKey_put_other hne, if_neg e]
   have hm' : x ∈ ks := by
    rcases List.mem_append.1 hm with h1 | h1
    ·exact h1
    ·exact absurd (List.mem_singleton.1 h1) e
   exact (h6 x hx).2 hm' z
/-! As operations. -/
theorem wp_map_look {o : Oper} {A : Act} {K : Act → World → Prop} {Q : Exit → Act → World → Prop} (m x : Operand) (t : TypeId) (c : Bool) (hop : o.op = Op.lookup t m x c) (h : IsMapK E e ks val W b) (he : ElemAt P e) (ht : P.underlying t = some (.map k e)) (zl : Lit) (hz : (zeroValue e).run P W = .ok zl.value W) (hzd : plainElem (H := Unit) P e zl.value = some (.lit zl, []))
  (hm : A.eval m = .map (some b)) (a : α) (hx : A.eval x = E.enc a) (ha : E.ok a)
  (hK : K (A.put o.dst (if c then .tuple #[(if a ∈ ks then val a else zl).value, .bool (decide (a ∈ ks))] else (if a ∈ ks then val a else zl).value)) W) : o.wp P A W K Q := by
 have hrun := h.look he ht hz hzd ha c
 unfold Oper.wp
 simp [execOp, hop, hm, hx]
 rw [hrun]
 exact hK
theorem wp_map_store {o : Oper} {A : Act} {K : Act → World → Prop} {Q : Exit → Act → World → Prop} (m x y : Operand) (t : TypeId) (hop : o.op = Op.mapUpdate t m x y) (h : IsMapK E e ks val W b) (ht : P.underlying t = some (.map k e)) (hn : ks.length < maxLen)
  (hm : A.eval m = .map (some b)) (a : α) (hx : A.eval x = E.enc a) (ha : E.ok a) (hnew : a ∉ ks) (l : Lit) (hy : A.eval y = l.value) (hl : plainElem (H := Unit) P e l.value = some (.lit l, []))
  (hK : ∀ W', IsMapK E e (ks ++ [a]) (fun x => if x = a then l else val x) W' b → W.grownBy W' (some b) → K (A.put o.dst undef) W') : o.wp P A W K Q := by
 obtain ⟨W', hrun, h1, h2⟩ := h.store ht hn ha hnew hl
 unfold Oper.wp
 simp [execOp, hop, hm, hx, hy, hrun, Result.andThen]
 exact hK W' h1 h2
theorem wpList_map_look {ops : Array Oper} {rest : List Oper} {o : Oper} {A : Act} {Q : Exit → Act → World → Prop} (hg : o.guard = none) (m x : Operand) (t : TypeId) (c : Bool) (hop : o.op = Op.lookup t m x c) (h : IsMapK E e ks val W b) (he : ElemAt P e) (ht : P.underlying t = some (.map k e)) (zl : Lit) (hz : (zeroValue e).run P W = .ok zl.value W) (hzd : plainElem (H := Unit) P e zl.value = some (.lit zl, []))
  (hm : A.eval m = .map (some b)) (a : α) (hx : A.eval x = E.enc a) (ha : E.ok a)
  (hK : wpList P ops Q rest (A.put o.dst (if c then .tuple #[(if a ∈ ks then val a else zl).value, .bool (decide (a ∈ ks))] else (if a ∈ ks then val a else zl).value)) W) : wpList P ops Q (o :: rest) A W :=
 wpList_plain hg fun _ hK' => wp_map_look m x t c hop h he ht zl hz hzd hm a hx ha (hK' _ _ hK)
theorem wpList_map_store {ops : Array Oper} {rest : List Oper} {o : Oper} {A : Act} {Q : Exit → Act → World → Prop} (hg : o.guard = none) (m x y : Operand) (t : TypeId) (hop : o.op = Op.mapUpdate t m x y) (h : IsMapK E e ks val W b) (ht : P.underlying t = some (.map k e)) (hn : ks.length < maxLen)
  (hm : A.eval m = .map (some b)) (a : α) (hx : A.eval x = E.enc a) (ha : E.ok a) (hnew : a ∉ ks) (l : Lit) (hy : A.eval y = l.value) (hl : plainElem (H := Unit) P e l.value = some (.lit l, []))
  (hK : ∀ W', IsMapK E e (ks ++ [a]) (fun x => if x = a then l else val x) W' b → W.grownBy W' (some b) → wpList P ops Q rest (A.put o.dst undef) W') : wpList P ops Q (o :: rest) A W :=
 wpList_plain hg fun _ hK' => wp_map_store m x y t hop h ht hn hm a hx ha hnew l hy hl fun W' h1 h2 => hK' _ _ (hK W' h1 h2)
theorem wpList_map_len {ops : Array Oper} {rest : List Oper} {o : Oper} {A : Act} {Q : Exit → Act → World → Prop} (hg : o.guard = none) (m : Operand) (t : TypeId) (hop : o.op = .call { callee := .builtin .len, args := #[m], argTypes := #[t] }) (h : IsMapK E e ks val W b) (ht : P.underlying t = some (.map k e))
  (hm : A.eval m = .map (some b)) (hK : wpList P ops Q rest (A.put o.dst (.int .i64 (ks.length : Nat))) W) : wpList P ops Q (o :: rest) A W := by
 refine wpList_plain hg fun _ hK' => ?_
 have hrun := h.len ht o.type
 unfold Oper.wp
 simp [execOp, hop, resolve, invoke, builtin, hm, hrun, Result.andThen]
 exact hK' _ _ hK
theorem wpList_map_ok_yes {ops : Array Oper} {rest : List Oper} {o : Oper} {A : Act} {Q : Exit → Act → World → Prop} (hg : o.guard = none) (m x : Operand) (t : TypeId) (hop : o.op = Op.lookup t m x true) (h : IsMapK E e ks val W b) (he : ElemAt P e) (ht : P.underlying t = some (.map k e)) (zl : Lit) (hz : (zeroValue e).run P W = .ok zl.value W) (hzd : plainElem (H := Unit) P e zl.value = some (.lit zl, []))
  (hm : A.eval m = .map (some b)) (a : α) (hx : A.eval x = E.enc a) (ha : E.ok a) (hin : a ∈ ks) {v : Value} (hv : v = (val a).value) (hK : wpList P ops Q rest (A.put o.dst (.tuple #[v, .bool true])) W) : wpList P ops Q (o :: rest) A W := by
 subst hv
 exact wpList_map_look hg m x t true hop h he ht zl hz hzd hm a hx ha (by simpa [hin] using hK)
theorem wpList_map_ok_no {ops : Array Oper} {rest : List Oper} {o : Oper} {A : Act} {Q : Exit → Act → World → Prop} (hg : o.guard = none) (m x : Operand) (t : TypeId) (hop : o.op = Op.lookup t m x true) (h : IsMapK E e ks val W b) (he : ElemAt P e) (ht : P.underlying t = some (.map k e)) (zl : Lit) (hz : (zeroValue e).run P W = .ok zl.value W) (hzd : plainElem (H := Unit) P e zl.value = some (.lit zl, []))
  (hm : A.eval m = .map (some b)) (a : α) (hx : A.eval x = E.enc a) (ha : E.ok a) (hin : a ∉ ks) {v : Value} (hv : v = zl.value) (hK : wpList P ops Q rest (A.put o.dst (.tuple #[v, .bool false])) W) : wpList P ops Q (o :: rest) A W := by
 subst hv
 exact wpList_map_look hg m x t true hop h he ht zl hz hzd hm a hx ha (by simpa [hin] using hK)
theorem wpList_map_at_yes {ops : Array Oper} {rest : List Oper} {o : Oper} {A : Act} {Q : Exit → Act → World → Prop} (hg : o.guard = none) (m x : Operand) (t : TypeId) (hop : o.op = Op.lookup t m x false) (h : IsMapK E e ks val W b) (he : ElemAt P e) (ht : P.underlying t = some (.map k e)) (zl : Lit) (hz : (zeroValue e).run P W = .ok zl.value W) (hzd : plainElem (H := Unit) P e zl.value = some (.lit zl, []))
  (hm : A.eval m = .map (some b)) (a : α) (hx : A.eval x = E.enc a) (ha : E.ok a) (hin : a ∈ ks) {v : Value} (hv : v = (val a).value) (hK : wpList P ops Q rest (A.put o.dst (v)) W) : wpList P ops Q (o :: rest) A W := by
 subst hv
 exact wpList_map_look hg m x t false hop h he ht zl hz hzd hm a hx ha (by simpa [hin] using hK)
theorem wpList_map_at_no {ops : Array Oper} {rest : List Oper} {o : Oper} {A : Act} {Q : Exit → Act → World → Prop} (hg : o.guard = none) (m x : Operand) (t : TypeId) (hop : o.op = Op.lookup t m x false) (h : IsMapK E e ks val W b) (he : ElemAt P e) (ht : P.underlying t = some (.map k e)) (zl : Lit) (hz : (zeroValue e).run P W = .ok zl.value W) (hzd : plainElem (H := Unit) P e zl.value = some (.lit zl, []))
  (hm : A.eval m = .map (some b)) (a : α) (hx : A.eval x = E.enc a) (ha : E.ok a) (hin : a ∉ ks) {v : Value} (hv : v = zl.value) (hK : wpList P ops Q rest (A.put o.dst (v)) W) : wpList P ops Q (o :: rest) A W := by
 subst hv
 exact wpList_map_look hg m x t false hop h he ht zl hz hzd hm a hx ha (by simpa [hin] using hK)
end
/-! Integers as keys. -/
def keyI {P : Program} {k : TypeId} (hk : P.underlying k = some (.int .i64)) : KeyEnc P k Int where
 law := int_keyed hk
 enc := fun a => .int .i64 a
 ok := fun a => (Lit.int .i64 a).wf = true
 kl := fun a => .int .i64 a
 reads := fun a h => keyOf_int_mk hk h
 inj := fun a b _ _ h => by injection h
theorem wf_small {n : Int} (h0 : -9223372036854775808 ≤ n) (h1 : n ≤ 9223372036854775807) : (Lit.int .i64 n).wf = true := WalkArith.wf_i64 ⟨h0, h1⟩
end Go.Proofs.Ytpcbmhfnefhenaa
