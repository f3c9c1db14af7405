import Derived.BigQuiet
import Derived.Test.YtpcbmhfnefhenaaMG31
/-
  DfaRn, DfaAl
-/
namespace Go.Proofs.Ytpcbmhfnefhenaa
def repA (C : List Int) (x : A3) : A3 := ⟨x.f, x.l, gi C x.t.toNat⟩
def repD (t : Dfa) (C : List Int) : Dfa := ⟨t.n, gi C t.s.toNat, t.fin, t.arcs.map (repA C)⟩
theorem g3_rep (C : List Int) (es : List A3) {i : Nat} (h : i < es.length) : g3 (es.map (repA C)) i = repA C (g3 es i) := by
  rw [g3_eq _ _ (by simpa using h), g3_eq _ _ h]
  simp
theorem outsD_rep (C : List Int) (es : List A3) (q : Int) : outsD (es.map (repA C)) q = (outsD es q).map (repA C) := by
  unfold outsD
  rw [List.filter_map]
  rfl
theorem repD_valid {t : Dfa} (hv : ValidD t) {C : List Int} (hC : LeastC C t.n.toNat) : ValidD (repD t C) := by
  have hn := hv.1
  have hs := hv.2.1
  have h1 := (hC t.s.toNat (by omega)).1
  refine ⟨hn, ⟨h1.1, by show gi C t.s.toNat < t.n; omega⟩, hv.2.2.1, by show (t.arcs.map (repA C)).length ≤ 20000; rw [List.length_map]; exact hv.2.2.2.1, fun i hi => ?_⟩
  have hi' : i < t.arcs.length := by have h : i < (t.arcs.map (repA C)).length := hi; simpa using h
  have h2 := hv.2.2.2.2 i hi'
  have e : g3 (repD t C).arcs i = repA C (g3 t.arcs i) := g3_rep C t.arcs hi'
  unfold ArcOk at h2 ⊢
  rw [e]
  obtain ⟨⟨a1, a2⟩, a3, a4⟩ := h2
  have h3 := (hC (g3 t.arcs i).t.toNat (by omega)).1
  refine ⟨⟨a1, h3.1, by show gi C (g3 t.arcs i).t.toNat < t.n; omega⟩, a3, fun h0 => ?_⟩
  have e' : g3 (repD t C).arcs (i - 1) = repA C (g3 t.arcs (i - 1)) := g3_rep C t.arcs (by omega)
  rw [e']
  exact a4 h0
theorem rep_minL {t : Dfa} (hv : ValidD t) (hu : Useful t) {C : List Int} (hC : LeastC C t.n.toNat) (hL : ByLang t C) : numD (repD t C) (allK t.n.toNat) = minL (lgD t t.s) := by
  have hn := hv.1
  have hs := hv.2.1
  have lang : ∀ i : Int, 0 ≤ i → i < t.n → lgD t (gi C i.toNat) = lgD t i := fun i h0 h1 => by
    have h2 := hC i.toNat (by omega)
    have h3 := (hL (gi C i.toNat).toNat i.toNat (by omega) (by omega)).1 h2.2.1
    rwa [Int.toNat_of_nonneg h2.1.1, Int.toNat_of_nonneg h0] at h3
  have fixd : ∀ i : Int, 0 ≤ i → i < t.n → InD t (gi C i.toNat) ∧ gi C (gi C i.toNat).toNat = gi C i.toNat := fun i h0 h1 => by
    have h2 := hC i.toNat (by omega)
    exact ⟨⟨h2.1.1, by omega⟩, h2.2.1⟩
  have h := num_minL hv hu (repD_valid hv hC) id (fun q => InD t q ∧ gi C q.toNat = q) (fixd t.s hs.1 hs.2)
    (fun y hy x hx => by
      have hx' : x ∈ (outsD t.arcs y).map (repA C) := by rw [← outsD_rep]; exact hx
      obtain ⟨z, hz, rfl⟩ := List.mem_map.1 hx'
      have hz2 := (hv.arc (outsD_mem.1 hz).1).1.2
      exact fixd z.t hz2.1 hz2.2)
    (fun x y hx hy e => by
      obtain ⟨⟨x0, x1⟩, hx⟩ := hx
      obtain ⟨⟨y0, y1⟩, hy⟩ := hy
      have h1 := (hL x.toNat y.toNat (by omega) (by omega)).2 (by rw [Int.toNat_of_nonneg x0, Int.toNat_of_nonneg y0]; exact e)
      rw [hx, hy] at h1
      exact h1)
    (fun y hy => by
      show (outsD (t.arcs.map (repA C)) y).map _ = _
      rw [outsD_rep, List.map_map]
      refine List.map_congr_left fun x hx => ?_
      have hz2 := (hv.arc (outsD_mem.1 hx).1).1.2
      show (x.l, lgD t (gi C x.t.toNat)) = (x.l, lgD t x.t)
      rw [lang x.t hz2.1 hz2.2])
    (fun y _ _ => rfl)
  have e : lgD t (id (repD t C).s) = lgD t t.s := lang t.s hs.1 hs.2
  rw [e] at h
  exact h
end Go.Proofs.Ytpcbmhfnefhenaa

set_option linter.unusedSimpArgs false
set_option linter.unusedVariables false
namespace Go.Proofs.Ytpcbmhfnefhenaa
open Go.RowKit
attribute [local go_sem] Oper.semAt_some

variable {d : Dfa} {h : DH} {w : World}
def alikeB (es : List A3) (fin : List Bool) (C : List Int) (a b : Nat) : Bool := decide (gb fin a = gb fin b ∧ (outsD es a).map (fun x => (x.l, gi C x.t.toNat)) = (outsD es b).map fun x => (x.l, gi C x.t.toNat))
theorem maps_iff {EA EB : List A3} {C : List Int} (hl : EA.length = EB.length) : (EA.map fun x => (x.l, gi C x.t.toNat)) = (EB.map fun x => (x.l, gi C x.t.toNat)) ↔ ∀ i, i < EA.length → (g3 EA i).l = (g3 EB i).l ∧ gi C (g3 EA i).t.toNat = gi C (g3 EB i).t.toNat := by
  constructor
  · intro e i hi
    have h1 : (EA.map fun x => (x.l, gi C x.t.toNat))[i]? = (EB.map fun x => (x.l, gi C x.t.toNat))[i]? := by rw [e]
    rw [List.getElem?_map, List.getElem?_map, List.getElem?_eq_getElem hi, List.getElem?_eq_getElem (by omega)] at h1
    rw [g3_eq _ _ hi, g3_eq _ _ (by omega)]
    simpa using h1
  · intro h
    refine List.ext_getElem (by simpa using hl) fun i h1 h2 => ?_
    have hi : i < EA.length := by simpa using h1
    have h3 := h i hi
    rw [g3_eq _ _ hi, g3_eq _ _ (by omega)] at h3
    simp [h3.1, h3.2]
def ArcA (es : List A3) : Value → World → Prop := fun v W => ∃ a c, v = .slice a es.length c ∧ IsArcs W a es.length c es
theorem stays_arcA (es : List A3) : Stays (ArcA es) := fun v W W' hb ⟨a, c, e, h⟩ => ⟨a, c, e, h.later hb⟩
theorem below_drew_n (w : World) (n : Nat) : Below w.heap.size w (w.drewN n) := ⟨rfl, rfl, rfl, Nat.le_refl _, fun _ _ => rfl⟩
set_option maxRecDepth 20000 in
set_option maxHeartbeats 4000000 in
theorem refAlike_any (hv : ValidD d) (hd : IsDfa w h d) {ac : Option Addr} {lc cc : Nat} {C : List Int} (hc : IsInts .i64 w ac lc cc C) (hcl : (lc : Int) = d.n) {a b : Nat} (ha : (a : Int) < d.n) (hb : (b : Int) < d.n) :
    Calls Try.prog 48 #[vDf d h, .slice ac lc cc, .int .i64 (a : Int), .int .i64 (b : Int)] w fun e w' => e = .returned (.bool (alikeB d.arcs d.fin C a b)) ∧ Below w.heap.size w w' := by
  obtain ⟨W1, hW1, hs1, hb1, hO⟩ := boxRW d h w hd
  have HV := Lib.hid hv
  obtain ⟨V, hV⟩ : ∃ V, alikeB d.arcs d.fin C a b = V := ⟨_, rfl⟩
  rw [hV]
  have HVV := Lib.hid hV
  have HO : Hid (∀ W, Below W1.heap.size W1 W → (W.cell? ⟨w.heap.size, 0, none⟩ = some (.int .i64 d.n) ∧ W.cell? ⟨w.heap.size, 1, none⟩ = some (.int .i64 d.s) ∧ W.cell? ⟨w.heap.size, 2, none⟩ = some (.slice h.fa h.fl h.fc) ∧ W.cell? ⟨w.heap.size, 3, none⟩ = some (.slice h.aa h.al h.ac)) ∧ IsDfa W h d ∧ Below w.heap.size w W) := Lib.hid (fun W hb => hO W (hb.mono (by omega)))
  have HC := Lib.hid hc
  clear hO hV hd hc hv
  unfold vDf
  go_enter Try.func48, Try.ntmps48
  go_wp2_with (fail)
  clear hW1
  refine wp_region_grow mixed (by kernel_rfl) [[], [], [(0, 12), (1, 13)], [], [], [(3, 15), (4, 16), (2, 14)], [(2, 14), (5, 17), (0, 12), (1, 13), (2, 14)], [(5, 17), (6, 9), (0, 12), (1, 13), (2, 14), (3, 15), (4, 16), (5, 17), (6, 9)]] [(0, 12), (1, 13), (2, 14), (3, 15), (4, 16), (5, 17), (6, 9), (7, 10)] rfl rfl [Ex ?e0, Ex ?e1, ArcA (outsD d.arcs a), Ex ?e3, Ex ?e4, ArcA (outsD d.arcs b), ArcA (outsD d.arcs a), ArcA (outsD d.arcs b)] ⟨stays_ex _, stays_ex _, stays_arcA _, stays_ex _, stays_ex _, stays_arcA _, stays_arcA _, stays_arcA _, trivial⟩ ?steps ?rest
  case steps =>
    refine ⟨fun f W hC hh => ?_, fun f W hC hh => ?_, fun f W hC hh => ?_, fun f W hC hh => ?_, fun f W hC hh => ?_, fun f W hC hh => ?_, fun f W hC hh => ?_, fun f W hC hh => ?_, trivial⟩
    ·
      refine tab_plain fun K Q hK => ?_
      simp only [puts, List.foldr_nil]
      obtain ⟨⟨k1, k2, k3, k4⟩, -, -⟩ := HO.out W hC
      go_step
      exact fam_e hK rfl rfl (Below.refl _ _) hC
    ·
      refine tab_plain fun K Q hK => ?_
      simp only [puts, List.foldr_nil]
      go_step
      exact fam_e hK rfl rfl (Below.refl _ _) hC
    ·
      obtain ⟨h0, h1, -⟩ := hh
      have g0 : f 0 = _ := h0
      have g1 : f 1 = _ := h1
      refine tab_plain fun K Q hK => ?_
      simp only [puts, List.foldr_cons, List.foldr_nil, List.setIfInBounds_toArray, List.set_cons_succ, List.set_cons_zero, g0, g1]
      obtain ⟨-, hdW, -⟩ := HO.out W hC
      go_step
      go_at_call 63
      refine (refOuts_any (w := W) (a : Int) hdW HV.out.2.2.2.1).mono ?_
      rintro e w' ⟨⟨a', c', rfl, hI⟩, hb⟩
      exact fam_fin hK rfl ⟨a', c', rfl, hI⟩ hb (hC.trans (hb.mono hC.size))
    ·
      refine tab_plain fun K Q hK => ?_
      simp only [puts, List.foldr_nil]
      obtain ⟨⟨k1, k2, k3, k4⟩, -, -⟩ := HO.out W hC
      go_step
      exact fam_e hK rfl rfl (Below.refl _ _) hC
    ·
      refine tab_plain fun K Q hK => ?_
      simp only [puts, List.foldr_nil]
      go_step
      exact fam_e hK rfl rfl (Below.refl _ _) hC
    ·
      obtain ⟨h3, h4, h2, -⟩ := hh
      have g3 : f 3 = _ := h3
      have g4 : f 4 = _ := h4
      obtain ⟨a2, c2, g2, s2⟩ := h2
      refine tab_plain fun K Q hK => ?_
      simp only [puts, List.foldr_cons, List.foldr_nil, List.setIfInBounds_toArray, List.set_cons_succ, List.set_cons_zero, g3, g4, g2]
      obtain ⟨-, hdW, -⟩ := HO.out W hC
      go_step
      go_at_call 63
      refine (refOuts_any (w := W) (b : Int) hdW HV.out.2.2.2.1).mono ?_
      rintro e w' ⟨⟨a', c', rfl, hI⟩, hb⟩
      exact fam_fin hK rfl ⟨a', c', rfl, hI⟩ hb (hC.trans (hb.mono hC.size))
    ·
      obtain ⟨h2, h5, h0, h1, _, -⟩ := hh
      obtain ⟨a2, c2, g2, s2⟩ := h2
      obtain ⟨a5, c5, g5, s5⟩ := h5
      have g0 : f 0 = _ := h0
      have g1 : f 1 = _ := h1
      refine tab_plain fun K Q hK => ?_
      simp only [puts, List.foldr_cons, List.foldr_nil, List.setIfInBounds_toArray, List.set_cons_succ, List.set_cons_zero, g2, g5, g0, g1]
      go_step
      exact fam_fin hK rfl ⟨a2, c2, rfl, s2⟩ (Below.refl _ _) hC
    ·
      obtain ⟨h5, h6, h0, h1, h2, h3, h4, _, _, -⟩ := hh
      obtain ⟨a5, c5, g5, s5⟩ := h5
      obtain ⟨a6, c6, g6, s6⟩ := h6
      have g0 : f 0 = _ := h0
      have g1 : f 1 = _ := h1
      obtain ⟨a2, c2, g2, s2⟩ := h2
      have g3 : f 3 = _ := h3
      have g4 : f 4 = _ := h4
      refine tab_plain fun K Q hK => ?_
      simp only [puts, List.foldr_cons, List.foldr_nil, List.setIfInBounds_toArray, List.set_cons_succ, List.set_cons_zero, g5, g6, g0, g1, g2, g3, g4]
      go_step
      exact fam_fin hK rfl ⟨a5, c5, rfl, s5⟩ (Below.refl _ _) hC
  case rest =>
    intro f WA hC hh
    obtain ⟨h0, h1, h2, h3, h4, h5, h6, h7, -⟩ := hh
    have g0 : f 0 = _ := h0
    have g1 : f 1 = _ := h1
    obtain ⟨a2, c2, g2, s2⟩ := h2
    have g3 : f 3 = _ := h3
    have g4 : f 4 = _ := h4
    obtain ⟨a5, c5, g5, s5⟩ := h5
    obtain ⟨a6, c6, g6, s6⟩ := h6
    obtain ⟨a7, c7, g7, s7⟩ := h7
    simp only [puts, List.foldr_cons, List.foldr_nil, List.setIfInBounds_toArray, List.set_cons_succ, List.set_cons_zero, g0, g1, g2, g3, g4, g5, g6, g7]
    clear h0 h1 h3 h4 g0 g1 g3 g4
    skip
    obtain ⟨⟨c1, c2, c3, c4⟩, hdA, hbA⟩ := HO.out WA hC
    have hfl := hdA.1.length
    have hvf := HV.out.2.2.1
    obtain ⟨bf, of, hfa, hfc⟩ := hdA.1.fix (by omega)
    have ca := hfc WA (Below.refl _ _) a (by omega)
    have cb := hfc WA (Below.refl _ _) b (by omega)
    rw [hfa] at c3
    have da : a < h.fl := by omega
    have db : b < h.fl := by omega
    have HS6 := Lib.hid s6
    have HS7 := Lib.hid s7
    clear hdA hfc hvf hfl s6 s7 s2 s5 g2 g5 g6 g7
    go_upto_region 2 with (fail)
    by_cases hx : gb d.fin a = gb d.fin b
    · have t1 : (gb d.fin a != gb d.fin b) = false := by simpa using hx
      have HBA := Lib.hid hbA
      have HXX := Lib.hid hx
      clear hbA
      have HTA : Hid (∀ i, i < (outsD d.arcs (a : Int)).length → ∃ l T : Nat, g3 (outsD d.arcs (a : Int)) i = ⟨a, l, T⟩ ∧ (T : Int) < d.n) := Lib.hid (fun i hi => outs_arc HV.out hi)
      have HTB : Hid (∀ i, i < (outsD d.arcs (b : Int)).length → ∃ l T : Nat, g3 (outsD d.arcs (b : Int)) i = ⟨b, l, T⟩ ∧ (T : Int) < d.n) := Lib.hid (fun i hi => outs_arc HV.out hi)
      have HLL : Hid ((outsD d.arcs (a : Int)).length ≤ 20000) := Lib.hid (Nat.le_trans (outsD_len _ _) HV.out.2.2.2.1)
      unfold alikeB at HVV
      obtain ⟨EA, hEA⟩ : ∃ EA, outsD d.arcs (a : Int) = EA := ⟨_, rfl⟩
      obtain ⟨EB, hEB⟩ : ∃ EB, outsD d.arcs (b : Int) = EB := ⟨_, rfl⟩
      rw [hEA] at HS6 HVV HTA HLL ⊢
      rw [hEB] at HS7 HVV HTB ⊢
      clear hEA hEB
      by_cases hl : EA.length = EB.length
      · have HLE := Lib.hid hl
        have HT : Hid ((∀ i, i < EA.length → (g3 EA i).l = (g3 EB i).l ∧ gi C (g3 EA i).t.toNat = gi C (g3 EB i).t.toNat) → V = true) := Lib.hid (fun hh => by rw [← HVV.out]; exact decide_eq_true ⟨HXX.out, (maps_iff HLE.out).2 hh⟩)
        have HF : Hid (∀ i, i < EA.length → ¬ ((g3 EA i).l = (g3 EB i).l ∧ gi C (g3 EA i).t.toNat = gi C (g3 EB i).t.toNat) → V = false) := Lib.hid (fun i hi hn => by rw [← HVV.out]; exact decide_eq_false fun e => hn ((maps_iff HLE.out).1 e.2 i hi))
        rw [← hl] at HS7 HTB ⊢
        clear HVV HLE hl
        obtain ⟨la, hla⟩ : ∃ la, EA.length = la := ⟨_, rfl⟩
        rw [hla] at HS6 HS7 HTA HTB HT HF HLL ⊢
        clear hla
        have t2 : ((la : Int) != (la : Int)) = false := by simp
        go_quiet (fail)
        go_wp2_with (fail)
        have HB9 := Lib.hid (below_drew_n WA nq)
        obtain ⟨W9, hW9⟩ : ∃ W9, WA.drewN nq = W9 := ⟨_, rfl⟩
        rw [hW9] at HB9 ⊢
        clear hW9 c1 c2 c3 c4 ca cb da db t1 t2 hx hfa
        go_loopw [11] (fun c W => ∃ j : Nat, j ≤ la ∧ c = .int .i64 (j : Int) ∧ Hid (∀ i, i < j → (g3 EA i).l = (g3 EB i).l ∧ gi C (g3 EA i).t.toNat = gi C (g3 EB i).t.toNat) ∧ Below WA.heap.size WA W) (fun c _ => la - (intOf c).toNat)
        case atStart => exact ⟨0, Nat.zero_le _, rfl, Lib.hid (fun i hi => absurd hi (Nat.not_lt_zero _)), HB9.out⟩
        case round =>
          clear HB9
          obtain ⟨j, hj, rfl, HE, hbr⟩ := hrel
          rcases Nat.lt_or_ge j la with hlt | hge
          · have t1 : decide (j < la) = true := decide_eq_true hlt
            have hbw := HBA.out.trans (hbr.mono HBA.out.size)
            obtain ⟨l1, T1, e1, h1⟩ := HTA.out j hlt
            obtain ⟨l2, T2, e2, h2⟩ := HTB.out j hlt
            obtain ⟨b6, o6, rfl, x6⟩ := HS6.out.fix (by omega)
            obtain ⟨b7, o7, rfl, x7⟩ := HS7.out.fix (by omega)
            obtain ⟨-, y1, y2⟩ := x6 wr hbr j hlt
            obtain ⟨-, z1, z2⟩ := x7 wr hbr j hlt
            rw [e1] at y1 y2
            rw [e2] at z1 z2
            simp only at y1 y2 z1 z2
            obtain ⟨bc, oc, rfl, -, k1⟩ := HC.out.at wr hbw T1 (by omega)
            obtain ⟨b', o', e, -, k2⟩ := HC.out.at wr hbw T2 (by omega)
            injection e with e
            injection e with ea eb
            subst ea eb
            have d1 : T1 < lc := by omega
            have d2 : T2 < lc := by omega
            obtain ⟨u1, hu1⟩ : ∃ u, gi C T1 = u := ⟨_, rfl⟩
            obtain ⟨u2, hu2⟩ : ∃ u, gi C T2 = u := ⟨_, rfl⟩
            rw [hu1] at k1
            rw [hu2] at k2
            have HG : Hid (((g3 EA j).l = (g3 EB j).l ∧ gi C (g3 EA j).t.toNat = gi C (g3 EB j).t.toNat) ↔ (l1 = l2 ∧ u1 = u2)) := Lib.hid (by
              rw [e1, e2]
              simp only [Int.toNat_natCast, hu1, hu2]
              constructor
              · rintro ⟨p, q⟩; exact ⟨by omega, q⟩
              · rintro ⟨p, q⟩; exact ⟨by omega, q⟩)
            have HBR := Lib.hid hbr
            have HLT := Lib.hid hlt
            have HLC := Lib.hid hcl
            clear e1 e2 h1 h2 x6 x7 hu1 hu2 hbr hbw hcl
            go_upto_region 7 with (fail)
            by_cases hl : l1 = l2
            · have t3 : ((l1 : Int) != (l2 : Int)) = false := by simp [hl]
              by_cases hu : u1 = u2
              · have t4 : (u1 != u2) = false := by simp [hu]
                have HE2 : Hid (∀ i, i < j + 1 → (g3 EA i).l = (g3 EB i).l ∧ gi C (g3 EA i).t.toNat = gi C (g3 EB i).t.toNat) := Lib.hid (fun i hi => by
                  rcases Nat.lt_or_ge i j with h | h
                  · exact HE.out i h
                  · rw [show i = j by omega]; exact HG.out.2 ⟨hl, hu⟩)
                have hll := HLL.out
                clear hl hu
                go_quiet (fail)
                go_wp2_with (fail)
                go_roundw
                case rel => exact ⟨j + 1, HLT.out, by go_num, HE2, HBR.out.trans ((below_drew_n wr nq).mono HBR.out.size)⟩
                case measure => have := HLT.out; simp [intOf]; omega
              · have t4 : (u1 != u2) = true := by simp [hu]
                have HFF : Hid (V = false) := Lib.hid (HF.out j HLT.out fun h => hu (HG.out.1 h).2)
                clear hl hu
                go_quiet (fail)
                go_wp2_with (fail)
                go_ret
                exact ⟨by rw [HFF.out]; rfl, HBA.out.trans ((HBR.out.trans ((below_drew_n wr nq).mono HBR.out.size)).mono HBA.out.size)⟩
            · have t3 : ((l1 : Int) != (l2 : Int)) = true := by simp; omega
              have HFF : Hid (V = false) := Lib.hid (HF.out j HLT.out fun h => hl (HG.out.1 h).1)
              clear hl
              go_quiet (fail)
              go_wp2_with (fail)
              go_ret
              exact ⟨by rw [HFF.out]; rfl, HBA.out.trans ((HBR.out.trans ((below_drew_n wr nq).mono HBR.out.size)).mono HBA.out.size)⟩
          · obtain rfl : j = la := by omega
            have t1 : decide (j < j) = false := decide_eq_false (by omega)
            have HFF : Hid (V = true) := Lib.hid (HT.out HE.out)
            have HBR := Lib.hid hbr
            clear hbr hge hj
            go_wp2_with (fail)
            go_ret
            exact ⟨by rw [HFF.out]; rfl, HBA.out.trans (HBR.out.mono HBA.out.size)⟩
      · have t2 : ((EA.length : Int) != (EB.length : Int)) = true := by simp; omega
        have HF : Hid (V = false) := Lib.hid (by
          rw [← HVV.out]
          refine decide_eq_false fun e => hl ?_
          have := congrArg List.length e.2
          simpa using this)
        go_quiet (fail)
        go_wp2_with (fail)
        go_ret
        exact ⟨by rw [HF.out]; rfl, HBA.out.trans ((below_drew_n WA nq).mono HBA.out.size)⟩
    · have t1 : (gb d.fin a != gb d.fin b) = true := by simpa using hx
      have HF : Hid (V = false) := Lib.hid (by rw [← HVV.out]; unfold alikeB; exact decide_eq_false fun e => hx e.1)
      have HBA := Lib.hid hbA
      clear hbA
      go_quiet (fail)
      go_wp2_with (fail)
      go_ret
      exact ⟨by rw [HF.out]; rfl, HBA.out.trans ((below_drew_n WA nq).mono HBA.out.size)⟩
end Go.Proofs.Ytpcbmhfnefhenaa
