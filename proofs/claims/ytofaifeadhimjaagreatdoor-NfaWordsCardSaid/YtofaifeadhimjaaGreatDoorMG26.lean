import Derived.Test.YtofaifeadhimjaaGreatDoorMG10
import Derived.Test.YtofaifeadhimjaaGreatDoorMG12
import Derived.Test.YtofaifeadhimjaaGreatDoorMG25
/-
  NfaEc, NfaV
-/
set_option linter.unusedSimpArgs false
set_option linter.unusedVariables false
namespace Go.Proofs.YtofaifeadhimjaaGreatDoor
open Go.RowKit
attribute [local go_sem] Oper.semAt_some

theorem make_row {P : Program} {T E : TypeId} {bytes : Nat} {z : Value} (el : Elem P T E z 1 bytes) (hz : z.cells = #[z]) {w : World} {ops : Array Oper} {rest : List Oper} {o : Oper} {a : Act} {Q : Exit → Act → World → Prop} (hgd : Region.wanted o (yielded ops a.tmps) = true) (l c : Operand)
  (ho : o.op = .makeSlice T l c) {B : Nat} {kl kc : IntKind} {n : Nat} {C C' : Int} (hl : a.eval l = .int kl C') (hc : a.eval c = .int kc C) (hC : C = n) (hC' : C' = n) (hb : n * (bytes + 1) ≤ 140737488355328) (hB : B ≤ w.heap.size)
  (h : ∀ w', w'.ownsRow B E 1 (.slice (some ⟨w.heap.size, 0, none⟩) n n) n (List.replicate n z) → Below B w w' → wpList P ops Q rest (a.put o.dst (.slice (some ⟨w.heap.size, 0, none⟩) n n)) w') : wpList P ops Q (o :: rest) a w := by
 refine wpList_wanted hgd fun K hK => wp_make_full el l c ho hl hc hC hC' hb hB fun w' h1 _ h3 => hK _ _ (h w' ?_ h3)
 rw [hz, Nat.mul_one, toList_madeCells_one] at h1
 exact h1
theorem cloPs_start {W : World} {B gr N : Nat} {os : List Bool} (ho : W.ownsRow B 4 1 (.slice (some ⟨gr, 0, none⟩) N N) N (bvs os)) (hB : B ≤ W.heap.size) :
  Pcs ((W.alloc (.cells #[.slice (some ⟨gr, 0, none⟩) N N] 23)).alloc (.cells #[.slice none 0 0] 22)) B (cloPs W.heap.size (W.heap.size + 1) gr N os [] (.slice none 0 0)) := by
 have h1 := (Pcs.one (p := .row 4 1 (.slice (some ⟨gr, 0, none⟩) N N) N (bvs os)) ho).new hB #[.slice (some ⟨gr, 0, none⟩) N N] 23
 have h2 := h1.new (by simp; omega) #[.slice none 0 0] 22
 have h3 := h2.empty 3 1
 rw [World.size_alloc] at h3
 exact h3
def GivesS (p : Nat → Bool) (w : World) (e : Ending) (w' : World) : Prop :=
 ∃ g t zs, e = .returned (.slice (some ⟨g, 0, none⟩) t t) ∧ PartOf .u64 99 w' w.heap.size g t zs ∧ Bt.SetIs zs p ∧ t ≤ 64 ∧ Below w.heap.size w w'
def inL (l : List Int) (n : Nat) : Bool := decide ((n : Int) ∈ l)
theorem make_S {a : Option Addr} {len cap : Nat} {l : List Int} {w : World} (hs : IsInts .i64 w a len cap l) (hw : ∀ n ∈ l, (Lit.int .i64 n).wf = true) :
  Calls Tryz.prog 45 #[.slice a len cap] w (GivesS (inL l) w) := by
 refine (Bt.make_any _ _ _ _ _ hs hw).mono ?_
 rintro e w' ⟨g, t, he, hp, hb⟩
 have hz := Bt.make_spec l
 exact ⟨g, t, _, he, hp, hz, by rw [← hp.length]; exact hz.2.1.1, hb⟩
theorem GivesS.congr {p q : Nat → Bool} {w w' : World} {e : Ending} (h : GivesS p w e w') (hpq : ∀ n, n < 4096 → p n = q n) : GivesS q w e w' := by
 obtain ⟨g, t, zs, h1, h2, h3, h4⟩ := h
 exact ⟨g, t, zs, h1, h2, ⟨h3.1, h3.2.1, fun n hn => (h3.2.2 n hn).trans (hpq n hn)⟩, h4⟩
theorem GivesS.from {p : Nat → Bool} {w w1 w' : World} {e : Ending} (h : GivesS p w1 e w') (hb : Below w.heap.size w w1) : GivesS p w e w' := by
 obtain ⟨g, t, zs, h1, h2, h3, h4, h5⟩ := h
 exact ⟨g, t, zs, h1, h2.from_mono hb.size, h3, h4, hb.trans (h5.mono hb.size)⟩
def ArIn (h : NH) (a : Nfa) (es : List A3) : Value → World → Prop := fun v _ => ∃ b c, v = .slice b es.length c ∧ ∀ W, IsNfa W h a → IsArcs W b es.length c es
theorem stays_arin (h : NH) (a : Nfa) (es : List A3) : Stays (ArIn h a es) := fun _ _ _ _ h => h
theorem gi_mem_n {l : List Int} {i : Nat} (hi : i < l.length) : gi l i ∈ l := gi_mem' hi
theorem gi_pre' {l l' : List Int} (h : l <+: l') {i : Nat} (hi : i < l.length) : gi l' i = gi l i := by
 obtain ⟨t, rfl⟩ := h
 unfold gi
 rw [List.getD_eq_getElem?_getD, List.getD_eq_getElem?_getD, List.getElem?_append_left hi]
set_option maxRecDepth 20000 in
set_option maxHeartbeats 8000000 in
theorem closed_any {a : Nfa} {h : NH} {w : World} {aq : Option Addr} {lq cq : Nat} {l : List Int} (hv : ValidN a) (hd : IsNfa w h a) (hq : IsInts .i64 w aq lq cq l) (hl : Bd a.n l) :
  Calls Tryz.prog 19 #[vNf a h, .slice aq lq cq] w (GivesS (inL (cloL a.arcs l)) w) := by
 have HV := Lib.hid hv
 have HBD := Lib.hid hl
 have hn := hv.1
 obtain ⟨W1, hW1, hs1, hb1, hO⟩ := boxNW a h w hd
 have hq1 := hq.later hb1
 have HQ1 := Lib.hid hq1
 have hlq := hq.length
 have HLQ := Lib.hid hlq
 have hcq := hq.cap
 unfold maxLen at hcq
 obtain ⟨N, hN⟩ := Int.eq_ofNat_of_zero_le hn.1
 have HN := Lib.hid hN
 have hN2 : N ≤ 200 := by omega
 have HO := Lib.hid hO
 have HS1 := Lib.hid hs1
 have HB1 := Lib.hid hb1
 obtain ⟨⟨c1, c2, c3, c4⟩, -, -⟩ := hO W1 (by rw [← hs1]; exact Below.refl _ _)
 rw [hN] at c1 hW1
 have hmf : ∀ (fn : Fn) (first cap : Array Value) (w : World), (Instr.makeFunc fn first cap).run Tryz.prog w = .ok (.func fn first cap) w := fun _ _ _ _ => rfl
 unfold vNf
 rw [hN]
 clear hv hd hq hl hO hlq hn hq1
 go_enter Tryz.func19, Tryz.ntmps19
 clear hb1 hs1
 go_wp2_with (refine make_row elB rfl rfl _ _ rfl rfl rfl rfl rfl (by omega) (Nat.le_refl _) ?_; intro w2 ho2 hb2)
 rw [show List.replicate N (Value.bool false) = bvs (List.replicate N false) by simp [bvs]] at ho2
 have hP := cloPs_start ho2 hb2.size
 have hbX : Below W1.heap.size W1 ((w2.alloc (.cells #[.slice (some ⟨W1.heap.size, 0, none⟩) N N] 23)).alloc (.cells #[.slice none 0 0] 22)) := (hb2.alloc hb2.size _).alloc (by have := hb2.size; simp; omega) _
 obtain ⟨X, hX⟩ : ∃ X, (w2.alloc (.cells #[.slice (some ⟨W1.heap.size, 0, none⟩) N N] 23)).alloc (.cells #[.slice none 0 0] 22) = X := ⟨_, rfl⟩
 have HPO : Hid (W1.heap.size ≤ w2.heap.size) := Lib.hid hb2.size
 rw [hX] at hP hbX ⊢
 obtain ⟨po, hpo⟩ : ∃ po, w2.heap.size = po := ⟨_, rfl⟩
 rw [hpo] at hP HPO ⊢
 have HP := Lib.hid hP
 have HBX := Lib.hid hbX
 have HE0 : Hid (VisI a.arcs l a.n (List.replicate N false) []) := Lib.hid (by
  have := VisI.start (ar := a.arcs) (l := l) HV.out.1.1
  rwa [show a.n.toNat = N by have := HN.out; omega] at this)
 clear hP hbX hX hpo ho2 hb2 c1 c2 c3 c4 hW1
 go_loopw [19] (fun c W => ∃ (i : Nat) (os : List Bool) (td : List Int) (at' : Option Addr) (ct : Nat), i ≤ lq ∧ c = .int .i64 (i : Int) ∧ Pcs W W1.heap.size (cloPs po (po + 1) W1.heap.size N os td (.slice at' td.length ct)) ∧ Hid (VisI a.arcs l a.n os td) ∧ Hid (∀ j, j < i → gi l j ∈ td) ∧ Below W1.heap.size W1 W) (fun c _ => lq - (intOf c).toNat)
 case atStart => exact ⟨0, _, [], none, 0, Nat.zero_le _, rfl, HP.out, HE0, Lib.hid (fun j hj => by omega), HBX.out⟩
 case round =>
  clear HP HBX HE0
  obtain ⟨i, os, td, at', ct, hi, rfl, hP, HE, HF, hb⟩ := hrel
  have hosl : os.length = N := by have := HE.out.len; have := HN.out; omega
  have htl : td.length ≤ 1000 := by have := HE.out.tlen; have := HN.out; omega
  have hsz : W1.heap.size ≤ wr.heap.size := hb.size
  rcases Nat.lt_or_ge i lq with hlt | hge
  ·have t1 : decide (i < lq) = true := decide_eq_true hlt
   obtain ⟨bq, oq, rfl, hbl, hc⟩ := HQ1.out.at wr hb i hlt
   obtain ⟨z, hz⟩ : ∃ z, gi l i = z := ⟨_, rfl⟩
   have hzm : z ∈ l := by rw [← hz]; exact gi_mem_n (by rw [HLQ.out]; exact hlt)
   have hzb := HBD.out z hzm
   obtain ⟨z, rfl⟩ := Int.eq_ofNat_of_zero_le hzb.1
   have hzN : z < N := by have := HN.out; omega
   rw [hz] at hc
   have hvis := visit_any (n := z) hP hosl hzN htl hsz
   have HE2 := Lib.hid (HE.out.visit (m := z) (by have := HN.out; omega) (.of_mem hzm))
   have HF2 : Hid (∀ j, j < i + 1 → gi l j ∈ tdN os td z) := Lib.hid (fun j hj => by
    rcases Nat.lt_or_ge j i with h1 | h1
    ·exact (tdN_pre os td z).subset (HF.out j h1)
    ·rw [show j = i by omega, hz]; exact tdN_mem HE.out (by have := HN.out; omega))
   clear hz hzm hzb hP
   go_wp2_with (go_at_call 43; refine hvis.mono ?_; rintro e w5 ⟨rfl, ⟨a5, c5, hP5⟩, hb5⟩)
   go_roundw
   case rel => exact ⟨i + 1, _, _, a5, c5, hlt, by go_num, hP5, HE2, HF2, hb.trans hb5⟩
   case measure => simp [intOf]; omega
  ·obtain rfl : i = lq := by omega
   have t1 : decide (i < i) = false := decide_eq_false (by omega)
   have HF2 : Hid (∀ z ∈ l, z ∈ td) := Lib.hid (fun z hz => by
    obtain ⟨j, hj, e⟩ := List.getElem_of_mem hz
    have := HF.out j (by rw [HLQ.out] at hj; exact hj)
    rwa [show gi l j = z by rw [← e]; simp [gi, List.getD, hj]] at this)
   have HP := Lib.hid hP
   have HB := Lib.hid hb
   clear hP hb
   go_wp2_with (fail)
   go_loopw [10] (fun c W => ∃ (hd : Nat) (os : List Bool) (td : List Int) (at' : Option Addr) (ct : Nat), hd ≤ td.length ∧ c = .int .i64 (hd : Int) ∧ Pcs W W1.heap.size (cloPs po (po + 1) W1.heap.size N os td (.slice at' td.length ct)) ∧ Hid (VisI a.arcs l a.n os td) ∧ Hid (∀ z ∈ l, z ∈ td) ∧ Hid (∀ j, j < hd → ∀ x ∈ a.arcs, x.l = 0 → x.f = gi td j → x.t ∈ td) ∧ Below W1.heap.size W1 W) (fun c _ => N - (intOf c).toNat)
   case atStart => exact ⟨0, os, td, at', ct, Nat.zero_le _, rfl, HP.out, HE, HF2, Lib.hid (fun j hj => by omega), HB.out⟩
   case round =>
    clear HP HB HE HF2 HF hi hge t1
    obtain ⟨hd, os, td, at', ct, hh, rfl, hP, HE, HF, HD, hb⟩ := hrel
    have hosl : os.length = N := by have := HE.out.len; have := HN.out; omega
    have htl : td.length ≤ N := by have := HE.out.tlen; have := HN.out; omega
    have cpt : wr.cell? ⟨po + 1, 0, none⟩ = some (.slice at' td.length ct) := ((hP.blk 2 rfl).2.cell 0).1
    rcases Nat.lt_or_ge hd td.length with hlt | hge
    ·have t3 : decide (hd < td.length) = true := decide_eq_true hlt
     obtain ⟨gt, rfl, -, -⟩ := owns_at (hP.row 3 rfl) (by omega)
     have ctd := (own_cell (hP.row 3 rfl) hd hlt rfl).1
     obtain ⟨Q, hQ⟩ : ∃ Q, gi td hd = Q := ⟨_, rfl⟩
     have hQm : Q ∈ td := by rw [← hQ]; exact gi_mem_n hlt
     have hQr := HE.out.rng Q hQm
     obtain ⟨Q, rfl⟩ := Int.eq_ofNat_of_zero_le hQr.1
     rw [hQ] at ctd
     have HQ := Lib.hid hQ
     have HQM := Lib.hid hQm
     have HP := Lib.hid hP
     have HB := Lib.hid hb
     obtain ⟨⟨c1, c2, c3, c4⟩, hdr, -⟩ := HO.out wr (by rw [← HS1.out]; exact hb)
     have hda := fun W (hB : Below wr.heap.size wr W) => arcs_in a h (Q : Int) 0 W (hdr.later hB) HV.out.sorted (fun x hx => (HV.out.arc hx).1.2.1) (by have := HV.out.2.2.1; omega) (by omega)
     simp only [vNf] at hda
     rw [hN] at c1 hda
     obtain ⟨OA, hOA⟩ : ∃ OA, arcsN a.arcs (Q : Int) 0 = OA := ⟨_, rfl⟩
     rw [hOA] at hda
     have HOA : Hid (∀ x, x ∈ OA ↔ x ∈ a.arcs ∧ x.f = (Q : Int) ∧ x.l = 0) := Lib.hid (fun x => by rw [← hOA]; unfold arcsN; rw [List.mem_filter]; simp)
     have hol : OA.length ≤ 2000 := by rw [← hOA]; exact Nat.le_trans (List.length_filter_le _ _) HV.out.2.2.1
     have HDA := Lib.hid hda
     clear hda hQ hP hb hQr hQm hOA hdr
     go_upto_region 12 with (fail)
     refine wp_region_grow mixed (by kernel_rfl) [[], [], [], [(1, 34), (2, 35)], [(3, 36)], [(0, 33), (4, 37)], [(5, 38)], []] [(0, 33), (1, 34), (2, 35), (3, 36), (4, 37), (5, 38), (6, 39), (7, 40)] rfl rfl [Ex ?e0, Ex ?e1, Ex ?e2, Ex ?e3, Ex ?e4, ArIn h a OA, Ex ?e6, Ex ?e7] ⟨stays_ex _, stays_ex _, stays_ex _, stays_ex _, stays_ex _, stays_arin _ _ _, stays_ex _, stays_ex _, trivial⟩ ?steps ?rest
     case steps =>
      refine ⟨fun f W hC hh => ?_, fun f W hC hh => ?_, fun f W hC hh => ?_, fun f W hC hh => ?_, fun f W hC hh => ?_, fun f W hC hh => ?_, fun f W hC hh => ?_, fun f W hC hh => ?_, trivial⟩
      ·
       refine tab_plain fun K Q hK => ?_
       simp only [puts, List.foldr_nil]
       have m1 := (hC.cell (p := ⟨w.heap.size, 0, none⟩) (lt_of_cell c1)).trans c1
       have m2 := (hC.cell (p := ⟨w.heap.size, 1, none⟩) (lt_of_cell c2)).trans c2
       have m3 := (hC.cell (p := ⟨w.heap.size, 2, none⟩) (lt_of_cell c3)).trans c3
       have m4 := (hC.cell (p := ⟨w.heap.size, 3, none⟩) (lt_of_cell c4)).trans c4
       have m5 := (hC.cell (p := ⟨po + 1, 0, none⟩) (lt_of_cell cpt)).trans cpt
       have m6 := (hC.cell (p := ⟨gt, hd, none⟩) (lt_of_cell ctd)).trans ctd
       go_step
       exact fam_e hK rfl rfl (Below.refl _ _) hC
      ·
       refine tab_plain fun K Q hK => ?_
       simp only [puts, List.foldr_nil]
       have m1 := (hC.cell (p := ⟨w.heap.size, 0, none⟩) (lt_of_cell c1)).trans c1
       have m2 := (hC.cell (p := ⟨w.heap.size, 1, none⟩) (lt_of_cell c2)).trans c2
       have m3 := (hC.cell (p := ⟨w.heap.size, 2, none⟩) (lt_of_cell c3)).trans c3
       have m4 := (hC.cell (p := ⟨w.heap.size, 3, none⟩) (lt_of_cell c4)).trans c4
       have m5 := (hC.cell (p := ⟨po + 1, 0, none⟩) (lt_of_cell cpt)).trans cpt
       have m6 := (hC.cell (p := ⟨gt, hd, none⟩) (lt_of_cell ctd)).trans ctd
       go_step
       exact fam_e hK rfl rfl (Below.refl _ _) hC
      ·
       refine tab_plain fun K Q hK => ?_
       simp only [puts, List.foldr_nil]
       go_step
       exact fam_e hK rfl rfl (Below.refl _ _) hC
      ·
       obtain ⟨h1, h2, -⟩ := hh
       have g1 : f 1 = _ := h1
       have g2 : f 2 = _ := h2
       refine tab_plain fun K Q hK => ?_
       simp only [puts, List.foldr_cons, List.foldr_nil, List.setIfInBounds_toArray, List.set_cons_succ, List.set_cons_zero, g1, g2]
       go_step
       exact fam_e hK rfl rfl (Below.refl _ _) hC
      ·
       obtain ⟨h3, -⟩ := hh
       have g3 : f 3 = _ := h3
       refine tab_plain fun K Q hK => ?_
       simp only [puts, List.foldr_cons, List.foldr_nil, List.setIfInBounds_toArray, List.set_cons_succ, List.set_cons_zero, g3]
       have m1 := (hC.cell (p := ⟨w.heap.size, 0, none⟩) (lt_of_cell c1)).trans c1
       have m2 := (hC.cell (p := ⟨w.heap.size, 1, none⟩) (lt_of_cell c2)).trans c2
       have m3 := (hC.cell (p := ⟨w.heap.size, 2, none⟩) (lt_of_cell c3)).trans c3
       have m4 := (hC.cell (p := ⟨w.heap.size, 3, none⟩) (lt_of_cell c4)).trans c4
       have m5 := (hC.cell (p := ⟨po + 1, 0, none⟩) (lt_of_cell cpt)).trans cpt
       have m6 := (hC.cell (p := ⟨gt, hd, none⟩) (lt_of_cell ctd)).trans ctd
       go_step
       exact fam_e hK rfl rfl (Below.refl _ _) hC
      ·
       obtain ⟨h0, h4, -⟩ := hh
       have g0 : f 0 = _ := h0
       have g4 : f 4 = _ := h4
       refine tab_plain fun K Q hK => ?_
       simp only [puts, List.foldr_cons, List.foldr_nil, List.setIfInBounds_toArray, List.set_cons_succ, List.set_cons_zero, g0, g4]
       go_step
       go_at_call 44
       refine (HDA.out W hC).mono ?_
       rintro e w' ⟨⟨a', c', rfl, ia⟩, hb⟩
       exact fam_fin hK rfl ⟨a', c', rfl, ia⟩ hb (hC.trans (hb.mono hC.size))
      ·
       obtain ⟨h5, -⟩ := hh
       obtain ⟨a5, c5, g5, s5⟩ := h5
       refine tab_plain fun K Q hK => ?_
       simp only [puts, List.foldr_cons, List.foldr_nil, List.setIfInBounds_toArray, List.set_cons_succ, List.set_cons_zero, g5]
       go_step
       exact fam_e hK rfl rfl (Below.refl _ _) hC
      ·
       refine tab_plain fun K Q hK => ?_
       simp only [puts, List.foldr_nil]
       go_step
       exact fam_e hK rfl rfl (Below.refl _ _) hC
     case rest =>
      intro f WN hC hh
      obtain ⟨h0, h1, h2, h3, h4, h5, h6, h7, -⟩ := hh
      have g0 : f 0 = _ := h0
      have g1 : f 1 = _ := h1
      have g2 : f 2 = _ := h2
      have g3 : f 3 = _ := h3
      have g4 : f 4 = _ := h4
      obtain ⟨a5, c5, g5, s5⟩ := h5
      have g6 : f 6 = _ := h6
      have g7 : f 7 = _ := h7
      simp only [puts, List.foldr_cons, List.foldr_nil, List.setIfInBounds_toArray, List.set_cons_succ, List.set_cons_zero, g0, g1, g2, g3, g4, g5, g6, g7]
      clear h0 h1 h2 h3 h4 h6 h7 g0 g1 g2 g3 g4 g6 g7
      have hPN := HP.out.quiet (below_grows hC none)
      have hBN : Below W1.heap.size W1 WN := HB.out.trans (hC.mono HB.out.size)
      have HPN := Lib.hid hPN
      have HBN := Lib.hid hBN
      have HS5 := Lib.hid s5
      clear hPN hBN hC c1 c2 c3 c4 cpt ctd s5 g5
      go_wp2_with (fail)
      go_loopw [40] (fun c W => ∃ (r : Nat) (os2 : List Bool) (td2 : List Int) (at' : Option Addr) (ct : Nat), r ≤ OA.length ∧ c = .int .i64 (r : Int) ∧ Pcs W W1.heap.size (cloPs po (po + 1) W1.heap.size N os2 td2 (.slice at' td2.length ct)) ∧ Hid (VisI a.arcs l a.n os2 td2) ∧ Hid (td <+: td2) ∧ Hid (∀ i, i < r → (g3 OA i).t ∈ td2) ∧ Below W1.heap.size W1 W) (fun c _ => OA.length - (intOf c).toNat)
      case atStart => exact ⟨0, os, td, _, ct, Nat.zero_le _, rfl, HPN.out, HE, Lib.hid (List.prefix_refl _), Lib.hid (fun i hi => by omega), HBN.out⟩
      case round =>
       clear HPN HBN
       obtain ⟨r, os2, td2, at2, ct2, hr, rfl, hP, HE2, HPR, HDN, hb⟩ := hrel
       rcases Nat.lt_or_ge r OA.length with hlt2 | hge2
       ·have t4 : decide (r < OA.length) = true := decide_eq_true hlt2
        obtain ⟨-, hdr, -⟩ := HO.out wr (by rw [← HS1.out]; exact hb)
        obtain ⟨bA, oA, rfl, hcA⟩ := (HS5.out wr hdr).fix (by omega)
        obtain ⟨y1, y2, y3⟩ := hcA wr (Below.refl _ _) r hlt2
        obtain ⟨⟨x, xl, y⟩, hx⟩ : ∃ x, g3 OA r = x := ⟨_, rfl⟩
        rw [hx] at y1 y2 y3
        simp only at y1 y2 y3
        have hxm := (HOA.out ⟨x, xl, y⟩).1 (by rw [← hx]; exact g3_mem _ _ hlt2)
        have hxa := (HV.out.arc hxm.1).1.2
        simp only at hxa
        obtain ⟨y, rfl⟩ := Int.eq_ofNat_of_zero_le hxa.1
        have hyN : y < N := by have := HN.out; omega
        have hosl2 : os2.length = N := by have := HE2.out.len; have := HN.out; omega
        have htl2 : td2.length ≤ 1000 := by have := HE2.out.tlen; have := HN.out; omega
        have HP2 := Lib.hid hP
        have HB2 := Lib.hid hb
        have HE3 := Lib.hid (HE2.out.visit (m := y) (by have := HN.out; omega) (by
         have h1 : Clo a.arcs l (Q : Int) := HE.out.use _ HQM.out
         have h2 := Clo.arc (x := ⟨x, xl, (y : Int)⟩) (ar := a.arcs) (l := l) (by simp only; rw [show x = (Q : Int) from hxm.2.1]; exact h1) hxm.1 hxm.2.2
         exact h2))
        have HPR3 := Lib.hid (HPR.out.trans (tdN_pre os2 td2 y))
        have HDN3 : Hid (∀ i, i < r + 1 → (g3 OA i).t ∈ tdN os2 td2 y) := Lib.hid (fun i hi => by
         rcases Nat.lt_or_ge i r with h1 | h1
         ·exact (tdN_pre os2 td2 y).subset (HDN.out i h1)
         ·rw [show i = r by omega, hx]; exact tdN_mem HE2.out (by have := HN.out; omega))
        have hszr : W1.heap.size ≤ wr.heap.size := hb.size
        have hvis := fun W (hP : Pcs W W1.heap.size (cloPs po (po + 1) W1.heap.size N os2 td2 (.slice at2 td2.length ct2))) (hB : W1.heap.size ≤ W.heap.size) => visit_any (n := y) hP hosl2 hyN htl2 hB
        have HVIS := Lib.hid hvis
        clear hcA hx hxm hxa hP hb hdr hvis
        go_wp2_with (go_at_call 43; refine (HVIS.out _ (HP2.out.quiet (below_grows ((Below.refl _ _).alloc (Nat.le_refl _) _) none)) (by simp; omega)).mono ?_; rintro e w5 ⟨rfl, ⟨a5, c5, hP5⟩, hb5⟩)
        go_roundw
        case rel => exact ⟨r + 1, _, _, a5, c5, hlt2, by go_num, hP5, HE3, HPR3, HDN3, (HB2.out.alloc hszr _).trans hb5⟩
        case measure => simp [intOf]; omega
       ·have t4 : decide (r < OA.length) = false := decide_eq_false (by omega)
        have HF3 : Hid (∀ z ∈ l, z ∈ td2) := Lib.hid (fun z hz => HPR.out.subset (HF.out z hz))
        have HL2 : Hid (hd + 1 ≤ td2.length) := Lib.hid (by have := HPR.out.length_le; omega)
        have HD3 : Hid (∀ j, j < hd + 1 → ∀ x ∈ a.arcs, x.l = 0 → x.f = gi td2 j → x.t ∈ td2) := Lib.hid (fun j hj x hx h0 hf => by
         rw [gi_pre' HPR.out (by omega)] at hf
         rcases Nat.lt_or_ge j hd with h1 | h1
         ·exact HPR.out.subset (HD.out j h1 x hx h0 hf)
         ·have hm : x ∈ OA := (HOA.out x).2 ⟨hx, by rw [hf, show j = hd by omega]; exact HQ.out, h0⟩
          obtain ⟨i, hi, e⟩ := List.getElem_of_mem hm
          have := HDN.out i (by omega)
          rwa [g3_eq _ _ hi, e] at this)
        go_wp2_with (fail)
        go_roundw
        case rel => exact ⟨hd + 1, os2, td2, at2, ct2, HL2.out, by go_num, hP, HE2, HF3, HD3, hb⟩
        case measure => simp [intOf]; omega
    ·have t3 : decide (hd < td.length) = false := decide_eq_false (by omega)
     have HK : Hid (∀ z, z ∈ td ↔ z ∈ cloL a.arcs l) := Lib.hid (HE.out.done HV.out.arcsIn HBD.out HF.out (fun z hz x hx h0 hf => by
      obtain ⟨j, hj, e⟩ := List.getElem_of_mem hz
      exact HD.out j (by omega) x hx h0 (by rw [hf, ← e]; simp [gi, List.getD, hj])))
     have hIT := (IsInts.of_owns (hP.row 3 rfl)).1
     have hwf : ∀ n ∈ td, (Lit.int .i64 n).wf = true := fun n hn => by
      have := HE.out.rng n hn
      have := HN.out
      exact WalkArith.wf_i64 ⟨by omega, by omega⟩
     have hmk := make_S hIT hwf
     have HBB : Hid (Below w.heap.size w wr) := Lib.hid (HB1.out.trans (hb.mono (by have := HS1.out; omega)))
     have HMK := Lib.hid hmk
     clear hP hb hIT hwf hmk
     go_wp2_with (go_at_call 45; refine HMK.out.mono ?_; rintro e w9 ⟨g, t, zs, rfl, hpz, hzs, ht, hb9⟩)
     go_ret
     exact ⟨g, t, zs, rfl, hpz.from_mono HBB.out.size, ⟨hzs.1, hzs.2.1, fun n hn => by
      rw [hzs.2.2 n hn]
      unfold inL
      rw [decide_eq_decide.2 (HK.out n)]⟩, ht, HBB.out.trans (hb9.mono HBB.out.size)⟩
end Go.Proofs.YtofaifeadhimjaaGreatDoor

set_option linter.unusedSimpArgs false
set_option linter.unusedVariables false
namespace Go.Proofs.YtofaifeadhimjaaGreatDoor
open List (foldr_cons foldr_nil setIfInBounds_toArray set_cons_succ set_cons_zero)
open Go.RowKit
attribute [local go_sem] Oper.semAt_some

set_option maxRecDepth 20000 in
set_option maxHeartbeats 20000000 in
theorem valid_any (d : Nfa) (h : NH) (w : World) (hd : IsNfa w h d) :
  Calls Tryz.prog 18 #[vNf d h] w fun e w' => e = .returned (.bool (vN d)) ∧ Below w.heap.size w w' := by
 obtain ⟨V, hV⟩ : ∃ V, vN d = V := ⟨_, rfl⟩
 have HV := Lib.hid hV
 rw [hV]
 clear hV
 have HD : ∀ x, x = vN d → x = V := fun x e => e.trans HV.out
 obtain ⟨n, s, fin, es⟩ := d
 obtain ⟨sa, sl, sc, fa, fl, fc, aa, al, ac⟩ := h
 obtain ⟨hst0, hf, he⟩ := hd
 simp only at hst0 hf he HV HD
 have hslen := hst0.length
 have hscap := hst0.cap
 unfold maxLen at hscap
 have HSL := Lib.hid hslen
 clear hslen
 have hlen := he.length
 have hflen := hf.length
 have hacap := he.capLe
 have hfcap := hf.capLe
 unfold maxLen at hacap hfcap
 obtain ⟨hb1, hs1, hO⟩ := boxN n sa sl sc fa fl fc aa al ac w
 obtain ⟨W1, hW1⟩ : ∃ W1, w.alloc (.cells #[.int .i64 n, .slice sa sl sc, .slice fa fl fc, .slice aa al ac] 31) = W1 := ⟨_, rfl⟩
 rw [hW1] at hb1 hs1 hO
 obtain ⟨d1, d2, d3, d4⟩ := hO W1 (Below.refl _ _)
 have hst := fun (m : Int) W => state_any ⟨n, s, fin, es⟩ ⟨sa, sl, sc, fa, fl, fc, aa, al, ac⟩ m W
 simp only [vNf] at hst
 have HFL := Lib.hid hflen
 clear hflen
 unfold vNf
 by_cases h1 : n < 0
 ·have t1 : decide (n < 0) = true := decide_eq_true h1
  have HN : Hid (false = V) := Lib.hid (HD _ (vN_no (by rintro ⟨v1, v2, v3, v4, v5⟩; simp only at v1 v2 v3; omega)).symm)
  clear hst HD
  go_enter Tryz.func18, Tryz.ntmps18
  go_wp2
  go_ret
  exact ⟨by rw [← HN.out]; rfl, hb1⟩
 have t1 : decide (n < 0) = false := decide_eq_false h1
 by_cases h2 : 200 < n
 ·have t2 : decide (200 < n) = true := decide_eq_true h2
  have HN : Hid (false = V) := Lib.hid (HD _ (vN_no (by rintro ⟨v1, v2, v3, v4, v5⟩; simp only at v1 v2 v3; omega)).symm)
  clear hst HD
  go_enter Tryz.func18, Tryz.ntmps18
  go_wp2
  go_ret
  exact ⟨by rw [← HN.out]; rfl, hb1⟩
 have t2 : decide (200 < n) = false := decide_eq_false h2
 by_cases h4 : (fl : Int) = n
 case neg =>
  have t4 : ((fl : Int) != n) = true := by simpa using h4
  have H4 := Lib.hid h4
  clear h4
  have HN : Hid (false = V) := Lib.hid (HD _ (vN_no (by rintro ⟨v1, v2, v3, v4, v5⟩; simp only at v1 v2 v3; rw [HFL.out] at v2; exact H4.out v2)).symm)
  clear hst HD
  go_enter Tryz.func18, Tryz.ntmps18
  go_wp2
  go_ret
  exact ⟨by rw [← HN.out]; rfl, hb1⟩
 have t4 : ((fl : Int) != n) = false := by simpa using h4
 have H4 := Lib.hid h4
 clear h4
 by_cases h5 : 2000 < al
 ·have t5 : decide (2000 < (al : Int)) = true := decide_eq_true (by omega)
  have HN : Hid (false = V) := Lib.hid (HD _ (vN_no (by rintro ⟨v1, v2, v3, v4, v5⟩; simp only at v1 v2 v3; omega)).symm)
  clear hst HD
  go_enter Tryz.func18, Tryz.ntmps18
  go_wp2
  go_ret
  exact ⟨by rw [← HN.out]; rfl, hb1⟩
 have t5 : decide (2000 < (al : Int)) = false := decide_eq_false (by omega)
 go_enter Tryz.func18, Tryz.ntmps18
 go_wp2_with (fail)
 have HO := Lib.hid hO
 have HB1 := Lib.hid hb1
 clear hO t1 t2 t4 t5 hb1 hW1
 go_loopw [32] (fun c W => ∃ k : Nat, k ≤ sl ∧ c = .int .i64 (k : Int) ∧ Hid (∀ i, i < k → StartOk n s i) ∧ Below (w.heap.size + 1) W1 W) (fun c _ => sl - (intOf c).toNat)
 case atStart => exact ⟨0, Nat.zero_le _, rfl, Lib.hid (fun i hi => by omega), Below.refl _ _⟩
 case round =>
  obtain ⟨k, hk, rfl, HA, hb⟩ := hrel
  have hbW : Below w.heap.size w wr := HB1.out.trans (hb.mono (by omega))
  obtain ⟨e1, e2, e3, e4⟩ := HO.out wr hb
  clear d1 d2 d3 d4
  rcases Nat.lt_or_ge k sl with hlt | hge
  ·have t1 : decide (k < sl) = true := decide_eq_true hlt
   obtain ⟨bs, os, rfl, hbl, hc⟩ := hst0.at wr hbW k hlt
   obtain ⟨z, hz⟩ : ∃ z, gi s k = z := ⟨_, rfl⟩
   rw [hz] at hc
   have HZ := Lib.hid hz
   clear hz
   have HNO : Hid (¬ StartOk n s k → false = V) := Lib.hid fun hno => HD _ (vN_no (validN_start (a := ⟨n, s, fin, es⟩) (by simp only; rw [HSL.out]; exact hlt) hno)).symm
   by_cases h6 : 0 ≤ z ∧ z < n
   case neg =>
    have hst' := fun W => hst z W
    rw [decide_eq_false h6] at hst'
    have HQ : Hid (¬ StartOk n s k) := Lib.hid fun h => h6 (by have := h.1; rw [HZ.out] at this; exact this)
    have HBW := Lib.hid hbW
    clear h6 hst hbW hst0 hf he hb
    go_wp2_with (go_at_call 42; refine (hst' _).mono ?_; rintro e w2 ⟨rfl, hb2⟩; have HR : Hid (Below w.heap.size w w2) := Lib.hid (HBW.out.trans (hb2.mono HBW.out.size)))
    go_ret
    exact ⟨by rw [← HNO.out HQ.out]; rfl, HR.out⟩
   have hst' := fun W => hst z W
   rw [decide_eq_true h6] at hst'
   have H6 := Lib.hid h6
   clear h6
   have HBW := Lib.hid hbW
   have HB := Lib.hid hb
   have hsz : w.heap.size + 1 ≤ wr.heap.size := by have := hb.size; omega
   rcases Nat.eq_zero_or_pos k with h0 | h0
   ·have q5 : decide (0 < k) = false := decide_eq_false (by omega)
    have HS : Hid (∀ i, i < k + 1 → StartOk n s i) := Lib.hid fun i hi => by
     rcases Nat.lt_or_ge i k with h1 | h1
     ·exact HA.out i h1
     ·rw [show i = k by omega]; exact ⟨by rw [HZ.out]; exact H6.out, fun h2 => by omega⟩
    clear hbW hb hst hst0 hf he HD h0
    go_wp2_with (go_at_call 42; refine (hst' _).mono ?_; rintro e w2 ⟨rfl, hb2⟩; obtain ⟨d1', d2', d3', d4'⟩ := HO.out w2 (HB.out.trans (hb2.mono hsz)))
    go_roundw
    case rel => exact ⟨k + 1, hlt, by go_num, HS, HB.out.trans (hb2.mono hsz)⟩
    case measure => simp [intOf]; omega
   ·have q5 : decide (0 < k) = true := decide_eq_true h0
    obtain ⟨p, hp⟩ : ∃ p, p = k - 1 := ⟨_, rfl⟩
    have hpk : (k : Int) - 1 = (p : Int) := by omega
    have hps : p < sl := by omega
    obtain ⟨bs', os', eb, hbl', hcp⟩ := hst0.at wr hbW p hps
    injection eb with eb
    injection eb with eb1 eb2
    subst eb1 eb2
    obtain ⟨y, hy⟩ : ∃ y, gi s p = y := ⟨_, rfl⟩
    rw [hy] at hcp
    have HY := Lib.hid hy
    have HP := Lib.hid hp
    clear hy hp
    by_cases hL : y < z
    ·have q6 : decide (z ≤ y) = false := decide_eq_false (by omega)
     have HS : Hid (∀ i, i < k + 1 → StartOk n s i) := Lib.hid fun i hi => by
      rcases Nat.lt_or_ge i k with h1 | h1
      ·exact HA.out i h1
      ·rw [show i = k by omega]; exact ⟨by rw [HZ.out]; exact H6.out, fun h2 => by rw [← HP.out, HY.out, HZ.out]; exact hL⟩
     clear hbW hb hst hst0 hf he HD hL
     go_wp2_with (go_at_call 42; refine (hst' _).mono ?_; rintro e w2 ⟨rfl, hb2⟩; obtain ⟨d1', d2', d3', d4'⟩ := HO.out w2 (HB.out.trans (hb2.mono hsz)); have hcp2 := (hb2.cell (p := ⟨bs, os + p, none⟩) (lt_of_cell hcp)).trans hcp)
     go_roundw
     case rel => exact ⟨k + 1, hlt, by go_num, HS, HB.out.trans (hb2.mono hsz)⟩
     case measure => simp [intOf]; omega
    ·have q6 : decide (z ≤ y) = true := decide_eq_true (by omega)
     have HQ : Hid (¬ StartOk n s k) := Lib.hid fun h => hL (by have := h.2 h0; rw [← HP.out, HY.out, HZ.out] at this; exact this)
     clear hbW hb hst hst0 hf he HD hL
     go_wp2_with (go_at_call 42; refine (hst' _).mono ?_; rintro e w2 ⟨rfl, hb2⟩; obtain ⟨d1', d2', d3', d4'⟩ := HO.out w2 (HB.out.trans (hb2.mono hsz)); have hcp2 := (hb2.cell (p := ⟨bs, os + p, none⟩) (lt_of_cell hcp)).trans hcp; have HR : Hid (Below w.heap.size w w2) := Lib.hid (HBW.out.trans (hb2.mono HBW.out.size)))
     go_ret
     exact ⟨by rw [← HNO.out HQ.out]; rfl, HR.out⟩
  ·have hkl : sl = k := by omega
   subst hkl
   have t1 : decide (sl < sl) = false := decide_eq_false (by omega)
   have HST : Hid (∀ i, i < s.length → StartOk n s i) := Lib.hid fun i hi => HA.out i (by rw [HSL.out] at hi; exact hi)
   obtain ⟨w2, hw2⟩ : ∃ w2 : World, w2 = wr := ⟨_, rfl⟩
   subst hw2
   have HB2 := Lib.hid hb
   have hsz2 : w.heap.size + 1 ≤ w2.heap.size := by have := hb.size; omega
   clear hk hge hb hst0 HA hbW HSL hscap
   go_wp2_with (fail)
   clear e1 e2 e3 e4
   go_loopw [59] (fun c W => ∃ k : Nat, k ≤ al ∧ c = .int .i64 (k : Int) ∧ Hid (∀ i, i < k → ArcOkN n es i) ∧ Below w2.heap.size w2 W) (fun c _ => al - (intOf c).toNat)
   case atStart => exact ⟨0, Nat.zero_le _, rfl, Lib.hid (fun i hi => by omega), Below.refl _ _⟩
   case round =>
    obtain ⟨k, hk, rfl, HA, hb⟩ := hrel
    have hbW : Below w.heap.size w wr := HB1.out.trans ((HB2.out.trans (hb.mono hsz2)).mono (by omega))
    have hszr : w.heap.size + 1 ≤ wr.heap.size := Nat.le_trans hsz2 hb.size
    rcases Nat.lt_or_ge k al with hlt | hge
    ·obtain ⟨b, off, rfl, hcell⟩ := he.fix (by omega)
     obtain ⟨x1, x2, x3, hx⟩ : ∃ x1 x2 x3, g3 es k = ⟨x1, x2, x3⟩ := ⟨_, _, _, rfl⟩
     obtain ⟨cx1, cx2, cx3⟩ := hcell wr hbW k hlt
     rw [hx] at cx1 cx2 cx3
     have HX := Lib.hid hx
     obtain ⟨e1, e2, e3, e4⟩ := HO.out wr (HB2.out.trans (hb.mono hsz2))
     obtain ⟨Wn, hWn⟩ : ∃ Wn, wr.alloc (.cells #[.int .i64 x1, .int .i64 x2, .int .i64 x3] 50) = Wn := ⟨_, rfl⟩
     have hbn : Below wr.heap.size wr Wn := by rw [← hWn]; exact (Below.refl _ _).alloc (Nat.le_refl _) _
     have hcm : ∀ W, Below Wn.heap.size Wn W → (W.cell? ⟨w.heap.size, 0, none⟩ = some (.int .i64 n) ∧ W.cell? ⟨w.heap.size, 1, none⟩ = some (.slice sa sl sc) ∧ W.cell? ⟨w.heap.size, 2, none⟩ = some (.slice fa fl fc) ∧ W.cell? ⟨w.heap.size, 3, none⟩ = some (.slice (some ⟨b, off, none⟩) al ac)) ∧ W.cell? ⟨wr.heap.size, 0, none⟩ = some (.int .i64 x1) ∧ W.cell? ⟨wr.heap.size, 1, none⟩ = some (.int .i64 x2) ∧ W.cell? ⟨wr.heap.size, 2, none⟩ = some (.int .i64 x3) := fun W h => by
      have h2 := (boxA ⟨x1, x2, x3⟩ wr).2.2 W (by simp only; rw [hWn]; exact h.mono (by rw [← hWn]; simp))
      exact ⟨HO.out W ((HB2.out.trans (hb.mono hsz2)).trans ((hbn.mono hszr).trans (h.mono (Nat.le_trans hszr hbn.size)))), h2⟩
     have hbWn : Below w2.heap.size w2 Wn := hb.trans (hbn.mono hb.size)
     have HBR := Lib.hid hbW
     have HBN := Lib.hid (show Below w.heap.size w Wn from hbW.trans (hbn.mono hbW.size))
     have HBWN := Lib.hid hbWn
     have HNO : Hid (¬ ArcOkN n es k → false = V) := Lib.hid fun hno => HD _ (vN_no (validN_arc (a := ⟨n, s, fin, es⟩) (by simp only; omega) hno)).symm
     have HCELL := Lib.hid hcell
     have hwn : Wn.heap.size = wr.heap.size + 1 := by rw [← hWn]; simp
     have hwn' : wr.heap.size ≤ Wn.heap.size := by omega
     have HWN := Lib.hid hwn
     clear hwn
     clear hx hcell he hf hbn hb hbW hbWn HD
     by_cases h6 : 0 ≤ x1 ∧ x1 < n
     case neg =>
      have q1 : decide (0 ≤ x1 ∧ x1 < n) = false := decide_eq_false h6
      have HQ : Hid (¬ ArcOkN n es k) := Lib.hid fun h => h6 (by have := h.1.1; rw [HX.out] at this; exact this)
      clear h6
      go_wp2_with (fail)
      refine wp_region_grow mixed (by kernel_rfl) [[], [], [(1, 65)], [(0, 64), (2, 66)], [(3, 67)], [(4, 68), (3, 67)], [(5, 69)], [(5, 69)], [(7, 71), (5, 69)], [(6, 70), (8, 72), (5, 69), (5, 69)], [(9, 73), (5, 69)], [(5, 69), (10, 74)], [(11, 75), (9, 73)], [(12, 76)], [(13, 77), (12, 76)], [(14, 78), (12, 76)], [(12, 76), (15, 79)], [(16, 80), (12, 76)], [(17, 81)], [(18, 82), (17, 81)], [(19, 83), (17, 81)], [(17, 81), (20, 84)], [(21, 85), (17, 81)], [(22, 86)], [(23, 87), (22, 86)], [(24, 88), (22, 86), (22, 86)], [(25, 89)], [(26, 90), (25, 89)], [(25, 89)], [(28, 92), (25, 89)], [(27, 91), (29, 93), (25, 89)], [(30, 94), (25, 89)], [(25, 89)], [(31, 95), (32, 96), (25, 89), (25, 89)], [(33, 97), (25, 89)], [(25, 89), (34, 98), (22, 86)], [(22, 86), (35, 99)]] [(0, 64), (1, 65), (2, 66), (3, 67), (4, 68), (5, 69), (6, 70), (7, 71), (8, 72), (9, 73), (10, 74), (11, 75), (12, 76), (13, 77), (14, 78), (15, 79), (16, 80), (17, 81), (18, 82), (19, 83), (20, 84), (21, 85), (22, 86), (23, 87), (24, 88), (25, 89), (26, 90), (27, 91), (28, 92), (29, 93), (30, 94), (31, 95), (32, 96), (33, 97), (34, 98), (35, 99), (36, 100)] rfl rfl [Ex ?eb0, Ex ?eb1, Ex ?eb2, Ex (.bool false), Ex ?eb4, Ex ?eb5, Ex undef, Ex undef, Ex undef, Ex undef, Ex undef, Ex ?eb11, Ex ?eb12, Ex undef, Ex undef, Ex undef, Ex ?eb16, Ex ?eb17, Ex undef, Ex undef, Ex undef, Ex ?eb21, Ex ?eb22, Ex undef, Ex undef, Ex undef, Ex undef, Ex undef, Ex undef, Ex undef, Ex undef, Ex undef, Ex undef, Ex undef, Ex undef, Ex undef, Ex ?eb36] ⟨stays_ex _, stays_ex _, stays_ex _, stays_ex _, stays_ex _, stays_ex _, stays_ex _, stays_ex _, stays_ex _, stays_ex _, stays_ex _, stays_ex _, stays_ex _, stays_ex _, stays_ex _, stays_ex _, stays_ex _, stays_ex _, stays_ex _, stays_ex _, stays_ex _, stays_ex _, stays_ex _, stays_ex _, stays_ex _, stays_ex _, stays_ex _, stays_ex _, stays_ex _, stays_ex _, stays_ex _, stays_ex _, stays_ex _, stays_ex _, stays_ex _, stays_ex _, stays_ex _, trivial⟩ ?bsteps ?brest
      case bsteps =>
       refine ⟨fun f W hC hh => ?_, fun f W hC hh => ?_, fun f W hC hh => ?_, fun f W hC hh => ?_, fun f W hC hh => ?_, fun f W hC hh => ?_, fun f W hC hh => ?_, fun f W hC hh => ?_, fun f W hC hh => ?_, fun f W hC hh => ?_, fun f W hC hh => ?_, fun f W hC hh => ?_, fun f W hC hh => ?_, fun f W hC hh => ?_, fun f W hC hh => ?_, fun f W hC hh => ?_, fun f W hC hh => ?_, fun f W hC hh => ?_, fun f W hC hh => ?_, fun f W hC hh => ?_, fun f W hC hh => ?_, fun f W hC hh => ?_, fun f W hC hh => ?_, fun f W hC hh => ?_, fun f W hC hh => ?_, fun f W hC hh => ?_, fun f W hC hh => ?_, fun f W hC hh => ?_, fun f W hC hh => ?_, fun f W hC hh => ?_, fun f W hC hh => ?_, fun f W hC hh => ?_, fun f W hC hh => ?_, fun f W hC hh => ?_, fun f W hC hh => ?_, fun f W hC hh => ?_, fun f W hC hh => ?_, trivial⟩
       ·
        refine tab_plain fun K Q hK => ?_
        simp only [puts, foldr_nil]
        obtain ⟨⟨f1, f2, f3, f4⟩, f5, f6, f7⟩ := hcm W hC
        go_step
        exact fam_e hK rfl rfl (Below.refl _ _) hC
       ·
        refine tab_plain fun K Q hK => ?_
        simp only [puts, foldr_nil]
        go_step
        exact fam_e hK rfl rfl (Below.refl _ _) hC
       ·
        obtain ⟨h1, -⟩ := hh
        have g1 : f 1 = _ := h1
        refine tab_plain fun K Q hK => ?_
        simp only [puts, Za, Zb, Zc, Zd, Ze, g1]
        obtain ⟨⟨f1, f2, f3, f4⟩, f5, f6, f7⟩ := hcm W hC
        go_step
        exact fam_e hK rfl rfl (Below.refl _ _) hC
       ·
        obtain ⟨h0, h2, -⟩ := hh
        have g0 : f 0 = _ := h0
        have g2 : f 2 = _ := h2
        refine tab_plain fun K Q hK => ?_
        simp only [puts, Za, Zb, Zc, Zd, Ze, g0, g2]
        go_step
        go_at_call 42
        refine (hst x1 W).mono ?_
        rintro e w' ⟨rfl, hb⟩
        rw [q1]
        exact fam_fin hK rfl rfl hb (hC.trans (hb.mono hC.size))
       ·
        obtain ⟨h3, -⟩ := hh
        have g3 : f 3 = _ := h3
        refine tab_plain fun K Q hK => ?_
        simp only [puts, Za, Zb, Zc, Zd, Ze, g3]
        go_step
        exact fam_e hK rfl rfl (Below.refl _ _) hC
       ·
        obtain ⟨h4, h3, -⟩ := hh
        have g4 : f 4 = _ := h4
        have g3 : f 3 = _ := h3
        refine tab_plain fun K Q hK => ?_
        simp only [puts, Za, Zb, Zc, Zd, Ze, g4, g3]
        go_step
        exact fam_e hK rfl rfl (Below.refl _ _) hC
       ·
        obtain ⟨h5, -⟩ := hh
        have g5 : f 5 = _ := h5
        exact tab_no rfl g5 (by decide) rfl
       ·
        obtain ⟨h5, -⟩ := hh
        have g5 : f 5 = _ := h5
        exact tab_no rfl g5 (by decide) rfl
       ·
        obtain ⟨h7, h5, -⟩ := hh
        have g7 : f 7 = _ := h7
        have g5 : f 5 = _ := h5
        exact tab_no rfl g5 (by decide) rfl
       ·
        obtain ⟨h6, h8, h5, _, -⟩ := hh
        have g6 : f 6 = _ := h6
        have g8 : f 8 = _ := h8
        have g5 : f 5 = _ := h5
        exact tab_no rfl g5 (by decide) rfl
       ·
        obtain ⟨h9, h5, -⟩ := hh
        have g9 : f 9 = _ := h9
        have g5 : f 5 = _ := h5
        exact tab_no rfl g5 (by decide) rfl
       ·
        obtain ⟨h5, h10, -⟩ := hh
        have g5 : f 5 = _ := h5
        have g10 : f 10 = _ := h10
        refine tab_plain fun K Q hK => ?_
        simp only [puts, Za, Zb, Zc, Zd, Ze, g5, g10]
        go_step
        exact fam_e hK rfl rfl (Below.refl _ _) hC
       ·
        obtain ⟨h11, h9, -⟩ := hh
        have g11 : f 11 = _ := h11
        have g9 : f 9 = _ := h9
        refine tab_plain fun K Q hK => ?_
        simp only [puts, Za, Zb, Zc, Zd, Ze, g11, g9]
        go_step
        exact fam_e hK rfl rfl (Below.refl _ _) hC
       ·
        obtain ⟨h12, -⟩ := hh
        have g12 : f 12 = _ := h12
        exact tab_no rfl g12 (by decide) rfl
       ·
        obtain ⟨h13, h12, -⟩ := hh
        have g13 : f 13 = _ := h13
        have g12 : f 12 = _ := h12
        exact tab_no rfl g12 (by decide) rfl
       ·
        obtain ⟨h14, h12, -⟩ := hh
        have g14 : f 14 = _ := h14
        have g12 : f 12 = _ := h12
        exact tab_no rfl g12 (by decide) rfl
       ·
        obtain ⟨h12, h15, -⟩ := hh
        have g12 : f 12 = _ := h12
        have g15 : f 15 = _ := h15
        refine tab_plain fun K Q hK => ?_
        simp only [puts, Za, Zb, Zc, Zd, Ze, g12, g15]
        go_step
        exact fam_e hK rfl rfl (Below.refl _ _) hC
       ·
        obtain ⟨h16, h12, -⟩ := hh
        have g16 : f 16 = _ := h16
        have g12 : f 12 = _ := h12
        refine tab_plain fun K Q hK => ?_
        simp only [puts, Za, Zb, Zc, Zd, Ze, g16, g12]
        go_step
        exact fam_e hK rfl rfl (Below.refl _ _) hC
       ·
        obtain ⟨h17, -⟩ := hh
        have g17 : f 17 = _ := h17
        exact tab_no rfl g17 (by decide) rfl
       ·
        obtain ⟨h18, h17, -⟩ := hh
        have g18 : f 18 = _ := h18
        have g17 : f 17 = _ := h17
        exact tab_no rfl g17 (by decide) rfl
       ·
        obtain ⟨h19, h17, -⟩ := hh
        have g19 : f 19 = _ := h19
        have g17 : f 17 = _ := h17
        exact tab_no rfl g17 (by decide) rfl
       ·
        obtain ⟨h17, h20, -⟩ := hh
        have g17 : f 17 = _ := h17
        have g20 : f 20 = _ := h20
        refine tab_plain fun K Q hK => ?_
        simp only [puts, Za, Zb, Zc, Zd, Ze, g17, g20]
        go_step
        exact fam_e hK rfl rfl (Below.refl _ _) hC
       ·
        obtain ⟨h21, h17, -⟩ := hh
        have g21 : f 21 = _ := h21
        have g17 : f 17 = _ := h17
        refine tab_plain fun K Q hK => ?_
        simp only [puts, Za, Zb, Zc, Zd, Ze, g21, g17]
        go_step
        exact fam_e hK rfl rfl (Below.refl _ _) hC
       ·
        obtain ⟨h22, -⟩ := hh
        have g22 : f 22 = _ := h22
        exact tab_no rfl g22 (by decide) rfl
       ·
        obtain ⟨h23, h22, -⟩ := hh
        have g23 : f 23 = _ := h23
        have g22 : f 22 = _ := h22
        exact tab_no rfl g22 (by decide) rfl
       ·
        obtain ⟨h24, h22, _, -⟩ := hh
        have g24 : f 24 = _ := h24
        have g22 : f 22 = _ := h22
        exact tab_no rfl g22 (by decide) rfl
       ·
        obtain ⟨h25, -⟩ := hh
        have g25 : f 25 = _ := h25
        exact tab_noU rfl g25 rfl
       ·
        obtain ⟨h26, h25, -⟩ := hh
        have g26 : f 26 = _ := h26
        have g25 : f 25 = _ := h25
        exact tab_noU rfl g25 rfl
       ·
        obtain ⟨h25, -⟩ := hh
        have g25 : f 25 = _ := h25
        exact tab_noU rfl g25 rfl
       ·
        obtain ⟨h28, h25, -⟩ := hh
        have g28 : f 28 = _ := h28
        have g25 : f 25 = _ := h25
        exact tab_noU rfl g25 rfl
       ·
        obtain ⟨h27, h29, h25, -⟩ := hh
        have g27 : f 27 = _ := h27
        have g29 : f 29 = _ := h29
        have g25 : f 25 = _ := h25
        exact tab_noU rfl g25 rfl
       ·
        obtain ⟨h30, h25, -⟩ := hh
        have g30 : f 30 = _ := h30
        have g25 : f 25 = _ := h25
        exact tab_noU rfl g25 rfl
       ·
        obtain ⟨h25, -⟩ := hh
        have g25 : f 25 = _ := h25
        exact tab_noU rfl g25 rfl
       ·
        obtain ⟨h31, h32, h25, _, -⟩ := hh
        have g31 : f 31 = _ := h31
        have g32 : f 32 = _ := h32
        have g25 : f 25 = _ := h25
        exact tab_noU rfl g25 rfl
       ·
        obtain ⟨h33, h25, -⟩ := hh
        have g33 : f 33 = _ := h33
        have g25 : f 25 = _ := h25
        exact tab_noU rfl g25 rfl
       ·
        obtain ⟨h25, h34, h22, -⟩ := hh
        have g25 : f 25 = _ := h25
        have g34 : f 34 = _ := h34
        have g22 : f 22 = _ := h22
        exact tab_no rfl g22 (by decide) rfl
       ·
        obtain ⟨h22, h35, -⟩ := hh
        have g22 : f 22 = _ := h22
        have g35 : f 35 = _ := h35
        refine tab_plain fun K Q hK => ?_
        simp only [puts, Za, Zb, Zc, Zd, Ze, g22, g35]
        go_step
        exact fam_e hK rfl rfl (Below.refl _ _) hC
      case brest =>
       intro f W2 hC hh
       obtain ⟨h0, h1, h2, h3, h4, h5, h6, h7, h8, h9, h10, h11, h12, h13, h14, h15, h16, h17, h18, h19, h20, h21, h22, h23, h24, h25, h26, h27, h28, h29, h30, h31, h32, h33, h34, h35, h36, -⟩ := hh
       have g0 : f 0 = _ := h0
       have g1 : f 1 = _ := h1
       have g2 : f 2 = _ := h2
       have g3 : f 3 = _ := h3
       have g4 : f 4 = _ := h4
       have g5 : f 5 = _ := h5
       have g6 : f 6 = _ := h6
       have g7 : f 7 = _ := h7
       have g8 : f 8 = _ := h8
       have g9 : f 9 = _ := h9
       have g10 : f 10 = _ := h10
       have g11 : f 11 = _ := h11
       have g12 : f 12 = _ := h12
       have g13 : f 13 = _ := h13
       have g14 : f 14 = _ := h14
       have g15 : f 15 = _ := h15
       have g16 : f 16 = _ := h16
       have g17 : f 17 = _ := h17
       have g18 : f 18 = _ := h18
       have g19 : f 19 = _ := h19
       have g20 : f 20 = _ := h20
       have g21 : f 21 = _ := h21
       have g22 : f 22 = _ := h22
       have g23 : f 23 = _ := h23
       have g24 : f 24 = _ := h24
       have g25 : f 25 = _ := h25
       have g26 : f 26 = _ := h26
       have g27 : f 27 = _ := h27
       have g28 : f 28 = _ := h28
       have g29 : f 29 = _ := h29
       have g30 : f 30 = _ := h30
       have g31 : f 31 = _ := h31
       have g32 : f 32 = _ := h32
       have g33 : f 33 = _ := h33
       have g34 : f 34 = _ := h34
       have g35 : f 35 = _ := h35
       have g36 : f 36 = _ := h36
       simp only [puts, Za, Zb, Zc, Zd, Ze, g0, g1, g2, g3, g4, g5, g6, g7, g8, g9, g10, g11, g12, g13, g14, g15, g16, g17, g18, g19, g20, g21, g22, g23, g24, g25, g26, g27, g28, g29, g30, g31, g32, g33, g34, g35, g36]
       clear h0 h1 h2 h3 h4 h5 h6 h7 h8 h9 h10 h11 h12 h13 h14 h15 h16 h17 h18 h19 h20 h21 h22 h23 h24 h25 h26 h27 h28 h29 h30 h31 h32 h33 h34 h35 h36 g0 g1 g2 g3 g4 g5 g6 g7 g8 g9 g10 g11 g12 g13 g14 g15 g16 g17 g18 g19 g20 g21 g22 g23 g24 g25 g26 g27 g28 g29 g30 g31 g32 g33 g34 g35 g36
       go_wp2
       go_ret
       exact ⟨by rw [← HNO.out HQ.out]; rfl, HBN.out.trans (hC.mono HBN.out.size)⟩
     have q1 : decide (0 ≤ x1 ∧ x1 < n) = true := decide_eq_true h6
     have H6 := Lib.hid h6
     clear h6
     by_cases h7 : 0 ≤ x3 ∧ x3 < n
     case neg =>
      have q2 : decide (0 ≤ x3 ∧ x3 < n) = false := decide_eq_false h7
      have HQ : Hid (¬ ArcOkN n es k) := Lib.hid fun h => h7 (by have := h.1.2; rw [HX.out] at this; exact this)
      clear h7
      go_wp2_with (fail)
      refine wp_region_grow mixed (by kernel_rfl) [[], [], [(1, 65)], [(0, 64), (2, 66)], [(3, 67)], [(4, 68), (3, 67)], [(5, 69)], [(5, 69)], [(7, 71), (5, 69)], [(6, 70), (8, 72), (5, 69), (5, 69)], [(9, 73), (5, 69)], [(5, 69), (10, 74)], [(11, 75), (9, 73)], [(12, 76)], [(13, 77), (12, 76)], [(14, 78), (12, 76)], [(12, 76), (15, 79)], [(16, 80), (12, 76)], [(17, 81)], [(18, 82), (17, 81)], [(19, 83), (17, 81)], [(17, 81), (20, 84)], [(21, 85), (17, 81)], [(22, 86)], [(23, 87), (22, 86)], [(24, 88), (22, 86), (22, 86)], [(25, 89)], [(26, 90), (25, 89)], [(25, 89)], [(28, 92), (25, 89)], [(27, 91), (29, 93), (25, 89)], [(30, 94), (25, 89)], [(25, 89)], [(31, 95), (32, 96), (25, 89), (25, 89)], [(33, 97), (25, 89)], [(25, 89), (34, 98), (22, 86)], [(22, 86), (35, 99)]] [(0, 64), (1, 65), (2, 66), (3, 67), (4, 68), (5, 69), (6, 70), (7, 71), (8, 72), (9, 73), (10, 74), (11, 75), (12, 76), (13, 77), (14, 78), (15, 79), (16, 80), (17, 81), (18, 82), (19, 83), (20, 84), (21, 85), (22, 86), (23, 87), (24, 88), (25, 89), (26, 90), (27, 91), (28, 92), (29, 93), (30, 94), (31, 95), (32, 96), (33, 97), (34, 98), (35, 99), (36, 100)] rfl rfl [Ex ?ec0, Ex ?ec1, Ex ?ec2, Ex (.bool true), Ex ?ec4, Ex ?ec5, Ex ?ec6, Ex ?ec7, Ex ?ec8, Ex (.bool false), Ex ?ec10, Ex ?ec11, Ex ?ec12, Ex undef, Ex undef, Ex undef, Ex ?ec16, Ex ?ec17, Ex undef, Ex undef, Ex undef, Ex ?ec21, Ex ?ec22, Ex undef, Ex undef, Ex undef, Ex undef, Ex undef, Ex undef, Ex undef, Ex undef, Ex undef, Ex undef, Ex undef, Ex undef, Ex undef, Ex ?ec36] ⟨stays_ex _, stays_ex _, stays_ex _, stays_ex _, stays_ex _, stays_ex _, stays_ex _, stays_ex _, stays_ex _, stays_ex _, stays_ex _, stays_ex _, stays_ex _, stays_ex _, stays_ex _, stays_ex _, stays_ex _, stays_ex _, stays_ex _, stays_ex _, stays_ex _, stays_ex _, stays_ex _, stays_ex _, stays_ex _, stays_ex _, stays_ex _, stays_ex _, stays_ex _, stays_ex _, stays_ex _, stays_ex _, stays_ex _, stays_ex _, stays_ex _, stays_ex _, stays_ex _, trivial⟩ ?csteps ?crest
      case csteps =>
       refine ⟨fun f W hC hh => ?_, fun f W hC hh => ?_, fun f W hC hh => ?_, fun f W hC hh => ?_, fun f W hC hh => ?_, fun f W hC hh => ?_, fun f W hC hh => ?_, fun f W hC hh => ?_, fun f W hC hh => ?_, fun f W hC hh => ?_, fun f W hC hh => ?_, fun f W hC hh => ?_, fun f W hC hh => ?_, fun f W hC hh => ?_, fun f W hC hh => ?_, fun f W hC hh => ?_, fun f W hC hh => ?_, fun f W hC hh => ?_, fun f W hC hh => ?_, fun f W hC hh => ?_, fun f W hC hh => ?_, fun f W hC hh => ?_, fun f W hC hh => ?_, fun f W hC hh => ?_, fun f W hC hh => ?_, fun f W hC hh => ?_, fun f W hC hh => ?_, fun f W hC hh => ?_, fun f W hC hh => ?_, fun f W hC hh => ?_, fun f W hC hh => ?_, fun f W hC hh => ?_, fun f W hC hh => ?_, fun f W hC hh => ?_, fun f W hC hh => ?_, fun f W hC hh => ?_, fun f W hC hh => ?_, trivial⟩
       ·
        refine tab_plain fun K Q hK => ?_
        simp only [puts, foldr_nil]
        obtain ⟨⟨f1, f2, f3, f4⟩, f5, f6, f7⟩ := hcm W hC
        go_step
        exact fam_e hK rfl rfl (Below.refl _ _) hC
       ·
        refine tab_plain fun K Q hK => ?_
        simp only [puts, foldr_nil]
        go_step
        exact fam_e hK rfl rfl (Below.refl _ _) hC
       ·
        obtain ⟨h1, -⟩ := hh
        have g1 : f 1 = _ := h1
        refine tab_plain fun K Q hK => ?_
        simp only [puts, Za, Zb, Zc, Zd, Ze, g1]
        obtain ⟨⟨f1, f2, f3, f4⟩, f5, f6, f7⟩ := hcm W hC
        go_step
        exact fam_e hK rfl rfl (Below.refl _ _) hC
       ·
        obtain ⟨h0, h2, -⟩ := hh
        have g0 : f 0 = _ := h0
        have g2 : f 2 = _ := h2
        refine tab_plain fun K Q hK => ?_
        simp only [puts, Za, Zb, Zc, Zd, Ze, g0, g2]
        go_step
        go_at_call 42
        refine (hst x1 W).mono ?_
        rintro e w' ⟨rfl, hb⟩
        rw [q1]
        exact fam_fin hK rfl rfl hb (hC.trans (hb.mono hC.size))
       ·
        obtain ⟨h3, -⟩ := hh
        have g3 : f 3 = _ := h3
        refine tab_plain fun K Q hK => ?_
        simp only [puts, Za, Zb, Zc, Zd, Ze, g3]
        go_step
        exact fam_e hK rfl rfl (Below.refl _ _) hC
       ·
        obtain ⟨h4, h3, -⟩ := hh
        have g4 : f 4 = _ := h4
        have g3 : f 3 = _ := h3
        refine tab_plain fun K Q hK => ?_
        simp only [puts, Za, Zb, Zc, Zd, Ze, g4, g3]
        go_step
        exact fam_e hK rfl rfl (Below.refl _ _) hC
       ·
        obtain ⟨h5, -⟩ := hh
        have g5 : f 5 = _ := h5
        refine tab_yes g5 fun K Q hK => ?_
        simp only [puts, Za, Zb, Zc, Zd, Ze, g5]
        obtain ⟨⟨f1, f2, f3, f4⟩, f5, f6, f7⟩ := hcm W hC
        go_step
        exact fam_e hK rfl rfl (Below.refl _ _) hC
       ·
        obtain ⟨h5, -⟩ := hh
        have g5 : f 5 = _ := h5
        refine tab_yes g5 fun K Q hK => ?_
        simp only [puts, Za, Zb, Zc, Zd, Ze, g5]
        go_step
        exact fam_e hK rfl rfl (Below.refl _ _) hC
       ·
        obtain ⟨h7, h5, -⟩ := hh
        have g7 : f 7 = _ := h7
        have g5 : f 5 = _ := h5
        refine tab_yes g5 fun K Q hK => ?_
        simp only [puts, Za, Zb, Zc, Zd, Ze, g7, g5]
        obtain ⟨⟨f1, f2, f3, f4⟩, f5, f6, f7⟩ := hcm W hC
        go_step
        exact fam_e hK rfl rfl (Below.refl _ _) hC
       ·
        obtain ⟨h6, h8, h5, _, -⟩ := hh
        have g6 : f 6 = _ := h6
        have g8 : f 8 = _ := h8
        have g5 : f 5 = _ := h5
        refine tab_yes g5 fun K Q hK => ?_
        simp only [puts, Za, Zb, Zc, Zd, Ze, g6, g8, g5]
        go_step
        go_at_call 42
        refine (hst x3 W).mono ?_
        rintro e w' ⟨rfl, hb⟩
        rw [q2]
        exact fam_fin hK rfl rfl hb (hC.trans (hb.mono hC.size))
       ·
        obtain ⟨h9, h5, -⟩ := hh
        have g9 : f 9 = _ := h9
        have g5 : f 5 = _ := h5
        refine tab_yes g5 fun K Q hK => ?_
        simp only [puts, Za, Zb, Zc, Zd, Ze, g9, g5]
        go_step
        exact fam_e hK rfl rfl (Below.refl _ _) hC
       ·
        obtain ⟨h5, h10, -⟩ := hh
        have g5 : f 5 = _ := h5
        have g10 : f 10 = _ := h10
        refine tab_plain fun K Q hK => ?_
        simp only [puts, Za, Zb, Zc, Zd, Ze, g5, g10]
        go_step
        exact fam_e hK rfl rfl (Below.refl _ _) hC
       ·
        obtain ⟨h11, h9, -⟩ := hh
        have g11 : f 11 = _ := h11
        have g9 : f 9 = _ := h9
        refine tab_plain fun K Q hK => ?_
        simp only [puts, Za, Zb, Zc, Zd, Ze, g11, g9]
        go_step
        exact fam_e hK rfl rfl (Below.refl _ _) hC
       ·
        obtain ⟨h12, -⟩ := hh
        have g12 : f 12 = _ := h12
        exact tab_no rfl g12 (by decide) rfl
       ·
        obtain ⟨h13, h12, -⟩ := hh
        have g13 : f 13 = _ := h13
        have g12 : f 12 = _ := h12
        exact tab_no rfl g12 (by decide) rfl
       ·
        obtain ⟨h14, h12, -⟩ := hh
        have g14 : f 14 = _ := h14
        have g12 : f 12 = _ := h12
        exact tab_no rfl g12 (by decide) rfl
       ·
        obtain ⟨h12, h15, -⟩ := hh
        have g12 : f 12 = _ := h12
        have g15 : f 15 = _ := h15
        refine tab_plain fun K Q hK => ?_
        simp only [puts, Za, Zb, Zc, Zd, Ze, g12, g15]
        go_step
        exact fam_e hK rfl rfl (Below.refl _ _) hC
       ·
        obtain ⟨h16, h12, -⟩ := hh
        have g16 : f 16 = _ := h16
        have g12 : f 12 = _ := h12
        refine tab_plain fun K Q hK => ?_
        simp only [puts, Za, Zb, Zc, Zd, Ze, g16, g12]
        go_step
        exact fam_e hK rfl rfl (Below.refl _ _) hC
       ·
        obtain ⟨h17, -⟩ := hh
        have g17 : f 17 = _ := h17
        exact tab_no rfl g17 (by decide) rfl
       ·
        obtain ⟨h18, h17, -⟩ := hh
        have g18 : f 18 = _ := h18
        have g17 : f 17 = _ := h17
        exact tab_no rfl g17 (by decide) rfl
       ·
        obtain ⟨h19, h17, -⟩ := hh
        have g19 : f 19 = _ := h19
        have g17 : f 17 = _ := h17
        exact tab_no rfl g17 (by decide) rfl
       ·
        obtain ⟨h17, h20, -⟩ := hh
        have g17 : f 17 = _ := h17
        have g20 : f 20 = _ := h20
        refine tab_plain fun K Q hK => ?_
        simp only [puts, Za, Zb, Zc, Zd, Ze, g17, g20]
        go_step
        exact fam_e hK rfl rfl (Below.refl _ _) hC
       ·
        obtain ⟨h21, h17, -⟩ := hh
        have g21 : f 21 = _ := h21
        have g17 : f 17 = _ := h17
        refine tab_plain fun K Q hK => ?_
        simp only [puts, Za, Zb, Zc, Zd, Ze, g21, g17]
        go_step
        exact fam_e hK rfl rfl (Below.refl _ _) hC
       ·
        obtain ⟨h22, -⟩ := hh
        have g22 : f 22 = _ := h22
        exact tab_no rfl g22 (by decide) rfl
       ·
        obtain ⟨h23, h22, -⟩ := hh
        have g23 : f 23 = _ := h23
        have g22 : f 22 = _ := h22
        exact tab_no rfl g22 (by decide) rfl
       ·
        obtain ⟨h24, h22, _, -⟩ := hh
        have g24 : f 24 = _ := h24
        have g22 : f 22 = _ := h22
        exact tab_no rfl g22 (by decide) rfl
       ·
        obtain ⟨h25, -⟩ := hh
        have g25 : f 25 = _ := h25
        exact tab_noU rfl g25 rfl
       ·
        obtain ⟨h26, h25, -⟩ := hh
        have g26 : f 26 = _ := h26
        have g25 : f 25 = _ := h25
        exact tab_noU rfl g25 rfl
       ·
        obtain ⟨h25, -⟩ := hh
        have g25 : f 25 = _ := h25
        exact tab_noU rfl g25 rfl
       ·
        obtain ⟨h28, h25, -⟩ := hh
        have g28 : f 28 = _ := h28
        have g25 : f 25 = _ := h25
        exact tab_noU rfl g25 rfl
       ·
        obtain ⟨h27, h29, h25, -⟩ := hh
        have g27 : f 27 = _ := h27
        have g29 : f 29 = _ := h29
        have g25 : f 25 = _ := h25
        exact tab_noU rfl g25 rfl
       ·
        obtain ⟨h30, h25, -⟩ := hh
        have g30 : f 30 = _ := h30
        have g25 : f 25 = _ := h25
        exact tab_noU rfl g25 rfl
       ·
        obtain ⟨h25, -⟩ := hh
        have g25 : f 25 = _ := h25
        exact tab_noU rfl g25 rfl
       ·
        obtain ⟨h31, h32, h25, _, -⟩ := hh
        have g31 : f 31 = _ := h31
        have g32 : f 32 = _ := h32
        have g25 : f 25 = _ := h25
        exact tab_noU rfl g25 rfl
       ·
        obtain ⟨h33, h25, -⟩ := hh
        have g33 : f 33 = _ := h33
        have g25 : f 25 = _ := h25
        exact tab_noU rfl g25 rfl
       ·
        obtain ⟨h25, h34, h22, -⟩ := hh
        have g25 : f 25 = _ := h25
        have g34 : f 34 = _ := h34
        have g22 : f 22 = _ := h22
        exact tab_no rfl g22 (by decide) rfl
       ·
        obtain ⟨h22, h35, -⟩ := hh
        have g22 : f 22 = _ := h22
        have g35 : f 35 = _ := h35
        refine tab_plain fun K Q hK => ?_
        simp only [puts, Za, Zb, Zc, Zd, Ze, g22, g35]
        go_step
        exact fam_e hK rfl rfl (Below.refl _ _) hC
      case crest =>
       intro f W2 hC hh
       obtain ⟨h0, h1, h2, h3, h4, h5, h6, h7, h8, h9, h10, h11, h12, h13, h14, h15, h16, h17, h18, h19, h20, h21, h22, h23, h24, h25, h26, h27, h28, h29, h30, h31, h32, h33, h34, h35, h36, -⟩ := hh
       have g0 : f 0 = _ := h0
       have g1 : f 1 = _ := h1
       have g2 : f 2 = _ := h2
       have g3 : f 3 = _ := h3
       have g4 : f 4 = _ := h4
       have g5 : f 5 = _ := h5
       have g6 : f 6 = _ := h6
       have g7 : f 7 = _ := h7
       have g8 : f 8 = _ := h8
       have g9 : f 9 = _ := h9
       have g10 : f 10 = _ := h10
       have g11 : f 11 = _ := h11
       have g12 : f 12 = _ := h12
       have g13 : f 13 = _ := h13
       have g14 : f 14 = _ := h14
       have g15 : f 15 = _ := h15
       have g16 : f 16 = _ := h16
       have g17 : f 17 = _ := h17
       have g18 : f 18 = _ := h18
       have g19 : f 19 = _ := h19
       have g20 : f 20 = _ := h20
       have g21 : f 21 = _ := h21
       have g22 : f 22 = _ := h22
       have g23 : f 23 = _ := h23
       have g24 : f 24 = _ := h24
       have g25 : f 25 = _ := h25
       have g26 : f 26 = _ := h26
       have g27 : f 27 = _ := h27
       have g28 : f 28 = _ := h28
       have g29 : f 29 = _ := h29
       have g30 : f 30 = _ := h30
       have g31 : f 31 = _ := h31
       have g32 : f 32 = _ := h32
       have g33 : f 33 = _ := h33
       have g34 : f 34 = _ := h34
       have g35 : f 35 = _ := h35
       have g36 : f 36 = _ := h36
       simp only [puts, Za, Zb, Zc, Zd, Ze, g0, g1, g2, g3, g4, g5, g6, g7, g8, g9, g10, g11, g12, g13, g14, g15, g16, g17, g18, g19, g20, g21, g22, g23, g24, g25, g26, g27, g28, g29, g30, g31, g32, g33, g34, g35, g36]
       clear h0 h1 h2 h3 h4 h5 h6 h7 h8 h9 h10 h11 h12 h13 h14 h15 h16 h17 h18 h19 h20 h21 h22 h23 h24 h25 h26 h27 h28 h29 h30 h31 h32 h33 h34 h35 h36 g0 g1 g2 g3 g4 g5 g6 g7 g8 g9 g10 g11 g12 g13 g14 g15 g16 g17 g18 g19 g20 g21 g22 g23 g24 g25 g26 g27 g28 g29 g30 g31 g32 g33 g34 g35 g36
       go_wp2
       go_ret
       exact ⟨by rw [← HNO.out HQ.out]; rfl, HBN.out.trans (hC.mono HBN.out.size)⟩
     have q2 : decide (0 ≤ x3 ∧ x3 < n) = true := decide_eq_true h7
     have H7 := Lib.hid h7
     clear h7
     by_cases h8 : x2 < 0
     ·have q3 : decide (x2 < 0) = true := decide_eq_true h8
      have HQ : Hid (¬ ArcOkN n es k) := Lib.hid fun h => by have := h.2.1.1; rw [HX.out] at this; simp only at this; omega
      clear h8
      go_wp2_with (fail)
      refine wp_region_grow mixed (by kernel_rfl) [[], [], [(1, 65)], [(0, 64), (2, 66)], [(3, 67)], [(4, 68), (3, 67)], [(5, 69)], [(5, 69)], [(7, 71), (5, 69)], [(6, 70), (8, 72), (5, 69), (5, 69)], [(9, 73), (5, 69)], [(5, 69), (10, 74)], [(11, 75), (9, 73)], [(12, 76)], [(13, 77), (12, 76)], [(14, 78), (12, 76)], [(12, 76), (15, 79)], [(16, 80), (12, 76)], [(17, 81)], [(18, 82), (17, 81)], [(19, 83), (17, 81)], [(17, 81), (20, 84)], [(21, 85), (17, 81)], [(22, 86)], [(23, 87), (22, 86)], [(24, 88), (22, 86), (22, 86)], [(25, 89)], [(26, 90), (25, 89)], [(25, 89)], [(28, 92), (25, 89)], [(27, 91), (29, 93), (25, 89)], [(30, 94), (25, 89)], [(25, 89)], [(31, 95), (32, 96), (25, 89), (25, 89)], [(33, 97), (25, 89)], [(25, 89), (34, 98), (22, 86)], [(22, 86), (35, 99)]] [(0, 64), (1, 65), (2, 66), (3, 67), (4, 68), (5, 69), (6, 70), (7, 71), (8, 72), (9, 73), (10, 74), (11, 75), (12, 76), (13, 77), (14, 78), (15, 79), (16, 80), (17, 81), (18, 82), (19, 83), (20, 84), (21, 85), (22, 86), (23, 87), (24, 88), (25, 89), (26, 90), (27, 91), (28, 92), (29, 93), (30, 94), (31, 95), (32, 96), (33, 97), (34, 98), (35, 99), (36, 100)] rfl rfl [Ex ?ed0, Ex ?ed1, Ex ?ed2, Ex (.bool true), Ex ?ed4, Ex ?ed5, Ex ?ed6, Ex ?ed7, Ex ?ed8, Ex (.bool true), Ex ?ed10, Ex ?ed11, Ex ?ed12, Ex ?ed13, Ex ?ed14, Ex ?ed15, Ex ?ed16, Ex ?ed17, Ex undef, Ex undef, Ex undef, Ex ?ed21, Ex ?ed22, Ex undef, Ex undef, Ex undef, Ex undef, Ex undef, Ex undef, Ex undef, Ex undef, Ex undef, Ex undef, Ex undef, Ex undef, Ex undef, Ex ?ed36] ⟨stays_ex _, stays_ex _, stays_ex _, stays_ex _, stays_ex _, stays_ex _, stays_ex _, stays_ex _, stays_ex _, stays_ex _, stays_ex _, stays_ex _, stays_ex _, stays_ex _, stays_ex _, stays_ex _, stays_ex _, stays_ex _, stays_ex _, stays_ex _, stays_ex _, stays_ex _, stays_ex _, stays_ex _, stays_ex _, stays_ex _, stays_ex _, stays_ex _, stays_ex _, stays_ex _, stays_ex _, stays_ex _, stays_ex _, stays_ex _, stays_ex _, stays_ex _, stays_ex _, trivial⟩ ?dsteps ?drest
      case dsteps =>
       refine ⟨fun f W hC hh => ?_, fun f W hC hh => ?_, fun f W hC hh => ?_, fun f W hC hh => ?_, fun f W hC hh => ?_, fun f W hC hh => ?_, fun f W hC hh => ?_, fun f W hC hh => ?_, fun f W hC hh => ?_, fun f W hC hh => ?_, fun f W hC hh => ?_, fun f W hC hh => ?_, fun f W hC hh => ?_, fun f W hC hh => ?_, fun f W hC hh => ?_, fun f W hC hh => ?_, fun f W hC hh => ?_, fun f W hC hh => ?_, fun f W hC hh => ?_, fun f W hC hh => ?_, fun f W hC hh => ?_, fun f W hC hh => ?_, fun f W hC hh => ?_, fun f W hC hh => ?_, fun f W hC hh => ?_, fun f W hC hh => ?_, fun f W hC hh => ?_, fun f W hC hh => ?_, fun f W hC hh => ?_, fun f W hC hh => ?_, fun f W hC hh => ?_, fun f W hC hh => ?_, fun f W hC hh => ?_, fun f W hC hh => ?_, fun f W hC hh => ?_, fun f W hC hh => ?_, fun f W hC hh => ?_, trivial⟩
       ·
        refine tab_plain fun K Q hK => ?_
        simp only [puts, foldr_nil]
        obtain ⟨⟨f1, f2, f3, f4⟩, f5, f6, f7⟩ := hcm W hC
        go_step
        exact fam_e hK rfl rfl (Below.refl _ _) hC
       ·
        refine tab_plain fun K Q hK => ?_
        simp only [puts, foldr_nil]
        go_step
        exact fam_e hK rfl rfl (Below.refl _ _) hC
       ·
        obtain ⟨h1, -⟩ := hh
        have g1 : f 1 = _ := h1
        refine tab_plain fun K Q hK => ?_
        simp only [puts, Za, Zb, Zc, Zd, Ze, g1]
        obtain ⟨⟨f1, f2, f3, f4⟩, f5, f6, f7⟩ := hcm W hC
        go_step
        exact fam_e hK rfl rfl (Below.refl _ _) hC
       ·
        obtain ⟨h0, h2, -⟩ := hh
        have g0 : f 0 = _ := h0
        have g2 : f 2 = _ := h2
        refine tab_plain fun K Q hK => ?_
        simp only [puts, Za, Zb, Zc, Zd, Ze, g0, g2]
        go_step
        go_at_call 42
        refine (hst x1 W).mono ?_
        rintro e w' ⟨rfl, hb⟩
        rw [q1]
        exact fam_fin hK rfl rfl hb (hC.trans (hb.mono hC.size))
       ·
        obtain ⟨h3, -⟩ := hh
        have g3 : f 3 = _ := h3
        refine tab_plain fun K Q hK => ?_
        simp only [puts, Za, Zb, Zc, Zd, Ze, g3]
        go_step
        exact fam_e hK rfl rfl (Below.refl _ _) hC
       ·
        obtain ⟨h4, h3, -⟩ := hh
        have g4 : f 4 = _ := h4
        have g3 : f 3 = _ := h3
        refine tab_plain fun K Q hK => ?_
        simp only [puts, Za, Zb, Zc, Zd, Ze, g4, g3]
        go_step
        exact fam_e hK rfl rfl (Below.refl _ _) hC
       ·
        obtain ⟨h5, -⟩ := hh
        have g5 : f 5 = _ := h5
        refine tab_yes g5 fun K Q hK => ?_
        simp only [puts, Za, Zb, Zc, Zd, Ze, g5]
        obtain ⟨⟨f1, f2, f3, f4⟩, f5, f6, f7⟩ := hcm W hC
        go_step
        exact fam_e hK rfl rfl (Below.refl _ _) hC
       ·
        obtain ⟨h5, -⟩ := hh
        have g5 : f 5 = _ := h5
        refine tab_yes g5 fun K Q hK => ?_
        simp only [puts, Za, Zb, Zc, Zd, Ze, g5]
        go_step
        exact fam_e hK rfl rfl (Below.refl _ _) hC
       ·
        obtain ⟨h7, h5, -⟩ := hh
        have g7 : f 7 = _ := h7
        have g5 : f 5 = _ := h5
        refine tab_yes g5 fun K Q hK => ?_
        simp only [puts, Za, Zb, Zc, Zd, Ze, g7, g5]
        obtain ⟨⟨f1, f2, f3, f4⟩, f5, f6, f7⟩ := hcm W hC
        go_step
        exact fam_e hK rfl rfl (Below.refl _ _) hC
       ·
        obtain ⟨h6, h8, h5, _, -⟩ := hh
        have g6 : f 6 = _ := h6
        have g8 : f 8 = _ := h8
        have g5 : f 5 = _ := h5
        refine tab_yes g5 fun K Q hK => ?_
        simp only [puts, Za, Zb, Zc, Zd, Ze, g6, g8, g5]
        go_step
        go_at_call 42
        refine (hst x3 W).mono ?_
        rintro e w' ⟨rfl, hb⟩
        rw [q2]
        exact fam_fin hK rfl rfl hb (hC.trans (hb.mono hC.size))
       ·
        obtain ⟨h9, h5, -⟩ := hh
        have g9 : f 9 = _ := h9
        have g5 : f 5 = _ := h5
        refine tab_yes g5 fun K Q hK => ?_
        simp only [puts, Za, Zb, Zc, Zd, Ze, g9, g5]
        go_step
        exact fam_e hK rfl rfl (Below.refl _ _) hC
       ·
        obtain ⟨h5, h10, -⟩ := hh
        have g5 : f 5 = _ := h5
        have g10 : f 10 = _ := h10
        refine tab_plain fun K Q hK => ?_
        simp only [puts, Za, Zb, Zc, Zd, Ze, g5, g10]
        go_step
        exact fam_e hK rfl rfl (Below.refl _ _) hC
       ·
        obtain ⟨h11, h9, -⟩ := hh
        have g11 : f 11 = _ := h11
        have g9 : f 9 = _ := h9
        refine tab_plain fun K Q hK => ?_
        simp only [puts, Za, Zb, Zc, Zd, Ze, g11, g9]
        go_step
        exact fam_e hK rfl rfl (Below.refl _ _) hC
       ·
        obtain ⟨h12, -⟩ := hh
        have g12 : f 12 = _ := h12
        refine tab_yes g12 fun K Q hK => ?_
        simp only [puts, Za, Zb, Zc, Zd, Ze, g12]
        go_step
        exact fam_e hK rfl rfl (Below.refl _ _) hC
       ·
        obtain ⟨h13, h12, -⟩ := hh
        have g13 : f 13 = _ := h13
        have g12 : f 12 = _ := h12
        refine tab_yes g12 fun K Q hK => ?_
        simp only [puts, Za, Zb, Zc, Zd, Ze, g13, g12]
        obtain ⟨⟨f1, f2, f3, f4⟩, f5, f6, f7⟩ := hcm W hC
        go_step
        exact fam_e hK rfl rfl (Below.refl _ _) hC
       ·
        obtain ⟨h14, h12, -⟩ := hh
        have g14 : f 14 = _ := h14
        have g12 : f 12 = _ := h12
        refine tab_yes g12 fun K Q hK => ?_
        simp only [puts, Za, Zb, Zc, Zd, Ze, g14, g12]
        go_step
        exact fam_e hK rfl rfl (Below.refl _ _) hC
       ·
        obtain ⟨h12, h15, -⟩ := hh
        have g12 : f 12 = _ := h12
        have g15 : f 15 = _ := h15
        refine tab_plain fun K Q hK => ?_
        simp only [puts, Za, Zb, Zc, Zd, Ze, g12, g15]
        go_step
        exact fam_e hK rfl rfl (Below.refl _ _) hC
       ·
        obtain ⟨h16, h12, -⟩ := hh
        have g16 : f 16 = _ := h16
        have g12 : f 12 = _ := h12
        refine tab_plain fun K Q hK => ?_
        simp only [puts, Za, Zb, Zc, Zd, Ze, g16, g12]
        go_step
        exact fam_e hK rfl rfl (Below.refl _ _) hC
       ·
        obtain ⟨h17, -⟩ := hh
        have g17 : f 17 = _ := h17
        exact tab_no rfl g17 (by decide) rfl
       ·
        obtain ⟨h18, h17, -⟩ := hh
        have g18 : f 18 = _ := h18
        have g17 : f 17 = _ := h17
        exact tab_no rfl g17 (by decide) rfl
       ·
        obtain ⟨h19, h17, -⟩ := hh
        have g19 : f 19 = _ := h19
        have g17 : f 17 = _ := h17
        exact tab_no rfl g17 (by decide) rfl
       ·
        obtain ⟨h17, h20, -⟩ := hh
        have g17 : f 17 = _ := h17
        have g20 : f 20 = _ := h20
        refine tab_plain fun K Q hK => ?_
        simp only [puts, Za, Zb, Zc, Zd, Ze, g17, g20]
        go_step
        exact fam_e hK rfl rfl (Below.refl _ _) hC
       ·
        obtain ⟨h21, h17, -⟩ := hh
        have g21 : f 21 = _ := h21
        have g17 : f 17 = _ := h17
        refine tab_plain fun K Q hK => ?_
        simp only [puts, Za, Zb, Zc, Zd, Ze, g21, g17]
        go_step
        exact fam_e hK rfl rfl (Below.refl _ _) hC
       ·
        obtain ⟨h22, -⟩ := hh
        have g22 : f 22 = _ := h22
        exact tab_no rfl g22 (by decide) rfl
       ·
        obtain ⟨h23, h22, -⟩ := hh
        have g23 : f 23 = _ := h23
        have g22 : f 22 = _ := h22
        exact tab_no rfl g22 (by decide) rfl
       ·
        obtain ⟨h24, h22, _, -⟩ := hh
        have g24 : f 24 = _ := h24
        have g22 : f 22 = _ := h22
        exact tab_no rfl g22 (by decide) rfl
       ·
        obtain ⟨h25, -⟩ := hh
        have g25 : f 25 = _ := h25
        exact tab_noU rfl g25 rfl
       ·
        obtain ⟨h26, h25, -⟩ := hh
        have g26 : f 26 = _ := h26
        have g25 : f 25 = _ := h25
        exact tab_noU rfl g25 rfl
       ·
        obtain ⟨h25, -⟩ := hh
        have g25 : f 25 = _ := h25
        exact tab_noU rfl g25 rfl
       ·
        obtain ⟨h28, h25, -⟩ := hh
        have g28 : f 28 = _ := h28
        have g25 : f 25 = _ := h25
        exact tab_noU rfl g25 rfl
       ·
        obtain ⟨h27, h29, h25, -⟩ := hh
        have g27 : f 27 = _ := h27
        have g29 : f 29 = _ := h29
        have g25 : f 25 = _ := h25
        exact tab_noU rfl g25 rfl
       ·
        obtain ⟨h30, h25, -⟩ := hh
        have g30 : f 30 = _ := h30
        have g25 : f 25 = _ := h25
        exact tab_noU rfl g25 rfl
       ·
        obtain ⟨h25, -⟩ := hh
        have g25 : f 25 = _ := h25
        exact tab_noU rfl g25 rfl
       ·
        obtain ⟨h31, h32, h25, _, -⟩ := hh
        have g31 : f 31 = _ := h31
        have g32 : f 32 = _ := h32
        have g25 : f 25 = _ := h25
        exact tab_noU rfl g25 rfl
       ·
        obtain ⟨h33, h25, -⟩ := hh
        have g33 : f 33 = _ := h33
        have g25 : f 25 = _ := h25
        exact tab_noU rfl g25 rfl
       ·
        obtain ⟨h25, h34, h22, -⟩ := hh
        have g25 : f 25 = _ := h25
        have g34 : f 34 = _ := h34
        have g22 : f 22 = _ := h22
        exact tab_no rfl g22 (by decide) rfl
       ·
        obtain ⟨h22, h35, -⟩ := hh
        have g22 : f 22 = _ := h22
        have g35 : f 35 = _ := h35
        refine tab_plain fun K Q hK => ?_
        simp only [puts, Za, Zb, Zc, Zd, Ze, g22, g35]
        go_step
        exact fam_e hK rfl rfl (Below.refl _ _) hC
      case drest =>
       intro f W2 hC hh
       obtain ⟨h0, h1, h2, h3, h4, h5, h6, h7, h8, h9, h10, h11, h12, h13, h14, h15, h16, h17, h18, h19, h20, h21, h22, h23, h24, h25, h26, h27, h28, h29, h30, h31, h32, h33, h34, h35, h36, -⟩ := hh
       have g0 : f 0 = _ := h0
       have g1 : f 1 = _ := h1
       have g2 : f 2 = _ := h2
       have g3 : f 3 = _ := h3
       have g4 : f 4 = _ := h4
       have g5 : f 5 = _ := h5
       have g6 : f 6 = _ := h6
       have g7 : f 7 = _ := h7
       have g8 : f 8 = _ := h8
       have g9 : f 9 = _ := h9
       have g10 : f 10 = _ := h10
       have g11 : f 11 = _ := h11
       have g12 : f 12 = _ := h12
       have g13 : f 13 = _ := h13
       have g14 : f 14 = _ := h14
       have g15 : f 15 = _ := h15
       have g16 : f 16 = _ := h16
       have g17 : f 17 = _ := h17
       have g18 : f 18 = _ := h18
       have g19 : f 19 = _ := h19
       have g20 : f 20 = _ := h20
       have g21 : f 21 = _ := h21
       have g22 : f 22 = _ := h22
       have g23 : f 23 = _ := h23
       have g24 : f 24 = _ := h24
       have g25 : f 25 = _ := h25
       have g26 : f 26 = _ := h26
       have g27 : f 27 = _ := h27
       have g28 : f 28 = _ := h28
       have g29 : f 29 = _ := h29
       have g30 : f 30 = _ := h30
       have g31 : f 31 = _ := h31
       have g32 : f 32 = _ := h32
       have g33 : f 33 = _ := h33
       have g34 : f 34 = _ := h34
       have g35 : f 35 = _ := h35
       have g36 : f 36 = _ := h36
       simp only [puts, Za, Zb, Zc, Zd, Ze, g0, g1, g2, g3, g4, g5, g6, g7, g8, g9, g10, g11, g12, g13, g14, g15, g16, g17, g18, g19, g20, g21, g22, g23, g24, g25, g26, g27, g28, g29, g30, g31, g32, g33, g34, g35, g36]
       clear h0 h1 h2 h3 h4 h5 h6 h7 h8 h9 h10 h11 h12 h13 h14 h15 h16 h17 h18 h19 h20 h21 h22 h23 h24 h25 h26 h27 h28 h29 h30 h31 h32 h33 h34 h35 h36 g0 g1 g2 g3 g4 g5 g6 g7 g8 g9 g10 g11 g12 g13 g14 g15 g16 g17 g18 g19 g20 g21 g22 g23 g24 g25 g26 g27 g28 g29 g30 g31 g32 g33 g34 g35 g36
       go_wp2
       go_ret
       exact ⟨by rw [← HNO.out HQ.out]; rfl, HBN.out.trans (hC.mono HBN.out.size)⟩
     have q3 : decide (x2 < 0) = false := decide_eq_false h8
     by_cases h9 : 10000 < x2
     ·have q4 : decide (10000 < x2) = true := decide_eq_true h9
      have HQ : Hid (¬ ArcOkN n es k) := Lib.hid fun h => by have := h.2.1.2; rw [HX.out] at this; simp only at this; omega
      clear h9 h8
      go_wp2_with (fail)
      refine wp_region_grow mixed (by kernel_rfl) [[], [], [(1, 65)], [(0, 64), (2, 66)], [(3, 67)], [(4, 68), (3, 67)], [(5, 69)], [(5, 69)], [(7, 71), (5, 69)], [(6, 70), (8, 72), (5, 69), (5, 69)], [(9, 73), (5, 69)], [(5, 69), (10, 74)], [(11, 75), (9, 73)], [(12, 76)], [(13, 77), (12, 76)], [(14, 78), (12, 76)], [(12, 76), (15, 79)], [(16, 80), (12, 76)], [(17, 81)], [(18, 82), (17, 81)], [(19, 83), (17, 81)], [(17, 81), (20, 84)], [(21, 85), (17, 81)], [(22, 86)], [(23, 87), (22, 86)], [(24, 88), (22, 86), (22, 86)], [(25, 89)], [(26, 90), (25, 89)], [(25, 89)], [(28, 92), (25, 89)], [(27, 91), (29, 93), (25, 89)], [(30, 94), (25, 89)], [(25, 89)], [(31, 95), (32, 96), (25, 89), (25, 89)], [(33, 97), (25, 89)], [(25, 89), (34, 98), (22, 86)], [(22, 86), (35, 99)]] [(0, 64), (1, 65), (2, 66), (3, 67), (4, 68), (5, 69), (6, 70), (7, 71), (8, 72), (9, 73), (10, 74), (11, 75), (12, 76), (13, 77), (14, 78), (15, 79), (16, 80), (17, 81), (18, 82), (19, 83), (20, 84), (21, 85), (22, 86), (23, 87), (24, 88), (25, 89), (26, 90), (27, 91), (28, 92), (29, 93), (30, 94), (31, 95), (32, 96), (33, 97), (34, 98), (35, 99), (36, 100)] rfl rfl [Ex ?ee0, Ex ?ee1, Ex ?ee2, Ex (.bool true), Ex ?ee4, Ex ?ee5, Ex ?ee6, Ex ?ee7, Ex ?ee8, Ex (.bool true), Ex ?ee10, Ex ?ee11, Ex ?ee12, Ex ?ee13, Ex ?ee14, Ex ?ee15, Ex ?ee16, Ex ?ee17, Ex ?ee18, Ex ?ee19, Ex ?ee20, Ex ?ee21, Ex ?ee22, Ex undef, Ex undef, Ex undef, Ex undef, Ex undef, Ex undef, Ex undef, Ex undef, Ex undef, Ex undef, Ex undef, Ex undef, Ex undef, Ex ?ee36] ⟨stays_ex _, stays_ex _, stays_ex _, stays_ex _, stays_ex _, stays_ex _, stays_ex _, stays_ex _, stays_ex _, stays_ex _, stays_ex _, stays_ex _, stays_ex _, stays_ex _, stays_ex _, stays_ex _, stays_ex _, stays_ex _, stays_ex _, stays_ex _, stays_ex _, stays_ex _, stays_ex _, stays_ex _, stays_ex _, stays_ex _, stays_ex _, stays_ex _, stays_ex _, stays_ex _, stays_ex _, stays_ex _, stays_ex _, stays_ex _, stays_ex _, stays_ex _, stays_ex _, trivial⟩ ?esteps ?erest
      case esteps =>
       refine ⟨fun f W hC hh => ?_, fun f W hC hh => ?_, fun f W hC hh => ?_, fun f W hC hh => ?_, fun f W hC hh => ?_, fun f W hC hh => ?_, fun f W hC hh => ?_, fun f W hC hh => ?_, fun f W hC hh => ?_, fun f W hC hh => ?_, fun f W hC hh => ?_, fun f W hC hh => ?_, fun f W hC hh => ?_, fun f W hC hh => ?_, fun f W hC hh => ?_, fun f W hC hh => ?_, fun f W hC hh => ?_, fun f W hC hh => ?_, fun f W hC hh => ?_, fun f W hC hh => ?_, fun f W hC hh => ?_, fun f W hC hh => ?_, fun f W hC hh => ?_, fun f W hC hh => ?_, fun f W hC hh => ?_, fun f W hC hh => ?_, fun f W hC hh => ?_, fun f W hC hh => ?_, fun f W hC hh => ?_, fun f W hC hh => ?_, fun f W hC hh => ?_, fun f W hC hh => ?_, fun f W hC hh => ?_, fun f W hC hh => ?_, fun f W hC hh => ?_, fun f W hC hh => ?_, fun f W hC hh => ?_, trivial⟩
       ·
        refine tab_plain fun K Q hK => ?_
        simp only [puts, foldr_nil]
        obtain ⟨⟨f1, f2, f3, f4⟩, f5, f6, f7⟩ := hcm W hC
        go_step
        exact fam_e hK rfl rfl (Below.refl _ _) hC
       ·
        refine tab_plain fun K Q hK => ?_
        simp only [puts, foldr_nil]
        go_step
        exact fam_e hK rfl rfl (Below.refl _ _) hC
       ·
        obtain ⟨h1, -⟩ := hh
        have g1 : f 1 = _ := h1
        refine tab_plain fun K Q hK => ?_
        simp only [puts, Za, Zb, Zc, Zd, Ze, g1]
        obtain ⟨⟨f1, f2, f3, f4⟩, f5, f6, f7⟩ := hcm W hC
        go_step
        exact fam_e hK rfl rfl (Below.refl _ _) hC
       ·
        obtain ⟨h0, h2, -⟩ := hh
        have g0 : f 0 = _ := h0
        have g2 : f 2 = _ := h2
        refine tab_plain fun K Q hK => ?_
        simp only [puts, Za, Zb, Zc, Zd, Ze, g0, g2]
        go_step
        go_at_call 42
        refine (hst x1 W).mono ?_
        rintro e w' ⟨rfl, hb⟩
        rw [q1]
        exact fam_fin hK rfl rfl hb (hC.trans (hb.mono hC.size))
       ·
        obtain ⟨h3, -⟩ := hh
        have g3 : f 3 = _ := h3
        refine tab_plain fun K Q hK => ?_
        simp only [puts, Za, Zb, Zc, Zd, Ze, g3]
        go_step
        exact fam_e hK rfl rfl (Below.refl _ _) hC
       ·
        obtain ⟨h4, h3, -⟩ := hh
        have g4 : f 4 = _ := h4
        have g3 : f 3 = _ := h3
        refine tab_plain fun K Q hK => ?_
        simp only [puts, Za, Zb, Zc, Zd, Ze, g4, g3]
        go_step
        exact fam_e hK rfl rfl (Below.refl _ _) hC
       ·
        obtain ⟨h5, -⟩ := hh
        have g5 : f 5 = _ := h5
        refine tab_yes g5 fun K Q hK => ?_
        simp only [puts, Za, Zb, Zc, Zd, Ze, g5]
        obtain ⟨⟨f1, f2, f3, f4⟩, f5, f6, f7⟩ := hcm W hC
        go_step
        exact fam_e hK rfl rfl (Below.refl _ _) hC
       ·
        obtain ⟨h5, -⟩ := hh
        have g5 : f 5 = _ := h5
        refine tab_yes g5 fun K Q hK => ?_
        simp only [puts, Za, Zb, Zc, Zd, Ze, g5]
        go_step
        exact fam_e hK rfl rfl (Below.refl _ _) hC
       ·
        obtain ⟨h7, h5, -⟩ := hh
        have g7 : f 7 = _ := h7
        have g5 : f 5 = _ := h5
        refine tab_yes g5 fun K Q hK => ?_
        simp only [puts, Za, Zb, Zc, Zd, Ze, g7, g5]
        obtain ⟨⟨f1, f2, f3, f4⟩, f5, f6, f7⟩ := hcm W hC
        go_step
        exact fam_e hK rfl rfl (Below.refl _ _) hC
       ·
        obtain ⟨h6, h8, h5, _, -⟩ := hh
        have g6 : f 6 = _ := h6
        have g8 : f 8 = _ := h8
        have g5 : f 5 = _ := h5
        refine tab_yes g5 fun K Q hK => ?_
        simp only [puts, Za, Zb, Zc, Zd, Ze, g6, g8, g5]
        go_step
        go_at_call 42
        refine (hst x3 W).mono ?_
        rintro e w' ⟨rfl, hb⟩
        rw [q2]
        exact fam_fin hK rfl rfl hb (hC.trans (hb.mono hC.size))
       ·
        obtain ⟨h9, h5, -⟩ := hh
        have g9 : f 9 = _ := h9
        have g5 : f 5 = _ := h5
        refine tab_yes g5 fun K Q hK => ?_
        simp only [puts, Za, Zb, Zc, Zd, Ze, g9, g5]
        go_step
        exact fam_e hK rfl rfl (Below.refl _ _) hC
       ·
        obtain ⟨h5, h10, -⟩ := hh
        have g5 : f 5 = _ := h5
        have g10 : f 10 = _ := h10
        refine tab_plain fun K Q hK => ?_
        simp only [puts, Za, Zb, Zc, Zd, Ze, g5, g10]
        go_step
        exact fam_e hK rfl rfl (Below.refl _ _) hC
       ·
        obtain ⟨h11, h9, -⟩ := hh
        have g11 : f 11 = _ := h11
        have g9 : f 9 = _ := h9
        refine tab_plain fun K Q hK => ?_
        simp only [puts, Za, Zb, Zc, Zd, Ze, g11, g9]
        go_step
        exact fam_e hK rfl rfl (Below.refl _ _) hC
       ·
        obtain ⟨h12, -⟩ := hh
        have g12 : f 12 = _ := h12
        refine tab_yes g12 fun K Q hK => ?_
        simp only [puts, Za, Zb, Zc, Zd, Ze, g12]
        go_step
        exact fam_e hK rfl rfl (Below.refl _ _) hC
       ·
        obtain ⟨h13, h12, -⟩ := hh
        have g13 : f 13 = _ := h13
        have g12 : f 12 = _ := h12
        refine tab_yes g12 fun K Q hK => ?_
        simp only [puts, Za, Zb, Zc, Zd, Ze, g13, g12]
        obtain ⟨⟨f1, f2, f3, f4⟩, f5, f6, f7⟩ := hcm W hC
        go_step
        exact fam_e hK rfl rfl (Below.refl _ _) hC
       ·
        obtain ⟨h14, h12, -⟩ := hh
        have g14 : f 14 = _ := h14
        have g12 : f 12 = _ := h12
        refine tab_yes g12 fun K Q hK => ?_
        simp only [puts, Za, Zb, Zc, Zd, Ze, g14, g12]
        go_step
        exact fam_e hK rfl rfl (Below.refl _ _) hC
       ·
        obtain ⟨h12, h15, -⟩ := hh
        have g12 : f 12 = _ := h12
        have g15 : f 15 = _ := h15
        refine tab_plain fun K Q hK => ?_
        simp only [puts, Za, Zb, Zc, Zd, Ze, g12, g15]
        go_step
        exact fam_e hK rfl rfl (Below.refl _ _) hC
       ·
        obtain ⟨h16, h12, -⟩ := hh
        have g16 : f 16 = _ := h16
        have g12 : f 12 = _ := h12
        refine tab_plain fun K Q hK => ?_
        simp only [puts, Za, Zb, Zc, Zd, Ze, g16, g12]
        go_step
        exact fam_e hK rfl rfl (Below.refl _ _) hC
       ·
        obtain ⟨h17, -⟩ := hh
        have g17 : f 17 = _ := h17
        refine tab_yes g17 fun K Q hK => ?_
        simp only [puts, Za, Zb, Zc, Zd, Ze, g17]
        go_step
        exact fam_e hK rfl rfl (Below.refl _ _) hC
       ·
        obtain ⟨h18, h17, -⟩ := hh
        have g18 : f 18 = _ := h18
        have g17 : f 17 = _ := h17
        refine tab_yes g17 fun K Q hK => ?_
        simp only [puts, Za, Zb, Zc, Zd, Ze, g18, g17]
        obtain ⟨⟨f1, f2, f3, f4⟩, f5, f6, f7⟩ := hcm W hC
        go_step
        exact fam_e hK rfl rfl (Below.refl _ _) hC
       ·
        obtain ⟨h19, h17, -⟩ := hh
        have g19 : f 19 = _ := h19
        have g17 : f 17 = _ := h17
        refine tab_yes g17 fun K Q hK => ?_
        simp only [puts, Za, Zb, Zc, Zd, Ze, g19, g17]
        go_step
        exact fam_e hK rfl rfl (Below.refl _ _) hC
       ·
        obtain ⟨h17, h20, -⟩ := hh
        have g17 : f 17 = _ := h17
        have g20 : f 20 = _ := h20
        refine tab_plain fun K Q hK => ?_
        simp only [puts, Za, Zb, Zc, Zd, Ze, g17, g20]
        go_step
        exact fam_e hK rfl rfl (Below.refl _ _) hC
       ·
        obtain ⟨h21, h17, -⟩ := hh
        have g21 : f 21 = _ := h21
        have g17 : f 17 = _ := h17
        refine tab_plain fun K Q hK => ?_
        simp only [puts, Za, Zb, Zc, Zd, Ze, g21, g17]
        go_step
        exact fam_e hK rfl rfl (Below.refl _ _) hC
       ·
        obtain ⟨h22, -⟩ := hh
        have g22 : f 22 = _ := h22
        exact tab_no rfl g22 (by decide) rfl
       ·
        obtain ⟨h23, h22, -⟩ := hh
        have g23 : f 23 = _ := h23
        have g22 : f 22 = _ := h22
        exact tab_no rfl g22 (by decide) rfl
       ·
        obtain ⟨h24, h22, _, -⟩ := hh
        have g24 : f 24 = _ := h24
        have g22 : f 22 = _ := h22
        exact tab_no rfl g22 (by decide) rfl
       ·
        obtain ⟨h25, -⟩ := hh
        have g25 : f 25 = _ := h25
        exact tab_noU rfl g25 rfl
       ·
        obtain ⟨h26, h25, -⟩ := hh
        have g26 : f 26 = _ := h26
        have g25 : f 25 = _ := h25
        exact tab_noU rfl g25 rfl
       ·
        obtain ⟨h25, -⟩ := hh
        have g25 : f 25 = _ := h25
        exact tab_noU rfl g25 rfl
       ·
        obtain ⟨h28, h25, -⟩ := hh
        have g28 : f 28 = _ := h28
        have g25 : f 25 = _ := h25
        exact tab_noU rfl g25 rfl
       ·
        obtain ⟨h27, h29, h25, -⟩ := hh
        have g27 : f 27 = _ := h27
        have g29 : f 29 = _ := h29
        have g25 : f 25 = _ := h25
        exact tab_noU rfl g25 rfl
       ·
        obtain ⟨h30, h25, -⟩ := hh
        have g30 : f 30 = _ := h30
        have g25 : f 25 = _ := h25
        exact tab_noU rfl g25 rfl
       ·
        obtain ⟨h25, -⟩ := hh
        have g25 : f 25 = _ := h25
        exact tab_noU rfl g25 rfl
       ·
        obtain ⟨h31, h32, h25, _, -⟩ := hh
        have g31 : f 31 = _ := h31
        have g32 : f 32 = _ := h32
        have g25 : f 25 = _ := h25
        exact tab_noU rfl g25 rfl
       ·
        obtain ⟨h33, h25, -⟩ := hh
        have g33 : f 33 = _ := h33
        have g25 : f 25 = _ := h25
        exact tab_noU rfl g25 rfl
       ·
        obtain ⟨h25, h34, h22, -⟩ := hh
        have g25 : f 25 = _ := h25
        have g34 : f 34 = _ := h34
        have g22 : f 22 = _ := h22
        exact tab_no rfl g22 (by decide) rfl
       ·
        obtain ⟨h22, h35, -⟩ := hh
        have g22 : f 22 = _ := h22
        have g35 : f 35 = _ := h35
        refine tab_plain fun K Q hK => ?_
        simp only [puts, Za, Zb, Zc, Zd, Ze, g22, g35]
        go_step
        exact fam_e hK rfl rfl (Below.refl _ _) hC
      case erest =>
       intro f W2 hC hh
       obtain ⟨h0, h1, h2, h3, h4, h5, h6, h7, h8, h9, h10, h11, h12, h13, h14, h15, h16, h17, h18, h19, h20, h21, h22, h23, h24, h25, h26, h27, h28, h29, h30, h31, h32, h33, h34, h35, h36, -⟩ := hh
       have g0 : f 0 = _ := h0
       have g1 : f 1 = _ := h1
       have g2 : f 2 = _ := h2
       have g3 : f 3 = _ := h3
       have g4 : f 4 = _ := h4
       have g5 : f 5 = _ := h5
       have g6 : f 6 = _ := h6
       have g7 : f 7 = _ := h7
       have g8 : f 8 = _ := h8
       have g9 : f 9 = _ := h9
       have g10 : f 10 = _ := h10
       have g11 : f 11 = _ := h11
       have g12 : f 12 = _ := h12
       have g13 : f 13 = _ := h13
       have g14 : f 14 = _ := h14
       have g15 : f 15 = _ := h15
       have g16 : f 16 = _ := h16
       have g17 : f 17 = _ := h17
       have g18 : f 18 = _ := h18
       have g19 : f 19 = _ := h19
       have g20 : f 20 = _ := h20
       have g21 : f 21 = _ := h21
       have g22 : f 22 = _ := h22
       have g23 : f 23 = _ := h23
       have g24 : f 24 = _ := h24
       have g25 : f 25 = _ := h25
       have g26 : f 26 = _ := h26
       have g27 : f 27 = _ := h27
       have g28 : f 28 = _ := h28
       have g29 : f 29 = _ := h29
       have g30 : f 30 = _ := h30
       have g31 : f 31 = _ := h31
       have g32 : f 32 = _ := h32
       have g33 : f 33 = _ := h33
       have g34 : f 34 = _ := h34
       have g35 : f 35 = _ := h35
       have g36 : f 36 = _ := h36
       simp only [puts, Za, Zb, Zc, Zd, Ze, g0, g1, g2, g3, g4, g5, g6, g7, g8, g9, g10, g11, g12, g13, g14, g15, g16, g17, g18, g19, g20, g21, g22, g23, g24, g25, g26, g27, g28, g29, g30, g31, g32, g33, g34, g35, g36]
       clear h0 h1 h2 h3 h4 h5 h6 h7 h8 h9 h10 h11 h12 h13 h14 h15 h16 h17 h18 h19 h20 h21 h22 h23 h24 h25 h26 h27 h28 h29 h30 h31 h32 h33 h34 h35 h36 g0 g1 g2 g3 g4 g5 g6 g7 g8 g9 g10 g11 g12 g13 g14 g15 g16 g17 g18 g19 g20 g21 g22 g23 g24 g25 g26 g27 g28 g29 g30 g31 g32 g33 g34 g35 g36
       go_wp2
       go_ret
       exact ⟨by rw [← HNO.out HQ.out]; rfl, HBN.out.trans (hC.mono HBN.out.size)⟩
     have q4 : decide (10000 < x2) = false := decide_eq_false h9
     have H8 := Lib.hid (show 0 ≤ x2 ∧ x2 ≤ 10000 by omega)
     clear h8 h9
     by_cases h10 : k = 0
     ·have q5 : decide (0 < k) = false := decide_eq_false (by omega)
      have HK0 := Lib.hid h10
      clear h10
      go_wp2_with (fail)
      refine wp_region_grow mixed (by kernel_rfl) [[], [], [(1, 65)], [(0, 64), (2, 66)], [(3, 67)], [(4, 68), (3, 67)], [(5, 69)], [(5, 69)], [(7, 71), (5, 69)], [(6, 70), (8, 72), (5, 69), (5, 69)], [(9, 73), (5, 69)], [(5, 69), (10, 74)], [(11, 75), (9, 73)], [(12, 76)], [(13, 77), (12, 76)], [(14, 78), (12, 76)], [(12, 76), (15, 79)], [(16, 80), (12, 76)], [(17, 81)], [(18, 82), (17, 81)], [(19, 83), (17, 81)], [(17, 81), (20, 84)], [(21, 85), (17, 81)], [(22, 86)], [(23, 87), (22, 86)], [(24, 88), (22, 86), (22, 86)], [(25, 89)], [(26, 90), (25, 89)], [(25, 89)], [(28, 92), (25, 89)], [(27, 91), (29, 93), (25, 89)], [(30, 94), (25, 89)], [(25, 89)], [(31, 95), (32, 96), (25, 89), (25, 89)], [(33, 97), (25, 89)], [(25, 89), (34, 98), (22, 86)], [(22, 86), (35, 99)]] [(0, 64), (1, 65), (2, 66), (3, 67), (4, 68), (5, 69), (6, 70), (7, 71), (8, 72), (9, 73), (10, 74), (11, 75), (12, 76), (13, 77), (14, 78), (15, 79), (16, 80), (17, 81), (18, 82), (19, 83), (20, 84), (21, 85), (22, 86), (23, 87), (24, 88), (25, 89), (26, 90), (27, 91), (28, 92), (29, 93), (30, 94), (31, 95), (32, 96), (33, 97), (34, 98), (35, 99), (36, 100)] rfl rfl [Ex ?ef0, Ex ?ef1, Ex ?ef2, Ex (.bool true), Ex ?ef4, Ex ?ef5, Ex ?ef6, Ex ?ef7, Ex ?ef8, Ex (.bool true), Ex ?ef10, Ex ?ef11, Ex ?ef12, Ex ?ef13, Ex ?ef14, Ex ?ef15, Ex ?ef16, Ex ?ef17, Ex ?ef18, Ex ?ef19, Ex ?ef20, Ex ?ef21, Ex ?ef22, Ex ?ef23, Ex ?ef24, Ex ?ef25, Ex undef, Ex undef, Ex undef, Ex undef, Ex undef, Ex undef, Ex undef, Ex undef, Ex undef, Ex ?ef35, Ex ?ef36] ⟨stays_ex _, stays_ex _, stays_ex _, stays_ex _, stays_ex _, stays_ex _, stays_ex _, stays_ex _, stays_ex _, stays_ex _, stays_ex _, stays_ex _, stays_ex _, stays_ex _, stays_ex _, stays_ex _, stays_ex _, stays_ex _, stays_ex _, stays_ex _, stays_ex _, stays_ex _, stays_ex _, stays_ex _, stays_ex _, stays_ex _, stays_ex _, stays_ex _, stays_ex _, stays_ex _, stays_ex _, stays_ex _, stays_ex _, stays_ex _, stays_ex _, stays_ex _, stays_ex _, trivial⟩ ?fsteps ?frest
      case fsteps =>
       refine ⟨fun f W hC hh => ?_, fun f W hC hh => ?_, fun f W hC hh => ?_, fun f W hC hh => ?_, fun f W hC hh => ?_, fun f W hC hh => ?_, fun f W hC hh => ?_, fun f W hC hh => ?_, fun f W hC hh => ?_, fun f W hC hh => ?_, fun f W hC hh => ?_, fun f W hC hh => ?_, fun f W hC hh => ?_, fun f W hC hh => ?_, fun f W hC hh => ?_, fun f W hC hh => ?_, fun f W hC hh => ?_, fun f W hC hh => ?_, fun f W hC hh => ?_, fun f W hC hh => ?_, fun f W hC hh => ?_, fun f W hC hh => ?_, fun f W hC hh => ?_, fun f W hC hh => ?_, fun f W hC hh => ?_, fun f W hC hh => ?_, fun f W hC hh => ?_, fun f W hC hh => ?_, fun f W hC hh => ?_, fun f W hC hh => ?_, fun f W hC hh => ?_, fun f W hC hh => ?_, fun f W hC hh => ?_, fun f W hC hh => ?_, fun f W hC hh => ?_, fun f W hC hh => ?_, fun f W hC hh => ?_, trivial⟩
       ·
        refine tab_plain fun K Q hK => ?_
        simp only [puts, foldr_nil]
        obtain ⟨⟨f1, f2, f3, f4⟩, f5, f6, f7⟩ := hcm W hC
        go_step
        exact fam_e hK rfl rfl (Below.refl _ _) hC
       ·
        refine tab_plain fun K Q hK => ?_
        simp only [puts, foldr_nil]
        go_step
        exact fam_e hK rfl rfl (Below.refl _ _) hC
       ·
        obtain ⟨h1, -⟩ := hh
        have g1 : f 1 = _ := h1
        refine tab_plain fun K Q hK => ?_
        simp only [puts, Za, Zb, Zc, Zd, Ze, g1]
        obtain ⟨⟨f1, f2, f3, f4⟩, f5, f6, f7⟩ := hcm W hC
        go_step
        exact fam_e hK rfl rfl (Below.refl _ _) hC
       ·
        obtain ⟨h0, h2, -⟩ := hh
        have g0 : f 0 = _ := h0
        have g2 : f 2 = _ := h2
        refine tab_plain fun K Q hK => ?_
        simp only [puts, Za, Zb, Zc, Zd, Ze, g0, g2]
        go_step
        go_at_call 42
        refine (hst x1 W).mono ?_
        rintro e w' ⟨rfl, hb⟩
        rw [q1]
        exact fam_fin hK rfl rfl hb (hC.trans (hb.mono hC.size))
       ·
        obtain ⟨h3, -⟩ := hh
        have g3 : f 3 = _ := h3
        refine tab_plain fun K Q hK => ?_
        simp only [puts, Za, Zb, Zc, Zd, Ze, g3]
        go_step
        exact fam_e hK rfl rfl (Below.refl _ _) hC
       ·
        obtain ⟨h4, h3, -⟩ := hh
        have g4 : f 4 = _ := h4
        have g3 : f 3 = _ := h3
        refine tab_plain fun K Q hK => ?_
        simp only [puts, Za, Zb, Zc, Zd, Ze, g4, g3]
        go_step
        exact fam_e hK rfl rfl (Below.refl _ _) hC
       ·
        obtain ⟨h5, -⟩ := hh
        have g5 : f 5 = _ := h5
        refine tab_yes g5 fun K Q hK => ?_
        simp only [puts, Za, Zb, Zc, Zd, Ze, g5]
        obtain ⟨⟨f1, f2, f3, f4⟩, f5, f6, f7⟩ := hcm W hC
        go_step
        exact fam_e hK rfl rfl (Below.refl _ _) hC
       ·
        obtain ⟨h5, -⟩ := hh
        have g5 : f 5 = _ := h5
        refine tab_yes g5 fun K Q hK => ?_
        simp only [puts, Za, Zb, Zc, Zd, Ze, g5]
        go_step
        exact fam_e hK rfl rfl (Below.refl _ _) hC
       ·
        obtain ⟨h7, h5, -⟩ := hh
        have g7 : f 7 = _ := h7
        have g5 : f 5 = _ := h5
        refine tab_yes g5 fun K Q hK => ?_
        simp only [puts, Za, Zb, Zc, Zd, Ze, g7, g5]
        obtain ⟨⟨f1, f2, f3, f4⟩, f5, f6, f7⟩ := hcm W hC
        go_step
        exact fam_e hK rfl rfl (Below.refl _ _) hC
       ·
        obtain ⟨h6, h8, h5, _, -⟩ := hh
        have g6 : f 6 = _ := h6
        have g8 : f 8 = _ := h8
        have g5 : f 5 = _ := h5
        refine tab_yes g5 fun K Q hK => ?_
        simp only [puts, Za, Zb, Zc, Zd, Ze, g6, g8, g5]
        go_step
        go_at_call 42
        refine (hst x3 W).mono ?_
        rintro e w' ⟨rfl, hb⟩
        rw [q2]
        exact fam_fin hK rfl rfl hb (hC.trans (hb.mono hC.size))
       ·
        obtain ⟨h9, h5, -⟩ := hh
        have g9 : f 9 = _ := h9
        have g5 : f 5 = _ := h5
        refine tab_yes g5 fun K Q hK => ?_
        simp only [puts, Za, Zb, Zc, Zd, Ze, g9, g5]
        go_step
        exact fam_e hK rfl rfl (Below.refl _ _) hC
       ·
        obtain ⟨h5, h10, -⟩ := hh
        have g5 : f 5 = _ := h5
        have g10 : f 10 = _ := h10
        refine tab_plain fun K Q hK => ?_
        simp only [puts, Za, Zb, Zc, Zd, Ze, g5, g10]
        go_step
        exact fam_e hK rfl rfl (Below.refl _ _) hC
       ·
        obtain ⟨h11, h9, -⟩ := hh
        have g11 : f 11 = _ := h11
        have g9 : f 9 = _ := h9
        refine tab_plain fun K Q hK => ?_
        simp only [puts, Za, Zb, Zc, Zd, Ze, g11, g9]
        go_step
        exact fam_e hK rfl rfl (Below.refl _ _) hC
       ·
        obtain ⟨h12, -⟩ := hh
        have g12 : f 12 = _ := h12
        refine tab_yes g12 fun K Q hK => ?_
        simp only [puts, Za, Zb, Zc, Zd, Ze, g12]
        go_step
        exact fam_e hK rfl rfl (Below.refl _ _) hC
       ·
        obtain ⟨h13, h12, -⟩ := hh
        have g13 : f 13 = _ := h13
        have g12 : f 12 = _ := h12
        refine tab_yes g12 fun K Q hK => ?_
        simp only [puts, Za, Zb, Zc, Zd, Ze, g13, g12]
        obtain ⟨⟨f1, f2, f3, f4⟩, f5, f6, f7⟩ := hcm W hC
        go_step
        exact fam_e hK rfl rfl (Below.refl _ _) hC
       ·
        obtain ⟨h14, h12, -⟩ := hh
        have g14 : f 14 = _ := h14
        have g12 : f 12 = _ := h12
        refine tab_yes g12 fun K Q hK => ?_
        simp only [puts, Za, Zb, Zc, Zd, Ze, g14, g12]
        go_step
        exact fam_e hK rfl rfl (Below.refl _ _) hC
       ·
        obtain ⟨h12, h15, -⟩ := hh
        have g12 : f 12 = _ := h12
        have g15 : f 15 = _ := h15
        refine tab_plain fun K Q hK => ?_
        simp only [puts, Za, Zb, Zc, Zd, Ze, g12, g15]
        go_step
        exact fam_e hK rfl rfl (Below.refl _ _) hC
       ·
        obtain ⟨h16, h12, -⟩ := hh
        have g16 : f 16 = _ := h16
        have g12 : f 12 = _ := h12
        refine tab_plain fun K Q hK => ?_
        simp only [puts, Za, Zb, Zc, Zd, Ze, g16, g12]
        go_step
        exact fam_e hK rfl rfl (Below.refl _ _) hC
       ·
        obtain ⟨h17, -⟩ := hh
        have g17 : f 17 = _ := h17
        refine tab_yes g17 fun K Q hK => ?_
        simp only [puts, Za, Zb, Zc, Zd, Ze, g17]
        go_step
        exact fam_e hK rfl rfl (Below.refl _ _) hC
       ·
        obtain ⟨h18, h17, -⟩ := hh
        have g18 : f 18 = _ := h18
        have g17 : f 17 = _ := h17
        refine tab_yes g17 fun K Q hK => ?_
        simp only [puts, Za, Zb, Zc, Zd, Ze, g18, g17]
        obtain ⟨⟨f1, f2, f3, f4⟩, f5, f6, f7⟩ := hcm W hC
        go_step
        exact fam_e hK rfl rfl (Below.refl _ _) hC
       ·
        obtain ⟨h19, h17, -⟩ := hh
        have g19 : f 19 = _ := h19
        have g17 : f 17 = _ := h17
        refine tab_yes g17 fun K Q hK => ?_
        simp only [puts, Za, Zb, Zc, Zd, Ze, g19, g17]
        go_step
        exact fam_e hK rfl rfl (Below.refl _ _) hC
       ·
        obtain ⟨h17, h20, -⟩ := hh
        have g17 : f 17 = _ := h17
        have g20 : f 20 = _ := h20
        refine tab_plain fun K Q hK => ?_
        simp only [puts, Za, Zb, Zc, Zd, Ze, g17, g20]
        go_step
        exact fam_e hK rfl rfl (Below.refl _ _) hC
       ·
        obtain ⟨h21, h17, -⟩ := hh
        have g21 : f 21 = _ := h21
        have g17 : f 17 = _ := h17
        refine tab_plain fun K Q hK => ?_
        simp only [puts, Za, Zb, Zc, Zd, Ze, g21, g17]
        go_step
        exact fam_e hK rfl rfl (Below.refl _ _) hC
       ·
        obtain ⟨h22, -⟩ := hh
        have g22 : f 22 = _ := h22
        refine tab_yes g22 fun K Q hK => ?_
        simp only [puts, Za, Zb, Zc, Zd, Ze, g22]
        go_step
        exact fam_e hK rfl rfl (Below.refl _ _) hC
       ·
        obtain ⟨h23, h22, -⟩ := hh
        have g23 : f 23 = _ := h23
        have g22 : f 22 = _ := h22
        refine tab_yes g22 fun K Q hK => ?_
        simp only [puts, Za, Zb, Zc, Zd, Ze, g23, g22]
        go_step
        exact fam_e hK rfl rfl (Below.refl _ _) hC
       ·
        obtain ⟨h24, h22, _, -⟩ := hh
        have g24 : f 24 = _ := h24
        have g22 : f 22 = _ := h22
        refine tab_yes g22 fun K Q hK => ?_
        simp only [puts, Za, Zb, Zc, Zd, Ze, g24, g22]
        go_step
        exact fam_e hK rfl rfl (Below.refl _ _) hC
       ·
        obtain ⟨h25, -⟩ := hh
        have g25 : f 25 = _ := h25
        exact tab_no rfl g25 (by decide) rfl
       ·
        obtain ⟨h26, h25, -⟩ := hh
        have g26 : f 26 = _ := h26
        have g25 : f 25 = _ := h25
        exact tab_no rfl g25 (by decide) rfl
       ·
        obtain ⟨h25, -⟩ := hh
        have g25 : f 25 = _ := h25
        exact tab_no rfl g25 (by decide) rfl
       ·
        obtain ⟨h28, h25, -⟩ := hh
        have g28 : f 28 = _ := h28
        have g25 : f 25 = _ := h25
        exact tab_no rfl g25 (by decide) rfl
       ·
        obtain ⟨h27, h29, h25, -⟩ := hh
        have g27 : f 27 = _ := h27
        have g29 : f 29 = _ := h29
        have g25 : f 25 = _ := h25
        exact tab_no rfl g25 (by decide) rfl
       ·
        obtain ⟨h30, h25, -⟩ := hh
        have g30 : f 30 = _ := h30
        have g25 : f 25 = _ := h25
        exact tab_no rfl g25 (by decide) rfl
       ·
        obtain ⟨h25, -⟩ := hh
        have g25 : f 25 = _ := h25
        exact tab_no rfl g25 (by decide) rfl
       ·
        obtain ⟨h31, h32, h25, _, -⟩ := hh
        have g31 : f 31 = _ := h31
        have g32 : f 32 = _ := h32
        have g25 : f 25 = _ := h25
        exact tab_no rfl g25 (by decide) rfl
       ·
        obtain ⟨h33, h25, -⟩ := hh
        have g33 : f 33 = _ := h33
        have g25 : f 25 = _ := h25
        exact tab_no rfl g25 (by decide) rfl
       ·
        obtain ⟨h25, h34, h22, -⟩ := hh
        have g25 : f 25 = _ := h25
        have g34 : f 34 = _ := h34
        have g22 : f 22 = _ := h22
        refine tab_yes g22 fun K Q hK => ?_
        simp only [puts, Za, Zb, Zc, Zd, Ze, g25, g34, g22]
        go_step
        exact fam_e hK rfl rfl (Below.refl _ _) hC
       ·
        obtain ⟨h22, h35, -⟩ := hh
        have g22 : f 22 = _ := h22
        have g35 : f 35 = _ := h35
        refine tab_plain fun K Q hK => ?_
        simp only [puts, Za, Zb, Zc, Zd, Ze, g22, g35]
        go_step
        exact fam_e hK rfl rfl (Below.refl _ _) hC
      case frest =>
       intro f W2 hC hh
       obtain ⟨h0, h1, h2, h3, h4, h5, h6, h7, h8, h9, h10, h11, h12, h13, h14, h15, h16, h17, h18, h19, h20, h21, h22, h23, h24, h25, h26, h27, h28, h29, h30, h31, h32, h33, h34, h35, h36, -⟩ := hh
       have g0 : f 0 = _ := h0
       have g1 : f 1 = _ := h1
       have g2 : f 2 = _ := h2
       have g3 : f 3 = _ := h3
       have g4 : f 4 = _ := h4
       have g5 : f 5 = _ := h5
       have g6 : f 6 = _ := h6
       have g7 : f 7 = _ := h7
       have g8 : f 8 = _ := h8
       have g9 : f 9 = _ := h9
       have g10 : f 10 = _ := h10
       have g11 : f 11 = _ := h11
       have g12 : f 12 = _ := h12
       have g13 : f 13 = _ := h13
       have g14 : f 14 = _ := h14
       have g15 : f 15 = _ := h15
       have g16 : f 16 = _ := h16
       have g17 : f 17 = _ := h17
       have g18 : f 18 = _ := h18
       have g19 : f 19 = _ := h19
       have g20 : f 20 = _ := h20
       have g21 : f 21 = _ := h21
       have g22 : f 22 = _ := h22
       have g23 : f 23 = _ := h23
       have g24 : f 24 = _ := h24
       have g25 : f 25 = _ := h25
       have g26 : f 26 = _ := h26
       have g27 : f 27 = _ := h27
       have g28 : f 28 = _ := h28
       have g29 : f 29 = _ := h29
       have g30 : f 30 = _ := h30
       have g31 : f 31 = _ := h31
       have g32 : f 32 = _ := h32
       have g33 : f 33 = _ := h33
       have g34 : f 34 = _ := h34
       have g35 : f 35 = _ := h35
       have g36 : f 36 = _ := h36
       simp only [puts, Za, Zb, Zc, Zd, Ze, g0, g1, g2, g3, g4, g5, g6, g7, g8, g9, g10, g11, g12, g13, g14, g15, g16, g17, g18, g19, g20, g21, g22, g23, g24, g25, g26, g27, g28, g29, g30, g31, g32, g33, g34, g35, g36]
       clear h0 h1 h2 h3 h4 h5 h6 h7 h8 h9 h10 h11 h12 h13 h14 h15 h16 h17 h18 h19 h20 h21 h22 h23 h24 h25 h26 h27 h28 h29 h30 h31 h32 h33 h34 h35 h36 g0 g1 g2 g3 g4 g5 g6 g7 g8 g9 g10 g11 g12 g13 g14 g15 g16 g17 g18 g19 g20 g21 g22 g23 g24 g25 g26 g27 g28 g29 g30 g31 g32 g33 g34 g35 g36
       go_wp2
       go_roundw
       case rel =>
        refine ⟨k + 1, by omega, by go_num, Lib.hid fun i hi => ?_, HBWN.out.trans (hC.mono HBWN.out.size)⟩
        rcases Nat.lt_or_ge i k with h | h
        ·exact HA.out i h
        ·rw [show i = k by omega]; unfold ArcOkN; rw [HX.out]; exact ⟨⟨H6.out, H7.out⟩, H8.out, fun h => absurd HK0.out (by omega)⟩
       case measure => simp [intOf]; omega
     ·have hk1 : 0 < k := by omega
      have q5 : decide (0 < k) = true := decide_eq_true (by omega)
      obtain ⟨p, hp⟩ : ∃ p, p = k - 1 := ⟨_, rfl⟩
      have hpk : (k : Int) - 1 = (p : Int) := by omega
      obtain ⟨y1, y2, y3, hy⟩ : ∃ y1 y2 y3, g3 es p = ⟨y1, y2, y3⟩ := ⟨_, _, _, rfl⟩
      have HP := Lib.hid hp
      have HY := Lib.hid hy
      have hpl : p < al := by omega
      have hcp : ∀ W, Below Wn.heap.size Wn W → W.cell? ⟨b, off + p * 3, none⟩ = some (.int .i64 y1) ∧ W.cell? ⟨b, off + p * 3 + 1, none⟩ = some (.int .i64 y2) ∧ W.cell? ⟨b, off + p * 3 + 2, none⟩ = some (.int .i64 y3) := fun W h => by
       have := HCELL.out W (HBN.out.trans (h.mono HBN.out.size)) p hpl
       rwa [hy] at this
      clear hp hy h10
      by_cases hL : LtN ⟨y1, y2, y3⟩ ⟨x1, x2, x3⟩
      ·have q6 : decide (0 ≤ ordN ⟨y1, y2, y3⟩ ⟨x1, x2, x3⟩) = false := decide_eq_false (fun h => ordN_ge.1 h hL)
       have HLT := Lib.hid hL
       clear hL
       go_wp2_with (fail)
       refine wp_region_grow mixed (by kernel_rfl) [[], [], [(1, 65)], [(0, 64), (2, 66)], [(3, 67)], [(4, 68), (3, 67)], [(5, 69)], [(5, 69)], [(7, 71), (5, 69)], [(6, 70), (8, 72), (5, 69), (5, 69)], [(9, 73), (5, 69)], [(5, 69), (10, 74)], [(11, 75), (9, 73)], [(12, 76)], [(13, 77), (12, 76)], [(14, 78), (12, 76)], [(12, 76), (15, 79)], [(16, 80), (12, 76)], [(17, 81)], [(18, 82), (17, 81)], [(19, 83), (17, 81)], [(17, 81), (20, 84)], [(21, 85), (17, 81)], [(22, 86)], [(23, 87), (22, 86)], [(24, 88), (22, 86), (22, 86)], [(25, 89)], [(26, 90), (25, 89)], [(25, 89)], [(28, 92), (25, 89)], [(27, 91), (29, 93), (25, 89)], [(30, 94), (25, 89)], [(25, 89)], [(31, 95), (32, 96), (25, 89), (25, 89)], [(33, 97), (25, 89)], [(25, 89), (34, 98), (22, 86)], [(22, 86), (35, 99)]] [(0, 64), (1, 65), (2, 66), (3, 67), (4, 68), (5, 69), (6, 70), (7, 71), (8, 72), (9, 73), (10, 74), (11, 75), (12, 76), (13, 77), (14, 78), (15, 79), (16, 80), (17, 81), (18, 82), (19, 83), (20, 84), (21, 85), (22, 86), (23, 87), (24, 88), (25, 89), (26, 90), (27, 91), (28, 92), (29, 93), (30, 94), (31, 95), (32, 96), (33, 97), (34, 98), (35, 99), (36, 100)] rfl rfl [Ex ?eg0, Ex ?eg1, Ex ?eg2, Ex (.bool true), Ex ?eg4, Ex ?eg5, Ex ?eg6, Ex ?eg7, Ex ?eg8, Ex (.bool true), Ex ?eg10, Ex ?eg11, Ex ?eg12, Ex ?eg13, Ex ?eg14, Ex ?eg15, Ex ?eg16, Ex ?eg17, Ex ?eg18, Ex ?eg19, Ex ?eg20, Ex ?eg21, Ex ?eg22, Ex ?eg23, Ex ?eg24, Ex ?eg25, Ex ?eg26, Ex ?eg27, Ex ?eg28, Ex ?eg29, Ex ?eg30, Ex ?eg31, Ex ?eg32, Ex (.int .i64 (ordN ⟨y1, y2, y3⟩ ⟨x1, x2, x3⟩)), Ex ?eg34, Ex ?eg35, Ex ?eg36] ⟨stays_ex _, stays_ex _, stays_ex _, stays_ex _, stays_ex _, stays_ex _, stays_ex _, stays_ex _, stays_ex _, stays_ex _, stays_ex _, stays_ex _, stays_ex _, stays_ex _, stays_ex _, stays_ex _, stays_ex _, stays_ex _, stays_ex _, stays_ex _, stays_ex _, stays_ex _, stays_ex _, stays_ex _, stays_ex _, stays_ex _, stays_ex _, stays_ex _, stays_ex _, stays_ex _, stays_ex _, stays_ex _, stays_ex _, stays_ex _, stays_ex _, stays_ex _, stays_ex _, trivial⟩ ?gsteps ?grest
       case gsteps =>
        refine ⟨fun f W hC hh => ?_, fun f W hC hh => ?_, fun f W hC hh => ?_, fun f W hC hh => ?_, fun f W hC hh => ?_, fun f W hC hh => ?_, fun f W hC hh => ?_, fun f W hC hh => ?_, fun f W hC hh => ?_, fun f W hC hh => ?_, fun f W hC hh => ?_, fun f W hC hh => ?_, fun f W hC hh => ?_, fun f W hC hh => ?_, fun f W hC hh => ?_, fun f W hC hh => ?_, fun f W hC hh => ?_, fun f W hC hh => ?_, fun f W hC hh => ?_, fun f W hC hh => ?_, fun f W hC hh => ?_, fun f W hC hh => ?_, fun f W hC hh => ?_, fun f W hC hh => ?_, fun f W hC hh => ?_, fun f W hC hh => ?_, fun f W hC hh => ?_, fun f W hC hh => ?_, fun f W hC hh => ?_, fun f W hC hh => ?_, fun f W hC hh => ?_, fun f W hC hh => ?_, fun f W hC hh => ?_, fun f W hC hh => ?_, fun f W hC hh => ?_, fun f W hC hh => ?_, fun f W hC hh => ?_, trivial⟩
        ·
         refine tab_plain fun K Q hK => ?_
         simp only [puts, foldr_nil]
         obtain ⟨⟨f1, f2, f3, f4⟩, f5, f6, f7⟩ := hcm W hC
         obtain ⟨f8, f9, f10⟩ := hcp W hC
         go_step
         exact fam_e hK rfl rfl (Below.refl _ _) hC
        ·
         refine tab_plain fun K Q hK => ?_
         simp only [puts, foldr_nil]
         go_step
         exact fam_e hK rfl rfl (Below.refl _ _) hC
        ·
         obtain ⟨h1, -⟩ := hh
         have g1 : f 1 = _ := h1
         refine tab_plain fun K Q hK => ?_
         simp only [puts, Za, Zb, Zc, Zd, Ze, g1]
         obtain ⟨⟨f1, f2, f3, f4⟩, f5, f6, f7⟩ := hcm W hC
         obtain ⟨f8, f9, f10⟩ := hcp W hC
         go_step
         exact fam_e hK rfl rfl (Below.refl _ _) hC
        ·
         obtain ⟨h0, h2, -⟩ := hh
         have g0 : f 0 = _ := h0
         have g2 : f 2 = _ := h2
         refine tab_plain fun K Q hK => ?_
         simp only [puts, Za, Zb, Zc, Zd, Ze, g0, g2]
         go_step
         go_at_call 42
         refine (hst x1 W).mono ?_
         rintro e w' ⟨rfl, hb⟩
         rw [q1]
         exact fam_fin hK rfl rfl hb (hC.trans (hb.mono hC.size))
        ·
         obtain ⟨h3, -⟩ := hh
         have g3 : f 3 = _ := h3
         refine tab_plain fun K Q hK => ?_
         simp only [puts, Za, Zb, Zc, Zd, Ze, g3]
         go_step
         exact fam_e hK rfl rfl (Below.refl _ _) hC
        ·
         obtain ⟨h4, h3, -⟩ := hh
         have g4 : f 4 = _ := h4
         have g3 : f 3 = _ := h3
         refine tab_plain fun K Q hK => ?_
         simp only [puts, Za, Zb, Zc, Zd, Ze, g4, g3]
         go_step
         exact fam_e hK rfl rfl (Below.refl _ _) hC
        ·
         obtain ⟨h5, -⟩ := hh
         have g5 : f 5 = _ := h5
         refine tab_yes g5 fun K Q hK => ?_
         simp only [puts, Za, Zb, Zc, Zd, Ze, g5]
         obtain ⟨⟨f1, f2, f3, f4⟩, f5, f6, f7⟩ := hcm W hC
         obtain ⟨f8, f9, f10⟩ := hcp W hC
         go_step
         exact fam_e hK rfl rfl (Below.refl _ _) hC
        ·
         obtain ⟨h5, -⟩ := hh
         have g5 : f 5 = _ := h5
         refine tab_yes g5 fun K Q hK => ?_
         simp only [puts, Za, Zb, Zc, Zd, Ze, g5]
         go_step
         exact fam_e hK rfl rfl (Below.refl _ _) hC
        ·
         obtain ⟨h7, h5, -⟩ := hh
         have g7 : f 7 = _ := h7
         have g5 : f 5 = _ := h5
         refine tab_yes g5 fun K Q hK => ?_
         simp only [puts, Za, Zb, Zc, Zd, Ze, g7, g5]
         obtain ⟨⟨f1, f2, f3, f4⟩, f5, f6, f7⟩ := hcm W hC
         obtain ⟨f8, f9, f10⟩ := hcp W hC
         go_step
         exact fam_e hK rfl rfl (Below.refl _ _) hC
        ·
         obtain ⟨h6, h8, h5, _, -⟩ := hh
         have g6 : f 6 = _ := h6
         have g8 : f 8 = _ := h8
         have g5 : f 5 = _ := h5
         refine tab_yes g5 fun K Q hK => ?_
         simp only [puts, Za, Zb, Zc, Zd, Ze, g6, g8, g5]
         go_step
         go_at_call 42
         refine (hst x3 W).mono ?_
         rintro e w' ⟨rfl, hb⟩
         rw [q2]
         exact fam_fin hK rfl rfl hb (hC.trans (hb.mono hC.size))
        ·
         obtain ⟨h9, h5, -⟩ := hh
         have g9 : f 9 = _ := h9
         have g5 : f 5 = _ := h5
         refine tab_yes g5 fun K Q hK => ?_
         simp only [puts, Za, Zb, Zc, Zd, Ze, g9, g5]
         go_step
         exact fam_e hK rfl rfl (Below.refl _ _) hC
        ·
         obtain ⟨h5, h10, -⟩ := hh
         have g5 : f 5 = _ := h5
         have g10 : f 10 = _ := h10
         refine tab_plain fun K Q hK => ?_
         simp only [puts, Za, Zb, Zc, Zd, Ze, g5, g10]
         go_step
         exact fam_e hK rfl rfl (Below.refl _ _) hC
        ·
         obtain ⟨h11, h9, -⟩ := hh
         have g11 : f 11 = _ := h11
         have g9 : f 9 = _ := h9
         refine tab_plain fun K Q hK => ?_
         simp only [puts, Za, Zb, Zc, Zd, Ze, g11, g9]
         go_step
         exact fam_e hK rfl rfl (Below.refl _ _) hC
        ·
         obtain ⟨h12, -⟩ := hh
         have g12 : f 12 = _ := h12
         refine tab_yes g12 fun K Q hK => ?_
         simp only [puts, Za, Zb, Zc, Zd, Ze, g12]
         go_step
         exact fam_e hK rfl rfl (Below.refl _ _) hC
        ·
         obtain ⟨h13, h12, -⟩ := hh
         have g13 : f 13 = _ := h13
         have g12 : f 12 = _ := h12
         refine tab_yes g12 fun K Q hK => ?_
         simp only [puts, Za, Zb, Zc, Zd, Ze, g13, g12]
         obtain ⟨⟨f1, f2, f3, f4⟩, f5, f6, f7⟩ := hcm W hC
         obtain ⟨f8, f9, f10⟩ := hcp W hC
         go_step
         exact fam_e hK rfl rfl (Below.refl _ _) hC
        ·
         obtain ⟨h14, h12, -⟩ := hh
         have g14 : f 14 = _ := h14
         have g12 : f 12 = _ := h12
         refine tab_yes g12 fun K Q hK => ?_
         simp only [puts, Za, Zb, Zc, Zd, Ze, g14, g12]
         go_step
         exact fam_e hK rfl rfl (Below.refl _ _) hC
        ·
         obtain ⟨h12, h15, -⟩ := hh
         have g12 : f 12 = _ := h12
         have g15 : f 15 = _ := h15
         refine tab_plain fun K Q hK => ?_
         simp only [puts, Za, Zb, Zc, Zd, Ze, g12, g15]
         go_step
         exact fam_e hK rfl rfl (Below.refl _ _) hC
        ·
         obtain ⟨h16, h12, -⟩ := hh
         have g16 : f 16 = _ := h16
         have g12 : f 12 = _ := h12
         refine tab_plain fun K Q hK => ?_
         simp only [puts, Za, Zb, Zc, Zd, Ze, g16, g12]
         go_step
         exact fam_e hK rfl rfl (Below.refl _ _) hC
        ·
         obtain ⟨h17, -⟩ := hh
         have g17 : f 17 = _ := h17
         refine tab_yes g17 fun K Q hK => ?_
         simp only [puts, Za, Zb, Zc, Zd, Ze, g17]
         go_step
         exact fam_e hK rfl rfl (Below.refl _ _) hC
        ·
         obtain ⟨h18, h17, -⟩ := hh
         have g18 : f 18 = _ := h18
         have g17 : f 17 = _ := h17
         refine tab_yes g17 fun K Q hK => ?_
         simp only [puts, Za, Zb, Zc, Zd, Ze, g18, g17]
         obtain ⟨⟨f1, f2, f3, f4⟩, f5, f6, f7⟩ := hcm W hC
         obtain ⟨f8, f9, f10⟩ := hcp W hC
         go_step
         exact fam_e hK rfl rfl (Below.refl _ _) hC
        ·
         obtain ⟨h19, h17, -⟩ := hh
         have g19 : f 19 = _ := h19
         have g17 : f 17 = _ := h17
         refine tab_yes g17 fun K Q hK => ?_
         simp only [puts, Za, Zb, Zc, Zd, Ze, g19, g17]
         go_step
         exact fam_e hK rfl rfl (Below.refl _ _) hC
        ·
         obtain ⟨h17, h20, -⟩ := hh
         have g17 : f 17 = _ := h17
         have g20 : f 20 = _ := h20
         refine tab_plain fun K Q hK => ?_
         simp only [puts, Za, Zb, Zc, Zd, Ze, g17, g20]
         go_step
         exact fam_e hK rfl rfl (Below.refl _ _) hC
        ·
         obtain ⟨h21, h17, -⟩ := hh
         have g21 : f 21 = _ := h21
         have g17 : f 17 = _ := h17
         refine tab_plain fun K Q hK => ?_
         simp only [puts, Za, Zb, Zc, Zd, Ze, g21, g17]
         go_step
         exact fam_e hK rfl rfl (Below.refl _ _) hC
        ·
         obtain ⟨h22, -⟩ := hh
         have g22 : f 22 = _ := h22
         refine tab_yes g22 fun K Q hK => ?_
         simp only [puts, Za, Zb, Zc, Zd, Ze, g22]
         go_step
         exact fam_e hK rfl rfl (Below.refl _ _) hC
        ·
         obtain ⟨h23, h22, -⟩ := hh
         have g23 : f 23 = _ := h23
         have g22 : f 22 = _ := h22
         refine tab_yes g22 fun K Q hK => ?_
         simp only [puts, Za, Zb, Zc, Zd, Ze, g23, g22]
         go_step
         exact fam_e hK rfl rfl (Below.refl _ _) hC
        ·
         obtain ⟨h24, h22, _, -⟩ := hh
         have g24 : f 24 = _ := h24
         have g22 : f 22 = _ := h22
         refine tab_yes g22 fun K Q hK => ?_
         simp only [puts, Za, Zb, Zc, Zd, Ze, g24, g22]
         go_step
         exact fam_e hK rfl rfl (Below.refl _ _) hC
        ·
         obtain ⟨h25, -⟩ := hh
         have g25 : f 25 = _ := h25
         refine tab_yes g25 fun K Q hK => ?_
         simp only [puts, Za, Zb, Zc, Zd, Ze, g25]
         go_step
         exact fam_e hK rfl rfl (Below.refl _ _) hC
        ·
         obtain ⟨h26, h25, -⟩ := hh
         have g26 : f 26 = _ := h26
         have g25 : f 25 = _ := h25
         refine tab_yes g25 fun K Q hK => ?_
         simp only [puts, Za, Zb, Zc, Zd, Ze, g26, g25]
         obtain ⟨⟨f1, f2, f3, f4⟩, f5, f6, f7⟩ := hcm W hC
         obtain ⟨f8, f9, f10⟩ := hcp W hC
         go_step
         exact fam_e hK rfl rfl (Below.refl _ _) hC
        ·
         obtain ⟨h25, -⟩ := hh
         have g25 : f 25 = _ := h25
         refine tab_yes g25 fun K Q hK => ?_
         simp only [puts, Za, Zb, Zc, Zd, Ze, g25]
         go_step
         exact fam_e hK rfl rfl (Below.refl _ _) hC
        ·
         obtain ⟨h28, h25, -⟩ := hh
         have g28 : f 28 = _ := h28
         have g25 : f 25 = _ := h25
         refine tab_yes g25 fun K Q hK => ?_
         simp only [puts, Za, Zb, Zc, Zd, Ze, g28, g25]
         go_step
         exact fam_e hK rfl rfl (Below.refl _ _) hC
        ·
         obtain ⟨h27, h29, h25, -⟩ := hh
         have g27 : f 27 = _ := h27
         have g29 : f 29 = _ := h29
         have g25 : f 25 = _ := h25
         refine tab_yes g25 fun K Q hK => ?_
         simp only [puts, Za, Zb, Zc, Zd, Ze, g27, g29, g25]
         go_step
         exact fam_e hK rfl rfl (Below.refl _ _) hC
        ·
         obtain ⟨h30, h25, -⟩ := hh
         have g30 : f 30 = _ := h30
         have g25 : f 25 = _ := h25
         refine tab_yes g25 fun K Q hK => ?_
         simp only [puts, Za, Zb, Zc, Zd, Ze, g30, g25]
         obtain ⟨⟨f1, f2, f3, f4⟩, f5, f6, f7⟩ := hcm W hC
         obtain ⟨f8, f9, f10⟩ := hcp W hC
         go_step
         exact fam_e hK rfl rfl (Below.refl _ _) hC
        ·
         obtain ⟨h25, -⟩ := hh
         have g25 : f 25 = _ := h25
         refine tab_yes g25 fun K Q hK => ?_
         simp only [puts, Za, Zb, Zc, Zd, Ze, g25]
         obtain ⟨⟨f1, f2, f3, f4⟩, f5, f6, f7⟩ := hcm W hC
         obtain ⟨f8, f9, f10⟩ := hcp W hC
         go_step
         exact fam_e hK rfl rfl (Below.refl _ _) hC
        ·
         obtain ⟨h31, h32, h25, _, -⟩ := hh
         have g31 : f 31 = _ := h31
         have g32 : f 32 = _ := h32
         have g25 : f 25 = _ := h25
         refine tab_yes g25 fun K Q hK => ?_
         simp only [puts, Za, Zb, Zc, Zd, Ze, g31, g32, g25]
         go_step
         go_at_call 33
         refine (order_any ⟨y1, y2, y3⟩ ⟨x1, x2, x3⟩ W).mono ?_
         rintro e w' ⟨rfl, hb⟩
         exact fam_fin hK rfl rfl hb (hC.trans (hb.mono hC.size))
        ·
         obtain ⟨h33, h25, -⟩ := hh
         have g33 : f 33 = _ := h33
         have g25 : f 25 = _ := h25
         refine tab_yes g25 fun K Q hK => ?_
         simp only [puts, Za, Zb, Zc, Zd, Ze, g33, g25]
         go_step
         exact fam_e hK rfl rfl (Below.refl _ _) hC
        ·
         obtain ⟨h25, h34, h22, -⟩ := hh
         have g25 : f 25 = _ := h25
         have g34 : f 34 = _ := h34
         have g22 : f 22 = _ := h22
         refine tab_yes g22 fun K Q hK => ?_
         simp only [puts, Za, Zb, Zc, Zd, Ze, g25, g34, g22]
         go_step
         exact fam_e hK rfl rfl (Below.refl _ _) hC
        ·
         obtain ⟨h22, h35, -⟩ := hh
         have g22 : f 22 = _ := h22
         have g35 : f 35 = _ := h35
         refine tab_plain fun K Q hK => ?_
         simp only [puts, Za, Zb, Zc, Zd, Ze, g22, g35]
         go_step
         exact fam_e hK rfl rfl (Below.refl _ _) hC
       case grest =>
        intro f W2 hC hh
        obtain ⟨h0, h1, h2, h3, h4, h5, h6, h7, h8, h9, h10, h11, h12, h13, h14, h15, h16, h17, h18, h19, h20, h21, h22, h23, h24, h25, h26, h27, h28, h29, h30, h31, h32, h33, h34, h35, h36, -⟩ := hh
        have g0 : f 0 = _ := h0
        have g1 : f 1 = _ := h1
        have g2 : f 2 = _ := h2
        have g3 : f 3 = _ := h3
        have g4 : f 4 = _ := h4
        have g5 : f 5 = _ := h5
        have g6 : f 6 = _ := h6
        have g7 : f 7 = _ := h7
        have g8 : f 8 = _ := h8
        have g9 : f 9 = _ := h9
        have g10 : f 10 = _ := h10
        have g11 : f 11 = _ := h11
        have g12 : f 12 = _ := h12
        have g13 : f 13 = _ := h13
        have g14 : f 14 = _ := h14
        have g15 : f 15 = _ := h15
        have g16 : f 16 = _ := h16
        have g17 : f 17 = _ := h17
        have g18 : f 18 = _ := h18
        have g19 : f 19 = _ := h19
        have g20 : f 20 = _ := h20
        have g21 : f 21 = _ := h21
        have g22 : f 22 = _ := h22
        have g23 : f 23 = _ := h23
        have g24 : f 24 = _ := h24
        have g25 : f 25 = _ := h25
        have g26 : f 26 = _ := h26
        have g27 : f 27 = _ := h27
        have g28 : f 28 = _ := h28
        have g29 : f 29 = _ := h29
        have g30 : f 30 = _ := h30
        have g31 : f 31 = _ := h31
        have g32 : f 32 = _ := h32
        have g33 : f 33 = _ := h33
        have g34 : f 34 = _ := h34
        have g35 : f 35 = _ := h35
        have g36 : f 36 = _ := h36
        simp only [puts, Za, Zb, Zc, Zd, Ze, g0, g1, g2, g3, g4, g5, g6, g7, g8, g9, g10, g11, g12, g13, g14, g15, g16, g17, g18, g19, g20, g21, g22, g23, g24, g25, g26, g27, g28, g29, g30, g31, g32, g33, g34, g35, g36]
        clear h0 h1 h2 h3 h4 h5 h6 h7 h8 h9 h10 h11 h12 h13 h14 h15 h16 h17 h18 h19 h20 h21 h22 h23 h24 h25 h26 h27 h28 h29 h30 h31 h32 h33 h34 h35 h36 g0 g1 g2 g3 g4 g5 g6 g7 g8 g9 g10 g11 g12 g13 g14 g15 g16 g17 g18 g19 g20 g21 g22 g23 g24 g25 g26 g27 g28 g29 g30 g31 g32 g33 g34 g35 g36
        go_wp2
        go_roundw
        case rel =>
         refine ⟨k + 1, by omega, by go_num, Lib.hid fun i hi => ?_, HBWN.out.trans (hC.mono HBWN.out.size)⟩
         rcases Nat.lt_or_ge i k with h | h
         ·exact HA.out i h
         ·rw [show i = k by omega]; unfold ArcOkN; rw [HX.out]; exact ⟨⟨H6.out, H7.out⟩, H8.out, fun _ => by rw [← HP.out, HY.out]; exact HLT.out⟩
        case measure => simp [intOf]; omega
      ·have q6 : decide (0 ≤ ordN ⟨y1, y2, y3⟩ ⟨x1, x2, x3⟩) = true := decide_eq_true (ordN_ge.2 hL)
       have HLT := Lib.hid hL
       have HQ : Hid (¬ ArcOkN n es k) := Lib.hid fun h => HLT.out (by have := h.2.2 hk1; rwa [← HP.out, HY.out, HX.out] at this)
       clear hL
       go_wp2_with (fail)
       refine wp_region_grow mixed (by kernel_rfl) [[], [], [(1, 65)], [(0, 64), (2, 66)], [(3, 67)], [(4, 68), (3, 67)], [(5, 69)], [(5, 69)], [(7, 71), (5, 69)], [(6, 70), (8, 72), (5, 69), (5, 69)], [(9, 73), (5, 69)], [(5, 69), (10, 74)], [(11, 75), (9, 73)], [(12, 76)], [(13, 77), (12, 76)], [(14, 78), (12, 76)], [(12, 76), (15, 79)], [(16, 80), (12, 76)], [(17, 81)], [(18, 82), (17, 81)], [(19, 83), (17, 81)], [(17, 81), (20, 84)], [(21, 85), (17, 81)], [(22, 86)], [(23, 87), (22, 86)], [(24, 88), (22, 86), (22, 86)], [(25, 89)], [(26, 90), (25, 89)], [(25, 89)], [(28, 92), (25, 89)], [(27, 91), (29, 93), (25, 89)], [(30, 94), (25, 89)], [(25, 89)], [(31, 95), (32, 96), (25, 89), (25, 89)], [(33, 97), (25, 89)], [(25, 89), (34, 98), (22, 86)], [(22, 86), (35, 99)]] [(0, 64), (1, 65), (2, 66), (3, 67), (4, 68), (5, 69), (6, 70), (7, 71), (8, 72), (9, 73), (10, 74), (11, 75), (12, 76), (13, 77), (14, 78), (15, 79), (16, 80), (17, 81), (18, 82), (19, 83), (20, 84), (21, 85), (22, 86), (23, 87), (24, 88), (25, 89), (26, 90), (27, 91), (28, 92), (29, 93), (30, 94), (31, 95), (32, 96), (33, 97), (34, 98), (35, 99), (36, 100)] rfl rfl [Ex ?eh0, Ex ?eh1, Ex ?eh2, Ex (.bool true), Ex ?eh4, Ex ?eh5, Ex ?eh6, Ex ?eh7, Ex ?eh8, Ex (.bool true), Ex ?eh10, Ex ?eh11, Ex ?eh12, Ex ?eh13, Ex ?eh14, Ex ?eh15, Ex ?eh16, Ex ?eh17, Ex ?eh18, Ex ?eh19, Ex ?eh20, Ex ?eh21, Ex ?eh22, Ex ?eh23, Ex ?eh24, Ex ?eh25, Ex ?eh26, Ex ?eh27, Ex ?eh28, Ex ?eh29, Ex ?eh30, Ex ?eh31, Ex ?eh32, Ex (.int .i64 (ordN ⟨y1, y2, y3⟩ ⟨x1, x2, x3⟩)), Ex ?eh34, Ex ?eh35, Ex ?eh36] ⟨stays_ex _, stays_ex _, stays_ex _, stays_ex _, stays_ex _, stays_ex _, stays_ex _, stays_ex _, stays_ex _, stays_ex _, stays_ex _, stays_ex _, stays_ex _, stays_ex _, stays_ex _, stays_ex _, stays_ex _, stays_ex _, stays_ex _, stays_ex _, stays_ex _, stays_ex _, stays_ex _, stays_ex _, stays_ex _, stays_ex _, stays_ex _, stays_ex _, stays_ex _, stays_ex _, stays_ex _, stays_ex _, stays_ex _, stays_ex _, stays_ex _, stays_ex _, stays_ex _, trivial⟩ ?hsteps ?hrest
       case hsteps =>
        refine ⟨fun f W hC hh => ?_, fun f W hC hh => ?_, fun f W hC hh => ?_, fun f W hC hh => ?_, fun f W hC hh => ?_, fun f W hC hh => ?_, fun f W hC hh => ?_, fun f W hC hh => ?_, fun f W hC hh => ?_, fun f W hC hh => ?_, fun f W hC hh => ?_, fun f W hC hh => ?_, fun f W hC hh => ?_, fun f W hC hh => ?_, fun f W hC hh => ?_, fun f W hC hh => ?_, fun f W hC hh => ?_, fun f W hC hh => ?_, fun f W hC hh => ?_, fun f W hC hh => ?_, fun f W hC hh => ?_, fun f W hC hh => ?_, fun f W hC hh => ?_, fun f W hC hh => ?_, fun f W hC hh => ?_, fun f W hC hh => ?_, fun f W hC hh => ?_, fun f W hC hh => ?_, fun f W hC hh => ?_, fun f W hC hh => ?_, fun f W hC hh => ?_, fun f W hC hh => ?_, fun f W hC hh => ?_, fun f W hC hh => ?_, fun f W hC hh => ?_, fun f W hC hh => ?_, fun f W hC hh => ?_, trivial⟩
        ·
         refine tab_plain fun K Q hK => ?_
         simp only [puts, foldr_nil]
         obtain ⟨⟨f1, f2, f3, f4⟩, f5, f6, f7⟩ := hcm W hC
         obtain ⟨f8, f9, f10⟩ := hcp W hC
         go_step
         exact fam_e hK rfl rfl (Below.refl _ _) hC
        ·
         refine tab_plain fun K Q hK => ?_
         simp only [puts, foldr_nil]
         go_step
         exact fam_e hK rfl rfl (Below.refl _ _) hC
        ·
         obtain ⟨h1, -⟩ := hh
         have g1 : f 1 = _ := h1
         refine tab_plain fun K Q hK => ?_
         simp only [puts, Za, Zb, Zc, Zd, Ze, g1]
         obtain ⟨⟨f1, f2, f3, f4⟩, f5, f6, f7⟩ := hcm W hC
         obtain ⟨f8, f9, f10⟩ := hcp W hC
         go_step
         exact fam_e hK rfl rfl (Below.refl _ _) hC
        ·
         obtain ⟨h0, h2, -⟩ := hh
         have g0 : f 0 = _ := h0
         have g2 : f 2 = _ := h2
         refine tab_plain fun K Q hK => ?_
         simp only [puts, Za, Zb, Zc, Zd, Ze, g0, g2]
         go_step
         go_at_call 42
         refine (hst x1 W).mono ?_
         rintro e w' ⟨rfl, hb⟩
         rw [q1]
         exact fam_fin hK rfl rfl hb (hC.trans (hb.mono hC.size))
        ·
         obtain ⟨h3, -⟩ := hh
         have g3 : f 3 = _ := h3
         refine tab_plain fun K Q hK => ?_
         simp only [puts, Za, Zb, Zc, Zd, Ze, g3]
         go_step
         exact fam_e hK rfl rfl (Below.refl _ _) hC
        ·
         obtain ⟨h4, h3, -⟩ := hh
         have g4 : f 4 = _ := h4
         have g3 : f 3 = _ := h3
         refine tab_plain fun K Q hK => ?_
         simp only [puts, Za, Zb, Zc, Zd, Ze, g4, g3]
         go_step
         exact fam_e hK rfl rfl (Below.refl _ _) hC
        ·
         obtain ⟨h5, -⟩ := hh
         have g5 : f 5 = _ := h5
         refine tab_yes g5 fun K Q hK => ?_
         simp only [puts, Za, Zb, Zc, Zd, Ze, g5]
         obtain ⟨⟨f1, f2, f3, f4⟩, f5, f6, f7⟩ := hcm W hC
         obtain ⟨f8, f9, f10⟩ := hcp W hC
         go_step
         exact fam_e hK rfl rfl (Below.refl _ _) hC
        ·
         obtain ⟨h5, -⟩ := hh
         have g5 : f 5 = _ := h5
         refine tab_yes g5 fun K Q hK => ?_
         simp only [puts, Za, Zb, Zc, Zd, Ze, g5]
         go_step
         exact fam_e hK rfl rfl (Below.refl _ _) hC
        ·
         obtain ⟨h7, h5, -⟩ := hh
         have g7 : f 7 = _ := h7
         have g5 : f 5 = _ := h5
         refine tab_yes g5 fun K Q hK => ?_
         simp only [puts, Za, Zb, Zc, Zd, Ze, g7, g5]
         obtain ⟨⟨f1, f2, f3, f4⟩, f5, f6, f7⟩ := hcm W hC
         obtain ⟨f8, f9, f10⟩ := hcp W hC
         go_step
         exact fam_e hK rfl rfl (Below.refl _ _) hC
        ·
         obtain ⟨h6, h8, h5, _, -⟩ := hh
         have g6 : f 6 = _ := h6
         have g8 : f 8 = _ := h8
         have g5 : f 5 = _ := h5
         refine tab_yes g5 fun K Q hK => ?_
         simp only [puts, Za, Zb, Zc, Zd, Ze, g6, g8, g5]
         go_step
         go_at_call 42
         refine (hst x3 W).mono ?_
         rintro e w' ⟨rfl, hb⟩
         rw [q2]
         exact fam_fin hK rfl rfl hb (hC.trans (hb.mono hC.size))
        ·
         obtain ⟨h9, h5, -⟩ := hh
         have g9 : f 9 = _ := h9
         have g5 : f 5 = _ := h5
         refine tab_yes g5 fun K Q hK => ?_
         simp only [puts, Za, Zb, Zc, Zd, Ze, g9, g5]
         go_step
         exact fam_e hK rfl rfl (Below.refl _ _) hC
        ·
         obtain ⟨h5, h10, -⟩ := hh
         have g5 : f 5 = _ := h5
         have g10 : f 10 = _ := h10
         refine tab_plain fun K Q hK => ?_
         simp only [puts, Za, Zb, Zc, Zd, Ze, g5, g10]
         go_step
         exact fam_e hK rfl rfl (Below.refl _ _) hC
        ·
         obtain ⟨h11, h9, -⟩ := hh
         have g11 : f 11 = _ := h11
         have g9 : f 9 = _ := h9
         refine tab_plain fun K Q hK => ?_
         simp only [puts, Za, Zb, Zc, Zd, Ze, g11, g9]
         go_step
         exact fam_e hK rfl rfl (Below.refl _ _) hC
        ·
         obtain ⟨h12, -⟩ := hh
         have g12 : f 12 = _ := h12
         refine tab_yes g12 fun K Q hK => ?_
         simp only [puts, Za, Zb, Zc, Zd, Ze, g12]
         go_step
         exact fam_e hK rfl rfl (Below.refl _ _) hC
        ·
         obtain ⟨h13, h12, -⟩ := hh
         have g13 : f 13 = _ := h13
         have g12 : f 12 = _ := h12
         refine tab_yes g12 fun K Q hK => ?_
         simp only [puts, Za, Zb, Zc, Zd, Ze, g13, g12]
         obtain ⟨⟨f1, f2, f3, f4⟩, f5, f6, f7⟩ := hcm W hC
         obtain ⟨f8, f9, f10⟩ := hcp W hC
         go_step
         exact fam_e hK rfl rfl (Below.refl _ _) hC
        ·
         obtain ⟨h14, h12, -⟩ := hh
         have g14 : f 14 = _ := h14
         have g12 : f 12 = _ := h12
         refine tab_yes g12 fun K Q hK => ?_
         simp only [puts, Za, Zb, Zc, Zd, Ze, g14, g12]
         go_step
         exact fam_e hK rfl rfl (Below.refl _ _) hC
        ·
         obtain ⟨h12, h15, -⟩ := hh
         have g12 : f 12 = _ := h12
         have g15 : f 15 = _ := h15
         refine tab_plain fun K Q hK => ?_
         simp only [puts, Za, Zb, Zc, Zd, Ze, g12, g15]
         go_step
         exact fam_e hK rfl rfl (Below.refl _ _) hC
        ·
         obtain ⟨h16, h12, -⟩ := hh
         have g16 : f 16 = _ := h16
         have g12 : f 12 = _ := h12
         refine tab_plain fun K Q hK => ?_
         simp only [puts, Za, Zb, Zc, Zd, Ze, g16, g12]
         go_step
         exact fam_e hK rfl rfl (Below.refl _ _) hC
        ·
         obtain ⟨h17, -⟩ := hh
         have g17 : f 17 = _ := h17
         refine tab_yes g17 fun K Q hK => ?_
         simp only [puts, Za, Zb, Zc, Zd, Ze, g17]
         go_step
         exact fam_e hK rfl rfl (Below.refl _ _) hC
        ·
         obtain ⟨h18, h17, -⟩ := hh
         have g18 : f 18 = _ := h18
         have g17 : f 17 = _ := h17
         refine tab_yes g17 fun K Q hK => ?_
         simp only [puts, Za, Zb, Zc, Zd, Ze, g18, g17]
         obtain ⟨⟨f1, f2, f3, f4⟩, f5, f6, f7⟩ := hcm W hC
         obtain ⟨f8, f9, f10⟩ := hcp W hC
         go_step
         exact fam_e hK rfl rfl (Below.refl _ _) hC
        ·
         obtain ⟨h19, h17, -⟩ := hh
         have g19 : f 19 = _ := h19
         have g17 : f 17 = _ := h17
         refine tab_yes g17 fun K Q hK => ?_
         simp only [puts, Za, Zb, Zc, Zd, Ze, g19, g17]
         go_step
         exact fam_e hK rfl rfl (Below.refl _ _) hC
        ·
         obtain ⟨h17, h20, -⟩ := hh
         have g17 : f 17 = _ := h17
         have g20 : f 20 = _ := h20
         refine tab_plain fun K Q hK => ?_
         simp only [puts, Za, Zb, Zc, Zd, Ze, g17, g20]
         go_step
         exact fam_e hK rfl rfl (Below.refl _ _) hC
        ·
         obtain ⟨h21, h17, -⟩ := hh
         have g21 : f 21 = _ := h21
         have g17 : f 17 = _ := h17
         refine tab_plain fun K Q hK => ?_
         simp only [puts, Za, Zb, Zc, Zd, Ze, g21, g17]
         go_step
         exact fam_e hK rfl rfl (Below.refl _ _) hC
        ·
         obtain ⟨h22, -⟩ := hh
         have g22 : f 22 = _ := h22
         refine tab_yes g22 fun K Q hK => ?_
         simp only [puts, Za, Zb, Zc, Zd, Ze, g22]
         go_step
         exact fam_e hK rfl rfl (Below.refl _ _) hC
        ·
         obtain ⟨h23, h22, -⟩ := hh
         have g23 : f 23 = _ := h23
         have g22 : f 22 = _ := h22
         refine tab_yes g22 fun K Q hK => ?_
         simp only [puts, Za, Zb, Zc, Zd, Ze, g23, g22]
         go_step
         exact fam_e hK rfl rfl (Below.refl _ _) hC
        ·
         obtain ⟨h24, h22, _, -⟩ := hh
         have g24 : f 24 = _ := h24
         have g22 : f 22 = _ := h22
         refine tab_yes g22 fun K Q hK => ?_
         simp only [puts, Za, Zb, Zc, Zd, Ze, g24, g22]
         go_step
         exact fam_e hK rfl rfl (Below.refl _ _) hC
        ·
         obtain ⟨h25, -⟩ := hh
         have g25 : f 25 = _ := h25
         refine tab_yes g25 fun K Q hK => ?_
         simp only [puts, Za, Zb, Zc, Zd, Ze, g25]
         go_step
         exact fam_e hK rfl rfl (Below.refl _ _) hC
        ·
         obtain ⟨h26, h25, -⟩ := hh
         have g26 : f 26 = _ := h26
         have g25 : f 25 = _ := h25
         refine tab_yes g25 fun K Q hK => ?_
         simp only [puts, Za, Zb, Zc, Zd, Ze, g26, g25]
         obtain ⟨⟨f1, f2, f3, f4⟩, f5, f6, f7⟩ := hcm W hC
         obtain ⟨f8, f9, f10⟩ := hcp W hC
         go_step
         exact fam_e hK rfl rfl (Below.refl _ _) hC
        ·
         obtain ⟨h25, -⟩ := hh
         have g25 : f 25 = _ := h25
         refine tab_yes g25 fun K Q hK => ?_
         simp only [puts, Za, Zb, Zc, Zd, Ze, g25]
         go_step
         exact fam_e hK rfl rfl (Below.refl _ _) hC
        ·
         obtain ⟨h28, h25, -⟩ := hh
         have g28 : f 28 = _ := h28
         have g25 : f 25 = _ := h25
         refine tab_yes g25 fun K Q hK => ?_
         simp only [puts, Za, Zb, Zc, Zd, Ze, g28, g25]
         go_step
         exact fam_e hK rfl rfl (Below.refl _ _) hC
        ·
         obtain ⟨h27, h29, h25, -⟩ := hh
         have g27 : f 27 = _ := h27
         have g29 : f 29 = _ := h29
         have g25 : f 25 = _ := h25
         refine tab_yes g25 fun K Q hK => ?_
         simp only [puts, Za, Zb, Zc, Zd, Ze, g27, g29, g25]
         go_step
         exact fam_e hK rfl rfl (Below.refl _ _) hC
        ·
         obtain ⟨h30, h25, -⟩ := hh
         have g30 : f 30 = _ := h30
         have g25 : f 25 = _ := h25
         refine tab_yes g25 fun K Q hK => ?_
         simp only [puts, Za, Zb, Zc, Zd, Ze, g30, g25]
         obtain ⟨⟨f1, f2, f3, f4⟩, f5, f6, f7⟩ := hcm W hC
         obtain ⟨f8, f9, f10⟩ := hcp W hC
         go_step
         exact fam_e hK rfl rfl (Below.refl _ _) hC
        ·
         obtain ⟨h25, -⟩ := hh
         have g25 : f 25 = _ := h25
         refine tab_yes g25 fun K Q hK => ?_
         simp only [puts, Za, Zb, Zc, Zd, Ze, g25]
         obtain ⟨⟨f1, f2, f3, f4⟩, f5, f6, f7⟩ := hcm W hC
         obtain ⟨f8, f9, f10⟩ := hcp W hC
         go_step
         exact fam_e hK rfl rfl (Below.refl _ _) hC
        ·
         obtain ⟨h31, h32, h25, _, -⟩ := hh
         have g31 : f 31 = _ := h31
         have g32 : f 32 = _ := h32
         have g25 : f 25 = _ := h25
         refine tab_yes g25 fun K Q hK => ?_
         simp only [puts, Za, Zb, Zc, Zd, Ze, g31, g32, g25]
         go_step
         go_at_call 33
         refine (order_any ⟨y1, y2, y3⟩ ⟨x1, x2, x3⟩ W).mono ?_
         rintro e w' ⟨rfl, hb⟩
         exact fam_fin hK rfl rfl hb (hC.trans (hb.mono hC.size))
        ·
         obtain ⟨h33, h25, -⟩ := hh
         have g33 : f 33 = _ := h33
         have g25 : f 25 = _ := h25
         refine tab_yes g25 fun K Q hK => ?_
         simp only [puts, Za, Zb, Zc, Zd, Ze, g33, g25]
         go_step
         exact fam_e hK rfl rfl (Below.refl _ _) hC
        ·
         obtain ⟨h25, h34, h22, -⟩ := hh
         have g25 : f 25 = _ := h25
         have g34 : f 34 = _ := h34
         have g22 : f 22 = _ := h22
         refine tab_yes g22 fun K Q hK => ?_
         simp only [puts, Za, Zb, Zc, Zd, Ze, g25, g34, g22]
         go_step
         exact fam_e hK rfl rfl (Below.refl _ _) hC
        ·
         obtain ⟨h22, h35, -⟩ := hh
         have g22 : f 22 = _ := h22
         have g35 : f 35 = _ := h35
         refine tab_plain fun K Q hK => ?_
         simp only [puts, Za, Zb, Zc, Zd, Ze, g22, g35]
         go_step
         exact fam_e hK rfl rfl (Below.refl _ _) hC
       case hrest =>
        intro f W2 hC hh
        obtain ⟨h0, h1, h2, h3, h4, h5, h6, h7, h8, h9, h10, h11, h12, h13, h14, h15, h16, h17, h18, h19, h20, h21, h22, h23, h24, h25, h26, h27, h28, h29, h30, h31, h32, h33, h34, h35, h36, -⟩ := hh
        have g0 : f 0 = _ := h0
        have g1 : f 1 = _ := h1
        have g2 : f 2 = _ := h2
        have g3 : f 3 = _ := h3
        have g4 : f 4 = _ := h4
        have g5 : f 5 = _ := h5
        have g6 : f 6 = _ := h6
        have g7 : f 7 = _ := h7
        have g8 : f 8 = _ := h8
        have g9 : f 9 = _ := h9
        have g10 : f 10 = _ := h10
        have g11 : f 11 = _ := h11
        have g12 : f 12 = _ := h12
        have g13 : f 13 = _ := h13
        have g14 : f 14 = _ := h14
        have g15 : f 15 = _ := h15
        have g16 : f 16 = _ := h16
        have g17 : f 17 = _ := h17
        have g18 : f 18 = _ := h18
        have g19 : f 19 = _ := h19
        have g20 : f 20 = _ := h20
        have g21 : f 21 = _ := h21
        have g22 : f 22 = _ := h22
        have g23 : f 23 = _ := h23
        have g24 : f 24 = _ := h24
        have g25 : f 25 = _ := h25
        have g26 : f 26 = _ := h26
        have g27 : f 27 = _ := h27
        have g28 : f 28 = _ := h28
        have g29 : f 29 = _ := h29
        have g30 : f 30 = _ := h30
        have g31 : f 31 = _ := h31
        have g32 : f 32 = _ := h32
        have g33 : f 33 = _ := h33
        have g34 : f 34 = _ := h34
        have g35 : f 35 = _ := h35
        have g36 : f 36 = _ := h36
        simp only [puts, Za, Zb, Zc, Zd, Ze, g0, g1, g2, g3, g4, g5, g6, g7, g8, g9, g10, g11, g12, g13, g14, g15, g16, g17, g18, g19, g20, g21, g22, g23, g24, g25, g26, g27, g28, g29, g30, g31, g32, g33, g34, g35, g36]
        clear h0 h1 h2 h3 h4 h5 h6 h7 h8 h9 h10 h11 h12 h13 h14 h15 h16 h17 h18 h19 h20 h21 h22 h23 h24 h25 h26 h27 h28 h29 h30 h31 h32 h33 h34 h35 h36 g0 g1 g2 g3 g4 g5 g6 g7 g8 g9 g10 g11 g12 g13 g14 g15 g16 g17 g18 g19 g20 g21 g22 g23 g24 g25 g26 g27 g28 g29 g30 g31 g32 g33 g34 g35 g36
        go_wp2
        go_ret
        exact ⟨by rw [← HNO.out HQ.out]; rfl, HBN.out.trans (hC.mono HBN.out.size)⟩
    ·have hkl : k = al := by omega
     subst hkl
     have HYES : Hid (true = V) := Lib.hid (HD _ (vN_yes ⟨⟨by simp only; omega, by simp only; omega⟩, by simp only; rw [HFL.out]; exact H4.out, by simp only; omega, HST.out, fun i hi => HA.out i (by simp only at hi; omega)⟩).symm)
     clear HD hst
     go_wp2
     go_ret
     exact ⟨by rw [← HYES.out]; rfl, hbW⟩
end Go.Proofs.YtofaifeadhimjaaGreatDoor
