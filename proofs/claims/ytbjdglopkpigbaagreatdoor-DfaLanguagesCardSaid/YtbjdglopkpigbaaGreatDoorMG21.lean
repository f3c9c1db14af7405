import Derived.Test.YtbjdglopkpigbaaGreatDoorMG7
import Derived.Test.YtbjdglopkpigbaaGreatDoorMG20
/-
  NaEc
-/
set_option linter.unusedSimpArgs false
set_option linter.unusedVariables false
namespace Go.Proofs.YtbjdglopkpigbaaGreatDoor.Na
open Go.RowKit
attribute [local go_sem] Oper.semAt_some
theorem make_row {P : Program} {T E : TypeId} {bytes : Nat} {z : Value} (el : Elem P T E z 1 bytes) (hz : z.cells = #[z]) {w : World} {ops : Array Oper} {rest : List Oper} {o : Oper} {a : Act} {Q : Exit → Act → World → Prop} (hgd : Region.wanted o (yielded ops a.tmps) = true) (l c : Operand)
  (ho : o.op = .makeSlice T l c) {B : Nat} {kl kc : IntKind} {n : Nat} {C C' : Int} (hl : a.eval l = .int kl C') (hc : a.eval c = .int kc C) (hC : C = n) (hC' : C' = n) (hb : n * (bytes + 1) ≤ 140737488355328) (hB : B ≤ w.heap.size)
  (h : ∀ w', w'.ownsRow B E 1 (.slice (some ⟨w.heap.size, 0, none⟩) n n) n (List.replicate n z) → Below B w w' → wpList P ops Q rest (a.put o.dst (.slice (some ⟨w.heap.size, 0, none⟩) n n)) w') : wpList P ops Q (o :: rest) a w := by
 refine wpList_wanted hgd fun K hK => wp_make_full el l c ho hl hc hC hC' hb hB fun w' h1 _ h3 => hK _ _ (h w' ?_ h3)
 rw [hz, Nat.mul_one, toList_madeCells_one] at h1
 exact h1
theorem cloPs_start {W : World} {B gr N : Nat} {os : List Bool} (ho : W.ownsRow B 4 1 (.slice (some ⟨gr, 0, none⟩) N N) N (bvs os)) (hB : B ≤ W.heap.size) :
  Pcs ((W.alloc (.cells #[.slice (some ⟨gr, 0, none⟩) N N] 22)).alloc (.cells #[.slice none 0 0] 26)) B (cloPs W.heap.size (W.heap.size + 1) gr N os [] (.slice none 0 0)) := by
 have h1 := (Pcs.oneN (p := .row 4 1 (.slice (some ⟨gr, 0, none⟩) N N) N (bvs os)) ho).new hB #[.slice (some ⟨gr, 0, none⟩) N N] 22
 have h2 := h1.new (by simp; omega) #[.slice none 0 0] 26
 have h3 := h2.empty 3 1
 rw [World.size_alloc] at h3
 exact h3
def GivesS (p : Nat → Bool) (w : World) (e : Ending) (w' : World) : Prop :=
 ∃ g t zs, e = .returned (.slice (some ⟨g, 0, none⟩) t t) ∧ PartOf .u64 104 w' w.heap.size g t zs ∧ Bt.SetIs zs p ∧ t ≤ 64 ∧ Below w.heap.size w w'
def inL (l : List Int) (n : Nat) : Bool := decide ((n : Int) ∈ l)
theorem make_S {a : Option Addr} {len cap : Nat} {l : List Int} {w : World} (hs : IsInts .i64 w a len cap l) (hw : ∀ n ∈ l, (Lit.int .i64 n).wf = true) :
  Calls Tryz.prog 46 #[.slice a len cap] w (GivesS (inL l) w) := by
 refine (Bt.make_any _ _ _ _ _ hs hw).mono ?_
 rintro e w' ⟨g, t, he, hp, hb⟩
 have hz := Bt.make_spec l
 exact ⟨g, t, _, he, hp, hz, by rw [← hp.length]; exact hz.2.1.1, hb⟩
theorem GivesS.congr {p q : Nat → Bool} {w w' : World} {e : Ending} (h : GivesS p w e w') (hpq : ∀ n, n < 4096 → p n = q n) : GivesS q w e w' := by
 obtain ⟨g, t, zs, h1, h2, h3, h4⟩ := h
 exact ⟨g, t, zs, h1, h2, ⟨h3.1, h3.2.1, fun n hn => (h3.2.2 n hn).trans (hpq n hn)⟩, h4⟩
theorem GivesS.from {p : Nat → Bool} {w w1 w' : World} {e : Ending} (h : GivesS p w1 e w') (hb : Below w.heap.size w w1) : GivesS p w e w' := by
 obtain ⟨g, t, zs, h1, h2, h3, h4, h5⟩ := h
 exact ⟨g, t, zs, h1, h2.from_mono hb.size, h3, h4, hb.trans (h5.mono hb.size)⟩
def ArIn (h : NH) (a : Nfa) (es : List A3) : Value → World → Prop := fun v _ => ∃ b c, v = .slice b es.length c ∧ ∀ W, IsNfa W h a → IsArcs W b es.length c es
theorem stays_arin (h : NH) (a : Nfa) (es : List A3) : Stays (ArIn h a es) := fun _ _ _ _ h => h
theorem gi_mem_n {l : List Int} {i : Nat} (hi : i < l.length) : gi l i ∈ l := gi_mem' hi
theorem gi_pre' {l l' : List Int} (h : l <+: l') {i : Nat} (hi : i < l.length) : gi l' i = gi l i := by
 obtain ⟨t, rfl⟩ := h
 unfold gi
 rw [List.getD_eq_getElem?_getD, List.getD_eq_getElem?_getD, List.getElem?_append_left hi]
set_option maxRecDepth 20000 in
set_option maxHeartbeats 8000000 in
theorem closed_any {a : Nfa} {h : NH} {w : World} {aq : Option Addr} {lq cq : Nat} {l : List Int} (hv : ValidN a) (hd : IsNfa w h a) (hq : IsInts .i64 w aq lq cq l) (hl : Bd a.n l) :
  Calls Tryz.prog 29 #[vNf a h, .slice aq lq cq] w (GivesS (inL (cloL a.arcs l)) w) := by
 have HV := Lib.hid hv
 have HBD := Lib.hid hl
 have hn := hv.1
 obtain ⟨W1, hW1, hs1, hb1, hO⟩ := boxNW a h w hd
 have hq1 := hq.later hb1
 have HQ1 := Lib.hid hq1
 have hlq := hq.length
 have HLQ := Lib.hid hlq
 have hcq := hq.cap
 unfold maxLen at hcq
 obtain ⟨N, hN⟩ := Int.eq_ofNat_of_zero_le hn.1
 have HN := Lib.hid hN
 have hN2 : N ≤ 200 := by omega
 have HO := Lib.hid hO
 have HS1 := Lib.hid hs1
 have HB1 := Lib.hid hb1
 obtain ⟨⟨c1, c2, c3, c4⟩, -, -⟩ := hO W1 (by rw [← hs1]; exact Below.refl _ _)
 rw [hN] at c1 hW1
 have hmf : ∀ (fn : Fn) (first cap : Array Value) (w : World), (Instr.makeFunc fn first cap).run Tryz.prog w = .ok (.func fn first cap) w := fun _ _ _ _ => rfl
 unfold vNf
 rw [hN]
 clear hv hd hq hl hO hlq hn hq1
 go_enter Tryz.func29, Tryz.ntmps29
 clear hb1 hs1
 go_wp2_with (refine make_row elB rfl rfl _ _ rfl rfl rfl rfl rfl (by omega) (Nat.le_refl _) ?_; intro w2 ho2 hb2)
 rw [show List.replicate N (Value.bool false) = bvs (List.replicate N false) by simp [bvs]] at ho2
 have hP := cloPs_start ho2 hb2.size
 have hbX : Below W1.heap.size W1 ((w2.alloc (.cells #[.slice (some ⟨W1.heap.size, 0, none⟩) N N] 22)).alloc (.cells #[.slice none 0 0] 26)) := (hb2.alloc hb2.size _).alloc (by have := hb2.size; simp; omega) _
 obtain ⟨X, hX⟩ : ∃ X, (w2.alloc (.cells #[.slice (some ⟨W1.heap.size, 0, none⟩) N N] 22)).alloc (.cells #[.slice none 0 0] 26) = X := ⟨_, rfl⟩
 have HPO : Hid (W1.heap.size ≤ w2.heap.size) := Lib.hid hb2.size
 rw [hX] at hP hbX ⊢
 obtain ⟨po, hpo⟩ : ∃ po, w2.heap.size = po := ⟨_, rfl⟩
 rw [hpo] at hP HPO ⊢
 have HP := Lib.hid hP
 have HBX := Lib.hid hbX
 have HE0 : Hid (VisI a.arcs l a.n (List.replicate N false) []) := Lib.hid (by
  have := VisI.start (ar := a.arcs) (l := l) HV.out.1.1
  rwa [show a.n.toNat = N by have := HN.out; omega] at this)
 clear hP hbX hX hpo ho2 hb2 c1 c2 c3 c4 hW1
 go_loopw [19] (fun c W => ∃ (i : Nat) (os : List Bool) (td : List Int) (at' : Option Addr) (ct : Nat), i ≤ lq ∧ c = .int .i64 (i : Int) ∧ Pcs W W1.heap.size (cloPs po (po + 1) W1.heap.size N os td (.slice at' td.length ct)) ∧ Hid (VisI a.arcs l a.n os td) ∧ Hid (∀ j, j < i → gi l j ∈ td) ∧ Below W1.heap.size W1 W) (fun c _ => lq - (intOf c).toNat)
 case atStart => exact ⟨0, _, [], none, 0, Nat.zero_le _, rfl, HP.out, HE0, Lib.hid (fun j hj => by omega), HBX.out⟩
 case round =>
  clear HP HBX HE0
  obtain ⟨i, os, td, at', ct, hi, rfl, hP, HE, HF, hb⟩ := hrel
  have hosl : os.length = N := by have := HE.out.len; have := HN.out; omega
  have htl : td.length ≤ 1000 := by have := HE.out.tlen; have := HN.out; omega
  have hsz : W1.heap.size ≤ wr.heap.size := hb.size
  rcases Nat.lt_or_ge i lq with hlt | hge
  ·have t1 : decide (i < lq) = true := decide_eq_true hlt
   obtain ⟨bq, oq, rfl, hbl, hc⟩ := HQ1.out.at wr hb i hlt
   obtain ⟨z, hz⟩ : ∃ z, gi l i = z := ⟨_, rfl⟩
   have hzm : z ∈ l := by rw [← hz]; exact gi_mem_n (by rw [HLQ.out]; exact hlt)
   have hzb := HBD.out z hzm
   obtain ⟨z, rfl⟩ := Int.eq_ofNat_of_zero_le hzb.1
   have hzN : z < N := by have := HN.out; omega
   rw [hz] at hc
   have hvis := visit_any (n := z) hP hosl hzN htl hsz
   have HE2 := Lib.hid (HE.out.visit (m := z) (by have := HN.out; omega) (.of_mem hzm))
   have HF2 : Hid (∀ j, j < i + 1 → gi l j ∈ tdN os td z) := Lib.hid (fun j hj => by
    rcases Nat.lt_or_ge j i with h1 | h1
    ·exact (tdN_pre os td z).subset (HF.out j h1)
    ·rw [show j = i by omega, hz]; exact tdN_mem HE.out (by have := HN.out; omega))
   clear hz hzm hzb hP
   go_wp2_with (go_at_call 44; refine hvis.mono ?_; rintro e w5 ⟨rfl, ⟨a5, c5, hP5⟩, hb5⟩)
   go_roundw
   case rel => exact ⟨i + 1, _, _, a5, c5, hlt, by go_num, hP5, HE2, HF2, hb.trans hb5⟩
   case measure => simp [intOf]; omega
  ·obtain rfl : i = lq := by omega
   have t1 : decide (i < i) = false := decide_eq_false (by omega)
   have HF2 : Hid (∀ z ∈ l, z ∈ td) := Lib.hid (fun z hz => by
    obtain ⟨j, hj, e⟩ := List.getElem_of_mem hz
    have := HF.out j (by rw [HLQ.out] at hj; exact hj)
    rwa [show gi l j = z by rw [← e]; simp [gi, List.getD, hj]] at this)
   have HP := Lib.hid hP
   have HB := Lib.hid hb
   clear hP hb
   go_wp2_with (fail)
   go_loopw [10] (fun c W => ∃ (hd : Nat) (os : List Bool) (td : List Int) (at' : Option Addr) (ct : Nat), hd ≤ td.length ∧ c = .int .i64 (hd : Int) ∧ Pcs W W1.heap.size (cloPs po (po + 1) W1.heap.size N os td (.slice at' td.length ct)) ∧ Hid (VisI a.arcs l a.n os td) ∧ Hid (∀ z ∈ l, z ∈ td) ∧ Hid (∀ j, j < hd → ∀ x ∈ a.arcs, x.l = 0 → x.f = gi td j → x.t ∈ td) ∧ Below W1.heap.size W1 W) (fun c _ => N - (intOf c).toNat)
   case atStart => exact ⟨0, os, td, at', ct, Nat.zero_le _, rfl, HP.out, HE, HF2, Lib.hid (fun j hj => by omega), HB.out⟩
   case round =>
    clear HP HB HE HF2 HF hi hge t1
    obtain ⟨hd, os, td, at', ct, hh, rfl, hP, HE, HF, HD, hb⟩ := hrel
    have hosl : os.length = N := by have := HE.out.len; have := HN.out; omega
    have htl : td.length ≤ N := by have := HE.out.tlen; have := HN.out; omega
    have cpt : wr.cell? ⟨po + 1, 0, none⟩ = some (.slice at' td.length ct) := ((hP.blk 2 rfl).2.cell 0).1
    rcases Nat.lt_or_ge hd td.length with hlt | hge
    ·have t3 : decide (hd < td.length) = true := decide_eq_true hlt
     obtain ⟨gt, rfl, -, -⟩ := owns_at (hP.row 3 rfl) (by omega)
     have ctd := (own_cell (hP.row 3 rfl) hd hlt rfl).1
     obtain ⟨Q, hQ⟩ : ∃ Q, gi td hd = Q := ⟨_, rfl⟩
     have hQm : Q ∈ td := by rw [← hQ]; exact gi_mem_n hlt
     have hQr := HE.out.rng Q hQm
     obtain ⟨Q, rfl⟩ := Int.eq_ofNat_of_zero_le hQr.1
     rw [hQ] at ctd
     have HQ := Lib.hid hQ
     have HQM := Lib.hid hQm
     have HP := Lib.hid hP
     have HB := Lib.hid hb
     obtain ⟨⟨c1, c2, c3, c4⟩, hdr, -⟩ := HO.out wr (by rw [← HS1.out]; exact hb)
     have hda := fun W (hB : Below wr.heap.size wr W) => arcs_in a h (Q : Int) 0 W (hdr.later hB) HV.out.sorted (fun x hx => (HV.out.arc hx).1.2.1) (by have := HV.out.2.2.1; omega) (by omega)
     simp only [vNf] at hda
     rw [hN] at c1 hda
     obtain ⟨OA, hOA⟩ : ∃ OA, arcsN a.arcs (Q : Int) 0 = OA := ⟨_, rfl⟩
     rw [hOA] at hda
     have HOA : Hid (∀ x, x ∈ OA ↔ x ∈ a.arcs ∧ x.f = (Q : Int) ∧ x.l = 0) := Lib.hid (fun x => by rw [← hOA]; unfold arcsN; rw [List.mem_filter]; simp)
     have hol : OA.length ≤ 2000 := by rw [← hOA]; exact Nat.le_trans (List.length_filter_le _ _) HV.out.2.2.1
     have HDA := Lib.hid hda
     clear hda hQ hP hb hQr hQm hOA hdr
     go_upto_region 12 with (fail)
     refine wp_region_grow mixed (by kernel_rfl) [[], [], [], [(1, 34), (2, 35)], [(3, 36)], [(0, 33), (4, 37)], [(5, 38)], []] [(0, 33), (1, 34), (2, 35), (3, 36), (4, 37), (5, 38), (6, 39), (7, 40)] rfl rfl [Ex ?e0, Ex ?e1, Ex ?e2, Ex ?e3, Ex ?e4, ArIn h a OA, Ex ?e6, Ex ?e7] ⟨stays_ex _, stays_ex _, stays_ex _, stays_ex _, stays_ex _, stays_arin _ _ _, stays_ex _, stays_ex _, trivial⟩ ?steps ?rest
     case steps =>
      refine ⟨fun f W hC hh => ?_, fun f W hC hh => ?_, fun f W hC hh => ?_, fun f W hC hh => ?_, fun f W hC hh => ?_, fun f W hC hh => ?_, fun f W hC hh => ?_, fun f W hC hh => ?_, trivial⟩
      ·
       refine tab_plain fun K Q hK => ?_;simp only [puts, List.foldr_nil]
       have m1 := (hC.cell (p := ⟨w.heap.size, 0, none⟩) (lt_of_cell c1)).trans c1
       have m2 := (hC.cell (p := ⟨w.heap.size, 1, none⟩) (lt_of_cell c2)).trans c2
       have m3 := (hC.cell (p := ⟨w.heap.size, 2, none⟩) (lt_of_cell c3)).trans c3
       have m4 := (hC.cell (p := ⟨w.heap.size, 3, none⟩) (lt_of_cell c4)).trans c4
       have m5 := (hC.cell (p := ⟨po + 1, 0, none⟩) (lt_of_cell cpt)).trans cpt
       have m6 := (hC.cell (p := ⟨gt, hd, none⟩) (lt_of_cell ctd)).trans ctd
       go_step;exact fam_e hK rfl rfl (Below.refl _ _) hC
      ·
       refine tab_plain fun K Q hK => ?_;simp only [puts, List.foldr_nil]
       have m1 := (hC.cell (p := ⟨w.heap.size, 0, none⟩) (lt_of_cell c1)).trans c1
       have m2 := (hC.cell (p := ⟨w.heap.size, 1, none⟩) (lt_of_cell c2)).trans c2
       have m3 := (hC.cell (p := ⟨w.heap.size, 2, none⟩) (lt_of_cell c3)).trans c3
       have m4 := (hC.cell (p := ⟨w.heap.size, 3, none⟩) (lt_of_cell c4)).trans c4
       have m5 := (hC.cell (p := ⟨po + 1, 0, none⟩) (lt_of_cell cpt)).trans cpt
       have m6 := (hC.cell (p := ⟨gt, hd, none⟩) (lt_of_cell ctd)).trans ctd
       go_step;exact fam_e hK rfl rfl (Below.refl _ _) hC
      ·
       refine tab_plain fun K Q hK => ?_;simp only [puts, List.foldr_nil];go_step;exact fam_e hK rfl rfl (Below.refl _ _) hC
      ·
       obtain ⟨h1, h2, -⟩ := hh;have g1 : f 1=_:=h1;have g2 : f 2=_:=h2;refine tab_plain fun K Q hK => ?_;simp only [puts, List.foldr_cons, List.foldr_nil, List.setIfInBounds_toArray, List.set_cons_succ, List.set_cons_zero, g1, g2];go_step;exact fam_e hK rfl rfl (Below.refl _ _) hC
      ·
       obtain ⟨h3, -⟩ := hh;have g3 : f 3=_:=h3;refine tab_plain fun K Q hK => ?_;simp only [puts, List.foldr_cons, List.foldr_nil, List.setIfInBounds_toArray, List.set_cons_succ, List.set_cons_zero, g3]
       have m1 := (hC.cell (p := ⟨w.heap.size, 0, none⟩) (lt_of_cell c1)).trans c1
       have m2 := (hC.cell (p := ⟨w.heap.size, 1, none⟩) (lt_of_cell c2)).trans c2
       have m3 := (hC.cell (p := ⟨w.heap.size, 2, none⟩) (lt_of_cell c3)).trans c3
       have m4 := (hC.cell (p := ⟨w.heap.size, 3, none⟩) (lt_of_cell c4)).trans c4
       have m5 := (hC.cell (p := ⟨po + 1, 0, none⟩) (lt_of_cell cpt)).trans cpt
       have m6 := (hC.cell (p := ⟨gt, hd, none⟩) (lt_of_cell ctd)).trans ctd
       go_step;exact fam_e hK rfl rfl (Below.refl _ _) hC
      ·
       obtain ⟨h0, h4, -⟩ := hh;have g0 : f 0=_:=h0;have g4 : f 4=_:=h4;refine tab_plain fun K Q hK => ?_;simp only [puts, List.foldr_cons, List.foldr_nil, List.setIfInBounds_toArray, List.set_cons_succ, List.set_cons_zero, g0, g4];go_step
       go_at_call 45
       refine (HDA.out W hC).mono ?_
       rintro e w' ⟨⟨a', c', rfl, ia⟩, hb⟩
       exact fam_fin hK rfl ⟨a', c', rfl, ia⟩ hb (hC.trans (hb.mono hC.size))
      ·
       obtain ⟨h5, -⟩ := hh
       obtain ⟨a5, c5, g5, s5⟩ := h5
       refine tab_plain fun K Q hK => ?_;simp only [puts, List.foldr_cons, List.foldr_nil, List.setIfInBounds_toArray, List.set_cons_succ, List.set_cons_zero, g5];go_step;exact fam_e hK rfl rfl (Below.refl _ _) hC
      ·
       refine tab_plain fun K Q hK => ?_;simp only [puts, List.foldr_nil];go_step;exact fam_e hK rfl rfl (Below.refl _ _) hC
     case rest =>
      intro f WN hC hh
      obtain ⟨h0, h1, h2, h3, h4, h5, h6, h7, -⟩ := hh;have g0 : f 0=_:=h0;have g1 : f 1=_:=h1;have g2 : f 2=_:=h2;have g3 : f 3=_:=h3;have g4 : f 4=_:=h4
      obtain ⟨a5, c5, g5, s5⟩ := h5
      have g6 : f 6=_:=h6;have g7 : f 7=_:=h7;simp only [puts, List.foldr_cons, List.foldr_nil, List.setIfInBounds_toArray, List.set_cons_succ, List.set_cons_zero, g0, g1, g2, g3, g4, g5, g6, g7]
      clear h0 h1 h2 h3 h4 h6 h7 g0 g1 g2 g3 g4 g6 g7
      have hPN := HP.out.quiet (below_grows hC none)
      have hBN : Below W1.heap.size W1 WN := HB.out.trans (hC.mono HB.out.size)
      have HPN := Lib.hid hPN
      have HBN := Lib.hid hBN
      have HS5 := Lib.hid s5
      clear hPN hBN hC c1 c2 c3 c4 cpt ctd s5 g5
      go_wp2_with (fail)
      go_loopw [40] (fun c W => ∃ (r : Nat) (os2 : List Bool) (td2 : List Int) (at' : Option Addr) (ct : Nat), r ≤ OA.length ∧ c = .int .i64 (r : Int) ∧ Pcs W W1.heap.size (cloPs po (po + 1) W1.heap.size N os2 td2 (.slice at' td2.length ct)) ∧ Hid (VisI a.arcs l a.n os2 td2) ∧ Hid (td <+: td2) ∧ Hid (∀ i, i < r → (g3 OA i).t ∈ td2) ∧ Below W1.heap.size W1 W) (fun c _ => OA.length - (intOf c).toNat)
      case atStart => exact ⟨0, os, td, _, ct, Nat.zero_le _, rfl, HPN.out, HE, Lib.hid (List.prefix_refl _), Lib.hid (fun i hi => by omega), HBN.out⟩
      case round =>
       clear HPN HBN
       obtain ⟨r, os2, td2, at2, ct2, hr, rfl, hP, HE2, HPR, HDN, hb⟩ := hrel
       rcases Nat.lt_or_ge r OA.length with hlt2 | hge2
       ·have t4 : decide (r < OA.length) = true := decide_eq_true hlt2
        obtain ⟨-, hdr, -⟩ := HO.out wr (by rw [← HS1.out]; exact hb)
        obtain ⟨bA, oA, rfl, hcA⟩ := (HS5.out wr hdr).fix (by omega)
        obtain ⟨y1, y2, y3⟩ := hcA wr (Below.refl _ _) r hlt2
        obtain ⟨⟨x, xl, y⟩, hx⟩ : ∃ x, g3 OA r = x := ⟨_, rfl⟩
        rw [hx] at y1 y2 y3
        simp only at y1 y2 y3
        have hxm := (HOA.out ⟨x, xl, y⟩).1 (by rw [← hx]; exact g3_mem _ _ hlt2)
        have hxa := (HV.out.arc hxm.1).1.2
        simp only at hxa
        obtain ⟨y, rfl⟩ := Int.eq_ofNat_of_zero_le hxa.1
        have hyN : y < N := by have := HN.out; omega
        have hosl2 : os2.length = N := by have := HE2.out.len; have := HN.out; omega
        have htl2 : td2.length ≤ 1000 := by have := HE2.out.tlen; have := HN.out; omega
        have HP2 := Lib.hid hP
        have HB2 := Lib.hid hb
        have HE3 := Lib.hid (HE2.out.visit (m := y) (by have := HN.out; omega) (by
         have h1 : Clo a.arcs l (Q : Int) := HE.out.use _ HQM.out
         have h2 := Clo.arc (x := ⟨x, xl, (y : Int)⟩) (ar := a.arcs) (l := l) (by simp only; rw [show x = (Q : Int) from hxm.2.1]; exact h1) hxm.1 hxm.2.2
         exact h2))
        have HPR3 := Lib.hid (HPR.out.trans (tdN_pre os2 td2 y))
        have HDN3 : Hid (∀ i, i < r + 1 → (g3 OA i).t ∈ tdN os2 td2 y) := Lib.hid (fun i hi => by
         rcases Nat.lt_or_ge i r with h1 | h1
         ·exact (tdN_pre os2 td2 y).subset (HDN.out i h1)
         ·rw [show i = r by omega, hx]; exact tdN_mem HE2.out (by have := HN.out; omega))
        have hszr : W1.heap.size ≤ wr.heap.size := hb.size
        have hvis := fun W (hP : Pcs W W1.heap.size (cloPs po (po + 1) W1.heap.size N os2 td2 (.slice at2 td2.length ct2))) (hB : W1.heap.size ≤ W.heap.size) => visit_any (n := y) hP hosl2 hyN htl2 hB
        have HVIS := Lib.hid hvis
        clear hcA hx hxm hxa hP hb hdr hvis
        go_wp2_with (go_at_call 44; refine (HVIS.out _ (HP2.out.quiet (below_grows ((Below.refl _ _).alloc (Nat.le_refl _) _) none)) (by simp; omega)).mono ?_; rintro e w5 ⟨rfl, ⟨a5, c5, hP5⟩, hb5⟩)
        go_roundw
        case rel => exact ⟨r + 1, _, _, a5, c5, hlt2, by go_num, hP5, HE3, HPR3, HDN3, (HB2.out.alloc hszr _).trans hb5⟩
        case measure => simp [intOf]; omega
       ·have t4 : decide (r < OA.length) = false := decide_eq_false (by omega)
        have HF3 : Hid (∀ z ∈ l, z ∈ td2) := Lib.hid (fun z hz => HPR.out.subset (HF.out z hz))
        have HL2 : Hid (hd + 1 ≤ td2.length) := Lib.hid (by have := HPR.out.length_le; omega)
        have HD3 : Hid (∀ j, j < hd + 1 → ∀ x ∈ a.arcs, x.l = 0 → x.f = gi td2 j → x.t ∈ td2) := Lib.hid (fun j hj x hx h0 hf => by
         rw [gi_pre' HPR.out (by omega)] at hf
         rcases Nat.lt_or_ge j hd with h1 | h1
         ·exact HPR.out.subset (HD.out j h1 x hx h0 hf)
         ·have hm : x ∈ OA := (HOA.out x).2 ⟨hx, by rw [hf, show j = hd by omega]; exact HQ.out, h0⟩
          obtain ⟨i, hi, e⟩ := List.getElem_of_mem hm
          have := HDN.out i (by omega)
          rwa [g3_eq _ _ hi, e] at this)
        go_wp2_with (fail)
        go_roundw
        case rel => exact ⟨hd + 1, os2, td2, at2, ct2, HL2.out, by go_num, hP, HE2, HF3, HD3, hb⟩
        case measure => simp [intOf]; omega
    ·have t3 : decide (hd < td.length) = false := decide_eq_false (by omega)
     have HK : Hid (∀ z, z ∈ td ↔ z ∈ cloL a.arcs l) := Lib.hid (HE.out.done HV.out.arcsIn HBD.out HF.out (fun z hz x hx h0 hf => by
      obtain ⟨j, hj, e⟩ := List.getElem_of_mem hz
      exact HD.out j (by omega) x hx h0 (by rw [hf, ← e]; simp [gi, List.getD, hj])))
     have hIT := (IsInts.of_owns (hP.row 3 rfl)).1
     have hwf : ∀ n ∈ td, (Lit.int .i64 n).wf = true := fun n hn => by
      have := HE.out.rng n hn
      have := HN.out
      exact WalkArith.wf_i64 ⟨by omega, by omega⟩
     have hmk := make_S hIT hwf
     have HBB : Hid (Below w.heap.size w wr) := Lib.hid (HB1.out.trans (hb.mono (by have := HS1.out; omega)))
     have HMK := Lib.hid hmk
     clear hP hb hIT hwf hmk
     go_wp2_with (go_at_call 46; refine HMK.out.mono ?_; rintro e w9 ⟨g, t, zs, rfl, hpz, hzs, ht, hb9⟩)
     go_ret
     exact ⟨g, t, zs, rfl, hpz.from_mono HBB.out.size, ⟨hzs.1, hzs.2.1, fun n hn => by
      rw [hzs.2.2 n hn]
      unfold inL
      rw [decide_eq_decide.2 (HK.out n)]⟩, ht, HBB.out.trans (hb9.mono HBB.out.size)⟩
end Go.Proofs.YtbjdglopkpigbaaGreatDoor.Na
