import Derived.Test.YtpcbmhfnefhenaaMG29
import Derived.Test.YtpcbmhfnefhenaaMG30
/-
  DfaI, DfaF
-/
set_option linter.unusedSimpArgs false
set_option linter.unusedVariables false
namespace Go.Proofs.Ytpcbmhfnefhenaa
open List (foldr_cons foldr_nil setIfInBounds_toArray set_cons_succ set_cons_zero)
open Go.RowKit
attribute [local go_sem] Oper.semAt_some

variable {d : Dfa} {h : DH} {w : World}
theorem outsD_succ {ar : List A3} {k : Nat} (hk : k < ar.length) (q : Int) : outsD (ar.take (k + 1)) q = outsD (ar.take k) q ++ (if (g3 ar k).f = q then [g3 ar k] else []) := by
 rw [take_succ_g3 ar k hk]
 unfold outsD
 rw [List.filter_append]
 by_cases h : (g3 ar k).f = q
 ·rw [if_pos h]; simp [h]
 ·rw [if_neg h]; simp [h]
set_option maxRecDepth 20000 in
set_option maxHeartbeats 1000000 in
theorem refOuts_any (q : Int) (hd : IsDfa w h d) (hl : d.arcs.length ≤ 20000) :
  Calls Try.prog 63 #[vDf d h, .int .i64 q] w fun e w' => (∃ a' c', e = .returned (.slice a' (outsD d.arcs q).length c') ∧ IsArcs w' a' (outsD d.arcs q).length c' (outsD d.arcs q)) ∧ Below w.heap.size w w' := by
 obtain ⟨W1, hW1, hs1, hb1, hO⟩ := boxRW d h w hd
 obtain ⟨⟨c1, c2, c3, c4⟩, -, -⟩ := hO W1 (Below.refl _ _)
 have he := hd.arcs
 obtain ⟨n, s, fin, es⟩ := d
 obtain ⟨fa, fl, fc, aa, al, ac⟩ := h
 simp only [vDf] at hW1 hs1 hb1 hO c1 c2 c3 c4 he hl ⊢
 have hlen := he.length
 rw [hlen] at hl
 have HX := Lib.hid hlen
 have HO := Lib.hid hO
 have HB1 := Lib.hid hb1
 have hsz1 : w.heap.size + 1 ≤ W1.heap.size := by omega
 have HS1 := Lib.hid hs1
 clear hlen hd hO
 go_enter Try.func63, Try.ntmps63
 go_wp2_with (fail)
 clear hW1 hb1 c1 c2 c3 c4 hs1
 go_loopw [5, 6] (fun v x W => ∃ (k : Nat) (ps : List A3) (ao : Option Addr) (co : Nat), k ≤ al ∧ x = .int .i64 (k : Int) ∧ v = .slice ao ps.length co ∧ Hid (ps = outsD (es.take k) q) ∧ W.ownsRow W1.heap.size 66 3 (.slice ao ps.length co) ps.length (tvs ps) ∧ Below W1.heap.size W1 W) (fun _ x _ => al - (intOf x).toNat)
 case atStart => exact ⟨0, [], none, 0, Nat.zero_le _, rfl, rfl, Lib.hid rfl, World.ownsRow_nil _ _ _ _, Below.refl _ _⟩
 case round =>
  obtain ⟨k, ps, ao, co, hk, rfl, rfl, HP, ho, hb⟩ := hrel
  have hbb : Below (w.heap.size + 1) W1 wr := hb.mono hsz1
  obtain ⟨⟨e1, e2, e3, e4⟩, -, hbW⟩ := HO.out wr hbb
  rcases Nat.lt_or_ge k al with hlt | hge
  ·have t1 : decide ((k : Int) < al) = true := decide_eq_true (by omega)
   obtain ⟨b, off, rfl, hcell⟩ := he.fix (by omega)
   obtain ⟨x1, x2, x3, hx⟩ : ∃ x1 x2 x3, g3 es k = ⟨x1, x2, x3⟩ := ⟨_, _, _, rfl⟩
   obtain ⟨cx1, cx2, cx3⟩ := hcell wr hbW k hlt
   rw [hx] at cx1 cx2 cx3
   have HK := Lib.hid hx
   have hsucc := outsD_succ (ar := es) (k := k) (by rw [HX.out]; exact hlt) q
   rw [hx] at hsucc
   have hpl : Hid (ps.length ≤ 20000) := Lib.hid (by
    rw [HP.out]
    refine Nat.le_trans (List.length_filter_le _ _) ?_
    rw [List.length_take]
    omega)
   clear hx hcell he hbb hbW
   by_cases h1 : x1 = q
   ·have t2 : (x1 == q) = true := by simpa using h1
    have HN : Hid (ps ++ [⟨x1, x2, x3⟩] = outsD (es.take (k + 1)) q) := Lib.hid (by rw [hsucc, if_pos h1, HP.out])
    clear h1 hsucc
    go_wp2_with (at_builtin; refine app_arc elRA rfl _ _ rfl rfl ho rfl (by have := hpl.out; omega) hb.size ?_; intro a1 c1 w1 ho1 hb1 hs1)
    go_roundw
    case rel => exact ⟨k + 1, ps ++ [⟨x1, x2, x3⟩], a1, c1, hlt, by go_num, by rw [List.length_append]; rfl, HN, by rw [List.length_append]; exact ho1, hb.trans hb1⟩
    case measure => simp [intOf]; omega
   ·have t2 : (x1 == q) = false := by simpa using h1
    have HN : Hid (ps = outsD (es.take (k + 1)) q) := Lib.hid (by rw [hsucc, if_neg h1, HP.out, List.append_nil])
    clear h1 hsucc
    go_wp2_with (fail)
    go_roundw
    case rel => exact ⟨k + 1, ps, ao, co, hlt, by go_num, rfl, HN, ho, hb⟩
    case measure => simp [intOf]; omega
  ·have t1 : decide ((k : Int) < al) = false := decide_eq_false (by omega)
   have HR : Hid (outsD es q = ps) := Lib.hid (by rw [HP.out, List.take_of_length_le (by rw [HX.out]; exact hge)])
   have hI := (IsArcs.of_owns ho).1
   go_wp2_with (fail)
   go_ret
   rw [HR.out]
   exact ⟨⟨ao, co, rfl, hI⟩, hbW⟩
set_option maxRecDepth 20000 in
set_option maxHeartbeats 4000000 in
theorem refAccepts_any (hd : IsDfa w h d) {aw : Option Addr} {lw cw : Nat} {zs : List Int} (hw : IsInts .i64 w aw lw cw zs) (hlw : lw ≤ 1000000) :
  Calls Try.prog 24 #[vDf d h, .slice aw lw cw] w fun e w' => e = .returned (accV d zs) ∧ Below w.heap.size w w' := by
 have hwl := hw.length
 by_cases hv : ValidD d
 ·obtain ⟨V, hV⟩ : ∃ V, accQ d d.s zs = V := ⟨_, rfl⟩
  have HR : Hid (accV d zs = .tuple #[.bool V, .int .i64 0]) := Lib.hid (by rw [accV_yes hv, hV])
  have HV := Lib.hid hV
  have hl := hv.2.2.2.1
  have hfin := hv.2.2.1
  have harc := fun (x : A3) (hx : x ∈ d.arcs) => (hv.arc hx).1.2
  obtain ⟨hn1, hn2⟩ := hv.1
  obtain ⟨hs1', hs2'⟩ := hv.2.1
  obtain ⟨W1, hW1, hs1, hb1, hO⟩ := boxRW d h w hd
  obtain ⟨⟨c1, c2, c3, c4⟩, hd1, -⟩ := hO W1 (Below.refl _ _)
  have hva := refValid_yes hv hd1
  have hne := fun q c W (hW : IsDfa W h d) => refNext_any q c hW hl
  have hff := hd.fin
  have HSOME := Lib.hid (fun (q c : Int) (x : A3) (h : nxtD d.arcs q c = some x) (w : List Int) => accQ_some (d := d) h w)
  have HNONE := Lib.hid (fun (q c : Int) (h : nxtD d.arcs q c = none) (w : List Int) => accQ_none (d := d) h w)
  obtain ⟨acc, hacc⟩ : ∃ acc, accQ d = acc := ⟨_, rfl⟩
  have HNIL : Hid (∀ q, acc q [] = gb d.fin q.toNat) := Lib.hid (fun q => by rw [← hacc]; rfl)
  rw [hacc] at HV HSOME HNONE
  clear hV hacc
  have hfl := hff.length
  obtain ⟨n, s, fin, es⟩ := d
  obtain ⟨fa, fl, fc, aa, al, ac⟩ := h
  simp only [vDf] at hW1 hs1 hb1 hO c1 c2 c3 c4 hva hne HR HV HNIL HSOME HNONE hl hfin harc hn1 hn2 hs1' hs2' hff hfl ⊢
  have hnfl : (fl : Int) = n := by omega
  have hflc := hff.capLe
  unfold maxLen at hflc
  obtain ⟨bf, of, rfl, hfc⟩ := hff.fix (by omega)
  obtain ⟨S, rfl⟩ := Int.eq_ofNat_of_zero_le hs1'
  have HFIN := Lib.hid hfin
  have hcapw := hw.cap
  clear hv hd hd1 hff hfin hfl
  go_enter Try.func24, Try.ntmps24
  go_wp2_with (go_at_call 25; refine hva.mono ?_; rintro e w2 ⟨rfl, hb2⟩; obtain ⟨⟨c1', c2', c3', c4'⟩, hd2, hb02⟩ := hO w2 (hb2.mono (by omega)))
  have hsz2 : w.heap.size + 1 ≤ w2.heap.size := by have := hb2.size; omega
  have HB2 := Lib.hid (show Below (w.heap.size + 1) W1 w2 from hb2.mono (by omega))
  have HO := Lib.hid hO
  have HB02 := Lib.hid hb02
  clear hO hs1 hb1 hW1 hb2 c1 c2 c3 c4 c1' c2' c3' c4' hva hd2 hb02
  go_loopw [6, 7] (fun p c W => ∃ (k q : Nat), k ≤ lw ∧ c = .int .i64 (k : Int) ∧ p = .int .i64 (q : Int) ∧ q < fl ∧ Hid (V = acc q (zs.drop k)) ∧ Below w2.heap.size w2 W) (fun _ c _ => lw - (intOf c).toNat)
  case atStart => exact ⟨0, S, Nat.zero_le _, rfl, rfl, by omega, Lib.hid HV.out.symm, Below.refl _ _⟩
  case round =>
   obtain ⟨k, q, hk, rfl, rfl, hq, HI, hb⟩ := hrel
   have hbb := HB2.out.trans (hb.mono hsz2)
   obtain ⟨⟨c1, c2, c3, c4⟩, hd2, hbW⟩ := HO.out wr hbb
   have cf := hfc wr hbW q hq
   have HBW := Lib.hid hbW
   rcases Nat.lt_or_ge k lw with hlt | hge
   ·obtain ⟨bw, ow, rfl, hbw, hcw⟩ := hw.at w (Below.refl _ _) k hlt
    obtain ⟨z, hz⟩ : ∃ z, gi zs k = z := ⟨_, rfl⟩
    rw [hz] at hcw
    have HDROP : Hid (zs.drop k = z :: zs.drop (k + 1)) := Lib.hid (by rw [drop_gi zs k (by omega), hz])
    have hcm : ∀ W, Below wr.heap.size wr W → (W.cell? ⟨w.heap.size, 0, none⟩ = some (.int .i64 n) ∧ W.cell? ⟨w.heap.size, 1, none⟩ = some (.int .i64 (S : Int)) ∧ W.cell? ⟨w.heap.size, 2, none⟩ = some (.slice (some ⟨bf, of, none⟩) fl fc) ∧ W.cell? ⟨w.heap.size, 3, none⟩ = some (.slice aa al ac)) ∧ IsDfa W ⟨some ⟨bf, of, none⟩, fl, fc, aa, al, ac⟩ ⟨n, S, fin, es⟩ ∧ W.cell? ⟨bw, ow + k, none⟩ = some (.int .i64 z) := fun W h => by
     have h1 := HO.out W (hbb.trans (h.mono (Nat.le_trans hsz2 hb.size)))
     exact ⟨h1.1, h1.2.1, (h1.2.2.cell (p := ⟨bw, ow + k, none⟩) hbw).trans hcw⟩
    have HB := Lib.hid hb
    have t1 : decide ((k : Int) < lw) = true := decide_eq_true (by omega)
    clear hb hbb hfc cf hcw hbW hz hw c1 c2 c3 c4 hd2
    cases hx : nxtD es q z with
    | some x =>
     have HX : Hid (nxI es q z = x.t) := Lib.hid (nxI_some hx)
     have hxt := harc x (nxtD_mem hx).1
     have HA := Lib.hid (HSOME.out q z x hx (zs.drop (k + 1)))
     obtain ⟨x1, x2, x3⟩ := x
     simp only at HX hxt HA
     obtain ⟨X, rfl⟩ := Int.eq_ofNat_of_zero_le hxt.1
     clear hx harc
     go_wp2_with (fail)
     refine wp_region_grow mixed (by kernel_rfl) [[], [], [], [], [(2, 21), (3, 22)], [(4, 23)], [(0, 19), (1, 20), (5, 24)], [(6, 25), (6, 25), (0, 19), (1, 20), (2, 21), (3, 22), (4, 23), (5, 24), (6, 25)]] [(0, 19), (1, 20), (2, 21), (3, 22), (4, 23), (5, 24), (6, 25), (7, 6)] rfl rfl [Ex ?ea0, Ex ?ea1, Ex ?ea2, Ex ?ea3, Ex ?ea4, Ex ?ea5, Ex (.int .i64 (X : Int)), Ex ?ea7] ⟨stays_ex _, stays_ex _, stays_ex _, stays_ex _, stays_ex _, stays_ex _, stays_ex _, stays_ex _, trivial⟩ ?asteps ?arest
     case asteps =>
      refine ⟨fun f W hC hh => ?_, fun f W hC hh => ?_, fun f W hC hh => ?_, fun f W hC hh => ?_, fun f W hC hh => ?_, fun f W hC hh => ?_, fun f W hC hh => ?_, fun f W hC hh => ?_, trivial⟩
      ·
       refine tab_plain fun K Q hK => ?_
       simp only [puts, foldr_nil]
       obtain ⟨⟨f1, f2, f3, f4⟩, f5, f6⟩ := hcm W hC
       go_step
       exact fam_e hK rfl rfl (Below.refl _ _) hC
      ·
       refine tab_plain fun K Q hK => ?_
       simp only [puts, foldr_nil]
       go_step
       exact fam_e hK rfl rfl (Below.refl _ _) hC
      ·
       refine tab_plain fun K Q hK => ?_
       simp only [puts, foldr_nil]
       go_step
       exact fam_e hK rfl rfl (Below.refl _ _) hC
      ·
       refine tab_plain fun K Q hK => ?_
       simp only [puts, foldr_nil]
       go_step
       exact fam_e hK rfl rfl (Below.refl _ _) hC
      ·
       obtain ⟨h2, h3, -⟩ := hh
       have g2 : f 2 = _ := h2
       have g3 : f 3 = _ := h3
       refine tab_plain fun K Q hK => ?_
       simp only [puts, Za, Zb, Zc, Zd, Ze, g2, g3]
       go_step
       exact fam_e hK rfl rfl (Below.refl _ _) hC
      ·
       obtain ⟨h4, -⟩ := hh
       have g4 : f 4 = _ := h4
       refine tab_plain fun K Q hK => ?_
       simp only [puts, Za, Zb, Zc, Zd, Ze, g4]
       obtain ⟨⟨f1, f2, f3, f4⟩, f5, f6⟩ := hcm W hC
       go_step
       exact fam_e hK rfl rfl (Below.refl _ _) hC
      ·
       obtain ⟨h0, h1, h5, -⟩ := hh
       have g0 : f 0 = _ := h0
       have g1 : f 1 = _ := h1
       have g5 : f 5 = _ := h5
       refine tab_plain fun K Q hK => ?_
       simp only [puts, Za, Zb, Zc, Zd, Ze, g0, g1, g5]
       obtain ⟨⟨f1, f2, f3, f4⟩, f5, f6⟩ := hcm W hC
       go_step
       go_at_call 54
       refine (hne q z W f5).mono ?_
       rintro e w' ⟨rfl, hb⟩
       rw [HX.out]
       exact fam_fin hK rfl rfl hb (hC.trans (hb.mono hC.size))
      ·
       obtain ⟨h6, _, h0, h1, h2, h3, h4, h5, _, -⟩ := hh
       have g6 : f 6 = _ := h6
       have g0 : f 0 = _ := h0
       have g1 : f 1 = _ := h1
       have g2 : f 2 = _ := h2
       have g3 : f 3 = _ := h3
       have g4 : f 4 = _ := h4
       have g5 : f 5 = _ := h5
       refine tab_plain fun K Q hK => ?_
       simp only [puts, Za, Zb, Zc, Zd, Ze, g6, g0, g1, g2, g3, g4, g5]
       go_step
       exact fam_e hK rfl rfl (Below.refl _ _) hC
     case arest =>
      intro f W2 hC hh
      obtain ⟨h0, h1, h2, h3, h4, h5, h6, h7, -⟩ := hh
      have g0 : f 0 = _ := h0
      have g1 : f 1 = _ := h1
      have g2 : f 2 = _ := h2
      have g3 : f 3 = _ := h3
      have g4 : f 4 = _ := h4
      have g5 : f 5 = _ := h5
      have g6 : f 6 = _ := h6
      have g7 : f 7 = _ := h7
      simp only [puts, Za, Zb, Zc, Zd, Ze, g0, g1, g2, g3, g4, g5, g6, g7]
      clear h0 h1 h2 h3 h4 h5 h6 h7 g0 g1 g2 g3 g4 g5 g6 g7
      have HBX := Lib.hid (HBW.out.trans (hC.mono HBW.out.size))
      go_wp2
      go_roundw
      case rel => exact ⟨k + 1, X, by omega, by go_num, rfl, by omega, Lib.hid (by rw [HI.out, HDROP.out]; exact HA.out), HB.out.trans (hC.mono HB.out.size)⟩
      case measure => simp [intOf]; omega
    | none =>
     have HX : Hid (nxI es q z = -1) := Lib.hid (nxI_none hx)
     have HA := Lib.hid (HNONE.out q z hx (zs.drop (k + 1)))
     have HF : Hid (V = false) := Lib.hid (by rw [HI.out, HDROP.out]; exact HA.out)
     clear hx harc
     go_wp2_with (fail)
     refine wp_region_grow mixed (by kernel_rfl) [[], [], [], [], [(2, 21), (3, 22)], [(4, 23)], [(0, 19), (1, 20), (5, 24)], [(6, 25), (6, 25), (0, 19), (1, 20), (2, 21), (3, 22), (4, 23), (5, 24), (6, 25)]] [(0, 19), (1, 20), (2, 21), (3, 22), (4, 23), (5, 24), (6, 25), (7, 6)] rfl rfl [Ex ?eb0, Ex ?eb1, Ex ?eb2, Ex ?eb3, Ex ?eb4, Ex ?eb5, Ex (.int .i64 (-1)), Ex ?eb7] ⟨stays_ex _, stays_ex _, stays_ex _, stays_ex _, stays_ex _, stays_ex _, stays_ex _, stays_ex _, trivial⟩ ?bsteps ?brest
     case bsteps =>
      refine ⟨fun f W hC hh => ?_, fun f W hC hh => ?_, fun f W hC hh => ?_, fun f W hC hh => ?_, fun f W hC hh => ?_, fun f W hC hh => ?_, fun f W hC hh => ?_, fun f W hC hh => ?_, trivial⟩
      ·
       refine tab_plain fun K Q hK => ?_
       simp only [puts, foldr_nil]
       obtain ⟨⟨f1, f2, f3, f4⟩, f5, f6⟩ := hcm W hC
       go_step
       exact fam_e hK rfl rfl (Below.refl _ _) hC
      ·
       refine tab_plain fun K Q hK => ?_
       simp only [puts, foldr_nil]
       go_step
       exact fam_e hK rfl rfl (Below.refl _ _) hC
      ·
       refine tab_plain fun K Q hK => ?_
       simp only [puts, foldr_nil]
       go_step
       exact fam_e hK rfl rfl (Below.refl _ _) hC
      ·
       refine tab_plain fun K Q hK => ?_
       simp only [puts, foldr_nil]
       go_step
       exact fam_e hK rfl rfl (Below.refl _ _) hC
      ·
       obtain ⟨h2, h3, -⟩ := hh
       have g2 : f 2 = _ := h2
       have g3 : f 3 = _ := h3
       refine tab_plain fun K Q hK => ?_
       simp only [puts, Za, Zb, Zc, Zd, Ze, g2, g3]
       go_step
       exact fam_e hK rfl rfl (Below.refl _ _) hC
      ·
       obtain ⟨h4, -⟩ := hh
       have g4 : f 4 = _ := h4
       refine tab_plain fun K Q hK => ?_
       simp only [puts, Za, Zb, Zc, Zd, Ze, g4]
       obtain ⟨⟨f1, f2, f3, f4⟩, f5, f6⟩ := hcm W hC
       go_step
       exact fam_e hK rfl rfl (Below.refl _ _) hC
      ·
       obtain ⟨h0, h1, h5, -⟩ := hh
       have g0 : f 0 = _ := h0
       have g1 : f 1 = _ := h1
       have g5 : f 5 = _ := h5
       refine tab_plain fun K Q hK => ?_
       simp only [puts, Za, Zb, Zc, Zd, Ze, g0, g1, g5]
       obtain ⟨⟨f1, f2, f3, f4⟩, f5, f6⟩ := hcm W hC
       go_step
       go_at_call 54
       refine (hne q z W f5).mono ?_
       rintro e w' ⟨rfl, hb⟩
       rw [HX.out]
       exact fam_fin hK rfl rfl hb (hC.trans (hb.mono hC.size))
      ·
       obtain ⟨h6, _, h0, h1, h2, h3, h4, h5, _, -⟩ := hh
       have g6 : f 6 = _ := h6
       have g0 : f 0 = _ := h0
       have g1 : f 1 = _ := h1
       have g2 : f 2 = _ := h2
       have g3 : f 3 = _ := h3
       have g4 : f 4 = _ := h4
       have g5 : f 5 = _ := h5
       refine tab_plain fun K Q hK => ?_
       simp only [puts, Za, Zb, Zc, Zd, Ze, g6, g0, g1, g2, g3, g4, g5]
       go_step
       exact fam_e hK rfl rfl (Below.refl _ _) hC
     case brest =>
      intro f W2 hC hh
      obtain ⟨h0, h1, h2, h3, h4, h5, h6, h7, -⟩ := hh
      have g0 : f 0 = _ := h0
      have g1 : f 1 = _ := h1
      have g2 : f 2 = _ := h2
      have g3 : f 3 = _ := h3
      have g4 : f 4 = _ := h4
      have g5 : f 5 = _ := h5
      have g6 : f 6 = _ := h6
      have g7 : f 7 = _ := h7
      simp only [puts, Za, Zb, Zc, Zd, Ze, g0, g1, g2, g3, g4, g5, g6, g7]
      clear h0 h1 h2 h3 h4 h5 h6 h7 g0 g1 g2 g3 g4 g5 g6 g7
      go_wp2
      go_ret2
      exact ⟨by rw [HR.out, HF.out]; rfl, HBW.out.trans (hC.mono HBW.out.size)⟩
   ·have hkl : k = lw := by omega
    subst hkl
    have HF : Hid (V = gb fin q) := Lib.hid (by rw [HI.out, List.drop_eq_nil_of_le (by omega), HNIL.out]; simp)
    clear hfc hbW
    go_wp2
    go_ret2
    exact ⟨by rw [HR.out, HF.out]; rfl, HBW.out⟩
 ·have HR : Hid (accV d zs = .tuple #[.bool false, .int .i64 1]) := Lib.hid (accV_no hv zs)
  obtain ⟨W1, hW1, hs1, hb1, hO⟩ := boxRW d h w hd
  obtain ⟨⟨c1, c2, c3, c4⟩, hd1, -⟩ := hO W1 (Below.refl _ _)
  have hva := refValid_no hv hd1
  obtain ⟨n, s, fin, es⟩ := d
  obtain ⟨fa, fl, fc, aa, al, ac⟩ := h
  simp only [vDf] at hW1 hs1 hb1 hO c1 c2 c3 c4 hva HR ⊢
  clear hv
  go_enter Try.func24, Try.ntmps24
  go_wp2_with (go_at_call 25; refine hva.mono ?_; rintro e w2 ⟨rfl, hb2⟩)
  go_ret2
  exact ⟨by rw [HR.out]; rfl, hb1.trans (hb2.mono (by omega))⟩
end Go.Proofs.Ytpcbmhfnefhenaa

set_option linter.unusedSimpArgs false
set_option linter.unusedVariables false
namespace Go.Proofs.Ytpcbmhfnefhenaa
open List (foldr_cons foldr_nil setIfInBounds_toArray set_cons_succ set_cons_zero)
open Go.RowKit
attribute [local go_sem] Oper.semAt_some

theorem IsBools.nil_len {w : World} {len cap : Nat} {ss : List Bool} (h : IsBools w none len cap ss) : len = 0 ∧ cap = 0 := by
 rcases h with ⟨h1, h2, _⟩ | ⟨b, off, h, _⟩
 ·exact ⟨h1, h2⟩
 ·cases h
set_option maxRecDepth 20000 in
theorem eqBools_any (a : Option Addr) (len cap : Nat) (xs : List Bool) (a' : Option Addr) (len' cap' : Nat) (ys : List Bool) (w : World) (hs : IsBools w a len cap xs) (hs' : IsBools w a' len' cap' ys) :
  Calls Try.prog 55 #[.slice a len cap, .slice a' len' cap'] w fun e w' => e = .returned (.bool (decide (xs = ys))) ∧ Below w.heap.size w w' := by
 have hxl := hs.length
 have hyl := hs'.length
 have hcap := hs.capLe
 have hcap' := hs'.capLe
 unfold maxLen at hcap hcap'
 by_cases he : len = len'
 ·subst he
  have hq : ((len : Int) != (len : Int)) = false := by simp
  go_enter Try.func55, Try.ntmps55
  go_wp2
  go_loopw [13] (fun c W => ∃ k : Nat, k ≤ len ∧ c = .int .i64 (k : Int) ∧ (∀ i, i < k → gb xs i = gb ys i) ∧ Below w.heap.size w W) (fun c _ => len - (intOf c).toNat)
  case atStart => exact ⟨0, Nat.zero_le _, rfl, (fun i hi => by omega), Below.refl _ _⟩
  case round =>
   obtain ⟨k, hk, rfl, hall, hb⟩ := hrel
   have HA := Lib.hid hall
   clear hall
   rcases Nat.lt_or_ge k len with hlt | hge
   ·obtain ⟨b, off, rfl, hc⟩ := hs.fix (by omega)
    obtain ⟨b', off', rfl, hc'⟩ := hs'.fix (by omega)
    obtain ⟨x, hx⟩ : ∃ x, gb xs k = x := ⟨_, rfl⟩
    obtain ⟨y, hy⟩ : ∃ y, gb ys k = y := ⟨_, rfl⟩
    have hcm : ∀ W, Below wr.heap.size wr W → W.cell? ⟨b, off + k, none⟩ = some (.bool x) ∧ W.cell? ⟨b', off' + k, none⟩ = some (.bool y) := fun W h => by
     have hbW := hb.trans (h.mono hb.size)
     rw [← hx, ← hy]
     exact ⟨hc W hbW k hlt, hc' W hbW k hlt⟩
    have HX := Lib.hid hx
    have HY := Lib.hid hy
    have HB := Lib.hid hb
    clear hs hs' hc hc' hx hy hb
    go_wp2
    refine wp_region_grow mixed (by kernel_rfl) [[], [], [(0, 16), (1, 17)], [(2, 18)], [], [], [(4, 20), (5, 21)], [(6, 22)], [(3, 19), (7, 23)]] [(0, 16), (1, 17), (2, 18), (3, 19), (4, 20), (5, 21), (6, 22), (7, 23), (8, 24)] rfl rfl [Ex ?e0, Ex ?e1, Ex ?e2, Ex ?e3, Ex ?e4, Ex ?e5, Ex ?e6, Ex ?e7, Ex ?e8] ⟨stays_ex _, stays_ex _, stays_ex _, stays_ex _, stays_ex _, stays_ex _, stays_ex _, stays_ex _, stays_ex _, trivial⟩ ?steps ?rest
    case steps =>
     refine ⟨fun f W hC hh => ?_, fun f W hC hh => ?_, fun f W hC hh => ?_, fun f W hC hh => ?_, fun f W hC hh => ?_, fun f W hC hh => ?_, fun f W hC hh => ?_, fun f W hC hh => ?_, fun f W hC hh => ?_, trivial⟩
     ·
      refine tab_plain fun K Q hK => ?_
      simp only [puts, foldr_nil]
      go_step
      exact fam_e hK rfl rfl (Below.refl _ _) hC
     ·
      refine tab_plain fun K Q hK => ?_
      simp only [puts, foldr_nil]
      go_step
      exact fam_e hK rfl rfl (Below.refl _ _) hC
     ·
      obtain ⟨h0, h1, -⟩ := hh
      have g0 : f 0 = _ := h0
      have g1 : f 1 = _ := h1
      refine tab_plain fun K Q hK => ?_
      simp only [puts, Za, Zb, Zc, Zd, Ze, g0, g1]
      go_step
      exact fam_e hK rfl rfl (Below.refl _ _) hC
     ·
      obtain ⟨h2, -⟩ := hh
      have g2 : f 2 = _ := h2
      refine tab_plain fun K Q hK => ?_
      simp only [puts, Za, Zb, Zc, Zd, Ze, g2]
      obtain ⟨f1, f2⟩ := hcm W hC
      go_step
      exact fam_e hK rfl rfl (Below.refl _ _) hC
     ·
      refine tab_plain fun K Q hK => ?_
      simp only [puts, foldr_nil]
      go_step
      exact fam_e hK rfl rfl (Below.refl _ _) hC
     ·
      refine tab_plain fun K Q hK => ?_
      simp only [puts, foldr_nil]
      go_step
      exact fam_e hK rfl rfl (Below.refl _ _) hC
     ·
      obtain ⟨h4, h5, -⟩ := hh
      have g4 : f 4 = _ := h4
      have g5 : f 5 = _ := h5
      refine tab_plain fun K Q hK => ?_
      simp only [puts, Za, Zb, Zc, Zd, Ze, g4, g5]
      go_step
      exact fam_e hK rfl rfl (Below.refl _ _) hC
     ·
      obtain ⟨h6, -⟩ := hh
      have g6 : f 6 = _ := h6
      refine tab_plain fun K Q hK => ?_
      simp only [puts, Za, Zb, Zc, Zd, Ze, g6]
      obtain ⟨f1, f2⟩ := hcm W hC
      go_step
      exact fam_e hK rfl rfl (Below.refl _ _) hC
     ·
      obtain ⟨h3, h7, -⟩ := hh
      have g3 : f 3 = _ := h3
      have g7 : f 7 = _ := h7
      refine tab_plain fun K Q hK => ?_
      simp only [puts, Za, Zb, Zc, Zd, Ze, g3, g7]
      go_step
      exact fam_e hK rfl rfl (Below.refl _ _) hC
    case rest =>
     intro f W2 hC hh
     obtain ⟨h0, h1, h2, h3, h4, h5, h6, h7, h8, -⟩ := hh
     have g0 : f 0 = _ := h0
     have g1 : f 1 = _ := h1
     have g2 : f 2 = _ := h2
     have g3 : f 3 = _ := h3
     have g4 : f 4 = _ := h4
     have g5 : f 5 = _ := h5
     have g6 : f 6 = _ := h6
     have g7 : f 7 = _ := h7
     have g8 : f 8 = _ := h8
     simp only [puts, Za, Zb, Zc, Zd, Ze, g0, g1, g2, g3, g4, g5, g6, g7, g8]
     clear h0 h1 h2 h3 h4 h5 h6 h7 h8 g0 g1 g2 g3 g4 g5 g6 g7 g8
     have hb2 := HB.out.trans (hC.mono HB.out.size)
     by_cases h0 : x = y
     ·have hq : (x == y) = true := by simpa using h0
      have HE := Lib.hid h0
      rw [hq]
      clear h0 hcm
      go_wp2
      go_roundw
      case rel => exact ⟨k + 1, by omega, by go_num, (fun i hi => by rcases Nat.lt_or_ge i k with h | h; exact HA.out i h; rw [show i = k by omega, HX.out, HY.out]; exact HE.out), hb2⟩
      case measure => simp [intOf]; omega
     ·have hq : (x == y) = false := by simpa using h0
      rw [hq]
      have HE : Hid (decide (xs = ys) = false) := Lib.hid (decide_eq_false (fun e => h0 (by rw [← HX.out, ← HY.out, e])))
      clear h0 hcm
      go_wp2
      go_ret
      exact ⟨by rw [HE.out]; rfl, hb2⟩
   ·have hkm : k = len := by omega
    subst hkm
    have HE : Hid (decide (xs = ys) = true) := Lib.hid (decide_eq_true (gb_ext (by omega) (fun i hi => HA.out i (by omega))))
    go_wp2
    go_ret
    exact ⟨by rw [HE.out]; rfl, hb⟩
 ·have hq : ((len : Int) != (len' : Int)) = true := by simp; omega
  have HE : Hid (decide (xs = ys) = false) := Lib.hid (decide_eq_false (fun e => he (by rw [← hxl, ← hyl, e])))
  go_enter Try.func55, Try.ntmps55
  go_wp2
  go_ret
  exact ⟨by rw [HE.out]; rfl, Below.refl _ _⟩
set_option maxRecDepth 20000 in
theorem eqArcs_any (a : Option Addr) (len cap : Nat) (xs : List A3) (a' : Option Addr) (len' cap' : Nat) (ys : List A3) (w : World) (hs : IsArcs w a len cap xs) (hs' : IsArcs w a' len' cap' ys) :
  Calls Try.prog 56 #[.slice a len cap, .slice a' len' cap'] w fun e w' => e = .returned (.bool (decide (xs = ys))) ∧ Below w.heap.size w w' := by
 have hxl := hs.length
 have hyl := hs'.length
 have hcap := hs.capLe
 have hcap' := hs'.capLe
 unfold maxLen at hcap hcap'
 by_cases he : len = len'
 ·subst he
  have hq : ((len : Int) != (len : Int)) = false := by simp
  go_enter Try.func56, Try.ntmps56
  go_wp2
  go_loopw [13] (fun c W => ∃ k : Nat, k ≤ len ∧ c = .int .i64 (k : Int) ∧ (∀ i, i < k → g3 xs i = g3 ys i) ∧ Below w.heap.size w W) (fun c _ => len - (intOf c).toNat)
  case atStart => exact ⟨0, Nat.zero_le _, rfl, (fun i hi => by omega), Below.refl _ _⟩
  case round =>
   obtain ⟨k, hk, rfl, hall, hb⟩ := hrel
   have HA := Lib.hid hall
   clear hall
   rcases Nat.lt_or_ge k len with hlt | hge
   ·obtain ⟨b, off, rfl, hc⟩ := hs.fix (by omega)
    obtain ⟨b', off', rfl, hc'⟩ := hs'.fix (by omega)
    obtain ⟨x1, x2, x3, hx⟩ : ∃ x1 x2 x3, g3 xs k = ⟨x1, x2, x3⟩ := ⟨_, _, _, rfl⟩
    obtain ⟨y1, y2, y3, hy⟩ : ∃ y1 y2 y3, g3 ys k = ⟨y1, y2, y3⟩ := ⟨_, _, _, rfl⟩
    have hcm : ∀ W, Below wr.heap.size wr W → (W.cell? ⟨b, off + k * 3, none⟩ = some (.int .i64 x1) ∧ W.cell? ⟨b, off + k * 3 + 1, none⟩ = some (.int .i64 x2) ∧ W.cell? ⟨b, off + k * 3 + 2, none⟩ = some (.int .i64 x3)) ∧ W.cell? ⟨b', off' + k * 3, none⟩ = some (.int .i64 y1) ∧ W.cell? ⟨b', off' + k * 3 + 1, none⟩ = some (.int .i64 y2) ∧ W.cell? ⟨b', off' + k * 3 + 2, none⟩ = some (.int .i64 y3) := fun W h => by
     have hbW := hb.trans (h.mono hb.size)
     have h1 := hc W hbW k hlt
     have h2 := hc' W hbW k hlt
     rw [hx] at h1
     rw [hy] at h2
     exact ⟨h1, h2⟩
    have HX := Lib.hid hx
    have HY := Lib.hid hy
    have HB := Lib.hid hb
    clear hs hs' hc hc' hx hy hb
    by_cases h0 : x1 = y1 ∧ x2 = y2 ∧ x3 = y3
    ·obtain ⟨rfl, rfl, rfl⟩ := h0
     go_wp2
     refine wp_region_grow mixed (by kernel_rfl) [[], [], [(0, 16), (1, 17)], [(2, 18)], [], [], [(4, 20), (5, 21)], [(6, 22)], [(3, 19), (7, 23)]] [(0, 16), (1, 17), (2, 18), (3, 19), (4, 20), (5, 21), (6, 22), (7, 23), (8, 24)] rfl rfl [Ex ?e0, Ex ?e1, Ex ?e2, Ex ?e3, Ex ?e4, Ex ?e5, Ex ?e6, Ex ?e7, Ex ?e8] ⟨stays_ex _, stays_ex _, stays_ex _, stays_ex _, stays_ex _, stays_ex _, stays_ex _, stays_ex _, stays_ex _, trivial⟩ ?steps ?rest
     case steps =>
      refine ⟨fun f W hC hh => ?_, fun f W hC hh => ?_, fun f W hC hh => ?_, fun f W hC hh => ?_, fun f W hC hh => ?_, fun f W hC hh => ?_, fun f W hC hh => ?_, fun f W hC hh => ?_, fun f W hC hh => ?_, trivial⟩
      ·
       refine tab_plain fun K Q hK => ?_
       simp only [puts, foldr_nil]
       go_step
       exact fam_e hK rfl rfl (Below.refl _ _) hC
      ·
       refine tab_plain fun K Q hK => ?_
       simp only [puts, foldr_nil]
       go_step
       exact fam_e hK rfl rfl (Below.refl _ _) hC
      ·
       obtain ⟨h0, h1, -⟩ := hh
       have g0 : f 0 = _ := h0
       have g1 : f 1 = _ := h1
       refine tab_plain fun K Q hK => ?_
       simp only [puts, Za, Zb, Zc, Zd, Ze, g0, g1]
       go_step
       exact fam_e hK rfl rfl (Below.refl _ _) hC
      ·
       obtain ⟨h2, -⟩ := hh
       have g2 : f 2 = _ := h2
       refine tab_plain fun K Q hK => ?_
       simp only [puts, Za, Zb, Zc, Zd, Ze, g2]
       obtain ⟨⟨f1, f2, f3⟩, f4, f5, f6⟩ := hcm W hC
       go_step
       exact fam_e hK rfl rfl (Below.refl _ _) hC
      ·
       refine tab_plain fun K Q hK => ?_
       simp only [puts, foldr_nil]
       go_step
       exact fam_e hK rfl rfl (Below.refl _ _) hC
      ·
       refine tab_plain fun K Q hK => ?_
       simp only [puts, foldr_nil]
       go_step
       exact fam_e hK rfl rfl (Below.refl _ _) hC
      ·
       obtain ⟨h4, h5, -⟩ := hh
       have g4 : f 4 = _ := h4
       have g5 : f 5 = _ := h5
       refine tab_plain fun K Q hK => ?_
       simp only [puts, Za, Zb, Zc, Zd, Ze, g4, g5]
       go_step
       exact fam_e hK rfl rfl (Below.refl _ _) hC
      ·
       obtain ⟨h6, -⟩ := hh
       have g6 : f 6 = _ := h6
       refine tab_plain fun K Q hK => ?_
       simp only [puts, Za, Zb, Zc, Zd, Ze, g6]
       obtain ⟨⟨f1, f2, f3⟩, f4, f5, f6⟩ := hcm W hC
       go_step
       exact fam_e hK rfl rfl (Below.refl _ _) hC
      ·
       obtain ⟨h3, h7, -⟩ := hh
       have g3 : f 3 = _ := h3
       have g7 : f 7 = _ := h7
       refine tab_plain fun K Q hK => ?_
       simp only [puts, Za, Zb, Zc, Zd, Ze, g3, g7]
       go_step
       exact fam_e hK rfl rfl (Below.refl _ _) hC
     case rest =>
      intro f W2 hC hh
      obtain ⟨h0, h1, h2, h3, h4, h5, h6, h7, h8, -⟩ := hh
      have g0 : f 0 = _ := h0
      have g1 : f 1 = _ := h1
      have g2 : f 2 = _ := h2
      have g3 : f 3 = _ := h3
      have g4 : f 4 = _ := h4
      have g5 : f 5 = _ := h5
      have g6 : f 6 = _ := h6
      have g7 : f 7 = _ := h7
      have g8 : f 8 = _ := h8
      simp only [puts, Za, Zb, Zc, Zd, Ze, g0, g1, g2, g3, g4, g5, g6, g7, g8]
      clear h0 h1 h2 h3 h4 h5 h6 h7 h8 g0 g1 g2 g3 g4 g5 g6 g7 g8
      have hb2 := HB.out.trans (hC.mono HB.out.size)
      clear hcm
      go_wp2
      go_roundw
      case rel => exact ⟨k + 1, by omega, by go_num, (fun i hi => by rcases Nat.lt_or_ge i k with h | h; exact HA.out i h; rw [show i = k by omega, HX.out, HY.out]), hb2⟩
      case measure => simp [intOf]; omega
    ·have HNE := Lib.hid h0
     have HE : Hid (decide (xs = ys) = false) := Lib.hid (decide_eq_false (fun e => h0 (by have h := HX.out; rw [e, HY.out] at h; injection h with e1 e2 e3; exact ⟨e1.symm, e2.symm, e3.symm⟩)))
     clear h0
     go_wp2
     refine wp_region_grow mixed (by kernel_rfl) [[], [], [(0, 16), (1, 17)], [(2, 18)], [], [], [(4, 20), (5, 21)], [(6, 22)], [(3, 19), (7, 23)]] [(0, 16), (1, 17), (2, 18), (3, 19), (4, 20), (5, 21), (6, 22), (7, 23), (8, 24)] rfl rfl [Ex ?eb0, Ex ?eb1, Ex ?eb2, Ex ?eb3, Ex ?eb4, Ex ?eb5, Ex ?eb6, Ex ?eb7, Ex (.bool true)] ⟨stays_ex _, stays_ex _, stays_ex _, stays_ex _, stays_ex _, stays_ex _, stays_ex _, stays_ex _, stays_ex _, trivial⟩ ?bsteps ?brest
     case bsteps =>
      refine ⟨fun f W hC hh => ?_, fun f W hC hh => ?_, fun f W hC hh => ?_, fun f W hC hh => ?_, fun f W hC hh => ?_, fun f W hC hh => ?_, fun f W hC hh => ?_, fun f W hC hh => ?_, fun f W hC hh => ?_, trivial⟩
      ·
       refine tab_plain fun K Q hK => ?_
       simp only [puts, foldr_nil]
       go_step
       exact fam_e hK rfl rfl (Below.refl _ _) hC
      ·
       refine tab_plain fun K Q hK => ?_
       simp only [puts, foldr_nil]
       go_step
       exact fam_e hK rfl rfl (Below.refl _ _) hC
      ·
       obtain ⟨h0, h1, -⟩ := hh
       have g0 : f 0 = _ := h0
       have g1 : f 1 = _ := h1
       refine tab_plain fun K Q hK => ?_
       simp only [puts, Za, Zb, Zc, Zd, Ze, g0, g1]
       go_step
       exact fam_e hK rfl rfl (Below.refl _ _) hC
      ·
       obtain ⟨h2, -⟩ := hh
       have g2 : f 2 = _ := h2
       refine tab_plain fun K Q hK => ?_
       simp only [puts, Za, Zb, Zc, Zd, Ze, g2]
       obtain ⟨⟨f1, f2, f3⟩, f4, f5, f6⟩ := hcm W hC
       go_step
       exact fam_e hK rfl rfl (Below.refl _ _) hC
      ·
       refine tab_plain fun K Q hK => ?_
       simp only [puts, foldr_nil]
       go_step
       exact fam_e hK rfl rfl (Below.refl _ _) hC
      ·
       refine tab_plain fun K Q hK => ?_
       simp only [puts, foldr_nil]
       go_step
       exact fam_e hK rfl rfl (Below.refl _ _) hC
      ·
       obtain ⟨h4, h5, -⟩ := hh
       have g4 : f 4 = _ := h4
       have g5 : f 5 = _ := h5
       refine tab_plain fun K Q hK => ?_
       simp only [puts, Za, Zb, Zc, Zd, Ze, g4, g5]
       go_step
       exact fam_e hK rfl rfl (Below.refl _ _) hC
      ·
       obtain ⟨h6, -⟩ := hh
       have g6 : f 6 = _ := h6
       refine tab_plain fun K Q hK => ?_
       simp only [puts, Za, Zb, Zc, Zd, Ze, g6]
       obtain ⟨⟨f1, f2, f3⟩, f4, f5, f6⟩ := hcm W hC
       go_step
       exact fam_e hK rfl rfl (Below.refl _ _) hC
      ·
       obtain ⟨h3, h7, -⟩ := hh
       have g3 : f 3 = _ := h3
       have g7 : f 7 = _ := h7
       refine tab_plain fun K Q hK => ?_
       simp only [puts, Za, Zb, Zc, Zd, Ze, g3, g7]
       go_step
       by_cases e1 : x1 = y1
       ·by_cases e2 : x2 = y2
        ·by_cases e3 : x3 = y3
         ·exact absurd ⟨e1, e2, e3⟩ HNE.out
         ·rw [if_pos e1, if_pos e2, if_neg e3]; exact fam_fin hK rfl rfl (Below.refl _ _) hC
        ·rw [if_pos e1, if_neg e2]; exact fam_fin hK rfl rfl (Below.refl _ _) hC
       ·rw [if_neg e1]; exact fam_fin hK rfl rfl (Below.refl _ _) hC
     case brest =>
      intro f W2 hC hh
      obtain ⟨h0, h1, h2, h3, h4, h5, h6, h7, h8, -⟩ := hh
      have g0 : f 0 = _ := h0
      have g1 : f 1 = _ := h1
      have g2 : f 2 = _ := h2
      have g3 : f 3 = _ := h3
      have g4 : f 4 = _ := h4
      have g5 : f 5 = _ := h5
      have g6 : f 6 = _ := h6
      have g7 : f 7 = _ := h7
      have g8 : f 8 = _ := h8
      simp only [puts, Za, Zb, Zc, Zd, Ze, g0, g1, g2, g3, g4, g5, g6, g7, g8]
      clear h0 h1 h2 h3 h4 h5 h6 h7 h8 g0 g1 g2 g3 g4 g5 g6 g7 g8
      have hb2 := HB.out.trans (hC.mono HB.out.size)
      clear hcm
      go_wp2
      go_ret
      exact ⟨by rw [HE.out]; rfl, hb2⟩
   ·have hkm : k = len := by omega
    subst hkm
    have HE : Hid (decide (xs = ys) = true) := Lib.hid (decide_eq_true (g3_ext (by omega) (fun i hi => HA.out i (by omega))))
    go_wp2
    go_ret
    exact ⟨by rw [HE.out]; rfl, hb⟩
 ·have hq : ((len : Int) != (len' : Int)) = true := by simp; omega
  have HE : Hid (decide (xs = ys) = false) := Lib.hid (decide_eq_false (fun e => he (by rw [← hxl, ← hyl, e])))
  go_enter Try.func56, Try.ntmps56
  go_wp2
  go_ret
  exact ⟨by rw [HE.out]; rfl, Below.refl _ _⟩
def eqD (a b : Dfa) : Bool := decide (a.n = b.n ∧ a.s = b.s ∧ a.fin = b.fin ∧ a.arcs = b.arcs)
theorem eqD_iff {a b : Dfa} : eqD a b = true ↔ a = b := by
 obtain ⟨n, s, f, l⟩ := a
 obtain ⟨n', s', f', l'⟩ := b
 unfold eqD
 rw [decide_eq_true_iff]
 simp
theorem equal_any {a b : Dfa} {h k : DH} {w : World} (hd : IsDfa w h a) (he : IsDfa w k b) :
  Calls Try.prog 26 #[vDf a h, vDf b k] w fun e w' => e = .returned (.bool (eqD a b)) ∧ Below w.heap.size w w' := by
 obtain ⟨V, hV⟩ : ∃ V, eqD a b = V := ⟨_, rfl⟩
 have HV := Lib.hid hV
 rw [hV]
 have HN : ¬ (a.n = b.n ∧ a.s = b.s ∧ a.fin = b.fin ∧ a.arcs = b.arcs) → V = false := fun h => by rw [← hV]; exact decide_eq_false h
 have HY : (a.n = b.n ∧ a.s = b.s ∧ a.fin = b.fin ∧ a.arcs = b.arcs) → V = true := fun h => by rw [← hV]; exact decide_eq_true h
 clear hV
 obtain ⟨W1, hW1, hs1, hb1, hO⟩ := boxDW a h w hd
 have he1 := he.later hb1
 obtain ⟨W2, hW2, hs2, hb2, hP⟩ := boxDW b k W1 he1
 obtain ⟨⟨p1, p2, p3, p4⟩, hd1, -⟩ := hO W2 (hb2.mono (by omega))
 obtain ⟨⟨q1, q2, q3, q4⟩, he2, -⟩ := hP W2 (Below.refl _ _)
 have hB : Below w.heap.size w W2 := hb1.trans (hb2.mono (by omega))
 have hfb := eqBools_any _ _ _ _ _ _ _ _ W2 hd1.fin he2.fin
 have hall : ∀ W, Below W2.heap.size W2 W → (W.cell? ⟨w.heap.size, 3, none⟩ = some (.slice h.aa h.al h.ac) ∧ W.cell? ⟨w.heap.size + 1, 3, none⟩ = some (.slice k.aa k.al k.ac)) ∧ Calls Try.prog 56 #[.slice h.aa h.al h.ac, .slice k.aa k.al k.ac] W fun e w' => e = .returned (.bool (decide (a.arcs = b.arcs))) ∧ Below W.heap.size W w' := fun W hb => by
  have h1 := hO W ((hb2.mono (by omega)).trans (hb.mono (by omega)))
  have h2 := hP W (hb.mono (by omega))
  refine ⟨⟨h1.1.2.2.2, ?_⟩, eqArcs_any _ _ _ _ _ _ _ _ W h1.2.1.arcs h2.2.1.arcs⟩
  have := h2.1.2.2.2
  rwa [hs1] at this
 rw [hs1] at q1 q2 q3 q4
 obtain ⟨n, s, fin, es⟩ := a
 obtain ⟨fa, fl, fc, aa, al, ac⟩ := h
 obtain ⟨n', s', fin', es'⟩ := b
 obtain ⟨fa', fl', fc', aa', al', ac'⟩ := k
 simp only [vDf] at hW1 hW2 p1 p2 p3 p4 q1 q2 q3 q4 hfb hall HN HY ⊢
 have HN := Lib.hid HN
 have HY := Lib.hid HY
 by_cases h1 : n = n'
 case neg =>
  have t1 : (n == n') = false := by simpa using h1
  have HF := Lib.hid (HN.out fun h => h1 h.1)
  clear h1
  go_enter Try.func26, Try.ntmps26
  go_wp2
  go_ret
  exact ⟨by rw [HF.out]; rfl, hB⟩
 have t1 : (n == n') = true := by simpa using h1
 have H1 := Lib.hid h1
 clear h1
 by_cases h2 : s = s'
 case neg =>
  have t2 : (s == s') = false := by simpa using h2
  have HF := Lib.hid (HN.out fun h => h2 h.2.1)
  clear h2
  go_enter Try.func26, Try.ntmps26
  go_wp2
  go_ret
  exact ⟨by rw [HF.out]; rfl, hB⟩
 have t2 : (s == s') = true := by simpa using h2
 have H2 := Lib.hid h2
 clear h2
 by_cases h3 : fin = fin'
 case neg =>
  rw [decide_eq_false h3] at hfb
  have HF := Lib.hid (HN.out fun h => h3 h.2.2.1)
  clear h3
  go_enter Try.func26, Try.ntmps26
  go_wp2_with (go_at_call 55; refine hfb.mono ?_; rintro e w3 ⟨rfl, hb3⟩)
  go_ret
  exact ⟨by rw [HF.out]; rfl, hB.trans (hb3.mono hB.size)⟩
 rw [decide_eq_true h3] at hfb
 have H3 := Lib.hid h3
 clear h3
 have HF : Hid (V = decide (es = es')) := Lib.hid (by
  by_cases h4 : es = es'
  ·rw [decide_eq_true h4]; exact HY.out ⟨H1.out, H2.out, H3.out, h4⟩
  ·rw [decide_eq_false h4]; exact HN.out fun h => h4 h.2.2.2)
 go_enter Try.func26, Try.ntmps26
 go_wp2_with (first | (go_at_call 55; refine hfb.mono ?_; rintro e w3 ⟨rfl, hb3⟩; obtain ⟨⟨r1, r2⟩, r3⟩ := hall w3 hb3) | (go_at_call 56; refine r3.mono ?_; rintro e w4 ⟨rfl, hb4⟩))
 go_ret
 exact ⟨by rw [HF.out]; rfl, hB.trans ((hb3.trans (hb4.mono hb3.size)).mono hB.size)⟩
end Go.Proofs.Ytpcbmhfnefhenaa
