import Derived.Test.YtpcbmhfnefhenaaMG10
import Derived.Test.YtpcbmhfnefhenaaMG19
/-
  DfaWn, DfaKa
-/
set_option linter.unusedSimpArgs false
set_option linter.unusedVariables false
namespace Go.Proofs.Ytpcbmhfnefhenaa
open List (foldr_cons foldr_nil setIfInBounds_toArray set_cons_succ set_cons_zero)
open Go.RowKit
attribute [local go_sem] Oper.semAt_some

noncomputable def wrdR (d : Dfa) (n most : Int) : List (List Int) := if vD d = true then wordsD d n most else []
noncomputable def wrdE (d : Dfa) : Int := if vD d = true then 0 else 1
def GivesWs (Q : List (List Int)) (x : Int) (w : World) (e : Ending) (w' : World) : Prop := (∃ a c, e = .returned (.tuple #[.slice a Q.length c, .int .i64 x]) ∧ IsWs w' a Q.length c Q) ∧ Below w.heap.size w w'
variable {d : Dfa} {h : DH} {w : World}
def wsArr (d : Dfa) (h : DH) (g : Nat) (M : Int) : Array Value := #[.int .i64 d.n, .int .i64 d.s, .slice h.fa h.fl h.fc, .slice h.aa h.al h.ac, .slice (some ⟨g, 0, none⟩) 1 1, .int .i64 M, .slice none 0 0]
def TabV (B : Nat) (fin : List Bool) : Value → World → Prop := fun v W => ∃ g u, v = .slice (some ⟨g, 0, none⟩) 1 1 ∧ u.z = fin ∧ Pcs W B (tbPs (some ⟨g, 0, none⟩) 1 [u])
theorem stays_tabV (B : Nat) (fin : List Bool) : Stays (TabV B fin) := fun v W W' hb ⟨g, u, e, hz, hp⟩ => ⟨g, u, e, hz, hp.quiet (below_grows hb none)⟩
def RowV (B : Nat) (fin : List Bool) : Value → World → Prop := fun v W => ∃ u : Td, v = u.v ∧ u.z = fin ∧ Pc.At W B u.pc
theorem stays_rowV (B : Nat) (fin : List Bool) : Stays (RowV B fin) := fun v W W' hb ⟨u, e, hz, hp⟩ => ⟨u, e, hz, hp.grown (below_grows hb none) (fun k _ e => by cases e)⟩
def SrhV (B : Nat) (d : Dfa) (h : DH) (M : Int) : Value → World → Prop := fun v W => ∃ sb g u, v = .pointer (some ⟨sb, 0, none⟩) ∧ u.z = d.fin ∧ Pcs W B (wsPs sb (wsArr d h g M) none 0 (some ⟨g, 0, none⟩) 1 [] [u])
theorem stays_srhV (B : Nat) (d : Dfa) (h : DH) (M : Int) : Stays (SrhV B d h M) := fun v W W' hb ⟨sb, g, u, e, hz, hp⟩ => ⟨sb, g, u, e, hz, hp.quiet (below_grows hb none)⟩
def AggV (B : Nat) (d : Dfa) (h : DH) (M : Int) : Value → World → Prop := fun v W => ∃ g u, v = .agg (wsArr d h g M) ∧ u.z = d.fin ∧ Pcs W B (tbPs (some ⟨g, 0, none⟩) 1 [u])
theorem stays_aggV (B : Nat) (d : Dfa) (h : DH) (M : Int) : Stays (AggV B d h M) := fun v W W' hb ⟨g, u, e, hz, hp⟩ => ⟨g, u, e, hz, hp.quiet (below_grows hb none)⟩
theorem gtd_left {us vs : List Td} {i : Nat} (h : i < us.length) : gtd (us ++ vs) i = gtd us i := by
 unfold gtd
 rw [List.getD_eq_getElem?_getD, List.getD_eq_getElem?_getD, List.getElem?_append_left h]
theorem gtd_last (us : List Td) (u : Td) : gtd (us ++ [u]) us.length = u := by unfold gtd; rw [List.getD_eq_getElem?_getD]; simp
theorem Pcs.single {W : World} {B : Nat} {p : Pc} (h : p.At W B) : Pcs W B [p] := pcsIff.2 ⟨fun q hq => by rw [List.mem_singleton.1 hq]; exact h, List.pairwise_singleton _ _⟩
theorem tb_start {W : World} {B : Nat} {u : Td} (hu : Pc.At W B u.pc) (hB : B ≤ W.heap.size) : Pcs (W.alloc (.cells #[u.v] 22)) B (tbPs (some ⟨W.heap.size, 0, none⟩) 1 [u]) := by
 have h1 : Pcs W B [u.pc] := Pcs.single hu
 have h2 := h1.add (W' := W.alloc (.cells #[u.v] 22)) (.row 22 1 (.slice (some ⟨W.heap.size, 0, none⟩) 1 1) 1 [u.v]) (below_grows ((Below.refl _ _).alloc (Nat.le_refl _) _) none) (World.ownsRow_lit W #[u.v] 1 hB (by unfold maxLen; omega) rfl) (fun j e => by have e : some W.heap.size = some j := e; injection e with e; omega)
 exact h2.turn (.swap _ _ _)
theorem ws_start {W : World} {B g : Nat} {u : Td} (hP : Pcs W B (tbPs (some ⟨g, 0, none⟩) 1 [u])) (hB : B ≤ W.heap.size) (cs : Array Value) (T : TypeId) : Pcs (W.alloc (.cells cs T)) B (wsPs W.heap.size cs none 0 (some ⟨g, 0, none⟩) 1 [] [u]) := by
 have h1 := (hP.empty 40 1).new hB cs T
 exact h1.turn ((List.perm_append_comm (l₁ := [_, _, _]) (l₂ := [_])).trans (.cons _ ((List.perm_append_comm (l₁ := [_, _]) (l₂ := [_])))))
set_option maxRecDepth 20000 in
set_option maxHeartbeats 4000000 in
theorem words_na {n most : Int} (hv : ¬ ValidD d) (hd : IsDfa w h d) : Calls Try.prog 32 #[vDf d h, .int .i64 n, .int .i64 most] w (GivesWs [] 1 w) := by
 obtain ⟨W1, hW1, hs1, hb1, hO⟩ := boxDW d h w hd
 obtain ⟨⟨c1, c2, c3, c4⟩, hd1, -⟩ := hO W1 (Below.refl _ _)
 have hva := valid_no hv hd1
 have HB1 := Lib.hid hb1
 unfold vDf at hva ⊢
 clear hO hd1 hv hb1
 go_enter Try.func32, Try.ntmps32
 go_wp2_with (fail)
 refine hva.mono ?_
 rintro e w3 ⟨rfl, hb⟩
 have hB := HB1.out.trans (hb.mono HB1.out.size)
 go_wp2_with (fail)
 go_ret2
 exact ⟨⟨none, 0, rfl, .inl ⟨rfl, rfl, rfl⟩⟩, hB⟩
set_option maxRecDepth 20000 in
set_option maxHeartbeats 4000000 in
theorem words_yes {n most : Int} (hv : ValidD d) (hn5 : n ≤ 1000) (hd : IsDfa w h d) : Calls Try.prog 32 #[vDf d h, .int .i64 n, .int .i64 most] w (GivesWs (wordsD d n most) 0 w) := by
 obtain ⟨W1, hW1, hs1, hb1, hO⟩ := boxDW d h w hd
 obtain ⟨⟨c1, c2, c3, c4⟩, hd1, -⟩ := hO W1 (Below.refl _ _)
 have hva := valid_yes hv hd1
 have HB1 := Lib.hid hb1
 have HO := Lib.hid hO
 have HS1 := Lib.hid hs1
 have HV := Lib.hid hv
 have HFL : Hid (d.fin.length = h.fl) := Lib.hid hd.fin.length
 have HF0 : Hid (h.fa = none → h.fl = 0 ∧ h.fc = 0) := Lib.hid (fun e => by
  rcases hd.fin with ⟨_, h2, h3⟩ | ⟨b, off, e2, _⟩
  ·first | exact ⟨h2, h3⟩ | (constructor <;> first | assumption | omega)
  ·rw [e] at e2; cases e2)
 have HF1 : Hid (h.fl ≤ 1000000) := Lib.hid (by rw [← HFL.out]; have h1 := hv.2.2.1; have h2 := hv.1; omega)
 unfold vDf at hva ⊢
 clear hO hd1 hv hb1
 go_enter Try.func32, Try.ntmps32
 go_wp2_with (fail)
 refine hva.mono ?_
 rintro e w3 ⟨rfl, hb⟩
 have HB3 : Hid (Below (w.heap.size + 1) W1 w3 ∧ w.heap.size + 1 ≤ w3.heap.size) := Lib.hid ⟨hb.mono (by rw [HS1.out]; exact Nat.le_refl _), by rw [← HS1.out]; exact hb.size⟩
 clear hb c1 c2 c3 c4 hva hW1
 go_upto_region 3 with (fail)
 refine wp_region_grow mixed (by kernel_rfl) [[], [], [(1, 15)], [(2, 16)], [(3, 17)], [], [(5, 19)], [(0, 14), (4, 18), (6, 20)], [(7, 21)], [(8, 22), (3, 17), (0, 14), (1, 15), (2, 16), (3, 17), (4, 18), (5, 19), (6, 20), (7, 21), (8, 22)]] [(0, 14), (1, 15), (2, 16), (3, 17), (4, 18), (5, 19), (6, 20), (7, 21), (8, 22), (9, 8)] rfl rfl [Ex ?ea0, Ex ?ea1, Ex ?ea2, RowV w3.heap.size d.fin, TabV w3.heap.size d.fin, Ex ?ea5, fun v _ => v = .int .i64 (min most 1000), AggV w3.heap.size d h (min most 1000), SrhV w3.heap.size d h (min most 1000), SrhV w3.heap.size d h (min most 1000)] ⟨stays_ex _, stays_ex _, stays_ex _, stays_rowV _ _, stays_tabV _ _, stays_ex _, fun _ _ _ _ h => h, stays_aggV _ _ _ _, stays_srhV _ _ _ _, stays_srhV _ _ _ _, trivial⟩ ?asteps ?arest
 case asteps =>
  refine ⟨fun f W hC hh => ?_, fun f W hC hh => ?_, fun f W hC hh => ?_, fun f W hC hh => ?_, fun f W hC hh => ?_, fun f W hC hh => ?_, fun f W hC hh => ?_, fun f W hC hh => ?_, fun f W hC hh => ?_, fun f W hC hh => ?_, trivial⟩
  ·
   refine tab_plain fun K Q hK => ?_
   simp only [puts, foldr_nil]
   obtain ⟨⟨k1, k2, k3, k4⟩, -, -⟩ := HO.out W (HB3.out.1.trans (hC.mono HB3.out.2))
   go_step
   exact fam_e hK rfl rfl (Below.refl _ _) hC
  ·
   refine tab_plain fun K Q hK => ?_
   simp only [puts, foldr_nil]
   go_step
   exact fam_e hK rfl rfl (Below.refl _ _) hC
  ·
   obtain ⟨h1, -⟩ := hh
   have g1 : f 1 = _ := h1
   refine tab_plain fun K Q hK => ?_
   simp only [puts, Za, Zb, Zc, Zd, Ze, g1]
   obtain ⟨⟨k1, k2, k3, k4⟩, -, -⟩ := HO.out W (HB3.out.1.trans (hC.mono HB3.out.2))
   go_step
   exact fam_e hK rfl rfl (Below.refl _ _) hC
  ·
   obtain ⟨h2, -⟩ := hh
   have g2 : f 2 = _ := h2
   refine tab_plain fun K Q hK => ?_
   simp only [puts, Za, Zb, Zc, Zd, Ze, g2]
   obtain ⟨-, hdw, -⟩ := HO.out W (HB3.out.1.trans (hC.mono HB3.out.2))
   go_step
   go_at_call 58
   refine (clone_bools hdw.fin (by intro e; exact HF0.out e) HF1.out).mono ?_
   rintro e w' ⟨⟨a', c', rfl, ho⟩, hb⟩
   refine fam_fin hK rfl ⟨⟨a', c', d.fin⟩, by rw [← HFL.out]; rfl, rfl, ?_⟩ hb (hC.trans (hb.mono hC.size))
   show w'.ownsRow _ _ 1 (.slice a' d.fin.length c') d.fin.length _
   rw [HFL.out]
   exact World.ownsRow.from_mono ho hC.size
  ·
   obtain ⟨h3, -⟩ := hh
   obtain ⟨u3, g3, z3, p3⟩ := h3
   refine tab_plain fun K Q hK => ?_
   simp only [puts, Za, Zb, Zc, Zd, Ze, g3]
   have hal : Below W.heap.size W (W.alloc (.cells #[u3.v] 22)) := (Below.refl _ _).alloc (Nat.le_refl _) _
   go_step
   exact fam_fin hK rfl ⟨W.heap.size, u3, rfl, z3, tb_start p3 hC.size⟩ hal (hC.trans (hal.mono hC.size))
  ·
   refine tab_plain fun K Q hK => ?_
   simp only [puts, foldr_nil]
   go_step
   exact fam_e hK rfl rfl (Below.refl _ _) hC
  ·
   obtain ⟨h5, -⟩ := hh
   have g5 : f 5 = _ := h5
   refine tab_plain fun K Q hK => ?_
   simp only [puts, Za, Zb, Zc, Zd, Ze, g5]
   go_step
   exact fam_e hK rfl rfl (Below.refl _ _) hC
  ·
   obtain ⟨h0, h4, h6, -⟩ := hh
   have g0 : f 0 = _ := h0
   obtain ⟨gg4, u4, g4, z4, p4⟩ := h4
   have g6 : f 6 = _ := h6
   refine tab_plain fun K Q hK => ?_
   simp only [puts, Za, Zb, Zc, Zd, Ze, g0, g4, g6]
   go_step
   exact fam_fin hK rfl ⟨gg4, u4, rfl, z4, p4⟩ (Below.refl _ _) hC
  ·
   obtain ⟨h7, -⟩ := hh
   obtain ⟨gg7, u7, g7, z7, p7⟩ := h7
   refine tab_plain fun K Q hK => ?_
   simp only [puts, Za, Zb, Zc, Zd, Ze, g7]
   have hal : Below W.heap.size W (W.alloc (.cells (wsArr d h gg7 (min most 1000)) 96)) := (Below.refl _ _).alloc (Nat.le_refl _) _
   go_step
   exact fam_fin hK rfl ⟨W.heap.size, gg7, u7, rfl, z7, ws_start p7 hC.size _ _⟩ hal (hC.trans (hal.mono hC.size))
  ·
   obtain ⟨h8, h3, h0, h1, h2, _, h4, h5, h6, h7, _, -⟩ := hh
   obtain ⟨sb8, gg8, u8, g8, z8, p8⟩ := h8
   obtain ⟨u3, g3, z3, p3⟩ := h3
   have g0 : f 0 = _ := h0
   have g1 : f 1 = _ := h1
   have g2 : f 2 = _ := h2
   obtain ⟨gg4, u4, g4, z4, p4⟩ := h4
   have g5 : f 5 = _ := h5
   have g6 : f 6 = _ := h6
   obtain ⟨gg7, u7, g7, z7, p7⟩ := h7
   refine tab_plain fun K Q hK => ?_
   simp only [puts, Za, Zb, Zc, Zd, Ze, g8, g3, g0, g1, g2, g4, g5, g6, g7]
   go_step
   exact fam_fin hK rfl ⟨sb8, gg8, u8, rfl, z8, p8⟩ (Below.refl _ _) hC
 case arest =>
  intro f WA hC hh
  obtain ⟨h0, h1, h2, h3, h4, h5, h6, h7, h8, h9, -⟩ := hh
  have g0 : f 0 = _ := h0
  have g1 : f 1 = _ := h1
  have g2 : f 2 = _ := h2
  obtain ⟨u3, g3, z3, p3⟩ := h3
  obtain ⟨gg4, u4, g4, z4, p4⟩ := h4
  have g5 : f 5 = _ := h5
  have g6 : f 6 = _ := h6
  obtain ⟨gg7, u7, g7, z7, p7⟩ := h7
  obtain ⟨sb8, gg8, u8, g8, z8, p8⟩ := h8
  obtain ⟨sb9, gg9, u9, g9, z9, p9⟩ := h9
  simp only [puts, Za, Zb, Zc, Zd, Ze, g0, g1, g2, g3, g4, g5, g6, g7, g8, g9]
  clear h0 h1 h2 h5 g0 g1 g2 g5
  have HP9 := Lib.hid p9
  have HZ9 := Lib.hid z9
  have HBA : Hid (Below (w.heap.size + 1) W1 WA ∧ w.heap.size + 1 ≤ w3.heap.size ∧ w3.heap.size ≤ WA.heap.size) := Lib.hid ⟨HB3.out.1.trans (hC.mono HB3.out.2), HB3.out.2, hC.size⟩
  obtain ⟨B, hB⟩ : ∃ B, w3.heap.size = B := ⟨_, rfl⟩
  obtain ⟨M, hM⟩ : ∃ M, min most 1000 = M := ⟨_, rfl⟩
  rw [hB, hM] at HP9
  rw [hB] at HBA
  have HD : Hid (∀ W, Below B WA W → IsDfa W h d ∧ Below w.heap.size w W ∧ (W.cell? ⟨w.heap.size, 0, none⟩ = some (.int .i64 d.n) ∧ W.cell? ⟨w.heap.size, 1, none⟩ = some (.int .i64 d.s))) := Lib.hid (fun W hW => by
   have h1 := HO.out W (HBA.out.1.trans (hW.mono HBA.out.2.1))
   exact ⟨h1.2.1, h1.2.2, h1.1.1, h1.1.2.1⟩)
  have HM := Lib.hid hM
  obtain ⟨sb, hsb⟩ : ∃ x, sb9 = x := ⟨_, rfl⟩
  rw [hsb] at HP9
  rw [hsb]
  clear p3 p4 p7 p8 p9 z3 z4 z7 z8 z9 hC h6 hM hB hsb g3 g4 g6 g7 g8 g9
  go_wp2_with (fail)
  by_cases hM0 : M < 0
  ·have HE : Hid (wordsD d n most = []) := Lib.hid (by unfold wordsD; rw [HM.out, show M.toNat = 0 by omega]; exact tk_full (Nat.zero_le _) _)
   have q2 : decide ((0 : Int) < M) = false := decide_eq_false (by omega)
   go_loopw [9, 10] (fun c9 c10 W => c9 = .int .i64 0 ∧ c10 = .int .i64 0 ∧ Below WA.heap.size WA W) (fun _ _ _ => 0)
   case atStart => exact ⟨rfl, rfl, Below.refl _ _⟩
   case round =>
    obtain ⟨rfl, rfl, hb⟩ := hrel
    have hPr := HP9.out.quiet (below_grows hb none)
    obtain ⟨-, hbw, k1, k2⟩ := HD.out wr (hb.mono HBA.out.2.2)
    have x5 : wr.cell? ⟨sb, 5, none⟩ = some (.int .i64 M) := ((hPr.blk 0 rfl).2.cell 5).1
    have x6 : wr.cell? ⟨sb, 6, none⟩ = some (.slice none 0 0) := ((hPr.blk 0 rfl).2.cell 6).1
    have HBW := Lib.hid hbw
    clear hb hPr hbw
    go_upto_region 6 with (fail)
    by_cases hn0 : 0 ≤ n
    ·have q1 : decide ((0 : Int) ≤ n) = true := decide_eq_true hn0
     clear hn0
     go_quiet (fail)
     have z6 : (wr.drewN nq).cell? ⟨sb, 6, none⟩ = some (.slice none 0 0) := x6
     go_wp2_with (fail)
     go_ret2
     rw [HE.out]
     exact ⟨⟨none, 0, rfl, .inl ⟨rfl, rfl, rfl⟩⟩, HBW.out.trans ((below_nq wr nq).mono HBW.out.size)⟩
    ·have q1 : decide ((0 : Int) ≤ n) = false := decide_eq_false hn0
     clear hn0
     go_quiet (fail)
     have z6 : (wr.drewN nq).cell? ⟨sb, 6, none⟩ = some (.slice none 0 0) := x6
     go_wp2_with (fail)
     go_ret2
     rw [HE.out]
     exact ⟨⟨none, 0, rfl, .inl ⟨rfl, rfl, rfl⟩⟩, HBW.out.trans ((below_nq wr nq).mono HBW.out.size)⟩
  obtain ⟨m, rfl⟩ := Int.eq_ofNat_of_zero_le (show 0 ≤ M by omega)
  have HMN : Hid ((min most 1000).toNat = m ∧ min most 1000 = (m : Int) ∧ m ≤ 1000) := Lib.hid ⟨by rw [HM.out]; rfl, HM.out, by have := HM.out; omega⟩
  clear hM0
  go_loopw [9, 10] (fun c9 c10 W => ∃ (i e : Nat) (oa : Option Addr) (oc : Nat) (vs : List Wd) (ca : Option Addr) (cc : Nat) (us : List Td), i ≤ (n + 1).toNat ∧ e ≤ i ∧ c9 = .int .i64 (e : Int) ∧ c10 = .int .i64 (i : Int) ∧ us.length = i + 1 ∧ Hid (∀ j, j < us.length → (gtd us j).z = canT d j) ∧ Hid (vs.map Wd.z = tk m [] (allW d i)) ∧ Hid (∀ k, i - e ≤ k → k < i → wordsL d k d.s = []) ∧ Pcs W B (wsPs sb (srC d h ca us.length cc m oa vs.length oc) oa oc ca cc vs us) ∧ Below B WA W) (fun _ c _ => (n + 1).toNat - (intOf c).toNat)
  case atStart =>
   refine ⟨0, 0, none, 0, [], some ⟨gg9, 0, none⟩, 1, [u9], Nat.zero_le _, Nat.le_refl _, rfl, rfl, rfl, Lib.hid (fun j hj => ?_), Lib.hid (by unfold allW; rw [List.range_zero, List.flatMap_nil, tk_nil]; rfl), Lib.hid (fun k h1 h2 => by omega), HP9.out, Below.refl _ _⟩
   obtain rfl : j = 0 := by simp at hj; omega
   show u9.z = _
   rw [canT_zero HV.out]
   exact HZ9.out
  case round =>
   clear HP9 HZ9
   obtain ⟨i, e, oa, oc, vs, ca, cc, us, hi, he, rfl, rfl, hul, HT, HVS, HEM, hP, hb⟩ := hrel
   obtain ⟨-, hbw, k1, k2⟩ := HD.out wr hb
   have x4 : wr.cell? ⟨sb, 4, none⟩ = some (.slice ca us.length cc) := ((hP.blk 0 rfl).2.cell 4).1
   have x5 : wr.cell? ⟨sb, 5, none⟩ = some (.int .i64 (m : Int)) := ((hP.blk 0 rfl).2.cell 5).1
   have x6 : wr.cell? ⟨sb, 6, none⟩ = some (.slice oa vs.length oc) := ((hP.blk 0 rfl).2.cell 6).1
   have HUL := Lib.hid hul
   have HBW := Lib.hid hbw
   have HP := Lib.hid hP
   have HB := Lib.hid hb
   have hEND : (n < (i : Int) ∨ min most 1000 ≤ ((tk (min most 1000).toNat [] (allW d i)).length : Int) ∨ ∀ k, i ≤ k → wordsL d k d.s = []) → wordsD d n most = vs.map Wd.z := fun h9 => by
    have h8 := words_end (d := d) (n := n) (most := most) hi h9
    rw [HMN.out.1] at h8
    rw [← h8, HVS.out]
   have hvl : vs.length = (tk m [] (allW d i)).length := by rw [← HVS.out, List.length_map]
   clear hb hP hbw hul
   go_upto_region 6 with (fail)
   by_cases h1 : n < (i : Int)
   ·have q1 : decide ((i : Int) ≤ n) = false := decide_eq_false (by omega)
    have HE := Lib.hid (hEND (.inl h1))
    clear hEND hvl
    go_quiet (fail)
    have hbq := below_nq wr nq
    have HPZ := Lib.hid (HP.out.quiet (below_grows hbq none))
    have HBZ : Hid (Below w.heap.size w (wr.drewN nq)) := Lib.hid (HBW.out.trans (hbq.mono HBW.out.size))
    have z6 : (wr.drewN nq).cell? ⟨sb, 6, none⟩ = some (.slice oa vs.length oc) := ((HPZ.out.blk 0 rfl).2.cell 6).1
    clear hbq
    go_wp2_with (fail)
    go_ret2
    have h1 := sr_ws (ws_sr HPZ.out)
    rw [HE.out]
    refine ⟨⟨oa, oc, by rw [List.length_map]; rfl, ?_⟩, HBZ.out⟩
    rw [List.length_map]
    exact h1
   have q1 : decide ((i : Int) ≤ n) = true := decide_eq_true (by omega)
   have HLT : Hid ((i : Int) ≤ n) := Lib.hid (by omega)
   clear h1
   by_cases h2 : m ≤ vs.length
   ·have q2 : decide (vs.length < m) = false := decide_eq_false (by omega)
    have HE := Lib.hid (hEND (.inr (.inl (by rw [HMN.out.1, HMN.out.2.1, ← hvl]; omega))))
    clear hEND hvl h2
    go_quiet (fail)
    have hbq := below_nq wr nq
    have HPZ := Lib.hid (HP.out.quiet (below_grows hbq none))
    have HBZ : Hid (Below w.heap.size w (wr.drewN nq)) := Lib.hid (HBW.out.trans (hbq.mono HBW.out.size))
    have z6 : (wr.drewN nq).cell? ⟨sb, 6, none⟩ = some (.slice oa vs.length oc) := ((HPZ.out.blk 0 rfl).2.cell 6).1
    clear hbq
    go_wp2_with (fail)
    go_ret2
    have h1 := sr_ws (ws_sr HPZ.out)
    rw [HE.out]
    refine ⟨⟨oa, oc, by rw [List.length_map]; rfl, ?_⟩, HBZ.out⟩
    rw [List.length_map]
    exact h1
   have q2 : decide (vs.length < m) = true := decide_eq_true (by omega)
   clear h2
   by_cases h3 : d.n < (e : Int)
   ·have q3 : decide ((e : Int) ≤ d.n) = false := decide_eq_false (by omega)
    have HE := Lib.hid (hEND (.inr (.inr (emp_stop HV.out he HEM.out h3))))
    clear hEND hvl h3
    go_quiet (fail)
    have hbq := below_nq wr nq
    have HPZ := Lib.hid (HP.out.quiet (below_grows hbq none))
    have HBZ : Hid (Below w.heap.size w (wr.drewN nq)) := Lib.hid (HBW.out.trans (hbq.mono HBW.out.size))
    have z6 : (wr.drewN nq).cell? ⟨sb, 6, none⟩ = some (.slice oa vs.length oc) := ((HPZ.out.blk 0 rfl).2.cell 6).1
    clear hbq
    go_wp2_with (fail)
    go_ret2
    have h1 := sr_ws (ws_sr HPZ.out)
    rw [HE.out]
    refine ⟨⟨oa, oc, by rw [List.length_map]; rfl, ?_⟩, HBZ.out⟩
    rw [List.length_map]
    exact h1
   have q3 : decide ((e : Int) ≤ d.n) = true := decide_eq_true (by omega)
   clear hEND hvl h3
   go_quiet (fail)
   obtain ⟨WQ, hWQ⟩ : ∃ WQ, wr.drewN nq = WQ := ⟨_, rfl⟩
   have hbq : Below wr.heap.size wr WQ := by rw [← hWQ]; exact below_nq wr nq
   rw [hWQ]
   obtain ⟨S0, hS0⟩ := Int.eq_ofNat_of_zero_le HV.out.2.1.1
   have HS0 := Lib.hid hS0
   have HPQ := Lib.hid (HP.out.quiet (below_grows hbq none))
   have hszr : B ≤ wr.heap.size := by have := (sr_base (ws_sr HP.out)); omega
   have HBQ : Hid (Below B WA WQ ∧ B ≤ WQ.heap.size) := Lib.hid ⟨HB.out.trans (hbq.mono hszr), Nat.le_trans hszr hbq.size⟩
   have HIN : Hid (InD d (S0 : Int)) := Lib.hid (by have := HV.out.2.1; rw [hS0] at this; exact this)
   obtain ⟨bt, ot, xt, ct, hca, y1, y2⟩ := (tb_tab (sr_in (ws_sr HPQ.out)) HT.out) i (by rw [HUL.out]; omega)
   rw [canT_len] at y1 y2
   have hSn : S0 < d.n.toNat := by have := HIN.out.2; omega
   obtain ⟨bx, ox, hxt, hxc⟩ := y2.fix (by omega)
   have y3 := hxc WQ (Below.refl _ _) S0 hSn
   rw [canT_at HIN.out.2] at y3
   obtain ⟨N, hN⟩ : ∃ N, d.n.toNat = N := ⟨_, rfl⟩
   rw [hN] at y1 hSn
   subst hca hxt
   obtain ⟨-, -, k1, k2⟩ := HD.out WQ HBQ.out.1
   rw [hS0] at k2
   have x4 : WQ.cell? ⟨sb, 4, none⟩ = some (.slice (some ⟨bt, ot, none⟩) us.length cc) := ((HPQ.out.blk 0 rfl).2.cell 4).1
   have hiu : i < us.length := by rw [HUL.out]; omega
   have he2 : e ≤ 1002 := by have := HLT.out; omega
   have hi2 : i ≤ 1002 := by have := HLT.out; omega
   clear hWQ hbq hS0 hszr y2 hxc hN
   cases hcb : canB d i (S0 : Int) with
   | true =>
    rw [hcb] at y3
    clear hcb
    go_upto_region 9 with (fail)
    go_quiet (fail)
    obtain ⟨WR, hWR⟩ : ∃ WR, WQ.drewN nq = WR := ⟨_, rfl⟩
    have hbr : Below WQ.heap.size WQ WR := by rw [← hWR]; exact below_nq WQ nq
    rw [hWR]
    have hwd := words_any HV.out (fun W hW => (HD.out W hW).1) HMN.out.2.2 i (S0 : Int) [] none 0 (tbPs (some ⟨bt, ot, none⟩) cc us) vs oa oc WR HIN.out (by rw [HUL.out]; omega) (fun W hX => ⟨tb_tab hX HT.out, .inl ⟨rfl, rfl, rfl, rfl⟩⟩) (fun _ => rfl) (Nat.zero_le _) (by simp; omega) (ws_sr (HPQ.out.quiet (below_grows hbr none))) (HBQ.out.1.trans (hbr.mono HBQ.out.2))
    simp only [List.length_nil, List.nil_append, List.map_id'] at hwd
    obtain ⟨-, -, k1, k2⟩ := HD.out WR (HBQ.out.1.trans (hbr.mono HBQ.out.2))
    rw [HS0.out] at k2
    clear hWR hbr y1 y3
    go_wp2_with (first
     | (go_at_call 59; refine hwd.mono ?_; go_loud (rintro e4 w4 ⟨rfl, oa4, oc4, vs4, hz4, hp4, hb4⟩; have hlo := longer_any HV.out (fun W hW => (HD.out W hW).1) HUL.out (by have := HLT.out; omega) (HT.out i (by rw [HUL.out]; omega)) (sr_wsP hp4) hb4; have HZ4 := Lib.hid hz4; clear hp4 hb4 hz4 hwd))
     | (go_at_call 60; refine hlo.mono ?_; go_loud (rintro e5 w5 ⟨rfl, ca5, cc5, u5, hz5, hp5, hb5⟩; have HP5 := Lib.hid hp5; have HB5 := Lib.hid hb5; have HZ5 := Lib.hid hz5; clear hp5 hb5 hz5 hlo)))
    go_roundw
    case rel =>
     refine ⟨i + 1, 0, oa4, oc4, vs4, ca5, cc5, us ++ [u5], by have := HLT.out; omega, Nat.zero_le _, by go_num, by go_num, by rw [List.length_append, HUL.out]; rfl, Lib.hid (fun j hj => ?_), Lib.hid ?_, Lib.hid ?_, HP5.out, HB5.out⟩
     ·rcases Nat.lt_or_ge j us.length with h8 | h8
      ·rw [gtd_left h8]; exact HT.out j h8
      ·rw [List.length_append] at hj
       simp at hj
       obtain rfl : j = us.length := by omega
       rw [gtd_last, HZ5.out, HUL.out]
     ·rw [HZ4.out, HVS.out, ← HS0.out]
      exact tk_step m i
     ·exact fun k h8 h9 => absurd h9 (by omega)
    case measure => have := HLT.out; simp [intOf]; omega
   | false =>
    rw [hcb] at y3
    have HCB := Lib.hid hcb
    clear hcb
    go_upto_region 9 with (fail)
    go_quiet (fail)
    obtain ⟨WR, hWR⟩ : ∃ WR, WQ.drewN nq = WR := ⟨_, rfl⟩
    have hbr : Below WQ.heap.size WQ WR := by rw [← hWR]; exact below_nq WQ nq
    rw [hWR]
    have hwd := words_any HV.out (fun W hW => (HD.out W hW).1) HMN.out.2.2 i (S0 : Int) [] none 0 (tbPs (some ⟨bt, ot, none⟩) cc us) vs oa oc WR HIN.out (by rw [HUL.out]; omega) (fun W hX => ⟨tb_tab hX HT.out, .inl ⟨rfl, rfl, rfl, rfl⟩⟩) (fun _ => rfl) (Nat.zero_le _) (by simp; omega) (ws_sr (HPQ.out.quiet (below_grows hbr none))) (HBQ.out.1.trans (hbr.mono HBQ.out.2))
    simp only [List.length_nil, List.nil_append, List.map_id'] at hwd
    obtain ⟨-, -, k1, k2⟩ := HD.out WR (HBQ.out.1.trans (hbr.mono HBQ.out.2))
    rw [HS0.out] at k2
    clear hWR hbr y1 y3
    go_wp2_with (first
     | (go_at_call 59; refine hwd.mono ?_; go_loud (rintro e4 w4 ⟨rfl, oa4, oc4, vs4, hz4, hp4, hb4⟩; have hlo := longer_any HV.out (fun W hW => (HD.out W hW).1) HUL.out (by have := HLT.out; omega) (HT.out i (by rw [HUL.out]; omega)) (sr_wsP hp4) hb4; have HZ4 := Lib.hid hz4; clear hp4 hb4 hz4 hwd))
     | (go_at_call 60; refine hlo.mono ?_; go_loud (rintro e5 w5 ⟨rfl, ca5, cc5, u5, hz5, hp5, hb5⟩; have HP5 := Lib.hid hp5; have HB5 := Lib.hid hb5; have HZ5 := Lib.hid hz5; clear hp5 hb5 hz5 hlo)))
    go_roundw
    case rel =>
     refine ⟨i + 1, e + 1, oa4, oc4, vs4, ca5, cc5, us ++ [u5], by have := HLT.out; omega, by omega, by go_num, by go_num, by rw [List.length_append, HUL.out]; rfl, Lib.hid (fun j hj => ?_), Lib.hid ?_, Lib.hid ?_, HP5.out, HB5.out⟩
     ·rcases Nat.lt_or_ge j us.length with h8 | h8
      ·rw [gtd_left h8]; exact HT.out j h8
      ·rw [List.length_append] at hj
       simp at hj
       obtain rfl : j = us.length := by omega
       rw [gtd_last, HZ5.out, HUL.out]
     ·rw [HZ4.out, HVS.out, ← HS0.out]
      exact tk_step m i
     ·exact emp_more he HEM.out (by rw [HS0.out]; exact HCB.out)
    case measure => have := HLT.out; simp [intOf]; omega
theorem Words_any {n most : Int} (hn5 : n ≤ 1000) (hd : IsDfa w h d) : Calls Try.prog 32 #[vDf d h, .int .i64 n, .int .i64 most] w (GivesWs (wrdR d n most) (wrdE d) w) := by
 unfold wrdR wrdE
 by_cases hv : ValidD d
 ·rw [vD_yes hv]
  exact words_yes hv hn5 hd
 ·rw [vD_no hv]
  exact words_na hv hd
end Go.Proofs.Ytpcbmhfnefhenaa

set_option linter.unusedVariables false
set_option linter.unusedSectionVars false
namespace Go.Proofs.Ytpcbmhfnefhenaa

section
variable {α : Type} [DecidableEq α]
theorem plF_pre {xs ys : List α} (h : xs <+: ys) {x : α} (hx : x ∈ xs) : plF ys x = plF xs x := idx_pre h hx
theorem plF_new {l : List α} {x : α} (h : x ∉ l) : plF (l ++ [x]) x = l.length := by
 unfold plF
 rw [List.idxOf_append, if_neg h]
 simp
end
abbrev Ky := Int × Int × Int
def plK (N : Nat) (ks : List Ky) (x : Ky) : Int := ((plF ks x + N : Nat) : Int)
def stp (ks : List Ky) (x : Ky) : List Ky := if x ∈ ks then ks else ks ++ [x]
theorem stp_mem (ks : List Ky) (x : Ky) : x ∈ stp ks x := by unfold stp; split <;> simp_all
theorem stp_pre (ks : List Ky) (x : Ky) : ks <+: stp ks x := by
 unfold stp
 split
 ·exact List.prefix_refl _
 ·exact List.prefix_append _ _
theorem stp_len (ks : List Ky) (x : Ky) : (stp ks x).length ≤ ks.length + 1 := by unfold stp; split <;> simp
theorem plK_pre {N : Nat} {xs ys : List Ky} (h : xs <+: ys) {x : Ky} (hx : x ∈ xs) : plK N ys x = plK N xs x := by
 unfold plK; rw [plF_pre h hx]
theorem plK_new {N : Nat} {ks : List Ky} {x : Ky} (h : x ∉ ks) : plK N (ks ++ [x]) x = ((ks.length + N : Nat) : Int) := by
 unfold plK
 rw [plF_new h]
theorem plK_inj {N : Nat} {ks : List Ky} {x y : Ky} (hx : x ∈ ks) (hy : y ∈ ks) (h : plK N ks x = plK N ks y) : x = y := by
 unfold plK at h
 exact idx_inj hx hy (by omega)
theorem plK_lt {N : Nat} {ks : List Ky} {x : Ky} (hx : x ∈ ks) : (N : Int) ≤ plK N ks x ∧ plK N ks x < N + ks.length := by
 have := plF_lt hx
 unfold plK
 omega
def numS (N : Nat) (ks : List Ky) (c : Int) (l : List (Int × Int)) : Int := l.foldl (fun p x => plK N ks (p, x.1, x.2)) (plK N ks (c, -1, -1))
theorem numS_nil (N : Nat) (ks : List Ky) (c : Int) : numS N ks c [] = plK N ks (c, -1, -1) := rfl
theorem numS_snoc (N : Nat) (ks : List Ky) (c : Int) (l : List (Int × Int)) (x : Int × Int) : numS N ks c (l ++ [x]) = plK N ks (numS N ks c l, x.1, x.2) := by
 unfold numS; rw [List.foldl_append]; rfl
def ChIn (N : Nat) (ks : List Ky) (c : Int) (l : List (Int × Int)) : Prop := (c, -1, -1) ∈ ks ∧ ∀ j (hj : j < l.length), (numS N ks c (l.take j), (l[j]).1, (l[j]).2) ∈ ks
theorem ChIn.nil {N : Nat} {ks : List Ky} {c : Int} (h : (c, -1, -1) ∈ ks) : ChIn N ks c [] := ⟨h, fun j hj => by simp at hj⟩
theorem ChIn.snoc {N : Nat} {ks : List Ky} {c : Int} {l : List (Int × Int)} {x : Int × Int} : ChIn N ks c (l ++ [x]) ↔ ChIn N ks c l ∧ (numS N ks c l, x.1, x.2) ∈ ks := by
 constructor
 ·rintro ⟨h1, h2⟩
  refine ⟨⟨h1, fun j hj => ?_⟩, ?_⟩
  ·have := h2 j (by simp; omega)
   rw [List.take_append_of_le_length (by omega)] at this
   simpa [List.getElem_append_left hj] using this
  ·have := h2 l.length (by simp)
   simpa using this
 ·rintro ⟨⟨h1, h2⟩, h3⟩
  refine ⟨h1, fun j hj => ?_⟩
  rcases Nat.lt_or_ge j l.length with h | h
  ·have := h2 j h
   rw [List.take_append_of_le_length (by omega)]
   simpa [List.getElem_append_left h] using this
  ·have e : j = l.length := by simp at hj; omega
   subst e
   simpa using h3
theorem numS_pre {N : Nat} {xs ys : List Ky} (h : xs <+: ys) {c : Int} {l : List (Int × Int)} (hc : ChIn N xs c l) : numS N ys c l = numS N xs c l ∧ ChIn N ys c l := by
 have key : ∀ n (l : List (Int × Int)), l.length = n → ChIn N xs c l → numS N ys c l = numS N xs c l ∧ ChIn N ys c l := by
  intro n
  induction n with
  | zero =>
   intro l hl hc
   rw [List.eq_nil_of_length_eq_zero hl] at hc ⊢
   exact ⟨plK_pre h hc.1, ChIn.nil (h.subset hc.1)⟩
  | succ n ih =>
   intro l hl hc
   have hne : l ≠ [] := fun e => by rw [e] at hl; cases hl
   rw [← List.dropLast_concat_getLast hne] at hc ⊢
   obtain ⟨h1, h2⟩ := ChIn.snoc.1 hc
   obtain ⟨k1, k2⟩ := ih _ (by rw [List.length_dropLast, hl]; rfl) h1
   rw [numS_snoc, numS_snoc, k1]
   exact ⟨plK_pre h h2, ChIn.snoc.2 ⟨k2, by rw [k1]; exact h.subset h2⟩⟩
 exact key _ l rfl hc
theorem chin_step {N : Nat} {ks : List Ky} {c : Int} {l : List (Int × Int)} (h : ChIn N ks c l) (x : Int × Int) :
  ChIn N (stp ks (numS N ks c l, x.1, x.2)) c (l ++ [x]) ∧ numS N (stp ks (numS N ks c l, x.1, x.2)) c (l ++ [x]) = plK N (stp ks (numS N ks c l, x.1, x.2)) (numS N ks c l, x.1, x.2) := by
 obtain ⟨e, h'⟩ := numS_pre (stp_pre ks (numS N ks c l, x.1, x.2)) h
 exact ⟨ChIn.snoc.2 ⟨h', by rw [e]; exact stp_mem _ _⟩, by rw [numS_snoc, e]⟩
theorem numS_range {N : Nat} {ks : List Ky} {c : Int} {l : List (Int × Int)} (hc : ChIn N ks c l) : (N : Int) ≤ numS N ks c l ∧ numS N ks c l < N + ks.length := by
 by_cases hne : l = []
 ·subst hne; exact plK_lt hc.1
 ·rw [← List.dropLast_concat_getLast hne] at hc ⊢
  rw [numS_snoc]
  exact plK_lt (ChIn.snoc.1 hc).2
theorem numS_inj {N : Nat} {ks : List Ky} {c c' : Int} : ∀ (n : Nat) (l l' : List (Int × Int)), l.length = n → (∀ x ∈ l, 1 ≤ x.1) → (∀ x ∈ l', 1 ≤ x.1) → ChIn N ks c l → ChIn N ks c' l' → numS N ks c l = numS N ks c' l' → c = c' ∧ l = l'
 | 0, l, l', hl, hp, hp', h, h', e => by
  have hl0 := List.eq_nil_of_length_eq_zero hl
  subst hl0
  by_cases hne : l' = []
  ·subst hne
   rw [numS_nil, numS_nil] at e
   have := plK_inj h.1 h'.1 e
   injection this with e1
   exact ⟨e1, rfl⟩
  ·rw [← List.dropLast_concat_getLast hne] at h' e hp'
   rw [numS_nil, numS_snoc] at e
   have := plK_inj h.1 (ChIn.snoc.1 h').2 e
   injection this with e1 e2
   injection e2 with e2 e3
   have := hp' (l'.getLast hne) (by simp)
   omega
 | n + 1, l, l', hl, hp, hp', h, h', e => by
  have hne : l ≠ [] := fun e => by rw [e] at hl; cases hl
  rw [← List.dropLast_concat_getLast hne] at h e hp ⊢
  by_cases hne' : l' = []
  ·subst hne'
   rw [numS_nil, numS_snoc] at e
   have := plK_inj (ChIn.snoc.1 h).2 h'.1 e
   injection this with e1 e2
   injection e2 with e2 e3
   have := hp (l.getLast hne) (by simp)
   omega
  ·rw [← List.dropLast_concat_getLast hne'] at h' e hp' ⊢
   rw [numS_snoc, numS_snoc] at e
   obtain ⟨k1, k2⟩ := ChIn.snoc.1 h
   obtain ⟨k3, k4⟩ := ChIn.snoc.1 h'
   have := plK_inj k2 k4 e
   injection this with e1 e2
   injection e2 with e2 e3
   obtain ⟨i1, i2⟩ := numS_inj n _ _ (by rw [List.length_dropLast, hl]; rfl) (fun x hx => hp x (List.mem_append_left _ hx)) (fun x hx => hp' x (List.mem_append_left _ hx)) k1 k3 e1
   exact ⟨i1, by rw [i2, show l.getLast hne = l'.getLast hne' from Prod.ext e2 e3]⟩
section
variable {α β : Type} [DecidableEq α] [DecidableEq β]
theorem idxOf_map_on {f : α → β} {l : List α} {x : α} (h : ∀ y ∈ l, f y = f x → y = x) : plF (l.map f) (f x) = plF l x := by
 unfold plF
 induction l with
 | nil => rfl
 | cons y l ih =>
  have ih := ih fun z hz => h z (List.mem_cons_of_mem _ hz)
  rw [List.map_cons, List.idxOf_cons, List.idxOf_cons, ih]
  by_cases e : y = x
  ·subst e; simp
  ·have e' : f y ≠ f x := fun he => e (h y List.mem_cons_self he)
   have b1 : (y == x) = false := by simpa using e
   have b2 : (f y == f x) = false := by simpa using e'
   rw [b1, b2]
theorem mem_map_on {f : α → β} {l : List α} {x : α} (h : ∀ y ∈ l, f y = f x → y = x) : f x ∈ l.map f ↔ x ∈ l := by
 rw [List.mem_map]
 exact ⟨fun ⟨y, hy, e⟩ => h y hy e ▸ hy, fun hx => ⟨x, hx, rfl⟩⟩
end
def numA (N : Nat) (ks : List Ky) (s : Int × List (Int × Int)) : Int := numS N ks s.1 s.2
def SigOk (s : Int × List (Int × Int)) : Prop := ∀ x ∈ s.2, 1 ≤ x.1
structure RefI (es : List A3) (cl : List Int) (N k : Nat) (ks : List Ky) (fk : List Int) : Prop where
 chin : ∀ i, i < k → ChIn N ks (sigA es cl i).1 (sigA es cl i).2
 fks : fk = (firsts (sigs es cl k)).map (numA N ks)
section
variable {es : List A3} {cl : List Int} {N k : Nat} {ks : List Ky} {fk : List Int}
theorem RefI.start (es : List A3) (cl : List Int) (N : Nat) : RefI es cl N 0 [] [] := ⟨fun i hi => by omega, rfl⟩
theorem RefI.chOf (h : RefI es cl N k ks fk) {s : Int × List (Int × Int)} (hs : s ∈ firsts (sigs es cl k)) : ChIn N ks s.1 s.2 := by
 obtain ⟨i, hi, rfl⟩ := List.mem_map.1 (mem_firsts.1 hs)
 exact h.chin i (List.mem_range.1 hi)
theorem RefI.grow (h : RefI es cl N k ks fk) {ks' : List Ky} (hp : ks <+: ks') : RefI es cl N k ks' fk := by
 refine ⟨fun i hi => (numS_pre hp (h.chin i hi)).2, ?_⟩
 rw [h.fks]
 exact List.map_congr_left fun s hs => (numS_pre hp (h.chOf hs)).1.symm
theorem sig_ok (hl : ∀ x ∈ es, 1 ≤ x.l) (i : Nat) : SigOk (sigA es cl i) := by
 intro x hx
 obtain ⟨y, hy, rfl⟩ := List.mem_map.1 hx
 exact hl y (outsD_mem.1 hy).1
theorem RefI.distinct (hl : ∀ x ∈ es, 1 ≤ x.l) (h : RefI es cl N k ks fk) (hk : ChIn N ks (sigA es cl k).1 (sigA es cl k).2) : ∀ s ∈ firsts (sigs es cl k), numA N ks s = numA N ks (sigA es cl k) → s = sigA es cl k := by
 intro s hs e
 obtain ⟨i, hi, rfl⟩ := List.mem_map.1 (mem_firsts.1 hs)
 obtain ⟨e1, e2⟩ := numS_inj _ _ _ rfl (sig_ok hl i) (sig_ok hl k) (h.chin i (List.mem_range.1 hi)) hk e
 exact Prod.ext e1 e2
theorem sigs_succ (es : List A3) (cl : List Int) (k : Nat) : sigs es cl (k + 1) = sigs es cl k ++ [sigA es cl k] := by
 unfold sigs; rw [List.range_succ, List.map_append]; rfl
theorem RefI.step (hl : ∀ x ∈ es, 1 ≤ x.l) (h : RefI es cl N k ks fk) (hk : ChIn N ks (sigA es cl k).1 (sigA es cl k).2) :
  RefI es cl N (k + 1) ks (if numA N ks (sigA es cl k) ∈ fk then fk else fk ++ [numA N ks (sigA es cl k)]) := by
 refine ⟨fun i hi => ?_, ?_⟩
 ·rcases Nat.lt_or_ge i k with h1 | h1
  ·exact h.chin i h1
  ·rw [show i = k by omega]; exact hk
 ·have hm := mem_map_on (h.distinct hl hk)
  rw [← h.fks] at hm
  rw [sigs_succ, firsts_snoc]
  by_cases hf : sigA es cl k ∈ firsts (sigs es cl k)
  ·rw [if_pos hf, if_pos (hm.2 hf)]; exact h.fks
  ·rw [if_neg hf, if_neg (fun e => hf (hm.1 e)), List.map_append, ← h.fks]; rfl
theorem RefI.idx (hl : ∀ x ∈ es, 1 ≤ x.l) (hkN : k < N) (h : RefI es cl N (k + 1) ks fk) : ((plF fk (numA N ks (sigA es cl k)) : Nat) : Int) = gi (refC es N cl) k := by
 rw [refC_at es cl hkN, h.fks]
 have hk := h.chin k (Nat.lt_succ_self k)
 have e1 := idxOf_map_on (f := numA N ks) (l := firsts (sigs es cl (k + 1))) (x := sigA es cl k) fun s hs e => by
  obtain ⟨i, hi, rfl⟩ := List.mem_map.1 (mem_firsts.1 hs)
  obtain ⟨e1, e2⟩ := numS_inj _ _ _ rfl (sig_ok hl i) (sig_ok hl k) (h.chin i (List.mem_range.1 hi)) hk e
  exact Prod.ext e1 e2
 rw [e1]
 have hm : sigA es cl k ∈ firsts (sigs es cl (k + 1)) := sig_mem es cl (Nat.lt_succ_self k)
 have hp : firsts (sigs es cl (k + 1)) <+: firsts (sigs es cl N) := by
  have e : sigs es cl N = sigs es cl (k + 1) ++ ((List.range' (k + 1) (N - (k + 1))).map (sigA es cl)) := by
   unfold sigs
   rw [← List.map_append]
   congr 1
   rw [List.range_eq_range', List.range_eq_range']
   have := List.range'_append_1 (s := 0) (m := k + 1) (n := N - (k + 1))
   rw [Nat.zero_add] at this
   rw [this, show k + 1 + (N - (k + 1)) = N by omega]
  rw [e]
  exact firsts_pre _ _
 rw [plF_pre hp hm]
theorem RefI.count (h : RefI es cl N N ks fk) : fk.length = refN es N cl := by rw [h.fks, List.length_map]; rfl
end
def outR (es : List A3) (cl : List Int) (N k : Nat) : List Int := (refC es N cl).take k ++ List.replicate (N - k) 0
theorem outR_len (es : List A3) (cl : List Int) (N k : Nat) (h : k ≤ N) : (outR es cl N k).length = N := by
 unfold outR
 rw [List.length_append, List.length_take, refC_len, List.length_replicate]
 omega
theorem outR_set {es : List A3} {cl : List Int} {N k : Nat} (h : k < N) : (outR es cl N k).set k (gi (refC es N cl) k) = outR es cl N (k + 1) := by
 unfold outR
 have hl := refC_len es cl N
 rw [List.set_append_right _ _ (by rw [List.length_take]; omega), List.length_take, show k - min k (refC es N cl).length = 0 by omega]
 obtain ⟨m, hm⟩ : ∃ m, N - k = m + 1 := ⟨N - k - 1, by omega⟩
 rw [hm, show N - (k + 1) = m by omega, List.replicate_succ, List.set_cons_zero, List.take_succ_eq_append_getElem (by omega), gi_eq _ _ (by omega), List.append_assoc]
 rfl
theorem outR_full (es : List A3) (cl : List Int) (N : Nat) : outR es cl N N = refC es N cl := by
 unfold outR
 rw [List.take_of_length_le (by rw [refC_len]; exact Nat.le_refl _)]
 simp
end Go.Proofs.Ytpcbmhfnefhenaa
