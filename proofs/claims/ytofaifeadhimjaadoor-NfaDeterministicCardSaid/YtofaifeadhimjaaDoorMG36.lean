import Derived.Test.YtofaifeadhimjaaDoorMG26
import Derived.Test.YtofaifeadhimjaaDoorMG29
/-
  NfaFo, NfaAc
-/
set_option linter.unusedSimpArgs false
set_option linter.unusedVariables false
namespace Go.Proofs.YtofaifeadhimjaaDoor
open Go.RowKit Go.Shelf
attribute [local go_sem] Oper.semAt_some

noncomputable def chkN (a : Nfa) (l : List Int) : Int := if vN a = true then (if l.any (fun z => !decide (0 ≤ z ∧ z < a.n)) = true then 2 else 0) else 1
theorem chk_zero {a : Nfa} {l : List Int} (h : chkN a l = 0) : ValidN a ∧ Bd a.n l := by
 unfold chkN at h
 split at h
 ·rename_i hv
  split at h
  ·omega
  ·rename_i hb
   refine ⟨vN_iff.1 hv, fun z hz => ?_⟩
   refine Classical.byContradiction fun hn => hb (List.any_eq_true.2 ⟨z, hz, ?_⟩)
   rw [decide_eq_false hn]; rfl
 ·omega
theorem chk_yes {a : Nfa} {l : List Int} (hv : ValidN a) (hl : Bd a.n l) : chkN a l = 0 := by
 unfold chkN
 rw [if_pos (vN_yes hv), if_neg]
 intro h
 obtain ⟨z, hz, h⟩ := List.any_eq_true.1 h
 rw [decide_eq_true (hl z hz)] at h
 cases h
theorem chk_no {a : Nfa} {l : List Int} (hv : ¬ ValidN a) : chkN a l = 1 := by
 unfold chkN
 rw [vN_no hv]
 rfl
theorem chk_cases (a : Nfa) (l : List Int) : chkN a l = 0 ∨ chkN a l = 1 ∨ chkN a l = 2 := by
 unfold chkN
 split
 ·split
  ·exact .inr (.inr rfl)
  ·exact .inl rfl
 ·exact .inr (.inl rfl)
variable {a : Nfa} {h : NH} {w : World} {aq : Option Addr} {lq cq : Nat} {l : List Int}
set_option maxRecDepth 20000 in
theorem check_any (hd : IsNfa w h a) (hq : IsInts .i64 w aq lq cq l) :
  Calls Tryd.prog 44 #[vNf a h, .slice aq lq cq] w fun e w' => e = .returned (.int .i64 (chkN a l)) ∧ Below w.heap.size w w' := by
 obtain ⟨W1, hW1, hs1, hb1, hO⟩ := boxNW a h w hd
 have hva := valid_any a h W1 (hd.later hb1)
 simp only [vNf] at hva
 have HQ := Lib.hid hq
 have HO := Lib.hid hO
 have HS1 := Lib.hid hs1
 have HB1 := Lib.hid hb1
 have hmf : ∀ (fn : Fn) (first cap : Array Value) (w : World), (Instr.makeFunc fn first cap).run Tryd.prog w = .ok (.func fn first cap) w := fun _ _ _ _ => rfl
 obtain ⟨⟨c1, c2, c3, c4⟩, -, -⟩ := hO W1 (by rw [← hs1]; exact Below.refl _ _)
 unfold vNf
 by_cases hv : ValidN a
 ·rw [vN_yes hv] at hva
  have HC : Hid (chkN a l = if l.any (fun z => !decide (0 ≤ z ∧ z < a.n)) = true then 2 else 0) := Lib.hid (by unfold chkN; rw [if_pos (vN_yes hv)])
  have hch := fun W (hB : Below W1.heap.size W1 W) => chkHas_any (a := a) (h := h) (w := W) (px := w.heap.size) (p := fun z => !decide (0 ≤ z ∧ z < a.n)) (HQ.out.later (HB1.out.trans (hB.mono (by have := HS1.out; omega)))) (fun W' hB' z _ => check1_any (HO.out W' (by rw [← HS1.out]; exact hB.trans (hB'.mono hB.size))).1)
  have HCH := Lib.hid hch
  obtain ⟨b, hb⟩ : ∃ b, l.any (fun z => !decide (0 ≤ z ∧ z < a.n)) = b := ⟨_, rfl⟩
  rw [hb] at HC HCH
  clear hd hq hO hb1 hs1 hv hch hb
  cases b
  ·go_enter Tryd.func44, Tryd.ntmps44
   go_wp2_with (first | (go_at_call 24; refine hva.mono ?_; rintro e w3 ⟨rfl, hb3⟩) | (go_at_call 71; refine (HCH.out w3 hb3).mono ?_; rintro e w5 ⟨rfl, hb5⟩))
   go_ret
   exact ⟨by rw [HC.out]; rfl, HB1.out.trans ((hb3.trans (hb5.mono hb3.size)).mono (by have := HS1.out; omega))⟩
  ·go_enter Tryd.func44, Tryd.ntmps44
   go_wp2_with (first | (go_at_call 24; refine hva.mono ?_; rintro e w3 ⟨rfl, hb3⟩) | (go_at_call 71; refine (HCH.out w3 hb3).mono ?_; rintro e w5 ⟨rfl, hb5⟩))
   go_ret
   exact ⟨by rw [HC.out]; rfl, HB1.out.trans ((hb3.trans (hb5.mono hb3.size)).mono (by have := HS1.out; omega))⟩
 ·rw [vN_no hv] at hva
  have HC : Hid (chkN a l = 1) := Lib.hid (chk_no hv)
  clear hd hq hO hb1 hs1 hv
  go_enter Tryd.func44, Tryd.ntmps44
  go_wp2_with (go_at_call 24; refine hva.mono ?_; rintro e w3 ⟨rfl, hb3⟩)
  go_ret
  exact ⟨by rw [HC.out]; rfl, HB1.out.trans (hb3.mono (by have := HS1.out; omega))⟩
def SetE (S : List Int) (x : Int) (w : World) (e : Ending) (w' : World) : Prop := (∃ g t c zs, e = .returned (.tuple #[.slice g t c, .int .i64 x]) ∧ IsInts .u64 w' g t c zs ∧ Bt.SetIs zs (inL S) ∧ t ≤ 64) ∧ Below w.heap.size w w'
theorem setE_none (x : Int) (w : World) {w' : World} (hb : Below w.heap.size w w') : SetE [] x w (.returned (.tuple #[.slice none 0 0, .int .i64 x])) w' :=
 ⟨⟨none, 0, 0, [], rfl, .inl ⟨rfl, rfl, rfl, rfl⟩, by
  have h := Bt.make_spec []
  have e : Bt.SetIs [] (inL []) := ⟨fun z hz => by simp at hz, ⟨Nat.zero_le _, .inl rfl⟩, fun n hn => by
   have : Bt.bt [] n = false := by unfold Bt.bt; rw [Bt.wd_over (Nat.zero_le _)]; simp [Bt.tb]
   rw [this]
   unfold inL
   simp⟩
  exact e, Nat.zero_le _⟩, hb⟩
noncomputable def cloV (a : Nfa) (l : List Int) : List Int := if chkN a l = 0 then cloL a.arcs l else []
noncomputable def stpV (a : Nfa) (l : List Int) (c : Int) : List Int := if chkN a l = 0 then stpL a.arcs l c else []
set_option maxRecDepth 20000 in
theorem Closure_any (hd : IsNfa w h a) (hq : IsInts .i64 w aq lq cq l) :
  Calls Tryd.prog 18 #[vNf a h, .slice aq lq cq] w (SetE (cloV a l) (chkN a l) w) := by
 obtain ⟨W1, hW1, hs1, hb1, hO⟩ := boxNW a h w hd
 have hck := check_any (hd.later hb1) (hq.later hb1)
 simp only [vNf] at hck
 have HQ := Lib.hid hq
 have HO := Lib.hid hO
 have HS1 := Lib.hid hs1
 have HB1 := Lib.hid hb1
 obtain ⟨⟨c1, c2, c3, c4⟩, -, -⟩ := hO W1 (by rw [← hs1]; exact Below.refl _ _)
 unfold vNf
 rcases chk_cases a l with h0 | h0 | h0
 ·obtain ⟨hv, hl⟩ := chk_zero h0
  have HC : Hid (cloV a l = cloL a.arcs l) := Lib.hid (by unfold cloV; rw [if_pos h0])
  have hcl := fun W (hB : Below W1.heap.size W1 W) => closed_any (w := W) hv (HO.out W (by rw [← HS1.out]; exact hB)).2.1 (HQ.out.later (HB1.out.trans (hB.mono (by have := HS1.out; omega)))) hl
  simp only [vNf] at hcl
  have HCL := Lib.hid hcl
  have HX := Lib.hid h0
  rw [h0] at hck ⊢
  clear hd hq hO hb1 hs1 hv hl hcl h0
  go_enter Tryd.func18, Tryd.ntmps18
  go_wp2_with (first | (go_at_call 44; refine hck.mono ?_; rintro e w3 ⟨rfl, hb3⟩; obtain ⟨⟨d1, d2, d3, d4⟩, -, -⟩ := HO.out w3 (by rw [← HS1.out]; exact hb3)) | (go_at_call 45; refine (HCL.out w3 hb3).mono ?_; rintro e w9 ⟨g, t, us, rfl, hpz, hzs, ht, hb9⟩))
  go_ret2
  rw [HC.out]
  exact ⟨⟨_, _, _, us, rfl, hpz.ints, hzs, ht⟩, HB1.out.trans ((hb3.trans (hb9.mono hb3.size)).mono (by have := HS1.out; omega))⟩
 all_goals
  have HC : Hid (cloV a l = []) := Lib.hid (by unfold cloV; rw [h0]; rfl)
  rw [h0] at hck ⊢
  clear hd hq hO hb1 hs1 h0
  go_enter Tryd.func18, Tryd.ntmps18
  go_wp2_with (go_at_call 44; refine hck.mono ?_; rintro e w3 ⟨rfl, hb3⟩)
  go_ret2
  rw [HC.out]
  exact setE_none _ _ (HB1.out.trans (hb3.mono (by have := HS1.out; omega)))
noncomputable def accV (a : Nfa) (ws : List Int) : Value := .tuple #[.bool (accN a ws), .int .i64 (if vN a = true then 0 else 1)]
theorem accV_yes (hv : ValidN a) (ws : List Int) : accV a ws = .tuple #[.bool (acN a ws), .int .i64 0] := by unfold accV accN; rw [vN_yes hv]; rfl
theorem accV_no (hv : ¬ ValidN a) (ws : List Int) : accV a ws = .tuple #[.bool false, .int .i64 1] := by unfold accV accN; rw [vN_no hv]; rfl
end Go.Proofs.YtofaifeadhimjaaDoor

set_option linter.unusedSimpArgs false
set_option linter.unusedVariables false
namespace Go.Proofs.YtofaifeadhimjaaDoor
open Go.RowKit Go.Shelf
attribute [local go_sem] Oper.semAt_some

def SetP (S : List Int) : Value → World → Prop := fun v W => ∃ g t zs, v = .slice (some ⟨g, 0, none⟩) t t ∧ IsInts .u64 W (some ⟨g, 0, none⟩) t t zs ∧ Bt.SetIs zs (inL S) ∧ t ≤ 64
theorem stays_setp (S : List Int) : Stays (SetP S) := fun _ _ _ hb ⟨g, t, zs, e, h1, h2⟩ => ⟨g, t, zs, e, h1.later hb, h2⟩
variable {a : Nfa} {h : NH} {w : World} {aq : Option Addr} {lq cq : Nat} {l : List Int}
set_option maxRecDepth 20000 in
set_option maxHeartbeats 1000000 in
theorem Step_any {c : Int} (hd : IsNfa w h a) (hq : IsInts .i64 w aq lq cq l) (hT : TabW w) :
  Calls Tryd.prog 20 #[vNf a h, .slice aq lq cq, .int .i64 c] w (SetE (stpV a l c) (chkN a l) w) := by
 obtain ⟨W1, hW1, hs1, hb1, hO⟩ := boxNW a h w hd
 have hck := check_any (hd.later hb1) (hq.later hb1)
 simp only [vNf] at hck
 have HQ := Lib.hid hq
 have HT := Lib.hid hT
 have HO := Lib.hid hO
 have HS1 := Lib.hid hs1
 have HB1 := Lib.hid hb1
 obtain ⟨⟨c1, c2, c3, c4⟩, -, -⟩ := hO W1 (by rw [← hs1]; exact Below.refl _ _)
 unfold vNf
 rcases chk_cases a l with h0 | h0 | h0
 ·obtain ⟨hv, hl⟩ := chk_zero h0
  have HC : Hid (stpV a l c = movL a.arcs (cloL a.arcs l) c) := Lib.hid (by unfold stpV; rw [if_pos h0]; rfl)
  have HLB : Hid (∀ W, Below W1.heap.size W1 W → Below w.heap.size w W) := Lib.hid (fun W hB => HB1.out.trans (hB.mono (by have := HS1.out; omega)))
  have hcl := fun W (hB : Below W1.heap.size W1 W) => closed_any (w := W) hv (HO.out W (by rw [← HS1.out]; exact hB)).2.1 (HQ.out.later (HLB.out W hB)) hl
  have hmv := fun W (hB : Below W1.heap.size W1 W) (g t : Nat) (zs : List Int) (hi : IsInts .u64 W (some ⟨g, 0, none⟩) t t zs) (hz : Bt.SetIs zs (inL (cloL a.arcs l))) => moved_any (w := W) (c := c) hv (HO.out W (by rw [← HS1.out]; exact hB)).2.1 hi hz (cs_clo hv hl) (HT.out.later (HLB.out W hB))
  simp only [vNf] at hcl hmv
  obtain ⟨S, hS⟩ : ∃ S, cloL a.arcs l = S := ⟨_, rfl⟩
  obtain ⟨M, hM⟩ : ∃ M, movL a.arcs S c = M := ⟨_, rfl⟩
  rw [hS, hM] at HC
  rw [hS] at hcl hmv
  rw [hM] at hmv
  have HCL := Lib.hid hcl
  have HMV := Lib.hid hmv
  rw [h0] at hck ⊢
  clear hd hq hT hO hb1 hs1 hv hl hcl hmv h0 hS hM
  go_enter Tryd.func20, Tryd.ntmps20
  go_wp2_with (go_at_call 44; refine hck.mono ?_; rintro e w3 ⟨rfl, hb3⟩; obtain ⟨⟨d1, d2, d3, d4⟩, -, -⟩ := HO.out w3 (by rw [← HS1.out]; exact hb3); refine Hid.out ?_)
  refine Lib.hid ?_
  clear c1 c2 c3 c4 hW1
  go_upto_region 4 with (fail)
  refine wp_region_grow mixed (by kernel_rfl) [[], [], [], [(1, 16), (2, 17)], [], [(0, 15), (3, 18), (4, 19), (3, 18)], [(5, 20), (5, 20), (0, 15), (1, 16), (2, 17), (3, 18), (4, 19), (5, 20)], [(6, 6), (0, 15), (1, 16), (2, 17), (3, 18), (4, 19), (5, 20), (6, 6)]] [(0, 15), (1, 16), (2, 17), (3, 18), (4, 19), (5, 20), (6, 6), (7, 7)] rfl rfl [Ex ?e0, Ex ?e1, Ex ?e2, SetP S, Ex ?e4, SetP M, SetP M, Ex ?e7] ⟨stays_ex _, stays_ex _, stays_ex _, stays_setp _, stays_ex _, stays_setp _, stays_setp _, stays_ex _, trivial⟩ ?steps ?rest
  case steps =>
   refine ⟨fun f W hC hh => ?_, fun f W hC hh => ?_, fun f W hC hh => ?_, fun f W hC hh => ?_, fun f W hC hh => ?_, fun f W hC hh => ?_, fun f W hC hh => ?_, fun f W hC hh => ?_, trivial⟩
   ·
    refine tab_plain fun K Q hK => ?_
    simp only [puts, List.foldr_nil]
    have m1 := (hC.cell (p := ⟨w.heap.size, 0, none⟩) (lt_of_cell d1)).trans d1
    have m2 := (hC.cell (p := ⟨w.heap.size, 1, none⟩) (lt_of_cell d2)).trans d2
    have m3 := (hC.cell (p := ⟨w.heap.size, 2, none⟩) (lt_of_cell d3)).trans d3
    have m4 := (hC.cell (p := ⟨w.heap.size, 3, none⟩) (lt_of_cell d4)).trans d4
    go_step
    exact fam_e hK rfl rfl (Below.refl _ _) hC
   ·
    refine tab_plain fun K Q hK => ?_
    simp only [puts, List.foldr_nil]
    have m1 := (hC.cell (p := ⟨w.heap.size, 0, none⟩) (lt_of_cell d1)).trans d1
    have m2 := (hC.cell (p := ⟨w.heap.size, 1, none⟩) (lt_of_cell d2)).trans d2
    have m3 := (hC.cell (p := ⟨w.heap.size, 2, none⟩) (lt_of_cell d3)).trans d3
    have m4 := (hC.cell (p := ⟨w.heap.size, 3, none⟩) (lt_of_cell d4)).trans d4
    go_step
    exact fam_e hK rfl rfl (Below.refl _ _) hC
   ·
    refine tab_plain fun K Q hK => ?_
    simp only [puts, List.foldr_nil]
    go_step
    exact fam_e hK rfl rfl (Below.refl _ _) hC
   ·
    obtain ⟨h1, h2, -⟩ := hh
    have g1 : f 1 = _ := h1
    have g2 : f 2 = _ := h2
    refine tab_plain fun K Q hK => ?_
    simp only [puts, List.foldr_cons, List.foldr_nil, List.setIfInBounds_toArray, List.set_cons_succ, List.set_cons_zero, g1, g2]
    go_step
    go_at_call 45
    refine (HCL.out W (hb3.trans (hC.mono hb3.size))).mono ?_
    rintro e w' ⟨g, t, us, rfl, hpz, hzs, ht, hb⟩
    exact fam_fin hK rfl ⟨g, t, us, rfl, hpz.ints, hzs, ht⟩ hb (hC.trans (hb.mono hC.size))
   ·
    refine tab_plain fun K Q hK => ?_
    simp only [puts, List.foldr_nil]
    go_step
    exact fam_e hK rfl rfl (Below.refl _ _) hC
   ·
    obtain ⟨h0, h3, h4, _, -⟩ := hh
    have g0 : f 0 = _ := h0
    obtain ⟨k3, t3, z3, (g3 : f 3 = _), s3, q3, r3⟩ := h3
    have g4 : f 4 = _ := h4
    refine tab_plain fun K Q hK => ?_
    simp only [puts, List.foldr_cons, List.foldr_nil, List.setIfInBounds_toArray, List.set_cons_succ, List.set_cons_zero, g0, g3, g4]
    go_step
    go_at_call 47
    refine (HMV.out W (hb3.trans (hC.mono hb3.size)) _ _ _ s3 q3).mono ?_
    rintro e w' ⟨g, t, us, rfl, hpz, hzs, ht, hb⟩
    exact fam_fin hK rfl ⟨g, t, us, rfl, hpz.ints, hzs, ht⟩ hb (hC.trans (hb.mono hC.size))
   ·
    obtain ⟨h5, _, h0, h1, h2, h3, h4, _, -⟩ := hh
    obtain ⟨k5, t5, z5, (g5 : f 5 = _), s5, q5, r5⟩ := h5
    have g0 : f 0 = _ := h0
    have g1 : f 1 = _ := h1
    have g2 : f 2 = _ := h2
    obtain ⟨k3, t3, z3, (g3 : f 3 = _), s3, q3, r3⟩ := h3
    have g4 : f 4 = _ := h4
    refine tab_plain fun K Q hK => ?_
    simp only [puts, List.foldr_cons, List.foldr_nil, List.setIfInBounds_toArray, List.set_cons_succ, List.set_cons_zero, g5, g0, g1, g2, g3, g4]
    go_step
    exact fam_fin hK rfl ⟨_, _, z5, rfl, s5, q5, r5⟩ (Below.refl _ _) hC
   ·
    obtain ⟨h6, h0, h1, h2, h3, h4, h5, _, -⟩ := hh
    obtain ⟨k6, t6, z6, (g6 : f 6 = _), s6, q6, r6⟩ := h6
    have g0 : f 0 = _ := h0
    have g1 : f 1 = _ := h1
    have g2 : f 2 = _ := h2
    obtain ⟨k3, t3, z3, (g3 : f 3 = _), s3, q3, r3⟩ := h3
    have g4 : f 4 = _ := h4
    obtain ⟨k5, t5, z5, (g5 : f 5 = _), s5, q5, r5⟩ := h5
    refine tab_plain fun K Q hK => ?_
    simp only [puts, List.foldr_cons, List.foldr_nil, List.setIfInBounds_toArray, List.set_cons_succ, List.set_cons_zero, g6, g0, g1, g2, g3, g4, g5]
    go_step
    exact fam_e hK rfl rfl (Below.refl _ _) hC
  case rest =>
   intro f WN hC hh
   obtain ⟨h0, h1, h2, h3, h4, h5, h6, h7, -⟩ := hh
   have g0 : f 0 = _ := h0
   have g1 : f 1 = _ := h1
   have g2 : f 2 = _ := h2
   obtain ⟨k3, t3, z3, (g3 : f 3 = _), s3, q3, r3⟩ := h3
   have g4 : f 4 = _ := h4
   obtain ⟨k5, t5, z5, (g5 : f 5 = _), s5, q5, r5⟩ := h5
   obtain ⟨k6, t6, z6, (g6 : f 6 = _), s6, q6, r6⟩ := h6
   have g7 : f 7 = _ := h7
   simp only [puts, List.foldr_cons, List.foldr_nil, List.setIfInBounds_toArray, List.set_cons_succ, List.set_cons_zero, g0, g1, g2, g3, g4, g5, g6, g7]
   clear h0 h1 h2 h4 h7 g0 g1 g2 g4 g7
   go_wp2_with (fail)
   go_ret2
   rw [HC.out]
   exact ⟨⟨_, _, _, z6, rfl, s6, q6, r6⟩, HB1.out.trans ((hb3.trans (hC.mono hb3.size)).mono (by have := HS1.out; omega))⟩
 all_goals
  have HC : Hid (stpV a l c = []) := Lib.hid (by unfold stpV; rw [h0]; rfl)
  rw [h0] at hck ⊢
  clear hd hq hO hb1 hs1 h0
  go_enter Tryd.func20, Tryd.ntmps20
  go_wp2_with (go_at_call 44; refine hck.mono ?_; rintro e w3 ⟨rfl, hb3⟩)
  go_ret2
  rw [HC.out]
  exact setE_none _ _ (HB1.out.trans (hb3.mono (by have := HS1.out; omega)))
set_option maxRecDepth 20000 in
set_option maxHeartbeats 1000000 in
theorem accepts_any {ws : List Int} (hd : IsNfa w h a) (hq : IsInts .i64 w aq lq cq ws) (hT : TabW w) :
  Calls Tryd.prog 33 #[vNf a h, .slice aq lq cq] w fun e w' => e = .returned (accV a ws) ∧ Below w.heap.size w w' := by
 obtain ⟨W1, hW1, hs1, hb1, hO⟩ := boxNW a h w hd
 have hva := valid_any a h W1 (hd.later hb1)
 simp only [vNf] at hva
 have hlq := hq.length
 have HLQ := Lib.hid hlq
 have hcq := hq.cap
 unfold maxLen at hcq
 have HQ := Lib.hid hq
 have HT := Lib.hid hT
 have HO := Lib.hid hO
 have HS1 := Lib.hid hs1
 have HB1 := Lib.hid hb1
 obtain ⟨⟨c1, c2, c3, c4⟩, -, -⟩ := hO W1 (by rw [← hs1]; exact Below.refl _ _)
 unfold vNf
 by_cases hv : ValidN a
 ·rw [vN_yes hv] at hva
  have HV := Lib.hid hv
  have HLB : Hid (∀ W, Below W1.heap.size W1 W → Below w.heap.size w W) := Lib.hid (fun W hB => HB1.out.trans (hB.mono (by have := HS1.out; omega)))
  have hcl := fun W (hB : Below W1.heap.size W1 W) => closed_any (w := W) hv (HO.out W (by rw [← HS1.out]; exact hB)).2.1 (HO.out W (by rw [← HS1.out]; exact hB)).2.1.start hv.startIn
  have hmv := fun W (hB : Below W1.heap.size W1 W) (c : Int) (u : List Int) (g t : Nat) (zs : List Int) (hi : IsInts .u64 W (some ⟨g, 0, none⟩) t t zs) (hz : Bt.SetIs zs (inL (runL a.arcs a.s u))) => moved_any (w := W) (c := c) hv (HO.out W (by rw [← HS1.out]; exact hB)).2.1 hi hz ⟨runL_bd hv.arcsIn u hv.startIn, cloL_runL hv.arcsIn hv.startIn u, runL_asc _ _ _⟩ (HT.out.later (HLB.out W hB))
  have hfi := fun W (hB : Below W1.heap.size W1 W) (u : List Int) (g t : Nat) (zs : List Int) (hi : IsInts .u64 W (some ⟨g, 0, none⟩) t t zs) (hz : Bt.SetIs zs (inL (runL a.arcs a.s u))) => final_any (w := W) hv (HO.out W (by rw [← HS1.out]; exact hB)).2.1 hi hz ⟨runL_bd hv.arcsIn u hv.startIn, cloL_runL hv.arcsIn hv.startIn u, runL_asc _ _ _⟩ (HT.out.later (HLB.out W hB))
  simp only [vNf] at hcl hmv hfi
  have HCL := Lib.hid hcl
  have HMV := Lib.hid hmv
  have HFI := Lib.hid hfi
  rw [accV_yes hv]
  clear hd hq hT hO hb1 hs1 hv hcl hmv hfi hlq
  go_enter Tryd.func33, Tryd.ntmps33
  go_wp2_with (first | (go_at_call 24; refine hva.mono ?_; rintro e w3 ⟨rfl, hb3⟩; obtain ⟨⟨d1, d2, d3, d4⟩, -, -⟩ := HO.out w3 (by rw [← HS1.out]; exact hb3)) | (go_at_call 45; refine (HCL.out w3 hb3).mono ?_; rintro e w4 ⟨g, t, us, rfl, hpz, hzs, ht, hb4⟩; have hi4 := hpz.ints; have HI4 := Lib.hid hi4; clear hi4))
  have HB4 : Hid (Below W1.heap.size W1 w4) := Lib.hid (hb3.trans (hb4.mono hb3.size))
  have HZ4 : Hid (Bt.SetIs us (inL (runL a.arcs a.s (ws.take 0)))) := Lib.hid (by rw [List.take_zero, runL_nil]; exact hzs)
  clear d1 d2 d3 d4 c1 c2 c3 c4 hW1 hb3 hb4 hzs hpz
  go_loopw [6, 18] (fun v c W => ∃ (i g t : Nat) (zs : List Int), i ≤ lq ∧ c = .int .i64 (i : Int) ∧ v = .slice (some ⟨g, 0, none⟩) t t ∧ IsInts .u64 W (some ⟨g, 0, none⟩) t t zs ∧ Hid (Bt.SetIs zs (inL (runL a.arcs a.s (ws.take i)))) ∧ Below W1.heap.size W1 W) (fun _ c _ => lq - (intOf c).toNat)
  case atStart => exact ⟨0, _, _, us, Nat.zero_le _, rfl, rfl, HI4.out, HZ4, HB4.out⟩
  case round =>
   clear HI4 HZ4 HB4
   obtain ⟨i, g, t, zs, hi, rfl, rfl, hI, HZ, hb⟩ := hrel
   obtain ⟨⟨d1, d2, d3, d4⟩, -, -⟩ := HO.out wr (by rw [← HS1.out]; exact hb)
   rcases Nat.lt_or_ge i lq with hlt | hge
   ·have t1 : decide (i < lq) = true := decide_eq_true hlt
    obtain ⟨bq, oq, rfl, hbl, hc⟩ := HQ.out.at wr (HLB.out wr hb) i hlt
    obtain ⟨z, hz⟩ : ∃ z, gi ws i = z := ⟨_, rfl⟩
    rw [hz] at hc
    have hm := HMV.out wr hb z _ g t zs hI HZ.out
    rw [← runL_snoc, ← hz, ← take_succ_gi ws i (by rw [HLQ.out]; exact hlt), hz] at hm
    have HM := Lib.hid hm
    have HB := Lib.hid hb
    clear hz hm hb hI
    go_wp2_with (go_at_call 47; refine HM.out.mono ?_; rintro e w5 ⟨g5, t5, us5, rfl, hpz5, hzs5, ht5, hb5⟩; have HI5 := Lib.hid hpz5.ints; have HZ5 := Lib.hid hzs5; clear hpz5 hzs5)
    go_roundw
    case rel => exact ⟨i + 1, g5, t5, us5, hlt, by go_num, rfl, HI5.out, HZ5, HB.out.trans (hb5.mono HB.out.size)⟩
    case measure => simp [intOf]; omega
   ·obtain rfl : i = lq := by omega
    have t1 : decide (i < i) = false := decide_eq_false (by omega)
    have hf := HFI.out wr hb _ g t zs hI HZ.out
    rw [show finL a.fin (runL a.arcs a.s (ws.take i)) = acN a ws by rw [List.take_of_length_le (by rw [HLQ.out]; exact Nat.le_refl _)]; rfl] at hf
    have HB := Lib.hid hb
    clear hb hI
    go_wp2_with (go_at_call 61; refine hf.mono ?_; rintro e w5 ⟨rfl, hb5⟩)
    go_ret2
    exact ⟨rfl, HLB.out _ (HB.out.trans (hb5.mono HB.out.size))⟩
 ·rw [vN_no hv] at hva
  rw [accV_no hv]
  clear hd hq hO hb1 hs1 hv
  go_enter Tryd.func33, Tryd.ntmps33
  go_wp2_with (go_at_call 24; refine hva.mono ?_; rintro e w3 ⟨rfl, hb3⟩)
  go_ret2
  exact ⟨rfl, HB1.out.trans (hb3.mono (by have := HS1.out; omega))⟩
end Go.Proofs.YtofaifeadhimjaaDoor
