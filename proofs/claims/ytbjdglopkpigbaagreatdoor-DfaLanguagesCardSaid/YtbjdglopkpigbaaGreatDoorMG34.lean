import Derived.Test.YtbjdglopkpigbaaGreatDoorMG6
import Derived.Test.YtbjdglopkpigbaaGreatDoorMG24
import Derived.Test.YtbjdglopkpigbaaGreatDoorMG27
import Derived.Test.YtbjdglopkpigbaaGreatDoorMG33
/-
  DfaKd, DfaMw, DfaSo
-/
set_option linter.unusedSimpArgs false
set_option linter.unusedVariables false
namespace Go.Proofs.YtbjdglopkpigbaaGreatDoor
open List (foldr_cons foldr_nil setIfInBounds_toArray set_cons_succ set_cons_zero)
open Go.RowKit
attribute [local go_sem] Oper.semAt_some
def chV (N : Nat) (ks : List Ky) (y : Ky) : Lit := .int .i64 (plK N ks y)
def fiV (fk : List Int) (y : Int) : Lit := .int .i64 ((plF fk y : Nat) : Int)
noncomputable def keyF : KeyEnc Tryz.prog 3 Int := keyI Tryz.underlying3
def refPs (pc bm bf gr N : Nat) (ks : List Ky) (fk out : List Int) : List Pc :=
 [.blk pc #[.map (some bm)], .obj bm (MapObj keyS 3 ks (chV N ks)), .obj bf (MapObj keyF 3 fk (fiV fk)), .row 3 1 (.slice (some ⟨gr, 0, none⟩) N N) N (ivs .i64 out)]
theorem refPs_start {X : World} {B N : Nat} (hs : X.heap.size = B) :
  Pcs (((X.alloc (.map #[] 0)).alloc (.cells #[.map (some B)] 77)).alloc (.map #[] 0)) B [.blk (B + 1) #[.map (some B)], .obj B (MapObj keyS 3 [] (chV N [])), .obj (B + 2) (MapObj keyF 3 [] (fiV []))] := by
 subst hs
 obtain ⟨X1, hX1⟩ : ∃ X1, X.alloc (.map #[] 0) = X1 := ⟨_, rfl⟩
 have hs1 : X1.heap.size = X.heap.size + 1 := by rw [← hX1]; simp
 have ho1 : X1.heap[X.heap.size]? = some (.map #[] 0) := by rw [← hX1]; exact heap_alloc_new X _
 obtain ⟨X2, hX2⟩ : ∃ X2, X1.alloc (.cells #[.map (some X.heap.size)] 77) = X2 := ⟨_, rfl⟩
 have hs2 : X2.heap.size = X.heap.size + 2 := by rw [← hX2]; simp; omega
 have ho2 : X2.heap[X.heap.size + 1]? = some (.cells #[.map (some X.heap.size)] 77 (0, 0)) := by rw [← hX2, ← hs1]; exact heap_alloc_new X1 _
 have hb2 : Below X1.heap.size X1 X2 := by rw [← hX2]; exact (Below.refl _ _).alloc (Nat.le_refl _) _
 rw [hX1, hX2]
 have hb3 : Below X2.heap.size X2 (X2.alloc (.map #[] 0)) := (Below.refl _ _).alloc (Nat.le_refl _) _
 have h3 : (X2.alloc (.map #[] 0)).heap[X.heap.size + 2]? = some (.map #[] 0) := by rw [← hs2]; exact heap_alloc_new X2 _
 have h2 : (X2.alloc (.map #[] 0)).heap[X.heap.size + 1]? = some (.cells #[.map (some X.heap.size)] 77 (0, 0)) := by rw [hb3.block _ (by omega)]; exact ho2
 have h1 : (X2.alloc (.map #[] 0)).heap[X.heap.size]? = some (.map #[] 0) := by rw [hb3.block _ (by omega), hb2.block _ (by omega)]; exact ho1
 refine ⟨fun i p hp => ?_, fun i j p q hne hp hq k hk e => ?_⟩
 ·match i, hp with
  | 0, hp => injection hp with hp; subst hp; exact ⟨by omega, _, h2⟩
  | 1, hp => injection hp with hp; subst hp; exact ⟨Nat.le_refl _, _, h1, mapObj_made _ _ _⟩
  | 2, hp => injection hp with hp; subst hp; exact ⟨by omega, _, h3, mapObj_made _ _ _⟩
  | i + 3, hp => simp at hp
 ·have own : ∀ (i : Nat) (p : Pc), [Pc.blk (X.heap.size + 1) #[.map (some X.heap.size)], .obj X.heap.size (MapObj keyS 3 [] (chV N [])), .obj (X.heap.size + 2) (MapObj keyF 3 [] (fiV []))][i]? = some p → p.own = some (if i = 0 then X.heap.size + 1 else if i = 1 then X.heap.size else X.heap.size + 2) ∧ i < 3 := fun i p hp => by
   match i, hp with
   | 0, hp => injection hp with hp; subst hp; exact ⟨rfl, by omega⟩
   | 1, hp => injection hp with hp; subst hp; exact ⟨rfl, by omega⟩
   | 2, hp => injection hp with hp; subst hp; exact ⟨rfl, by omega⟩
   | i + 3, hp => simp at hp
  obtain ⟨e1, l1⟩ := own i p hp
  obtain ⟨e2, l2⟩ := own j q hq
  rw [hk] at e1
  rw [e] at e2
  injection e1 with e1
  injection e2 with e2
  split at e1 <;> split at e2 <;> (try split at e1) <;> (try split at e2) <;> omega
def tkA (oe : List A3) (cl : List Int) (j : Nat) : List (Int × Int) := (oe.take j).map fun x => (x.l, gi cl x.t.toNat)
theorem tkA_succ (oe : List A3) (cl : List Int) {j : Nat} (h : j < oe.length) : tkA oe cl (j + 1) = tkA oe cl j ++ [((g3 oe j).l, gi cl (g3 oe j).t.toNat)] := by
 unfold tkA
 rw [take_succ_g3 oe j h, List.map_append]
 rfl
theorem tkA_full (es : List A3) (cl : List Int) (k : Nat) : tkA (outsD es k) cl (outsD es k).length = (sigA es cl k).2 := by
 unfold tkA sigA
 rw [List.take_length]
theorem keyS_ok {a b c : Int} (ha : -1 ≤ a ∧ a ≤ 1000000000) (hb : -1 ≤ b ∧ b ≤ 1000000000) (hc : -1 ≤ c ∧ c ≤ 1000000000) : keyS.ok (a, b, c) := ⟨wf_small (by show _ ≤ a; omega) (by show a ≤ _; omega), wf_small (by show _ ≤ b; omega) (by show b ≤ _; omega), wf_small (by show _ ≤ c; omega) (by show c ≤ _; omega)⟩
theorem succ_bound' {a k j M : Nat} (h : a ≤ k * M + 1 + j) (hj : j + 1 ≤ M) : a ≤ (k + 1) * M := by
 rw [Nat.add_one_mul]
 omega
theorem succ_bound {a k j : Nat} (h : a ≤ k * 20001 + 1 + j) (hj : j ≤ 20000) : a ≤ (k + 1) * 20001 := succ_bound' h (by omega)
def GivesR (es : List A3) (cl : List Int) (N : Nat) (w : World) (e : Ending) (w' : World) : Prop := (∃ a c, e = .returned (.tuple #[.slice a N c, .int .i64 ((refN es N cl : Nat) : Int)]) ∧ w'.ownsRow w.heap.size 3 1 (.slice a N c) N (ivs .i64 (refC es N cl))) ∧ Below w.heap.size w w'
set_option maxRecDepth 20000 in
set_option maxHeartbeats 8000000 in
theorem refine_any {d : Dfa} {h : DH} {w : World} (hv : ValidD d) (hd : IsDfa w h d) {ac : Option Addr} {cc : Nat} {cl : List Int} (hc : IsInts .i64 w ac d.n.toNat cc cl) (hcl : ∀ i : Nat, (i : Int) < d.n → 0 ≤ gi cl i ∧ gi cl i ≤ 1000000) :
  Calls Tryz.prog 22 #[vDf d h, .slice ac d.n.toNat cc] w (GivesR d.arcs cl d.n.toNat w) := by
 have HV := Lib.hid hv
 have hn := hv.1
 obtain ⟨W1, hW1, hs1, hb1, hO⟩ := boxDW d h w hd
 obtain ⟨n, s, fin, es⟩ := d
 obtain ⟨fa, fl, fc, aa, al, ac'⟩ := h
 simp only [vDf] at hW1 hs1 hb1 hO HV hn hc hcl ⊢
 obtain ⟨N, rfl⟩ := Int.eq_ofNat_of_zero_le (show 0 ≤ n by omega)
 simp only [Int.toNat_natCast] at hc ⊢
 have HCL : Hid (∀ i : Nat, i < N → 0 ≤ gi cl i ∧ gi cl i ≤ 1000000) := Lib.hid (fun i hi => hcl i (by omega))
 have hmf : ∀ (fn : Fn) (first cap : Array Value) (w : World), (Instr.makeFunc fn first cap).run Tryz.prog w = .ok (.func fn first cap) w := fun _ _ _ _ => rfl
 have hmm := @run_makeMap Tryz.prog
 have HO := Lib.hid hO
 have HC := Lib.hid hc
 have hP0 := refPs_start (X := W1) (N := N) rfl
 obtain ⟨X, hX⟩ : ∃ X, ((W1.alloc (.map #[] 0)).alloc (.cells #[.map (some W1.heap.size)] 77)).alloc (.map #[] 0) = X := ⟨_, rfl⟩
 have hbX : Below W1.heap.size W1 X := by rw [← hX]; exact (((Below.refl _ _).alloc (Nat.le_refl _) _).alloc (by simp) _).alloc (by simp; omega) _
 have hsX : X.heap.size = w.heap.size + 4 := by rw [← hX]; simp; omega
 rw [hX] at hP0
 rw [hs1] at hP0 hbX hX
 obtain ⟨⟨k1, k2, k3, k4⟩, -, -⟩ := HO.out X hbX
 have HP0 := Lib.hid hP0
 have HBX := Lib.hid hbX
 have HSX := Lib.hid hsX
 clear hO hc hcl hv hd hP0 hbX hb1 hsX
 go_enter Tryz.func22, Tryz.ntmps22
 go_wp2_with (refine make_ints (k := .i64) (B := X.heap.size) elI64 rfl _ _ rfl rfl rfl rfl rfl (by omega) (Nat.le_refl _) ?_; intro w3 ho3 hb3 hs3; obtain ⟨⟨m1, m2, m3, m4⟩, -, -⟩ := HO.out w3 (HBX.out.trans (hb3.mono (by rw [HSX.out]; omega))))
 replace ho3 := ho3.from_mono (show w.heap.size + 1 ≤ X.heap.size by rw [HSX.out]; omega)
 have hge := hb3
 replace hb3 := hb3.mono (show w.heap.size + 1 ≤ X.heap.size by rw [HSX.out]; omega)
 obtain ⟨bm, hbm⟩ : ∃ bm, w.heap.size + 1 = bm := ⟨_, rfl⟩
 have HBM := Lib.hid hbm
 rw [hbm] at ho3 hb3 hs1 HO HP0 HBX ⊢
 rw [HSX.out] at ho3 ⊢
 rw [show w.heap.size + 4 = bm + 3 by omega] at ho3 ⊢
 have hP3 : Pcs w3 bm (refPs (bm + 1) bm (bm + 1 + 1) (bm + 3) N [] [] (outR es cl N 0)) := by
  have h1 := HP0.out.add (W' := w3) (.row 3 1 (.slice (some ⟨bm + 3, 0, none⟩) N N) N (ivs .i64 (List.replicate N 0))) (below_grows hge none) ho3 (fun k e => by have e : some (bm + 3) = some k := e; injection e with e; have := HSX.out; omega)
  exact h1
 clear hW1 hX k1 k2 k3 k4 m1 m2 m3 m4 ho3 HP0 hbm hs1
 have HB3 := Lib.hid (HBX.out.trans hb3)
 have HS3 : Hid (bm + 4 ≤ w3.heap.size) := Lib.hid (by have := HSX.out; have := HBM.out; omega)
 clear hb3 HBX HSX hs3 hge
 have HP := Lib.hid hP3
 clear hP3
 go_loopw [24] (fun c W => ∃ (k : Nat) (ks : List Ky) (fk : List Int), k ≤ N ∧ c = .int .i64 (k : Int) ∧ Pcs W bm (refPs (bm + 1) bm (bm + 1 + 1) (bm + 3) N ks fk (outR es cl N k)) ∧ Hid (RefI es cl N k ks fk) ∧ Hid (ks.length ≤ k * 20001) ∧ Hid (fk.length ≤ k) ∧ Below bm W1 W ∧ bm + 4 ≤ W.heap.size) (fun c _ => N - (intOf c).toNat)
 case atStart => exact ⟨0, [], [], Nat.zero_le _, rfl, HP.out, Lib.hid (RefI.start es cl N), Lib.hid (Nat.zero_le _), Lib.hid (Nat.zero_le _), HB3.out, HS3.out⟩
 case round =>
  clear HP HB3 HS3
  obtain ⟨k, ks, fk, hk, rfl, hP, HR, HKL, HFL, hb, hz⟩ := hrel
  obtain ⟨⟨c1, c2, c3, c4⟩, hdr, hbw⟩ := HO.out wr hb
  rcases Nat.lt_or_ge k N with hlt | hge
  ·have t1 : decide (k < N) = true := decide_eq_true hlt
   obtain ⟨bc, oc, rfl, -, hck⟩ := HC.out.at wr hbw k hlt
   obtain ⟨ck, hckv⟩ : ∃ ck, gi cl k = ck := ⟨_, rfl⟩
   have hckr := HCL.out k hlt
   rw [hckv] at hck hckr
   have HCK := Lib.hid hckv
   have hkl : ks.length ≤ 20001000 := by have := HKL.out; omega
   have cpc : wr.cell? ⟨bm + 1, 0, none⟩ = some (.map (some bm)) := ((hP.blk 0 rfl).2.cell 0).1
   have hcm : ChM N ks wr bm := isMapK_iff.2 (hP.each 1 _ rfl).2
   have hstep := step_any (x := (ck, -1, -1)) cpc hcm c1 (keyS_ok (by omega) (by omega) (by omega)) (by omega) (by omega)
   have HP := Lib.hid hP
   have HB := Lib.hid hb
   unfold sigV at hstep
   simp only at hstep
   clear hcm cpc hP hb hdr hckv
   go_wp2_with (go_at_call 36; refine hstep.mono ?_; rintro e w4 ⟨rfl, hm4, hg4⟩; have hb4 : Hid (Below bm W1 w4) := Lib.hid (HB.out.grown hg4 (by omega) (fun q e => by injection e with e; omega)); obtain ⟨⟨k1, k2, k3, k4⟩, hd4, hbw4⟩ := HO.out w4 hb4.out)
   have hP4 := HP.out.put 1 (.obj bm (MapObj keyS 3 (stp ks (ck, -1, -1)) (chV N (stp ks (ck, -1, -1))))) rfl hg4 ⟨Nat.le_refl _, isMapK_iff.1 hm4⟩ (fun q e => .inl e)
   have hz4 : bm + 4 ≤ w4.heap.size := Nat.le_trans hz hg4.size
   refine (out_in _ _ (k : Int) w4 hd4 HV.out.sorted (fun x hx => (HV.out.arc hx).2.1) HV.out.2.2.2.1 (by omega)).mono ?_
   rintro e w5 ⟨⟨ao, co, rfl, hO5⟩, hb5⟩
   have HO5 := Lib.hid hO5
   have hP5 := hP4.quiet (below_grows hb5 none)
   have hB5 := hb4.out.trans (hb5.mono (by omega))
   have hz5 : bm + 4 ≤ w5.heap.size := Nat.le_trans hz4 hb5.size
   obtain ⟨ks1, hks1⟩ : ∃ ks1, stp ks (ck, -1, -1) = ks1 := ⟨_, rfl⟩
   have HR1 := Lib.hid (HR.out.grow (stp_pre ks (ck, -1, -1)))
   have HL1 : Hid (ks1.length ≤ k * 20001 + 1) := Lib.hid (by rw [← hks1]; have := stp_len ks (ck, -1, -1); have := HKL.out; omega)
   have HC1 : Hid (ChIn N ks1 ck []) := Lib.hid (ChIn.nil (by rw [← hks1]; exact stp_mem _ _))
   have HOA : Hid (∀ j, j < (outsD es (k : Int)).length → ∃ l T : Nat, g3 (outsD es (k : Int)) j = ⟨k, l, T⟩ ∧ T < N ∧ l ≤ 10000) := Lib.hid (fun j hj => by
    obtain ⟨l, T, h1, h2⟩ := outs_arc HV.out hj
    refine ⟨l, T, h1, Int.ofNat_lt.1 h2, ?_⟩
    have := (HV.out.arc (outsD_mem.1 (g3_mem _ j hj)).1).2.2
    simp only at h1
    rw [h1] at this
    simp only at this
    omega)
   have HOF : Hid (tkA (outsD es (k : Int)) cl (outsD es (k : Int)).length = (sigA es cl k).2) := Lib.hid (tkA_full es cl k)
   have hol : (outsD es (k : Int)).length ≤ 20000 := Nat.le_trans (List.length_filter_le _ _) HV.out.2.2.2.1
   rw [hks1] at hP5 HR1 ⊢
   obtain ⟨OE, hOE⟩ : ∃ OE, outsD es (k : Int) = OE := ⟨_, rfl⟩
   simp only at HO5
   rw [hOE] at HO5 HOA HOF hol ⊢
   obtain ⟨OL, hOL⟩ : ∃ OL, OE.length = OL := ⟨_, rfl⟩
   have HOL := Lib.hid hOL
   rw [hOL] at HO5 HOA HOF hol ⊢
   have HCT : Hid (∀ W, Below w.heap.size w W → ∀ T, T < N → W.cell? ⟨bc, oc + T, none⟩ = some (.int .i64 (gi cl T))) := Lib.hid (fun W h T hT => by
    obtain ⟨b', o', e, -, hcc⟩ := HC.out.at W h T hT
    injection e with e; injection e with e1 e2; subst e1 e2
    exact hcc)
   have HP5 := Lib.hid hP5
   have HB5 := Lib.hid hB5
   have HN0 : Hid (plK N ks1 (ck, -1, -1) = numS N ks1 ck []) := Lib.hid rfl
   rw [HN0.out]
   clear HP HB hP4 hb4 hP5 hB5 hb5 hO5 hOE hOL hm4 hg4 hstep k1 k2 k3 k4 c1 c2 c3 c4 hks1 hd4 hbw4 hbw hck hz hz4 HR HKL
   go_wp2_with (fail)
   go_loopw [11, 38] (fun av c W => ∃ (j : Nat) (ks2 : List Ky), j ≤ OL ∧ c = .int .i64 (j : Int) ∧ av = .int .i64 (numS N ks2 ck (tkA OE cl j)) ∧ Pcs W bm (refPs (bm + 1) bm (bm + 1 + 1) (bm + 3) N ks2 fk (outR es cl N k)) ∧ Hid (RefI es cl N k ks2 fk) ∧ Hid (ChIn N ks2 ck (tkA OE cl j)) ∧ Hid (ks2.length ≤ k * 20001 + 1 + j) ∧ Below bm W1 W ∧ bm + 4 ≤ W.heap.size) (fun _ c _ => OL - (intOf c).toNat)
   case atStart => exact ⟨0, ks1, Nat.zero_le _, rfl, rfl, HP5.out, HR1, HC1, HL1, HB5.out, hz5⟩
   case round =>
    clear HP5 HB5 HR1 HC1 HL1 hz5
    obtain ⟨j, ks2, hj, rfl, rfl, hP, HR, HCH, HKL, hb, hz⟩ := hrel
    obtain ⟨⟨c1, c2, c3, c4⟩, hdr, hbw⟩ := HO.out wr hb
    rcases Nat.lt_or_ge j OL with hjl | hjge
    ·have t2 : decide (j < OL) = true := decide_eq_true hjl
     obtain ⟨bo, oo, rfl, hco⟩ := (HO5.out wr hdr).fix (by omega)
     obtain ⟨l, T, hx, hT, hl⟩ := HOA.out j hjl
     obtain ⟨x1, x2, x3⟩ := hco wr (Below.refl _ _) j hjl
     rw [hx] at x1 x2 x3
     simp only at x1 x2 x3
     obtain ⟨p, hp⟩ : ∃ p, numS N ks2 ck (tkA OE cl j) = p := ⟨_, rfl⟩
     have hpr := numS_range HCH.out
     rw [hp] at hpr
     have hk2 : ks2.length ≤ 20001000 + 20001 := by have := HKL.out; omega
     obtain ⟨cT, hcT⟩ : ∃ cT, gi cl T = cT := ⟨_, rfl⟩
     have hcTr := HCL.out T hT
     rw [hcT] at hcTr
     have HCH3 : Hid (ChIn N (stp ks2 (p, (l : Int), cT)) ck (tkA OE cl (j + 1)) ∧ numS N (stp ks2 (p, (l : Int), cT)) ck (tkA OE cl (j + 1)) = plK N (stp ks2 (p, (l : Int), cT)) (p, (l : Int), cT)) := Lib.hid (by
      have h1 := chin_step HCH.out ((l : Int), cT)
      rw [hp] at h1
      rw [tkA_succ OE cl (by rw [HOL.out]; exact hjl), hx]
      simp only [Int.toNat_natCast]
      rw [hcT]
      exact h1)
     have HKO : Hid (keyS.ok (p, (l : Int), cT)) := Lib.hid (keyS_ok (by omega) (by omega) (by omega))
     have HR3 := Lib.hid (HR.out.grow (stp_pre ks2 (p, (l : Int), cT)))
     have HKL3 : Hid ((stp ks2 (p, (l : Int), cT)).length ≤ k * 20001 + 1 + (j + 1)) := Lib.hid (by have := stp_len ks2 (p, (l : Int), cT); have := HKL.out; omega)
     have HCT1 : Hid (∀ W, Below w.heap.size w W → W.cell? ⟨bc, oc + T, none⟩ = some (.int .i64 cT)) := Lib.hid (fun W h => by rw [HCT.out W h T hT, hcT])
     have hP6 := hP.new (by omega) #[.int .i64 (k : Int), .int .i64 (l : Int), .int .i64 (T : Int)] 49
     have hB6 : Below bm W1 (wr.alloc (.cells #[.int .i64 (k : Int), .int .i64 (l : Int), .int .i64 (T : Int)] 49)) := hb.alloc (by omega) _
     have hz6 : bm + 4 ≤ (wr.alloc (.cells #[.int .i64 (k : Int), .int .i64 (l : Int), .int .i64 (T : Int)] 49)).heap.size := by simp; omega
     have HP6 := Lib.hid hP6
     have HB6 := Lib.hid hB6
     have HZ6 := Lib.hid hz6
     rw [hp]
     have HNK : Hid (N ≤ 1000 ∧ ks2.length ≤ 100000000) := Lib.hid ⟨by omega, by omega⟩
     clear hP hb hdr hbw hP6 hB6 hz6 hx hco hp hcT c1 c2 c3 c4
     go_wp2_with (fail)
     obtain ⟨S, hSd⟩ : ∃ S : (Nat → Bool) → (Nat → Value) → World → Prop, S = fun L f W => Below bm W1 W ∧ bm + 4 ≤ W.heap.size ∧ Pcs W bm (refPs (bm + 1) bm (bm + 1 + 1) (bm + 3) N (if L 10 = true then stp ks2 (p, (l : Int), cT) else ks2) fk (outR es cl N k) ++ [.blk wr.heap.size #[.int .i64 (k : Int), .int .i64 (l : Int), .int .i64 (T : Int)]]) := ⟨_, rfl⟩
     refine wp_region_st mixed (by kernel_rfl) [[], [], [], [(2, 44)], [], [], [(5, 47)], [(4, 46), (6, 48)], [(7, 49)], [(1, 43), (3, 45), (8, 50)], [(0, 42), (9, 51)], [(10, 52), (10, 52), (0, 42), (1, 43), (2, 44), (3, 45), (4, 46), (5, 47), (6, 48), (7, 49), (8, 50), (9, 51), (10, 52)]] [(0, 42), (1, 43), (2, 44), (3, 45), (4, 46), (5, 47), (6, 48), (7, 49), (8, 50), (9, 51), (10, 52), (11, 11)] rfl rfl [EV ?e0, EV ?e1, EV ?e2, EV ?e3, EV ?e4, EV ?e5, EV ?e6, EV ?e7, EV ?e8, EV ?e9, EV (.int .i64 (plK N (stp ks2 (p, (l : Int), cT)) (p, (l : Int), cT))), EV ?e11] S ?start ?steps ?rest
     case start =>
      intro f
      rw [hSd]
      exact ⟨HB6.out.drew, HZ6.out, HP6.out.quiet (below_grows ((Below.refl _ _).drew) none)⟩
     case steps =>
      refine ⟨fun L f W hi hd hdn hh hS => ?_, fun L f W hi hd hdn hh hS => ?_, fun L f W hi hd hdn hh hS => ?_, fun L f W hi hd hdn hh hS => ?_, fun L f W hi hd hdn hh hS => ?_, fun L f W hi hd hdn hh hS => ?_, fun L f W hi hd hdn hh hS => ?_, fun L f W hi hd hdn hh hS => ?_, fun L f W hi hd hdn hh hS => ?_, fun L f W hi hd hdn hh hS => ?_, fun L f W hi hd hdn hh hS => ?_, fun L f W hi hd hdn hh hS => ?_, trivial⟩
      ·
       unfold stStep
       rw [if_pos (by simp [Region.wanted])]
       intro K Q hK
       simp only [puts, foldr_nil];go_step
       refine st_ex hK rfl rfl (by simp only [Act.put, setIfInBounds_toArray, set_cons_succ, set_cons_zero, Array.getD_eq_getD_getElem?, List.getElem?_toArray, List.getElem?_cons_succ, List.getElem?_cons_zero, Option.getD_some] <;> rfl) rfl (by rw [hSd] at hS ⊢; exact hS)
      ·
       unfold stStep
       rw [if_pos (by simp [Region.wanted])]
       intro K Q hK
       simp only [puts, foldr_nil];go_step
       refine st_ex hK rfl rfl (by simp only [Act.put, setIfInBounds_toArray, set_cons_succ, set_cons_zero, Array.getD_eq_getD_getElem?, List.getElem?_toArray, List.getElem?_cons_succ, List.getElem?_cons_zero, Option.getD_some] <;> rfl) rfl (by rw [hSd] at hS ⊢; exact hS)
      ·
       unfold stStep
       rw [if_pos (by simp [Region.wanted])]
       intro K Q hK
       simp only [puts, foldr_nil];go_step
       refine st_ex hK rfl rfl (by simp only [Act.put, setIfInBounds_toArray, set_cons_succ, set_cons_zero, Array.getD_eq_getD_getElem?, List.getElem?_toArray, List.getElem?_cons_succ, List.getElem?_cons_zero, Option.getD_some] <;> rfl) rfl (by rw [hSd] at hS ⊢; exact hS)
      ·
       obtain ⟨h2, -⟩ := hh;have g2 : f 2=_:=h2
       unfold stStep
       rw [if_pos (by simp [Region.wanted])]
       intro K Q hK
       simp only [puts, Za, Zb, Zc, Zd, Ze, g2]
       have hS' := hS
       rw [hSd] at hS'
       have x3 : W.cell? ⟨wr.heap.size, 1, none⟩ = some (.int .i64 (l : Int)) := ((hS'.2.2.blk 4 rfl).2.cell 1).1
       go_step
       refine st_ex hK rfl rfl (by simp only [Act.put, setIfInBounds_toArray, set_cons_succ, set_cons_zero, Array.getD_eq_getD_getElem?, List.getElem?_toArray, List.getElem?_cons_succ, List.getElem?_cons_zero, Option.getD_some] <;> rfl) rfl (by rw [hSd] at hS ⊢; exact hS)
      ·
       unfold stStep
       rw [if_pos (by simp [Region.wanted])]
       intro K Q hK
       simp only [puts, foldr_nil];go_step
       refine st_ex hK rfl rfl (by simp only [Act.put, setIfInBounds_toArray, set_cons_succ, set_cons_zero, Array.getD_eq_getD_getElem?, List.getElem?_toArray, List.getElem?_cons_succ, List.getElem?_cons_zero, Option.getD_some] <;> rfl) rfl (by rw [hSd] at hS ⊢; exact hS)
      ·
       unfold stStep
       rw [if_pos (by simp [Region.wanted])]
       intro K Q hK
       simp only [puts, foldr_nil];go_step
       refine st_ex hK rfl rfl (by simp only [Act.put, setIfInBounds_toArray, set_cons_succ, set_cons_zero, Array.getD_eq_getD_getElem?, List.getElem?_toArray, List.getElem?_cons_succ, List.getElem?_cons_zero, Option.getD_some] <;> rfl) rfl (by rw [hSd] at hS ⊢; exact hS)
      ·
       obtain ⟨h5, -⟩ := hh;have g5 : f 5=_:=h5
       unfold stStep
       rw [if_pos (by simp [Region.wanted])]
       intro K Q hK
       simp only [puts, Za, Zb, Zc, Zd, Ze, g5]
       have hS' := hS
       rw [hSd] at hS'
       have x6 : W.cell? ⟨wr.heap.size, 2, none⟩ = some (.int .i64 (T : Int)) := ((hS'.2.2.blk 4 rfl).2.cell 2).1
       go_step
       refine st_ex hK rfl rfl (by simp only [Act.put, setIfInBounds_toArray, set_cons_succ, set_cons_zero, Array.getD_eq_getD_getElem?, List.getElem?_toArray, List.getElem?_cons_succ, List.getElem?_cons_zero, Option.getD_some] <;> rfl) rfl (by rw [hSd] at hS ⊢; exact hS)
      ·
       obtain ⟨h4, h6, -⟩ := hh;have g4 : f 4=_:=h4;have g6 : f 6=_:=h6
       unfold stStep
       rw [if_pos (by simp [Region.wanted])]
       intro K Q hK
       simp only [puts, Za, Zb, Zc, Zd, Ze, g4, g6];go_step
       refine st_ex hK rfl rfl (by simp only [Act.put, setIfInBounds_toArray, set_cons_succ, set_cons_zero, Array.getD_eq_getD_getElem?, List.getElem?_toArray, List.getElem?_cons_succ, List.getElem?_cons_zero, Option.getD_some] <;> rfl) rfl (by rw [hSd] at hS ⊢; exact hS)
      ·
       obtain ⟨h7, -⟩ := hh;have g7 : f 7=_:=h7
       unfold stStep
       rw [if_pos (by simp [Region.wanted])]
       intro K Q hK
       simp only [puts, Za, Zb, Zc, Zd, Ze, g7]
       have hS' := hS
       rw [hSd] at hS'
       have x8 := HCT1.out W (HO.out W hS'.1).2.2
       go_step
       refine st_ex hK rfl rfl (by simp only [Act.put, setIfInBounds_toArray, set_cons_succ, set_cons_zero, Array.getD_eq_getD_getElem?, List.getElem?_toArray, List.getElem?_cons_succ, List.getElem?_cons_zero, Option.getD_some] <;> rfl) rfl (by rw [hSd] at hS ⊢; exact hS)
      ·
       obtain ⟨h1, h3, h8, -⟩ := hh;have g1 : f 1=_:=h1;have g3 : f 3=_:=h3;have g8 : f 8=_:=h8
       unfold stStep
       rw [if_pos (by simp [Region.wanted])]
       intro K Q hK
       simp only [puts, Za, Zb, Zc, Zd, Ze, g1, g3, g8];go_step
       refine st_ex hK rfl rfl (by simp only [Act.put, setIfInBounds_toArray, set_cons_succ, set_cons_zero, Array.getD_eq_getD_getElem?, List.getElem?_toArray, List.getElem?_cons_succ, List.getElem?_cons_zero, Option.getD_some] <;> rfl) rfl (by rw [hSd] at hS ⊢; exact hS)
      ·
       obtain ⟨h0, h9, -⟩ := hh;have g0 : f 0=_:=h0;have g9 : f 9=_:=h9
       unfold stStep
       rw [if_pos (by simp [Region.wanted])]
       intro K Q hK
       simp only [puts, Za, Zb, Zc, Zd, Ze, g0, g9]
       rw [hSd] at hS hK
       have l10 : L 10 = false := hi
       try simp only [stage, l10, if_true, if_false, Bool.false_eq_true] at hS
       obtain ⟨hbW, hzW, hPW⟩ := hS
       obtain ⟨⟨q1, q2, q3, q4⟩, -, -⟩ := HO.out W hbW
       have cpc : W.cell? ⟨bm + 1, 0, none⟩ = some (.map (some bm)) := ((hPW.blk 0 rfl).2.cell 0).1
       have hst := step_any (x := (p, (l : Int), cT)) cpc (isMapK_iff.2 (hPW.each 1 _ rfl).2) q1 HKO.out (by have := HNK.out.1; omega) HNK.out.2
       unfold sigV at hst
       simp only at hst
       go_step
       go_at_call 36
       refine hst.mono ?_
       rintro e w' ⟨rfl, hm', hg'⟩
       refine hK.out _ _ rfl rfl ?_
       refine ⟨hbW.grown hg' (by omega) (fun q e => by injection e with e; omega), Nat.le_trans hzW hg'.size, ?_⟩
       simp only [↓reduceIte, Nat.reduceEqDiff]
       exact hPW.put 1 (.obj bm (MapObj keyS 3 (stp ks2 (p, (l : Int), cT)) (chV N (stp ks2 (p, (l : Int), cT))))) rfl hg' ⟨Nat.le_refl _, isMapK_iff.1 hm'⟩ (fun q e => .inl e)
      ·
       obtain ⟨h10, _, h0, h1, h2, h3, h4, h5, h6, h7, h8, h9, _, -⟩ := hh;have g10 : f 10=_:=h10;have g0 : f 0=_:=h0;have g1 : f 1=_:=h1;have g2 : f 2=_:=h2;have g3 : f 3=_:=h3;have g4 : f 4=_:=h4;have g5 : f 5=_:=h5;have g6 : f 6=_:=h6;have g7 : f 7=_:=h7;have g8 : f 8=_:=h8;have g9 : f 9=_:=h9
       unfold stStep
       rw [if_pos (by simp [Region.wanted])]
       intro K Q hK
       simp only [puts, Za, Zb, Zc, Zd, Ze, g10, g0, g1, g2, g3, g4, g5, g6, g7, g8, g9];go_step
       refine st_ex hK rfl rfl (by simp only [Act.put, setIfInBounds_toArray, set_cons_succ, set_cons_zero, Array.getD_eq_getD_getElem?, List.getElem?_toArray, List.getElem?_cons_succ, List.getElem?_cons_zero, Option.getD_some] <;> rfl) rfl (by rw [hSd] at hS ⊢; exact hS)
     case rest =>
      intro L f WD hL hh hS
      rw [hSd] at hS
      clear hSd
      have l10 : L 10 = true := hL 10 (by decide)
      simp only [stage, l10, if_true] at hS
      clear hL l10
      obtain ⟨h0, h1, h2, h3, h4, h5, h6, h7, h8, h9, h10, h11, -⟩ := hh;have g0 : f 0=_:=h0;have g1 : f 1=_:=h1;have g2 : f 2=_:=h2;have g3 : f 3=_:=h3;have g4 : f 4=_:=h4;have g5 : f 5=_:=h5;have g6 : f 6=_:=h6;have g7 : f 7=_:=h7;have g8 : f 8=_:=h8;have g9 : f 9=_:=h9;have g10 : f 10=_:=h10;have g11 : f 11=_:=h11;simp only [puts, Za, Zb, Zc, Zd, Ze, g0, g1, g2, g3, g4, g5, g6, g7, g8, g9, g10, g11]
      clear h0 h1 h2 h3 h4 h5 h6 h7 h8 h9 h10 h11 g0 g1 g2 g3 g4 g5 g6 g7 g8 g9 g10 g11
      obtain ⟨hbD, hzD, hPD⟩ := hS
      have HPD := Lib.hid hPD
      clear hPD
      go_wp2_with (fail)
      go_roundw
      case rel => exact ⟨j + 1, _, hjl, by go_num, by rw [HCH3.out.2], HPD.out.init, HR3, Lib.hid HCH3.out.1, HKL3, hbD, hzD⟩
      case measure => simp [intOf]; omega
    ·have t2 : decide (j < OL) = false := decide_eq_false (by omega)
     obtain rfl : j = OL := by omega
     obtain ⟨A, hA⟩ : ∃ A, numS N ks2 ck (tkA OE cl j) = A := ⟨_, rfl⟩
     have hAr := numS_range HCH.out
     rw [hA] at hAr
     have hk2 : ks2.length ≤ 20001000 + 20001 := by have := HKL.out; omega
     have HA : Hid (numA N ks2 (sigA es cl k) = A) := Lib.hid (by
      rw [← hA, HOF.out]
      show numS N ks2 (gi cl k) (sigA es cl k).2 = _
      rw [HCK.out])
     have HCS : Hid (ChIn N ks2 (sigA es cl k).1 (sigA es cl k).2) := Lib.hid (by
      show ChIn N ks2 (gi cl k) (sigA es cl k).2
      rw [HCK.out, ← HOF.out]
      exact HCH.out)
     have hst := HR.out.step (fun x hx => (HV.out.arc hx).2.1) HCS.out
     rw [HA.out] at hst
     have HKL4 : Hid (ks2.length ≤ (k + 1) * 20001) := Lib.hid (succ_bound HKL.out hol)
     have hAw : wfI A := wf_small (by omega) (by omega)
     have HAK : Hid (keyF.ok A) := Lib.hid hAw
     rw [hA]
     have hfm : IsMapK keyF 3 fk (fiV fk) wr (bm + 1 + 1) := isMapK_iff.2 (hP.each 2 _ rfl).2
     have hfl := HFL.out
     obtain ⟨co1, co2⟩ := own_cell (hP.row 3 rfl) k hlt (outR_len es cl N k (by omega))
     have HP := Lib.hid hP
     have HB := Lib.hid hb
     by_cases hin : A ∈ fk
     ·rw [if_pos hin] at hst
      have HI : Hid (((plF fk A : Nat) : Int) = gi (refC es N cl) k) := Lib.hid (by rw [← hst.idx (fun x hx => (HV.out.arc hx).2.1) hlt, HA.out])
      have HST := Lib.hid hst
      have HFM := Lib.hid hfm
      have HIN := Lib.hid hin
      have hPS := HP.out.rowStore 3 rfl k (.int .i64 ((plF fk A : Nat) : Int))
      have HPS : Hid (Pcs (wr.setCell ⟨bm + 3, k, none⟩ (.int .i64 ((plF fk A : Nat) : Int))) bm (refPs (bm + 1) bm (bm + 1 + 1) (bm + 3) N ks2 fk (outR es cl N (k + 1)))) := Lib.hid (by
       unfold refPs
       rw [← outR_set hlt, ← HI.out, ← ivs_set]
       exact hPS)
      clear hst hfm hin hPS hP hb hdr hbw c1 c2 c3 c4 hA
      go_wp2_with (first | (at_lookup; refine wpList_map_ok_yes (v := .int .i64 ((plF fk A : Nat) : Int)) rfl _ _ 81 rfl HFM.out (elemAt_i64 Tryz.underlying3) Tryz.underlying81 (.int .i64 0) (zeroInt _) (int_elem wfI0) rfl A rfl HAK.out HIN.out rfl ?_) | (at_lookup; refine wpList_map_at_yes (v := .int .i64 ((plF fk A : Nat) : Int)) rfl _ _ 81 rfl HFM.out (elemAt_i64 Tryz.underlying3) Tryz.underlying81 (.int .i64 0) (zeroInt _) (int_elem wfI0) rfl A rfl HAK.out HIN.out rfl ?_))
      go_roundw
      case rel => exact ⟨k + 1, ks2, fk, hlt, by go_num, HPS.out, HST, HKL4, Lib.hid (by omega), HB.out.setCell (by show bm ≤ bm + 3; omega) _, by rw [World.size_setCell]; exact hz⟩
      case measure => simp [intOf]; omega
     ·rw [if_neg hin] at hst
      have hff : plF (fk ++ [A]) A = fk.length := plF_new hin
      have HI : Hid (((fk.length : Nat) : Int) = gi (refC es N cl) k) := Lib.hid (by rw [← hst.idx (fun x hx => (HV.out.arc hx).2.1) hlt, HA.out, hff])
      have HVF : Hid (∀ y ∈ fk ++ [A], (if y = A then Lit.int .i64 ((fk.length : Nat) : Int) else fiV fk y) = fiV (fk ++ [A]) y) := Lib.hid (fun y hy => by
       by_cases e : y = A
       ·subst e; rw [if_pos rfl]; unfold fiV; rw [plF_new hin]
       ·rw [if_neg e]
        unfold fiV
        rw [plF_pre (List.prefix_append fk [A])]
        rcases List.mem_append.1 hy with h | h
        ·exact h
        ·exact absurd (List.mem_singleton.1 h) e)
      have HST := Lib.hid hst
      have HFM := Lib.hid hfm
      have HIN := Lib.hid hin
      have HWF : Hid (wfI ((fk.length : Nat) : Int)) := Lib.hid (wf_small (by omega) (by omega))
      have HIA : Hid (A ∈ fk ++ [A]) := Lib.hid (by simp)
      have HFF := Lib.hid hff
      have HFL4 : Hid ((fk ++ [A]).length ≤ k + 1) := Lib.hid (by simp; exact hfl)
      clear hst hfm hin hff hP hb hdr hbw c1 c2 c3 c4 hA co1 co2
      go_wp2_with (first | (at_lookup; refine wpList_map_ok_no (v := .int .i64 0) rfl _ _ 81 rfl HFM.out (elemAt_i64 Tryz.underlying3) Tryz.underlying81 (.int .i64 0) (zeroInt _) (int_elem wfI0) rfl A rfl HAK.out HIN.out rfl ?_) | (at_len; refine wpList_map_len rfl _ 81 rfl HFM.out Tryz.underlying81 rfl ?_) | (at_mapUpdate; refine wpList_map_store rfl _ _ _ 81 rfl HFM.out Tryz.underlying81 (by unfold maxLen; omega) rfl A rfl HAK.out HIN.out (.int .i64 ((fk.length : Nat) : Int)) rfl (int_elem HWF.out) ?_; intro w7 hm7 hg7; have HM7 := Lib.hid (hm7.vals HVF.out); have HP7 := Lib.hid (HP.out.put 2 (.obj (bm + 1 + 1) (MapObj keyF 3 (fk ++ [A]) (fiV (fk ++ [A])))) rfl hg7 ⟨by omega, isMapK_iff.1 HM7.out⟩ (fun q e => .inl e)); have HB7 : Hid (Below bm W1 w7) := Lib.hid (HB.out.grown hg7 (by omega) (fun q e => by injection e with e; omega)); have hz7 : bm + 4 ≤ w7.heap.size := Nat.le_trans hz hg7.size; obtain ⟨co1, co2⟩ := own_cell (HP7.out.row 3 rfl) k hlt (outR_len es cl N k (by omega)); clear hm7 hg7) | (at_lookup; refine wpList_map_at_yes (v := .int .i64 ((fk.length : Nat) : Int)) rfl _ _ 81 rfl HM7.out (elemAt_i64 Tryz.underlying3) Tryz.underlying81 (.int .i64 0) (zeroInt _) (int_elem wfI0) rfl A rfl HAK.out HIA.out (by unfold fiV; rw [HFF.out]; rfl) ?_))
      go_roundw
      case rel =>
       have hPS := HP7.out.rowStore 3 rfl k (.int .i64 ((fk.length : Nat) : Int))
       refine ⟨k + 1, ks2, fk ++ [A], hlt, by go_num, ?_, HST, HKL4, HFL4, HB7.out.setCell (by show bm ≤ bm + 3; omega) _, by rw [World.size_setCell]; exact hz7⟩
       unfold refPs
       rw [← outR_set hlt, ← HI.out, ← ivs_set]
       exact hPS
      case measure => simp [intOf]; omega
  ·have t1 : decide (k < N) = false := decide_eq_false (by omega)
   obtain rfl : k = N := by omega
   have hfm : IsMapK keyF 3 fk (fiV fk) wr (bm + 1 + 1) := isMapK_iff.2 (hP.each 2 _ rfl).2
   have HFM := Lib.hid hfm
   have hro := hP.row 3 rfl
   rw [outR_full] at hro
   have HRO := Lib.hid (hro.from_mono (show w.heap.size ≤ bm by have := HBM.out; omega))
   have HCN : Hid (fk.length = refN es k cl) := Lib.hid HR.out.count
   have HBW := Lib.hid hbw
   clear hfm hro hP hb hdr hbw c1 c2 c3 c4
   go_wp2_with (at_len; refine wpList_map_len rfl _ 81 rfl HFM.out Tryz.underlying81 rfl ?_)
   go_ret2
   exact ⟨⟨_, _, by rw [HCN.out]; rfl, HRO.out⟩, HBW.out⟩
end Go.Proofs.YtbjdglopkpigbaaGreatDoor
namespace Go.Proofs.YtbjdglopkpigbaaGreatDoor
def clP (fin : List Bool) (k : Nat) : List Int := (cl0 fin).take k ++ List.replicate (fin.length - k) 0
theorem clP_len {fin : List Bool} {k : Nat} (h : k ≤ fin.length) : (clP fin k).length = fin.length := by simp [clP, cl0]; omega
theorem clP_zero (fin : List Bool) : clP fin 0 = List.replicate fin.length 0 := by simp [clP]
theorem clP_full (fin : List Bool) : clP fin fin.length = cl0 fin := by
 unfold clP
 rw [List.take_of_length_le (by simp [cl0])]
 simp
theorem clP_yes {fin : List Bool} {k : Nat} (h : k < fin.length) (hb : gb fin k = true) : (clP fin k).set k 1 = clP fin (k + 1) := by
 unfold clP
 have hl : (cl0 fin).length = fin.length := by simp [cl0]
 rw [List.set_append_right _ _ (by rw [List.length_take]; omega), List.length_take, show k - min k (cl0 fin).length = 0 by omega]
 obtain ⟨m, hm⟩ : ∃ m, fin.length - k = m + 1 := ⟨fin.length - k - 1, by omega⟩
 have hc : (cl0 fin)[k]'(by omega) = 1 := by
  have := cl0_at fin h
  rw [gi_eq _ _ (by omega), hb] at this
  simpa using this
 rw [hm, show fin.length - (k + 1) = m by omega, List.replicate_succ, List.set_cons_zero, List.take_succ_eq_append_getElem (show k < (cl0 fin).length by omega), hc, List.append_assoc]
 rfl
theorem clP_no {fin : List Bool} {k : Nat} (h : k < fin.length) (hb : gb fin k = false) : clP fin k = clP fin (k + 1) := by
 unfold clP
 have hl : (cl0 fin).length = fin.length := by simp [cl0]
 obtain ⟨m, hm⟩ : ∃ m, fin.length - k = m + 1 := ⟨fin.length - k - 1, by omega⟩
 have hc : (cl0 fin)[k]'(by omega) = 0 := by
  have := cl0_at fin h
  rw [gi_eq _ _ (by omega), hb] at this
  simpa using this
 rw [hm, show fin.length - (k + 1) = m by omega, List.replicate_succ, List.take_succ_eq_append_getElem (show k < (cl0 fin).length by omega), hc, List.append_assoc]
 rfl
structure FirstNum (C : List Int) (N m : Nat) (s : Nat → Nat) : Prop where
 zero : s 0 = 0
 last : s N = m
 le : ∀ i, i ≤ N → s i ≤ m
 step : ∀ i, i < N → (0 ≤ gi C i ∧ gi C i < s i ∧ s (i + 1) = s i) ∨ (gi C i = s i ∧ s (i + 1) = s i + 1 ∧ repC C (s i) = i)
theorem first_idx {C : List Int} {i : Nat} {v : Int} (hi : i < C.length) (he : gi C i = v) (hn : ∀ j, j < i → gi C j ≠ v) : C.idxOf v = i := by
 have hm : v ∈ C := by rw [← he]; exact gi_mem C i hi
 have h1 := List.idxOf_lt_length_of_mem hm
 have h2 := List.getElem_idxOf h1
 rcases Nat.lt_trichotomy (C.idxOf v) i with h | h | h
 ·exact absurd (by rw [gi_eq _ _ h1]; exact h2) (hn _ h)
 ·exact h
 ·exfalso
  have e : v ∈ C.take (i + 1) := by
   rw [List.take_add_one, List.getElem?_eq_getElem hi]
   rw [gi_eq C i hi] at he
   simp [he]
  have e2 : C.idxOf v = (C.take (i + 1)).idxOf v := by
   conv => lhs; rw [← List.take_append_drop (i + 1) C]
   rw [List.idxOf_append, if_pos e]
  have e3 := List.idxOf_lt_length_of_mem e
  rw [List.length_take] at e3
  omega
theorem refC_first (es : List A3) (cl : List Int) (N : Nat) : FirstNum (refC es N cl) N (refN es N cl) (fun i => (firsts (sigs es cl i)).length) := by
 have split : ∀ i, i ≤ N → sigs es cl N = sigs es cl i ++ ((List.range' i (N - i)).map (sigA es cl)) := fun i hi => by
  unfold sigs
  rw [← List.map_append]
  congr 1
  rw [List.range_eq_range', List.range_eq_range']
  have := List.range'_append_1 (s := 0) (m := i) (n := N - i)
  rw [Nat.zero_add] at this
  rw [this, show i + (N - i) = N by omega]
 have pre : ∀ i, i ≤ N → firsts (sigs es cl i) <+: firsts (sigs es cl N) := fun i hi => by rw [split i hi]; exact firsts_pre _ _
 have hpl : ∀ i j, i < j → j ≤ N → gi (refC es N cl) i = ((plF (firsts (sigs es cl j)) (sigA es cl i) : Nat) : Int) := fun i j hij hj => by
  rw [refC_at es cl (by omega)]
  congr 1
  exact plF_pre (pre j hj) (mem_firsts.2 (List.mem_map.2 ⟨i, List.mem_range.2 hij, rfl⟩))
 have succ := sigs_succ es cl
 refine ⟨rfl, rfl, fun i hi => (pre i hi).length_le, fun i hi => ?_⟩
 have hi1 := hpl i (i + 1) (Nat.lt_succ_self i) hi
 by_cases hm : sigA es cl i ∈ firsts (sigs es cl i)
 ·have e : firsts (sigs es cl (i + 1)) = firsts (sigs es cl i) := by rw [succ, firsts_snoc, if_pos hm]
  rw [e] at hi1 ⊢
  have := plF_lt hm
  exact .inl ⟨by omega, by omega, rfl⟩
 ·have e : firsts (sigs es cl (i + 1)) = firsts (sigs es cl i) ++ [sigA es cl i] := by rw [succ, firsts_snoc, if_neg hm]
  have hnew : plF (firsts (sigs es cl i) ++ [sigA es cl i]) (sigA es cl i) = (firsts (sigs es cl i)).length := plF_new hm
  rw [e] at hi1 ⊢
  rw [hnew] at hi1
  refine .inr ⟨hi1, by simp, ?_⟩
  unfold repC
  refine first_idx (by rw [refC_len]; exact hi) hi1 fun j hj => ?_
  have h1 := hpl j i hj (by omega)
  have h2 := plF_lt (mem_firsts.2 (List.mem_map.2 ⟨j, List.mem_range.2 hj, rfl⟩) : sigA es cl j ∈ firsts (sigs es cl i))
  omega
def doneP (m s : Nat) : List Bool := (List.range m).map fun c => decide (c < s)
def finP (t : Dfa) (C : List Int) (m s : Nat) : List Bool := (List.range m).map fun c => decide (c < s) && gb t.fin (repC C c)
def arcP (t : Dfa) (C : List Int) (s : Nat) : List A3 := (List.range s).flatMap (arcsQ t C)
theorem doneP_len (m s : Nat) : (doneP m s).length = m := by simp [doneP]
theorem finP_len (t : Dfa) (C : List Int) (m s : Nat) : (finP t C m s).length = m := by simp [finP]
theorem gb_doneP {m s c : Nat} (h : c < m) : gb (doneP m s) c = decide (c < s) := by
 rw [gb_eq _ _ (by rw [doneP_len]; exact h)]
 simp [doneP]
theorem gb_finP {t : Dfa} {C : List Int} {m s c : Nat} (h : c < m) : gb (finP t C m s) c = (decide (c < s) && gb t.fin (repC C c)) := by
 rw [gb_eq _ _ (by rw [finP_len]; exact h)]
 simp [finP]
theorem doneP_zero (m : Nat) : doneP m 0 = List.replicate m false := by
 refine gb_ext (by rw [doneP_len, List.length_replicate]) fun i hi => ?_
 rw [doneP_len] at hi
 rw [gb_doneP hi, gb_eq _ _ (by simpa using hi)]
 simp
theorem finP_zero (t : Dfa) (C : List Int) (m : Nat) : finP t C m 0 = List.replicate m false := by
 refine gb_ext (by rw [finP_len, List.length_replicate]) fun i hi => ?_
 rw [finP_len] at hi
 rw [gb_finP hi, gb_eq (List.replicate m false) _ (by simpa using hi)]
 simp
theorem doneP_set {m s : Nat} (h : s < m) : (doneP m s).set s true = doneP m (s + 1) := by
 refine gb_ext (by rw [List.length_set, doneP_len, doneP_len]) fun i hi => ?_
 rw [List.length_set, doneP_len] at hi
 rw [gb_put (by rw [doneP_len]; exact h), gb_doneP hi, gb_doneP hi]
 by_cases e : i = s
 ·subst e; rw [if_pos rfl]; simp
 ·rw [if_neg e]
  congr 1
  exact propext ⟨fun _ => by omega, fun _ => by omega⟩
theorem finP_set {t : Dfa} {C : List Int} {m s : Nat} (h : s < m) : (finP t C m s).set s (gb t.fin (repC C s)) = finP t C m (s + 1) := by
 refine gb_ext (by rw [List.length_set, finP_len, finP_len]) fun i hi => ?_
 rw [List.length_set, finP_len] at hi
 rw [gb_put (by rw [finP_len]; exact h), gb_finP hi, gb_finP hi]
 by_cases e : i = s
 ·subst e; rw [if_pos rfl]; simp
 ·rw [if_neg e]
  congr 2
  exact propext ⟨fun _ => by omega, fun _ => by omega⟩
theorem finP_full (t : Dfa) (C : List Int) (m : Nat) : finP t C m m = (qD t C m).fin := by
 refine gb_ext (by rw [finP_len]; simp [qD]) fun i hi => ?_
 rw [finP_len] at hi
 rw [gb_finP hi]
 show _ = gb ((List.range m).map fun c => gb t.fin (repC C c)) i
 rw [gb_eq ((List.range m).map _) _ (by simpa using hi)]
 simp [hi]
theorem arcP_succ (t : Dfa) (C : List Int) (s : Nat) : arcP t C (s + 1) = arcP t C s ++ arcsQ t C s := by
 unfold arcP
 rw [List.range_succ, List.flatMap_append]
 simp
theorem arcsQ_get {t : Dfa} {C : List Int} {s j : Nat} (h : j < (outsD t.arcs (repC C s)).length) : (arcsQ t C s).take (j + 1) = (arcsQ t C s).take j ++ [⟨s, (g3 (outsD t.arcs (repC C s)) j).l, gi C (g3 (outsD t.arcs (repC C s)) j).t.toNat⟩] := by
 unfold arcsQ
 rw [← List.map_take, ← List.map_take, take_succ_g3 _ j h, List.map_append]
 rfl
theorem arcsQ_len (t : Dfa) (C : List Int) (s : Nat) : (arcsQ t C s).length = (outsD t.arcs (repC C s)).length := by simp [arcsQ]
theorem sorted_same {A A' : List A3} (hs : SortedA A) (hp : A'.Perm A) (hs' : A'.Pairwise fun x y => ¬ LtA y x) : A' = A := by
 refine List.Perm.eq_of_pairwise (le := fun x y => ¬ LtA y x) (fun a b ha hb h1 h2 => ?_) hs' (List.Pairwise.imp (fun h h2 => LtA.irrefl (LtA.trans h h2)) hs) hp
 have ha' := hp.subset ha
 obtain ⟨i, hi, ei⟩ := List.getElem_of_mem ha'
 obtain ⟨j, hj, ej⟩ := List.getElem_of_mem hb
 rcases Nat.lt_trichotomy i j with h | h | h
 ·have := hs.lt h hj
  rw [g3_eq _ _ hi, g3_eq _ _ hj, ei, ej] at this
  exact absurd this h2
 ·subst h; rw [← ei, ← ej]
 ·have := hs.lt h hi
  rw [g3_eq _ _ hi, g3_eq _ _ hj, ei, ej] at this
  exact absurd this h1
end Go.Proofs.YtbjdglopkpigbaaGreatDoor
namespace Go.Proofs.YtbjdglopkpigbaaGreatDoor
open List (foldr_cons foldr_nil setIfInBounds_toArray set_cons_succ set_cons_zero)
open Go.RowKit
set_option maxRecDepth 20000 in
theorem order_grew (x y : A3) (w : World) : Calls Tryz.prog 25 #[vA x, vA y] w fun e w' => e = .returned (.int .i64 (ordA x y)) ∧ Below w.heap.size w w' ∧ w.drawn ≤ w'.drawn := by
 obtain ⟨x1, x2, x3⟩ := x
 obtain ⟨y1, y2, y3⟩ := y
 obtain ⟨hb1, hs1, hX⟩ := boxA ⟨x1, x2, x3⟩ w
 obtain ⟨W1, hW1⟩ : ∃ W1, w.alloc (.cells #[.int .i64 x1, .int .i64 x2, .int .i64 x3] 49) = W1 := ⟨_, rfl⟩
 simp only at hb1 hs1 hX
 have hd1 : W1.drawn = w.drawn := by rw [← hW1]; rfl
 rw [hW1] at hb1 hs1 hX
 obtain ⟨hb2, hs2, hY⟩ := boxA ⟨y1, y2, y3⟩ W1
 obtain ⟨W2, hW2⟩ : ∃ W2, W1.alloc (.cells #[.int .i64 y1, .int .i64 y2, .int .i64 y3] 49) = W2 := ⟨_, rfl⟩
 simp only at hb2 hs2 hY
 have hd2 : W2.drawn = w.drawn := by rw [← hW2, ← hd1]; rfl
 rw [hW2] at hb2 hs2 hY
 have hB : Below w.heap.size w W2 := hb1.trans (hb2.mono (by omega))
 have hXc : ∀ W, Below W2.heap.size W2 W → (W.cell? ⟨w.heap.size, 0, none⟩ = some (.int .i64 x1) ∧ W.cell? ⟨w.heap.size, 1, none⟩ = some (.int .i64 x2)) ∧ W.cell? ⟨w.heap.size + 1, 0, none⟩ = some (.int .i64 y1) ∧ W.cell? ⟨w.heap.size + 1, 1, none⟩ = some (.int .i64 y2) := fun W hb => by
  have h1 := hX W ((hb2.mono (by omega)).trans (hb.mono (by omega)))
  have h2 := hY W (hb.mono (by omega))
  rw [hs1] at h2
  exact ⟨⟨h1.1, h1.2.1⟩, h2.1, h2.2.1⟩
 have HD2 := Lib.hid hd2
 unfold vA
 go_enter Tryz.func25, Tryz.ntmps25
 go_wp2_with (fail)
 clear hW1 hW2 hX hY hb1 hb2 hd1 hd2
 obtain ⟨S, hSd⟩ : ∃ S : (Nat → Bool) → (Nat → Value) → World → Prop, S = fun L f W => Below W2.heap.size W2 W ∧ W2.drawn ≤ W.drawn ∧ (L 10 = true → L 11 = false → ∃ b c, f 10 = .slice (some ⟨b, 0, none⟩) 2 c ∧ W.cell? ⟨b, 0, none⟩ = some (.int .i64 (Lib.compareInt x1 y1)) ∧ W.cell? ⟨b, 0 + 1, none⟩ = some (.int .i64 (Lib.compareInt x2 y2))) := ⟨_, rfl⟩
 refine wp_region_st mixed (by kernel_rfl) [[], [(0, 5)], [], [(2, 7)], [(1, 6), (3, 8)], [], [(5, 10)], [], [(7, 12)], [(6, 11), (8, 13), (4, 9)], [(4, 9), (9, 14)], [(10, 15), (9, 14)], [(11, 16), (11, 16), (0, 5), (1, 6), (2, 7), (3, 8), (4, 9), (5, 10), (6, 11), (7, 12), (8, 13), (9, 14), (10, 15), (11, 16)]] [(0, 5), (1, 6), (2, 7), (3, 8), (4, 9), (5, 10), (6, 11), (7, 12), (8, 13), (9, 14), (10, 15), (11, 16), (12, 4)] rfl rfl [EV ?e0, EV ?e1, EV ?e2, EV ?e3, EV (.int .i64 (Lib.compareInt x1 y1)), EV ?e5, EV ?e6, EV ?e7, EV ?e8, EV (.int .i64 (Lib.compareInt x2 y2)), fun v => ∃ b c, v = .slice (some ⟨b, 0, none⟩) 2 c, EV (.int .i64 (orI (Lib.compareInt x1 y1) (Lib.compareInt x2 y2))), EV ?e12] S ?start ?steps ?rest
 case start =>
  intro f
  rw [hSd]
  exact ⟨(Below.refl _ _).drew, Nat.le_succ _, fun h => (by cases h)⟩
 case steps =>
  refine ⟨fun L f W hi hd hdn hh hS => ?_, fun L f W hi hd hdn hh hS => ?_, fun L f W hi hd hdn hh hS => ?_, fun L f W hi hd hdn hh hS => ?_, fun L f W hi hd hdn hh hS => ?_, fun L f W hi hd hdn hh hS => ?_, fun L f W hi hd hdn hh hS => ?_, fun L f W hi hd hdn hh hS => ?_, fun L f W hi hd hdn hh hS => ?_, fun L f W hi hd hdn hh hS => ?_, fun L f W hi hd hdn hh hS => ?_, fun L f W hi hd hdn hh hS => ?_, fun L f W hi hd hdn hh hS => ?_, trivial⟩
  ·
   unfold stStep
   rw [if_pos (by simp [Region.wanted])]
   intro K Q hK
   simp only [puts, foldr_nil];go_step
   refine st_ex hK rfl rfl (by simp only [Act.put, setIfInBounds_toArray, set_cons_succ, set_cons_zero, Array.getD_eq_getD_getElem?, List.getElem?_toArray, List.getElem?_cons_succ, List.getElem?_cons_zero, Option.getD_some] <;> rfl) rfl (by rw [hSd] at hS ⊢; exact hS)
  ·
   obtain ⟨h0, -⟩ := hh;have g0 : f 0=_:=h0
   unfold stStep
   rw [if_pos (by simp [Region.wanted])]
   intro K Q hK
   simp only [puts, Za, Zb, Zc, Zd, Ze, g0]
   have hS' := hS
   rw [hSd] at hS'
   obtain ⟨⟨cx1, cx2⟩, cy1, cy2⟩ := hXc W hS'.1
   go_step
   refine st_ex hK rfl rfl (by simp only [Act.put, setIfInBounds_toArray, set_cons_succ, set_cons_zero, Array.getD_eq_getD_getElem?, List.getElem?_toArray, List.getElem?_cons_succ, List.getElem?_cons_zero, Option.getD_some] <;> rfl) rfl (by rw [hSd] at hS ⊢; exact hS)
  ·
   unfold stStep
   rw [if_pos (by simp [Region.wanted])]
   intro K Q hK
   simp only [puts, foldr_nil];go_step
   refine st_ex hK rfl rfl (by simp only [Act.put, setIfInBounds_toArray, set_cons_succ, set_cons_zero, Array.getD_eq_getD_getElem?, List.getElem?_toArray, List.getElem?_cons_succ, List.getElem?_cons_zero, Option.getD_some] <;> rfl) rfl (by rw [hSd] at hS ⊢; exact hS)
  ·
   obtain ⟨h2, -⟩ := hh;have g2 : f 2=_:=h2
   unfold stStep
   rw [if_pos (by simp [Region.wanted])]
   intro K Q hK
   simp only [puts, Za, Zb, Zc, Zd, Ze, g2]
   have hS' := hS
   rw [hSd] at hS'
   obtain ⟨⟨cx1, cx2⟩, cy1, cy2⟩ := hXc W hS'.1
   go_step
   refine st_ex hK rfl rfl (by simp only [Act.put, setIfInBounds_toArray, set_cons_succ, set_cons_zero, Array.getD_eq_getD_getElem?, List.getElem?_toArray, List.getElem?_cons_succ, List.getElem?_cons_zero, Option.getD_some] <;> rfl) rfl (by rw [hSd] at hS ⊢; exact hS)
  ·
   obtain ⟨h1, h3, -⟩ := hh;have g1 : f 1=_:=h1;have g3 : f 3=_:=h3
   unfold stStep
   rw [if_pos (by simp [Region.wanted])]
   intro K Q hK
   simp only [puts, Za, Zb, Zc, Zd, Ze, g1, g3]
   rw [hSd] at hS hK
   have l4 : L 4 = false := hi
   try simp only [stage, l4, if_true, if_false, Bool.false_eq_true] at hS
   go_step
   go_at_call 40
   refine (Tryz.cmp_Compare_int x1 y1 W).mono ?_
   rintro e w' ⟨rfl, rfl⟩
   refine hK.out _ _ rfl rfl ?_
   simpa using hS
  ·
   unfold stStep
   rw [if_pos (by simp [Region.wanted])]
   intro K Q hK
   simp only [puts, foldr_nil];go_step
   refine st_ex hK rfl rfl (by simp only [Act.put, setIfInBounds_toArray, set_cons_succ, set_cons_zero, Array.getD_eq_getD_getElem?, List.getElem?_toArray, List.getElem?_cons_succ, List.getElem?_cons_zero, Option.getD_some] <;> rfl) rfl (by rw [hSd] at hS ⊢; exact hS)
  ·
   obtain ⟨h5, -⟩ := hh;have g5 : f 5=_:=h5
   unfold stStep
   rw [if_pos (by simp [Region.wanted])]
   intro K Q hK
   simp only [puts, Za, Zb, Zc, Zd, Ze, g5]
   have hS' := hS
   rw [hSd] at hS'
   obtain ⟨⟨cx1, cx2⟩, cy1, cy2⟩ := hXc W hS'.1
   go_step
   refine st_ex hK rfl rfl (by simp only [Act.put, setIfInBounds_toArray, set_cons_succ, set_cons_zero, Array.getD_eq_getD_getElem?, List.getElem?_toArray, List.getElem?_cons_succ, List.getElem?_cons_zero, Option.getD_some] <;> rfl) rfl (by rw [hSd] at hS ⊢; exact hS)
  ·
   unfold stStep
   rw [if_pos (by simp [Region.wanted])]
   intro K Q hK
   simp only [puts, foldr_nil];go_step
   refine st_ex hK rfl rfl (by simp only [Act.put, setIfInBounds_toArray, set_cons_succ, set_cons_zero, Array.getD_eq_getD_getElem?, List.getElem?_toArray, List.getElem?_cons_succ, List.getElem?_cons_zero, Option.getD_some] <;> rfl) rfl (by rw [hSd] at hS ⊢; exact hS)
  ·
   obtain ⟨h7, -⟩ := hh;have g7 : f 7=_:=h7
   unfold stStep
   rw [if_pos (by simp [Region.wanted])]
   intro K Q hK
   simp only [puts, Za, Zb, Zc, Zd, Ze, g7]
   have hS' := hS
   rw [hSd] at hS'
   obtain ⟨⟨cx1, cx2⟩, cy1, cy2⟩ := hXc W hS'.1
   go_step
   refine st_ex hK rfl rfl (by simp only [Act.put, setIfInBounds_toArray, set_cons_succ, set_cons_zero, Array.getD_eq_getD_getElem?, List.getElem?_toArray, List.getElem?_cons_succ, List.getElem?_cons_zero, Option.getD_some] <;> rfl) rfl (by rw [hSd] at hS ⊢; exact hS)
  ·
   obtain ⟨h6, h8, h4, -⟩ := hh;have g6 : f 6=_:=h6;have g8 : f 8=_:=h8;have g4 : f 4=_:=h4
   unfold stStep
   rw [if_pos (by simp [Region.wanted])]
   intro K Q hK
   simp only [puts, Za, Zb, Zc, Zd, Ze, g6, g8, g4]
   rw [hSd] at hS hK
   have l9 : L 9 = false := hi
   try simp only [stage, l9, if_true, if_false, Bool.false_eq_true] at hS
   go_step
   go_at_call 40
   refine (Tryz.cmp_Compare_int x2 y2 W).mono ?_
   rintro e w' ⟨rfl, rfl⟩
   refine hK.out _ _ rfl rfl ?_
   simpa using hS
  ·
   obtain ⟨h4, h9, -⟩ := hh;have g4 : f 4=_:=h4;have g9 : f 9=_:=h9
   unfold stStep
   rw [if_pos (by simp [Region.wanted])]
   intro K Q hK
   simp only [puts, Za, Zb, Zc, Zd, Ze, g4, g9]
   rw [hSd] at hS hK
   have l10 : L 10 = false := hi
   try simp only [stage, l10, if_true, if_false, Bool.false_eq_true] at hS
   obtain ⟨hbW, hdW, -⟩ := hS
   go_step
   refine hK.out _ _ rfl ⟨_, _, rfl⟩ ?_
   refine ⟨hbW.alloc hbW.size _, hdW, fun _ _ => ⟨_, _, rfl, ?_, ?_⟩⟩
   ·exact cell_of_row _ _ 0 _ _ _ (heap_alloc_new W _)
   ·exact cell_of_row _ _ 1 _ _ _ (heap_alloc_new W _)
  ·
   obtain ⟨h10, h9, -⟩ := hh
   obtain ⟨b10, c10, g10⟩ := h10
   have g9 : f 9=_:=h9
   have l10 : L 10 = true := hd 10 (by decide)
   unfold stStep
   rw [if_pos (by simp [Region.wanted])]
   intro K Q hK
   simp only [puts, Za, Zb, Zc, Zd, Ze, g10, g9]
   rw [hSd] at hS hK
   have l11 : L 11 = false := hi
   try simp only [stage, l11, l10, if_true, if_false, Bool.false_eq_true] at hS
   obtain ⟨hbW, hdW, h10⟩ := hS
   obtain ⟨q, c, e10, k0, k1⟩ := h10 trivial trivial
   rw [g10] at e10
   obtain ⟨rfl, rfl⟩ : b10 = q ∧ c10 = c := by simpa using e10
   go_step
   go_at_call 39
   refine (or_any b10 0 c10 _ _ W k0 k1).mono ?_
   rintro e w' ⟨rfl, rfl⟩
   refine hK.out _ _ rfl rfl ?_
   exact ⟨hbW, hdW, fun _ h => (by simp at h)⟩
  ·
   obtain ⟨h11, _, h0, h1, h2, h3, h4, h5, h6, h7, h8, h9, h10, _, -⟩ := hh;have g11 : f 11=_:=h11;have g0 : f 0=_:=h0;have g1 : f 1=_:=h1;have g2 : f 2=_:=h2;have g3 : f 3=_:=h3;have g4 : f 4=_:=h4;have g5 : f 5=_:=h5;have g6 : f 6=_:=h6;have g7 : f 7=_:=h7;have g8 : f 8=_:=h8;have g9 : f 9=_:=h9
   obtain ⟨b10, c10, g10⟩ := h10
   unfold stStep
   rw [if_pos (by simp [Region.wanted])]
   intro K Q hK
   simp only [puts, Za, Zb, Zc, Zd, Ze, g11, g0, g1, g2, g3, g4, g5, g6, g7, g8, g9, g10];go_step
   refine st_ex hK rfl rfl (by simp only [Act.put, setIfInBounds_toArray, set_cons_succ, set_cons_zero, Array.getD_eq_getD_getElem?, List.getElem?_toArray, List.getElem?_cons_succ, List.getElem?_cons_zero, Option.getD_some] <;> rfl) rfl (by rw [hSd] at hS ⊢; exact hS)
 case rest =>
  intro L f WA hL hh hS
  rw [hSd] at hS
  clear hSd
  have l11 : L 11 = true := hL 11 (by decide)
  simp only [stage, l11, if_true] at hS
  clear hL l11
  obtain ⟨h0, h1, h2, h3, h4, h5, h6, h7, h8, h9, h10, h11, h12, -⟩ := hh;have g0 : f 0=_:=h0;have g1 : f 1=_:=h1;have g2 : f 2=_:=h2;have g3 : f 3=_:=h3;have g4 : f 4=_:=h4;have g5 : f 5=_:=h5;have g6 : f 6=_:=h6;have g7 : f 7=_:=h7;have g8 : f 8=_:=h8;have g9 : f 9=_:=h9
  obtain ⟨b10, c10, g10⟩ := h10
  have g11 : f 11=_:=h11;have g12 : f 12=_:=h12;simp only [puts, Za, Zb, Zc, Zd, Ze, g0, g1, g2, g3, g4, g5, g6, g7, g8, g9, g10, g11, g12]
  clear h0 h1 h2 h3 h4 h5 h6 h7 h8 h9 h11 h12 g0 g1 g2 g3 g4 g5 g6 g7 g8 g9 g11 g12
  obtain ⟨hbA, hdA, -⟩ := hS
  go_wp2
  go_ret
  exact ⟨rfl, hB.trans (hbA.mono hB.size), by rw [← HD2.out]; exact hdA⟩
end Go.Proofs.YtbjdglopkpigbaaGreatDoor
