import Derived.Test.YtofaifeadhimjaaGreatDoorMG9
import Derived.Test.YtofaifeadhimjaaGreatDoorMG10
import Derived.Test.YtofaifeadhimjaaGreatDoorMG33
import Derived.Test.YtofaifeadhimjaaGreatDoorMG43
/-
  NfaRx, NfaWb
-/
set_option linter.unusedVariables false
namespace Go.Proofs.YtofaifeadhimjaaGreatDoor

theorem finsL_yes {fin : List Bool} {i : Nat} (h : gb fin i = true) : finsL fin (i + 1) = finsL fin i ++ [(i : Int)] := by
 unfold finsL
 rw [List.range_succ, List.filter_append, List.map_append, List.filter_cons_of_pos (by simpa using h)]
 rfl
theorem finsL_no {fin : List Bool} {i : Nat} (h : gb fin i = false) : finsL fin (i + 1) = finsL fin i := by
 unfold finsL
 rw [List.range_succ, List.filter_append, List.map_append, List.filter_cons_of_neg (by simp [h])]
 simp
theorem finsL_len (fin : List Bool) : ∀ i, (finsL fin i).length ≤ i
 | 0 => Nat.le_refl _
 | i + 1 => by
  have ih := finsL_len fin i
  cases h : gb fin i with
  | true => rw [finsL_yes h, List.length_append, List.length_singleton]; omega
  | false => rw [finsL_no h]; omega
def setBs (N : Nat) (l : List Int) : List Bool := l.foldl (fun F z => F.set z.toNat true) (List.replicate N false)
theorem setBs_snoc (N : Nat) (l : List Int) (z : Int) : setBs N (l ++ [z]) = (setBs N l).set z.toNat true := by
 unfold setBs
 rw [List.foldl_append]
 rfl
theorem setBs_facts (N : Nat) (l : List Int) (hl : ∀ z ∈ l, 0 ≤ z ∧ z < N) : (setBs N l).length = N ∧ ∀ i, i < N → gb (setBs N l) i = decide ((i : Int) ∈ l) := by
 obtain ⟨T, hT⟩ : ∃ T, l.reverse = T := ⟨_, rfl⟩
 obtain rfl : T.reverse = l := by rw [← hT, List.reverse_reverse]
 clear hT
 induction T with
 | nil => exact ⟨by simp [setBs], fun i hi => by simp [setBs, gb, List.getD, hi]⟩
 | cons x T ih =>
  rw [List.reverse_cons] at hl ⊢
  obtain ⟨ih1, ih2⟩ := ih fun z hz => hl z (List.mem_append_left _ hz)
  have hx := hl x (by simp)
  rw [setBs_snoc]
  refine ⟨by rw [List.length_set]; exact ih1, fun i hi => ?_⟩
  rw [gb_put (by omega)]
  by_cases e : i = x.toNat
  ·rw [if_pos e]
   exact (decide_eq_true (by rw [List.mem_append, List.mem_singleton]; right; omega)).symm
  ·rw [if_neg e, ih2 i hi, Bool.eq_iff_iff, decide_eq_true_iff, decide_eq_true_iff, List.mem_append, List.mem_singleton]
   constructor
   ·exact .inl
   ·rintro (h | h)
    ·exact h
    ·omega
theorem setBs_eq (N : Nat) (l : List Int) (hl : ∀ z ∈ l, 0 ≤ z ∧ z < N) : setBs N l = boolsL l N := by
 obtain ⟨h1, h2⟩ := setBs_facts N l hl
 refine gb_ext' (by rw [h1, boolsL_len]) fun i hi => ?_
 rw [h1] at hi
 rw [h2 i hi, gb_boolsL hi]
theorem sorted_rev {ar A' : List A3} (h : SortedN ar) (hp : A'.Perm (ar.map swA)) (hs : A'.Pairwise fun x y => ¬ LtN y x) : A' = revA ar := by
 have hnd : A'.Nodup := by
  refine hp.nodup_iff.2 ?_
  unfold List.Nodup
  rw [List.pairwise_map]
  have hn : ar.Nodup := List.Pairwise.imp (fun h e => by subst e; exact LtN.irrefl h) h
  exact hn.imp fun {x y} h e => h (by rw [← swA_swA x, ← swA_swA y, e])
 have hs2 : SortedN A' := by
  refine (hs.and hnd).imp fun {x y} h => ?_
  rcases LtN.tri x y with h1 | h1 | h1
  ·exact h1
  ·exact absurd h1 h.2
  ·exact absurd h1 h.1
 refine sortedN_ext hs2 (revA_facts ar).1 fun z => ?_
 rw [(revA_facts ar).2, hp.mem_iff, List.mem_map]
 exact ⟨fun ⟨x, hx, e⟩ => by rw [← e]; exact hx, fun h => ⟨swA z, h, rfl⟩⟩
def zeroN : Nfa := ⟨0, [], [], []⟩
noncomputable def revV (a : Nfa) : Nfa := if vN a = true then revN a else zeroN
noncomputable def revE (a : Nfa) : Int := if vN a = true then 0 else 1
theorem rev_yes {a : Nfa} (h : ValidN a) : revV a = revN a ∧ revE a = 0 := by unfold revV revE; rw [vN_yes h]; exact ⟨rfl, rfl⟩
theorem rev_no {a : Nfa} (h : ¬ ValidN a) : revV a = zeroN ∧ revE a = 1 := by unfold revV revE; rw [vN_no h]; exact ⟨rfl, rfl⟩
end Go.Proofs.YtofaifeadhimjaaGreatDoor

set_option linter.unusedSimpArgs false
set_option linter.unusedVariables false
namespace Go.Proofs.YtofaifeadhimjaaGreatDoor
open List (foldr_cons foldr_nil setIfInBounds_toArray set_cons_succ set_cons_zero)
open Go.RowKit
attribute [local go_sem] Oper.semAt_some

theorem insA_lt {y x : A3} {l : List A3} (h : LtN y x) : insA (y :: l) x = y :: insA l x := by rw [insA, if_pos h]
theorem insA_eq {y x : A3} {l : List A3} (h : ¬ LtN y x) (e : y = x) : insA (y :: l) x = y :: l := by rw [insA, if_neg h, if_pos e]
theorem insA_gt {y x : A3} {l : List A3} (h : ¬ LtN y x) (e : y ≠ x) : insA (y :: l) x = x :: y :: l := by rw [insA, if_neg h, if_neg e]
theorem drop_g3 (es : List A3) {i : Nat} (hi : i < es.length) : es.drop i = g3 es i :: es.drop (i + 1) := by
 rw [g3_eq es i hi, List.drop_eq_getElem_cons hi]
def InsI (es : List A3) (x : A3) (i : Nat) (d : Bool) (out : List A3) : Prop := out.length ≤ i + 1 ∧ ((d = false ∧ out = es.take i ∧ insA es x = es.take i ++ insA (es.drop i) x) ∨ (d = true ∧ insA es x = out ++ es.drop i))
theorem InsI.start (es : List A3) (x : A3) : InsI es x 0 false [] := ⟨Nat.zero_le _, .inl ⟨rfl, by rw [List.take_zero], by rw [List.take_zero, List.drop_zero]; rfl⟩⟩
section
variable {es out : List A3} {x : A3} {i : Nat}
theorem InsI.done (h : InsI es x i true out) (hi : i < es.length) : InsI es x (i + 1) true (out ++ [g3 es i]) := by
 obtain ⟨h1, h2⟩ := h
 rcases h2 with ⟨h2, _⟩ | ⟨_, h2⟩
 ·cases h2
 ·refine ⟨by rw [List.length_append, List.length_singleton]; omega, .inr ⟨rfl, ?_⟩⟩
  rw [h2, drop_g3 es hi, List.append_assoc]
  rfl
theorem InsI.lt (h : InsI es x i false out) (hi : i < es.length) (hl : LtN (g3 es i) x) : InsI es x (i + 1) false (out ++ [g3 es i]) := by
 obtain ⟨h1, h2⟩ := h
 rcases h2 with ⟨_, h2, h3⟩ | ⟨h2, _⟩
 ·have e : es.take (i + 1) = out ++ [g3 es i] := by rw [take_succ_g3 es i hi, h2]
  refine ⟨by rw [List.length_append, List.length_singleton]; omega, .inl ⟨rfl, e.symm, ?_⟩⟩
  rw [h3, drop_g3 es hi, insA_lt hl, take_succ_g3 es i hi, List.append_assoc]
  rfl
 ·cases h2
theorem InsI.eq (h : InsI es x i false out) (hi : i < es.length) (hl : ¬ LtN (g3 es i) x) (he : g3 es i = x) : InsI es x (i + 1) true (out ++ [g3 es i]) := by
 obtain ⟨h1, h2⟩ := h
 rcases h2 with ⟨_, h2, h3⟩ | ⟨h2, _⟩
 ·refine ⟨by rw [List.length_append, List.length_singleton]; omega, .inr ⟨rfl, ?_⟩⟩
  rw [h3, drop_g3 es hi, insA_eq hl he, h2, List.append_assoc]
  rfl
 ·cases h2
theorem InsI.gt (h : InsI es x i false out) (hi : i < es.length) (hl : ¬ LtN (g3 es i) x) (he : g3 es i ≠ x) : InsI es x (i + 1) true (out ++ [x] ++ [g3 es i]) := by
 obtain ⟨h1, h2⟩ := h
 rcases h2 with ⟨_, h2, h3⟩ | ⟨h2, _⟩
 ·refine ⟨?_, .inr ⟨rfl, ?_⟩⟩
  ·rw [List.length_append, List.length_append, List.length_singleton, List.length_singleton, h2, List.length_take]; omega
  ·rw [h3, drop_g3 es hi, insA_gt hl he, h2, List.append_assoc, List.append_assoc]
   rfl
 ·cases h2
end
def GivesA (l : List A3) (w : World) (e : Ending) (w' : World) : Prop := (∃ a c, e = .returned (.slice a l.length c) ∧ w'.ownsRow w.heap.size 57 3 (.slice a l.length c) l.length (tvs l)) ∧ Below w.heap.size w w'
set_option maxRecDepth 20000 in
set_option maxHeartbeats 8000000 in
theorem refInsert_any {w : World} {aa : Option Addr} {al ac : Nat} {es : List A3} (x : A3) (he : IsArcs w aa al ac es) (hl : al ≤ 1000000) :
  Calls Tryz.prog 34 #[.slice aa al ac, vA x] w (GivesA (insA es x) w) := by
 have hlen := he.length
 obtain ⟨xf, xl, xt⟩ := x
 obtain ⟨hb1, hs1, hX⟩ := boxRA ⟨xf, xl, xt⟩ w
 obtain ⟨W1, hW1⟩ : ∃ W1, w.alloc (.cells #[.int .i64 xf, .int .i64 xl, .int .i64 xt] 57) = W1 := ⟨_, rfl⟩
 simp only at hb1 hs1 hX
 rw [hW1] at hb1 hs1 hX
 have HX := Lib.hid hX
 have HE := Lib.hid he
 have HLN := Lib.hid hlen
 have HB1 := Lib.hid hb1
 have HS1 := Lib.hid hs1
 unfold vA
 clear hX he hlen hb1 hs1
 go_enter Tryz.func34, Tryz.ntmps34
 go_wp2_with (fail)
 clear hW1
 go_loopw [5, 6, 7] (fun v d c W => ∃ (i : Nat) (ao : Option Addr) (co : Nat) (dn : Bool) (out : List A3), i ≤ al ∧ c = .int .i64 (i : Int) ∧ d = .bool dn ∧ v = .slice ao out.length co ∧ InsI es ⟨xf, xl, xt⟩ i dn out ∧ W.ownsRow (w.heap.size + 1) 57 3 (.slice ao out.length co) out.length (tvs out) ∧ Below (w.heap.size + 1) W1 W ∧ w.heap.size + 1 ≤ W.heap.size) (fun _ _ c _ => al - (intOf c).toNat)
 case atStart => exact ⟨0, none, 0, false, [], Nat.zero_le _, rfl, rfl, rfl, InsI.start _ _, World.ownsRow_nil _ _ _ _, Below.refl _ _, by have := HS1.out; omega⟩
 case round =>
  obtain ⟨i, ao, co, dn, out, hi, rfl, rfl, rfl, hI, ho, hb, hsz⟩ := hrel
  rcases Nat.lt_or_ge i al with hlt | hge
  ·have t1 : decide (i < al) = true := decide_eq_true hlt
   have hil : i < es.length := by rw [HLN.out]; exact hlt
   obtain ⟨b, off, rfl, hcell⟩ := HE.out.fix (by omega)
   have hC0 : ∀ W, Below (w.heap.size + 1) W1 W → (W.cell? ⟨b, off + i * 3, none⟩ = some (.int .i64 (g3 es i).f) ∧ W.cell? ⟨b, off + i * 3 + 1, none⟩ = some (.int .i64 (g3 es i).l) ∧ W.cell? ⟨b, off + i * 3 + 2, none⟩ = some (.int .i64 (g3 es i).t)) ∧ W.cell? ⟨w.heap.size, 0, none⟩ = some (.int .i64 xf) ∧ W.cell? ⟨w.heap.size, 1, none⟩ = some (.int .i64 xl) ∧ W.cell? ⟨w.heap.size, 2, none⟩ = some (.int .i64 xt) := fun W hW => by
    exact ⟨hcell W (HB1.out.trans (hW.mono (by omega))) i hlt, HX.out W hW⟩
   obtain ⟨⟨yf, yl, yt⟩, hy⟩ : ∃ y, g3 es i = y := ⟨_, rfl⟩
   rw [hy] at hC0
   simp only at hC0
   have HY := Lib.hid hy
   have HI := Lib.hid hI
   have HO := Lib.hid ho
   have HB := Lib.hid hb
   have HC := Lib.hid hC0
   have HIL := Lib.hid hil
   have hol := hI.1
   obtain ⟨ol, hol2⟩ : ∃ n, out.length = n := ⟨_, rfl⟩
   rw [hol2] at HO hol ⊢
   have HOL := Lib.hid hol2
   clear hcell hC0 hy hI ho hb hil hol2 hi
   cases dn with
   | true =>
    obtain ⟨⟨f1, f2, f3⟩, f4, f5, f6⟩ := HC.out wr HB.out
    go_wp2_with (fail)
    go_quiet (fail)
    have hbq : Below wr.heap.size wr (wr.drewN nq) := ⟨rfl, rfl, rfl, Nat.le_refl _, fun _ _ => rfl⟩
    obtain ⟨⟨f1, f2, f3⟩, f4, f5, f6⟩ := HC.out _ (HB.out.trans (hbq.mono hsz))
    have ho2 := HO.out.kept_below hbq
    have hb2 := HB.out.trans (hbq.mono (by have := HB.out.size; have := HS1.out; omega))
    go_wp2_with (at_builtin; refine app_arc elRA5 rfl _ _ rfl rfl ho2 rfl (by omega) hsz ?_; intro a1 c1 w1 ho1 hb1 hs1)
    go_roundw
    case rel => exact ⟨i + 1, a1, c1, true, out ++ [⟨yf, yl, yt⟩], hlt, by go_num, rfl, by rw [List.length_append, HOL.out]; rfl, by rw [← HY.out]; exact HI.out.done HIL.out, by rw [List.length_append, HOL.out]; exact ho1, hb2.trans hb1, by have e : (wr.drewN nq).heap.size = wr.heap.size := rfl; omega⟩
    case measure => simp [intOf]; omega
   | false =>
    by_cases hlt2 : LtN ⟨yf, yl, yt⟩ ⟨xf, xl, xt⟩
    ·have HL := Lib.hid hlt2
     clear hlt2
     go_wp2_with (fail)
     refine wp_region_grow mixed (by kernel_rfl) [[], [(0, 14)], [(1, 15)], [(2, 16)], [(2, 16)], [(3, 17), (4, 18), (2, 16)], [(5, 19), (2, 16)], [(2, 16)], [(6, 20), (7, 21), (2, 16), (2, 16)], [(8, 22), (2, 16)], [(2, 16), (9, 23)]] [(0, 14), (1, 15), (2, 16), (3, 17), (4, 18), (5, 19), (6, 20), (7, 21), (8, 22), (9, 23), (10, 24)] rfl rfl [Ex ?ea0, Ex ?ea1, Ex ?ea2, Ex ?ea3, Ex ?ea4, Ex ?ea5, Ex ?ea6, Ex ?ea7, Ex (.bool true), Ex ?ea9, Ex ?ea10] ⟨stays_ex _, stays_ex _, stays_ex _, stays_ex _, stays_ex _, stays_ex _, stays_ex _, stays_ex _, stays_ex _, stays_ex _, stays_ex _, trivial⟩ ?asteps ?arest
     case asteps =>
      refine ⟨fun f W hC hh => ?_, fun f W hC hh => ?_, fun f W hC hh => ?_, fun f W hC hh => ?_, fun f W hC hh => ?_, fun f W hC hh => ?_, fun f W hC hh => ?_, fun f W hC hh => ?_, fun f W hC hh => ?_, fun f W hC hh => ?_, fun f W hC hh => ?_, trivial⟩
      ·
       refine tab_plain fun K Q hK => ?_
       simp only [puts, foldr_nil]
       go_step
       exact fam_e hK rfl rfl (Below.refl _ _) hC
      ·
       obtain ⟨h0, -⟩ := hh
       have g0 : f 0 = _ := h0
       refine tab_plain fun K Q hK => ?_
       simp only [puts, Za, Zb, Zc, Zd, Ze, g0]
       go_step
       exact fam_e hK rfl rfl (Below.refl _ _) hC
      ·
       obtain ⟨h1, -⟩ := hh
       have g1 : f 1 = _ := h1
       refine tab_plain fun K Q hK => ?_
       simp only [puts, Za, Zb, Zc, Zd, Ze, g1]
       go_step
       exact fam_e hK rfl rfl (Below.refl _ _) hC
      ·
       obtain ⟨h2, -⟩ := hh
       have g2 : f 2 = _ := h2
       refine tab_yes g2 fun K Q hK => ?_
       simp only [puts, Za, Zb, Zc, Zd, Ze, g2]
       go_step
       exact fam_e hK rfl rfl (Below.refl _ _) hC
      ·
       obtain ⟨h2, -⟩ := hh
       have g2 : f 2 = _ := h2
       refine tab_yes g2 fun K Q hK => ?_
       simp only [puts, Za, Zb, Zc, Zd, Ze, g2]
       go_step
       exact fam_e hK rfl rfl (Below.refl _ _) hC
      ·
       obtain ⟨h3, h4, h2, -⟩ := hh
       have g3 : f 3 = _ := h3
       have g4 : f 4 = _ := h4
       have g2 : f 2 = _ := h2
       refine tab_yes g2 fun K Q hK => ?_
       simp only [puts, Za, Zb, Zc, Zd, Ze, g3, g4, g2]
       go_step
       exact fam_e hK rfl rfl (Below.refl _ _) hC
      ·
       obtain ⟨h5, h2, -⟩ := hh
       have g5 : f 5 = _ := h5
       have g2 : f 2 = _ := h2
       refine tab_yes g2 fun K Q hK => ?_
       simp only [puts, Za, Zb, Zc, Zd, Ze, g5, g2]
       obtain ⟨⟨f1, f2, f3⟩, f4, f5, f6⟩ := HC.out W (HB.out.trans (hC.mono hsz))
       go_step
       exact fam_e hK rfl rfl (Below.refl _ _) hC
      ·
       obtain ⟨h2, -⟩ := hh
       have g2 : f 2 = _ := h2
       refine tab_yes g2 fun K Q hK => ?_
       simp only [puts, Za, Zb, Zc, Zd, Ze, g2]
       obtain ⟨⟨f1, f2, f3⟩, f4, f5, f6⟩ := HC.out W (HB.out.trans (hC.mono hsz))
       go_step
       exact fam_e hK rfl rfl (Below.refl _ _) hC
      ·
       obtain ⟨h6, h7, h2, _, -⟩ := hh
       have g6 : f 6 = _ := h6
       have g7 : f 7 = _ := h7
       have g2 : f 2 = _ := h2
       refine tab_yes g2 fun K Q hK => ?_
       simp only [puts, Za, Zb, Zc, Zd, Ze, g6, g7, g2]
       go_step
       go_at_call 49
       have hbf := before_any ⟨yf, yl, yt⟩ ⟨xf, xl, xt⟩ W
       rw [decide_eq_true HL.out] at hbf
       refine hbf.mono ?_
       rintro e w' ⟨rfl, hb⟩
       exact fam_fin hK rfl rfl hb (hC.trans (hb.mono hC.size))
      ·
       obtain ⟨h8, h2, -⟩ := hh
       have g8 : f 8 = _ := h8
       have g2 : f 2 = _ := h2
       refine tab_yes g2 fun K Q hK => ?_
       simp only [puts, Za, Zb, Zc, Zd, Ze, g8, g2]
       go_step
       exact fam_e hK rfl rfl (Below.refl _ _) hC
      ·
       obtain ⟨h2, h9, -⟩ := hh
       have g2 : f 2 = _ := h2
       have g9 : f 9 = _ := h9
       refine tab_plain fun K Q hK => ?_
       simp only [puts, Za, Zb, Zc, Zd, Ze, g2, g9]
       go_step
       exact fam_e hK rfl rfl (Below.refl _ _) hC
     case arest =>
      intro f WA hC hh
      obtain ⟨h0, h1, h2, h3, h4, h5, h6, h7, h8, h9, h10, -⟩ := hh
      have g0 : f 0 = _ := h0
      have g1 : f 1 = _ := h1
      have g2 : f 2 = _ := h2
      have g3 : f 3 = _ := h3
      have g4 : f 4 = _ := h4
      have g5 : f 5 = _ := h5
      have g6 : f 6 = _ := h6
      have g7 : f 7 = _ := h7
      have g8 : f 8 = _ := h8
      have g9 : f 9 = _ := h9
      have g10 : f 10 = _ := h10
      simp only [puts, Za, Zb, Zc, Zd, Ze, g0, g1, g2, g3, g4, g5, g6, g7, g8, g9, g10]
      clear h0 h1 h2 h3 h4 h5 h6 h7 h8 h9 h10 g0 g1 g2 g3 g4 g5 g6 g7 g8 g9 g10
      obtain ⟨⟨f1, f2, f3⟩, f4, f5, f6⟩ := HC.out WA (HB.out.trans (hC.mono hsz))
      have ho2 := HO.out.kept_below hC
      have hb2 := HB.out.trans (hC.mono (by have := HB.out.size; have := HS1.out; omega))
      have hszA : w.heap.size + 1 ≤ WA.heap.size := Nat.le_trans hsz hC.size
      go_wp2_with (at_builtin; refine app_arc elRA5 rfl _ _ rfl rfl ho2 rfl (by omega) hszA ?_; intro a1 c1 w1 ho1 hb1 hs1)
      go_roundw
      case rel => exact ⟨i + 1, a1, c1, false, out ++ [⟨yf, yl, yt⟩], hlt, by go_num, rfl, by rw [List.length_append, HOL.out]; rfl, by rw [← HY.out]; exact HI.out.lt HIL.out (by rw [HY.out]; exact HL.out), by rw [List.length_append, HOL.out]; exact ho1, hb2.trans hb1, by omega⟩
      case measure => simp [intOf]; omega
    ·have HL := Lib.hid hlt2
     clear hlt2
     go_wp2_with (fail)
     refine wp_region_grow mixed (by kernel_rfl) [[], [(0, 14)], [(1, 15)], [(2, 16)], [(2, 16)], [(3, 17), (4, 18), (2, 16)], [(5, 19), (2, 16)], [(2, 16)], [(6, 20), (7, 21), (2, 16), (2, 16)], [(8, 22), (2, 16)], [(2, 16), (9, 23)]] [(0, 14), (1, 15), (2, 16), (3, 17), (4, 18), (5, 19), (6, 20), (7, 21), (8, 22), (9, 23), (10, 24)] rfl rfl [Ex ?eb0, Ex ?eb1, Ex ?eb2, Ex ?eb3, Ex ?eb4, Ex ?eb5, Ex ?eb6, Ex ?eb7, Ex (.bool false), Ex ?eb9, Ex ?eb10] ⟨stays_ex _, stays_ex _, stays_ex _, stays_ex _, stays_ex _, stays_ex _, stays_ex _, stays_ex _, stays_ex _, stays_ex _, stays_ex _, trivial⟩ ?bsteps ?brest
     case bsteps =>
      refine ⟨fun f W hC hh => ?_, fun f W hC hh => ?_, fun f W hC hh => ?_, fun f W hC hh => ?_, fun f W hC hh => ?_, fun f W hC hh => ?_, fun f W hC hh => ?_, fun f W hC hh => ?_, fun f W hC hh => ?_, fun f W hC hh => ?_, fun f W hC hh => ?_, trivial⟩
      ·
       refine tab_plain fun K Q hK => ?_
       simp only [puts, foldr_nil]
       go_step
       exact fam_e hK rfl rfl (Below.refl _ _) hC
      ·
       obtain ⟨h0, -⟩ := hh
       have g0 : f 0 = _ := h0
       refine tab_plain fun K Q hK => ?_
       simp only [puts, Za, Zb, Zc, Zd, Ze, g0]
       go_step
       exact fam_e hK rfl rfl (Below.refl _ _) hC
      ·
       obtain ⟨h1, -⟩ := hh
       have g1 : f 1 = _ := h1
       refine tab_plain fun K Q hK => ?_
       simp only [puts, Za, Zb, Zc, Zd, Ze, g1]
       go_step
       exact fam_e hK rfl rfl (Below.refl _ _) hC
      ·
       obtain ⟨h2, -⟩ := hh
       have g2 : f 2 = _ := h2
       refine tab_yes g2 fun K Q hK => ?_
       simp only [puts, Za, Zb, Zc, Zd, Ze, g2]
       go_step
       exact fam_e hK rfl rfl (Below.refl _ _) hC
      ·
       obtain ⟨h2, -⟩ := hh
       have g2 : f 2 = _ := h2
       refine tab_yes g2 fun K Q hK => ?_
       simp only [puts, Za, Zb, Zc, Zd, Ze, g2]
       go_step
       exact fam_e hK rfl rfl (Below.refl _ _) hC
      ·
       obtain ⟨h3, h4, h2, -⟩ := hh
       have g3 : f 3 = _ := h3
       have g4 : f 4 = _ := h4
       have g2 : f 2 = _ := h2
       refine tab_yes g2 fun K Q hK => ?_
       simp only [puts, Za, Zb, Zc, Zd, Ze, g3, g4, g2]
       go_step
       exact fam_e hK rfl rfl (Below.refl _ _) hC
      ·
       obtain ⟨h5, h2, -⟩ := hh
       have g5 : f 5 = _ := h5
       have g2 : f 2 = _ := h2
       refine tab_yes g2 fun K Q hK => ?_
       simp only [puts, Za, Zb, Zc, Zd, Ze, g5, g2]
       obtain ⟨⟨f1, f2, f3⟩, f4, f5, f6⟩ := HC.out W (HB.out.trans (hC.mono hsz))
       go_step
       exact fam_e hK rfl rfl (Below.refl _ _) hC
      ·
       obtain ⟨h2, -⟩ := hh
       have g2 : f 2 = _ := h2
       refine tab_yes g2 fun K Q hK => ?_
       simp only [puts, Za, Zb, Zc, Zd, Ze, g2]
       obtain ⟨⟨f1, f2, f3⟩, f4, f5, f6⟩ := HC.out W (HB.out.trans (hC.mono hsz))
       go_step
       exact fam_e hK rfl rfl (Below.refl _ _) hC
      ·
       obtain ⟨h6, h7, h2, _, -⟩ := hh
       have g6 : f 6 = _ := h6
       have g7 : f 7 = _ := h7
       have g2 : f 2 = _ := h2
       refine tab_yes g2 fun K Q hK => ?_
       simp only [puts, Za, Zb, Zc, Zd, Ze, g6, g7, g2]
       go_step
       go_at_call 49
       have hbf := before_any ⟨yf, yl, yt⟩ ⟨xf, xl, xt⟩ W
       rw [decide_eq_false HL.out] at hbf
       refine hbf.mono ?_
       rintro e w' ⟨rfl, hb⟩
       exact fam_fin hK rfl rfl hb (hC.trans (hb.mono hC.size))
      ·
       obtain ⟨h8, h2, -⟩ := hh
       have g8 : f 8 = _ := h8
       have g2 : f 2 = _ := h2
       refine tab_yes g2 fun K Q hK => ?_
       simp only [puts, Za, Zb, Zc, Zd, Ze, g8, g2]
       go_step
       exact fam_e hK rfl rfl (Below.refl _ _) hC
      ·
       obtain ⟨h2, h9, -⟩ := hh
       have g2 : f 2 = _ := h2
       have g9 : f 9 = _ := h9
       refine tab_plain fun K Q hK => ?_
       simp only [puts, Za, Zb, Zc, Zd, Ze, g2, g9]
       go_step
       exact fam_e hK rfl rfl (Below.refl _ _) hC
     case brest =>
      intro f WB hC hh
      obtain ⟨h0, h1, h2, h3, h4, h5, h6, h7, h8, h9, h10, -⟩ := hh
      have g0 : f 0 = _ := h0
      have g1 : f 1 = _ := h1
      have g2 : f 2 = _ := h2
      have g3 : f 3 = _ := h3
      have g4 : f 4 = _ := h4
      have g5 : f 5 = _ := h5
      have g6 : f 6 = _ := h6
      have g7 : f 7 = _ := h7
      have g8 : f 8 = _ := h8
      have g9 : f 9 = _ := h9
      have g10 : f 10 = _ := h10
      simp only [puts, Za, Zb, Zc, Zd, Ze, g0, g1, g2, g3, g4, g5, g6, g7, g8, g9, g10]
      clear h0 h1 h2 h3 h4 h5 h6 h7 h8 h9 h10 g0 g1 g2 g3 g4 g5 g6 g7 g8 g9 g10
      have ho2 := HO.out.kept_below hC
      have hb2 := HB.out.trans (hC.mono (by have := HB.out.size; have := HS1.out; omega))
      have hszA : w.heap.size + 1 ≤ WB.heap.size := Nat.le_trans hsz hC.size
      have HO2 := Lib.hid ho2
      have HB2 := Lib.hid hb2
      clear ho2 hb2 hC
      obtain ⟨⟨f1, f2, f3⟩, f4, f5, f6⟩ := HC.out WB HB2.out
      by_cases hxy : yf = xf ∧ yl = xl ∧ yt = xt
      ·obtain ⟨rfl, rfl, rfl⟩ := hxy
       go_wp2_with (fail)
       go_quiet (fail)
       have hbq : Below WB.heap.size WB (WB.drewN nq) := ⟨rfl, rfl, rfl, Nat.le_refl _, fun _ _ => rfl⟩
       obtain ⟨⟨f1, f2, f3⟩, f4, f5, f6⟩ := HC.out _ (HB2.out.trans (hbq.mono hszA))
       have ho3 := HO2.out.kept_below hbq
       have hb3 := HB2.out.trans (hbq.mono (by have := HB2.out.size; have := HS1.out; omega))
       have hszQ : w.heap.size + 1 ≤ (WB.drewN nq).heap.size := hszA
       go_wp2_with (at_builtin; refine app_arc elRA5 rfl _ _ rfl rfl ho3 rfl (by omega) hszQ ?_; intro a1 c1 w1 ho1 hb1 hs1)
       go_roundw
       case rel => exact ⟨i + 1, a1, c1, true, out ++ [⟨yf, yl, yt⟩], hlt, by go_num, rfl, by rw [List.length_append, HOL.out]; rfl, by have h := HI.out.eq HIL.out (by rw [HY.out]; exact HL.out) HY.out; rw [HY.out] at h; exact h, by rw [List.length_append, HOL.out]; exact ho1, hb3.trans hb1, by omega⟩
       case measure => simp [intOf]; omega
      ·have HNE : Hid ((⟨yf, yl, yt⟩ : A3) ≠ ⟨xf, xl, xt⟩) := Lib.hid (fun e => hxy (by injection e with e1 e2 e3; exact ⟨e1, e2, e3⟩))
       have hw : yf ≠ xf ∨ (yf = xf ∧ yl ≠ xl) ∨ (yf = xf ∧ yl = xl ∧ yt ≠ xt) := by omega
       clear hxy
       rcases hw with hw | ⟨rfl, hw⟩ | ⟨rfl, rfl, hw⟩
       all_goals
        go_wp2_with (fail)
        go_quiet (fail)
        have hbq : Below WB.heap.size WB (WB.drewN nq) := ⟨rfl, rfl, rfl, Nat.le_refl _, fun _ _ => rfl⟩
        obtain ⟨⟨f1, f2, f3⟩, f4, f5, f6⟩ := HC.out _ (HB2.out.trans (hbq.mono hszA))
        have ho3 := HO2.out.kept_below hbq
        have hb3 := HB2.out.trans (hbq.mono (by have := HB2.out.size; have := HS1.out; omega))
        have hszQ : w.heap.size + 1 ≤ (WB.drewN nq).heap.size := hszA
        clear hw
        go_wp2_with (first
         | (at_builtin; refine app_arc elRA5 rfl _ _ rfl rfl ho3 rfl (by omega) hszQ ?_; intro a1 c1 w1 ho1 hb1 hs1; have HO4 := Lib.hid ho1; have hsz1 : w.heap.size + 1 ≤ w1.heap.size := Nat.le_trans hszQ hs1; have HB4 := Lib.hid (hb3.trans hb1); obtain ⟨⟨f1, f2, f3⟩, f4, f5, f6⟩ := HC.out w1 HB4.out; clear ho3 hb1 ho1)
         | (at_builtin; refine app_arc elRA5 rfl _ _ rfl rfl HO4.out rfl (by omega) hsz1 ?_; intro a2 c2 w2 ho2 hb2 hs2; have HO5 := Lib.hid ho2; have HB5 := Lib.hid (HB4.out.trans hb2); clear ho2 hb2))
        go_roundw
        case rel =>
         refine ⟨i + 1, a2, c2, true, _, hlt, by go_num, rfl, ?_, HI.out.gt HIL.out (by rw [HY.out]; exact HL.out) (by rw [HY.out]; exact HNE.out), ?_, HB5.out, by omega⟩
         ·rw [List.length_append, List.length_append, HOL.out]; rfl
         ·rw [List.length_append, List.length_append, HOL.out, HY.out]; exact HO5.out
        case measure => simp [intOf]; omega
  ·have t1 : decide (i < al) = false := decide_eq_false (by omega)
   obtain rfl : i = al := by omega
   have hol := hI.1
   obtain ⟨ol, hol2⟩ : ∃ n, out.length = n := ⟨_, rfl⟩
   have HI := Lib.hid hI
   have HOL := Lib.hid hol2
   rw [hol2] at ho hol ⊢
   have HO := Lib.hid ho
   have HB := Lib.hid hb
   obtain ⟨f4, f5, f6⟩ := HX.out wr hb
   have hd : es.drop i = [] := by rw [List.drop_eq_nil_iff]; exact Nat.le_of_eq HLN.out
   have HD := Lib.hid hd
   clear hI ho hb hol2 hd
   cases dn with
   | true =>
    have HR : Hid (insA es ⟨xf, xl, xt⟩ = out) := Lib.hid (by
     rcases HI.out.2 with ⟨h, _⟩ | ⟨_, h⟩
     ·cases h
     ·rw [h, HD.out, List.append_nil])
    go_wp2_with (fail)
    go_ret
    rw [HR.out]
    exact ⟨⟨ao, co, by rw [HOL.out] <;> rfl, by rw [HOL.out]; exact HO.out.from_mono (Nat.le_succ _)⟩, HB1.out.trans (HB.out.mono (Nat.le_succ _))⟩
   | false =>
    have HR : Hid (insA es ⟨xf, xl, xt⟩ = out ++ [⟨xf, xl, xt⟩]) := Lib.hid (by
     rcases HI.out.2 with ⟨_, h1, h⟩ | ⟨h, _⟩
     ·rw [h, HD.out, h1]; rfl
     ·cases h)
    go_wp2_with (at_builtin; refine app_arc elRA5 rfl _ _ rfl rfl HO.out rfl (by omega) hsz ?_; intro a1 c1 w1 ho1 hb1 hs1; have HO1 := Lib.hid ho1; have HB2 := Lib.hid hb1; clear ho1 hb1)
    go_ret
    rw [HR.out]
    refine ⟨⟨a1, c1, by rw [List.length_append, HOL.out]; rfl, ?_⟩, HB1.out.trans ((HB.out.trans HB2.out).mono (Nat.le_succ _))⟩
    rw [List.length_append, HOL.out]
    exact HO1.out.from_mono (Nat.le_succ _)
end Go.Proofs.YtofaifeadhimjaaGreatDoor
