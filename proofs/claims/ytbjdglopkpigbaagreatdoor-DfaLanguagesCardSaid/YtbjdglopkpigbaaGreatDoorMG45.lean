import Derived.Test.YtbjdglopkpigbaaGreatDoorMG42
/-
  NaOw, NaBe
-/
set_option linter.unusedSimpArgs false
set_option linter.unusedVariables false
namespace Go.Proofs.YtbjdglopkpigbaaGreatDoor.Na
open List (foldr_cons foldr_nil setIfInBounds_toArray set_cons_succ set_cons_zero)
open Go.RowKit
attribute [local go_sem] Oper.semAt_some
variable {a : Nfa} {h : NH} {w : World}
theorem boxRN (a : Nfa) (h : NH) (w : World) (hd : IsNfa w h a) : ∃ W1, w.alloc (.cells #[.int .i64 a.n, .slice h.sa h.sl h.sc, .slice h.fa h.fl h.fc, .slice h.aa h.al h.ac] 28) = W1 ∧ W1.heap.size = w.heap.size + 1 ∧ Below w.heap.size w W1 ∧ ∀ W, Below (w.heap.size + 1) W1 W → (W.cell? ⟨w.heap.size, 0, none⟩ = some (.int .i64 a.n) ∧ W.cell? ⟨w.heap.size, 1, none⟩ = some (.slice h.sa h.sl h.sc) ∧ W.cell? ⟨w.heap.size, 2, none⟩ = some (.slice h.fa h.fl h.fc) ∧ W.cell? ⟨w.heap.size, 3, none⟩ = some (.slice h.aa h.al h.ac)) ∧ IsNfa W h a ∧ Below w.heap.size w W := by
 have hb1 : Below w.heap.size w (w.alloc (.cells #[.int .i64 a.n, .slice h.sa h.sl h.sc, .slice h.fa h.fl h.fc, .slice h.aa h.al h.ac] 28)) := (Below.refl _ _).alloc (Nat.le_refl _) _
 refine ⟨_, rfl, by simp, hb1, fun W hb => ?_⟩
 have hB : Below w.heap.size w W := hb1.trans (hb.mono (Nat.le_succ _))
 have := hb.block w.heap.size (Nat.lt_succ_self _)
 rw [heap_alloc_new] at this
 exact ⟨⟨cell_of_row W _ 0 _ _ _ this, cell_of_row W _ 1 _ _ _ this, cell_of_row W _ 2 _ _ _ this, cell_of_row W _ 3 _ _ _ this⟩, hd.later hB, hB⟩
def FewN (a : Nfa) : Prop := a.n ≤ 12 ∧ a.s.length ≤ 15 ∧ a.fin.length ≤ 15 ∧ a.arcs.length ≤ 40
set_option maxRecDepth 20000 in
theorem few_yes (hd : IsNfa w h a) (hf : FewN a) : Calls Tryz.prog 7 #[vNf a h] w fun e w' => e = .returned (.bool true) ∧ Below w.heap.size w w' := by
 obtain ⟨W1, hW1, hs1, hb1, hO⟩ := boxRN a h w hd
 obtain ⟨⟨c1, c2, c3, c4⟩, -, -⟩ := hO W1 (Below.refl _ _)
 have h0 := hd.1.length
 have h1 := hd.2.length
 have h2 := hd.3.length
 obtain ⟨f1, f0, f2, f3⟩ := hf
 rw [h0] at f0
 rw [h1] at f2
 rw [h2] at f3
 clear h0 h1 h2 hO hd
 obtain ⟨n, s, fin, es⟩ := a
 obtain ⟨sa, sl, sc, fa, fl, fc, aa, al, ac⟩ := h
 simp only [vNf] at hW1 hs1 hb1 c1 c2 c3 c4 f0 f1 f2 f3 ⊢
 have t1 : decide (n ≤ 12) = true := decide_eq_true f1
 have t0 : decide ((sl : Int) ≤ 15) = true := decide_eq_true (by omega)
 have t2 : decide ((fl : Int) ≤ 15) = true := decide_eq_true (by omega)
 have t3 : decide ((al : Int) ≤ 40) = true := decide_eq_true (by omega)
 go_enter Tryz.func7, Tryz.ntmps7
 go_wp2_with (fail)
 go_ret
 exact ⟨rfl, hb1⟩
set_option maxRecDepth 20000 in
theorem few_no (hd : IsNfa w h a) (hf : ¬ FewN a) : Calls Tryz.prog 7 #[vNf a h] w fun e w' => e = .returned (.bool false) ∧ Below w.heap.size w w' := by
 obtain ⟨W1, hW1, hs1, hb1, hO⟩ := boxRN a h w hd
 obtain ⟨⟨c1, c2, c3, c4⟩, -, -⟩ := hO W1 (Below.refl _ _)
 have h0 := hd.1.length
 have h1 := hd.2.length
 have h2 := hd.3.length
 unfold FewN at hf
 rw [h0, h1, h2] at hf
 clear h0 h1 h2 hO hd
 obtain ⟨n, s, fin, es⟩ := a
 obtain ⟨sa, sl, sc, fa, fl, fc, aa, al, ac⟩ := h
 simp only [vNf] at hW1 hs1 hb1 c1 c2 c3 c4 hf ⊢
 by_cases f1 : n ≤ 12
 case neg =>
  have t1 : decide (n ≤ 12) = false := decide_eq_false f1
  go_enter Tryz.func7, Tryz.ntmps7
  go_wp2_with (fail)
  go_ret
  exact ⟨rfl, hb1⟩
 have t1 : decide (n ≤ 12) = true := decide_eq_true f1
 by_cases f0 : sl ≤ 15
 case neg =>
  have t0 : decide ((sl : Int) ≤ 15) = false := decide_eq_false (by omega)
  go_enter Tryz.func7, Tryz.ntmps7
  go_wp2_with (fail)
  go_ret
  exact ⟨rfl, hb1⟩
 have t0 : decide ((sl : Int) ≤ 15) = true := decide_eq_true (by omega)
 by_cases f2 : fl ≤ 15
 case neg =>
  have t2 : decide ((fl : Int) ≤ 15) = false := decide_eq_false (by omega)
  go_enter Tryz.func7, Tryz.ntmps7
  go_wp2_with (fail)
  go_ret
  exact ⟨rfl, hb1⟩
 have t2 : decide ((fl : Int) ≤ 15) = true := decide_eq_true (by omega)
 have f3 : ¬ al ≤ 40 := fun f3 => hf ⟨f1, f0, f2, f3⟩
 have t3 : decide ((al : Int) ≤ 40) = false := decide_eq_false (by omega)
 go_enter Tryz.func7, Tryz.ntmps7
 go_wp2_with (fail)
 go_ret
 exact ⟨rfl, hb1⟩
theorem nfa_i : (Tryz.prog.info? 43).map (·.size) = some 4 := by kernel_rfl
theorem nfa_one (n : Int) (x : Option Addr) (l c : Nat) (y : Option Addr) (m e : Nat) (z : Option Addr) (p q : Nat) : (#[Value.int .i64 n, Value.slice x l c, Value.slice y m e, Value.slice z p q]).all (·.oneCell') = true := by simp [Value.oneCell']
def GivesN (a : Nfa) (w : World) (e : Ending) (w' : World) : Prop := (∃ h', e = .returned (vNf a h') ∧ IsNfa w' h' a) ∧ Below w.heap.size w w'
theorem nbox_ready {W1 : World} {B : Nat} (hs : W1.heap.size = B + 1) : ∃ W2, W1.alloc (.cells #[.int .i64 0, .slice none 0 0, .slice none 0 0, .slice none 0 0] 43) = W2 ∧ Below W1.heap.size W1 W2 ∧ W2.heap.size = B + 2 ∧ W2.heap[B + 1]? = some (.cells #[.int .i64 0, .slice none 0 0, .slice none 0 0, .slice none 0 0] 43 (0, 0)) :=
 ⟨_, rfl, (Below.refl _ _).alloc (Nat.le_refl _) _, by simp; omega, by rw [← hs]; exact heap_alloc_new W1 _⟩
theorem arcs_bx {W : World} {q : Nat} {cs : Array Value} {T : TypeId} {fr : Nat × Nat} {x : Int} {a : Option Addr} {len cap : Nat} {xs : List A3} (hq : W.heap[q]? = some (.cells #[.int .i64 x, .slice none 0 0, .slice none 0 0, .slice none 0 0] T fr)) (h : IsArcs W a len cap xs) : IsArcs (W.setRow q cs) a len cap xs := by
 rcases h with h | ⟨b, off, e, h1, h2, h3, hc⟩
 ·exact .inl h
 ·refine .inr ⟨b, off, e, h1, h2, h3, fun i hi => ?_⟩
  obtain ⟨p0, p1, p2⟩ := hc i hi
  have hne : b ≠ q := by
   rintro rfl
   simp only [World.cell?, hq] at p1
   match hj : off + i * 3 with
   | 0 => rw [hj] at p1; simp at p1
   | 1 => rw [hj] at p1; simp at p1
   | 2 => rw [hj] at p1; simp at p1
   | n + 3 => rw [hj] at p1; simp at p1
  have key : ∀ j, (W.setRow q cs).cell? ⟨b, j, none⟩ = W.cell? ⟨b, j, none⟩ := fun j => by
   simp only [World.cell?]
   rw [setRow_other W q b cs hne]
  exact ⟨(key _).trans p0, (key _).trans p1, (key _).trans p2⟩
def ownPs (B : Nat) (N : Int) (vs vf : Value) (A : List A3) (vb va : Value) : List Pc := [.row 49 3 va A.length (tvs A), .blk B #[.int .i64 N, vs, vf, vb]]
theorem ownPs_start {W : World} {B : Nat} (hB : B = W.heap.size) (N : Int) (vs vf : Value) (T : TypeId) : Pcs (W.alloc (.cells #[.int .i64 N, vs, vf, .slice none 0 0] T)) B (ownPs B N vs vf [] (.slice none 0 0) (.slice none 0 0)) := by
 subst hB
 have h0 := (Pcs.nil W W.heap.size).empty 49 3
 exact h0.new (Nat.le_refl _) #[.int .i64 N, vs, vf, .slice none 0 0] T
set_option maxRecDepth 20000 in
set_option maxHeartbeats 4000000 in
theorem own_any (hd : IsNfa w h a) (hl : a.arcs.length ≤ 1000) : Calls Tryz.prog 14 #[vNf a h] w (GivesN a w) := by
 obtain ⟨W1, hW1, hs1, hb1, hO⟩ := boxRN a h w hd
 obtain ⟨W2, hW2, hb2, hs2, hZ2⟩ := nbox_ready hs1
 have he := hd.3
 have hlen := he.length
 rw [hlen] at hl
 have HOB : Hid (∀ W, Below (w.heap.size + 2) W2 W → (W.cell? ⟨w.heap.size, 0, none⟩ = some (.int .i64 a.n) ∧ W.cell? ⟨w.heap.size, 1, none⟩ = some (.slice h.sa h.sl h.sc) ∧ W.cell? ⟨w.heap.size, 2, none⟩ = some (.slice h.fa h.fl h.fc) ∧ W.cell? ⟨w.heap.size, 3, none⟩ = some (.slice h.aa h.al h.ac)) ∧ IsNfa W h a ∧ W.heap[w.heap.size + 1]? = some (.cells #[.int .i64 0, .slice none 0 0, .slice none 0 0, .slice none 0 0] 43 (0, 0)) ∧ Below w.heap.size w W) := Lib.hid (fun W hb => by
  obtain ⟨h1, h2, h3⟩ := hO W ((hb2.mono (by omega)).trans (hb.mono (by omega)))
  exact ⟨h1, h2, by rw [hb.block _ (by omega)]; exact hZ2, h3⟩)
 obtain ⟨⟨c1, c2, c3, c4⟩, -, -, -⟩ := HOB.out W2 (Below.refl _ _)
 clear hO hb2 hb1 hZ2
 have HD0 := Lib.hid hd
 clear hd
 unfold vNf
 obtain ⟨N, ss, fin, es⟩ := a
 obtain ⟨sa, sl, sc, fa, fl, fc, aa, al, ac⟩ := h
 simp only [vNf] at hW1 hW2 HOB HD0 hl c1 c2 c3 c4 he hlen ⊢
 have HX := Lib.hid hlen
 have HS2 := Lib.hid hs2
 clear hlen
 obtain ⟨W3, hW3⟩ : ∃ W3, W2.alloc (.cells #[.int .i64 N, .slice sa sl sc, .slice fa fl fc, .slice none 0 0] 43) = W3 := ⟨_, rfl⟩
 have hP0 : Pcs W3 (w.heap.size + 2) (ownPs (w.heap.size + 2) N (.slice sa sl sc) (.slice fa fl fc) (es.take 0) (.slice none 0 0) (.slice none 0 0)) := by rw [← hW3]; exact ownPs_start hs2.symm _ _ _ _
 have hb3 : Below (w.heap.size + 2) W2 W3 := by rw [← hW3, ← hs2]; exact (Below.refl _ _).alloc (Nat.le_refl _) _
 have hs3 : w.heap.size + 3 ≤ W3.heap.size := by rw [← hW3, World.size_alloc, hs2]; exact Nat.le_refl _
 have HP0 := Lib.hid hP0
 have HB3 := Lib.hid hb3
 have HS3 := Lib.hid hs3
 have HE := Lib.hid he
 clear hP0 hb3 hs3 he
 subst hW3
 go_enter Tryz.func14, Tryz.ntmps14
 go_wp2_with (fail)
 obtain ⟨W3, hW3⟩ : ∃ W3, W2.alloc (.cells #[.int .i64 N, .slice sa sl sc, .slice fa fl fc, .slice none 0 0] 43) = W3 := ⟨_, rfl⟩
 rw [hW3] at HP0 HB3 HS3 ⊢
 clear hW3 hW1 hW2 c1 c2 c3 c4 hs2
 go_loopw [15] (fun c W => ∃ (k : Nat) (va : Option Addr) (ca : Nat), k ≤ al ∧ c = .int .i64 (k : Int) ∧ Below (w.heap.size + 2) W2 W ∧ w.heap.size + 3 ≤ W.heap.size ∧ Pcs W (w.heap.size + 2) (ownPs (w.heap.size + 2) N (.slice sa sl sc) (.slice fa fl fc) (es.take k) (.slice va k ca) (.slice va k ca))) (fun c _ => al - (intOf c).toNat)
 case atStart => exact ⟨0, none, 0, Nat.zero_le _, rfl, HB3.out, HS3.out, HP0.out⟩
 case round =>
  obtain ⟨k, va, ca, hk, rfl, hbr, hzr, hP⟩ := hrel
  rcases Nat.lt_or_ge k al with hlt | hge
  ·have t1 : decide ((k : Int) < al) = true := decide_eq_true (by omega)
   obtain ⟨b, off, rfl, hcell⟩ := HE.out.fix (by omega)
   obtain ⟨x1, x2, x3, hx⟩ : ∃ x1 x2 x3, g3 es k = ⟨x1, x2, x3⟩ := ⟨_, _, _, rfl⟩
   have HN : Hid (es.take (k + 1) = es.take k ++ [⟨x1, x2, x3⟩]) := Lib.hid (by rw [← hx]; exact take_succ_g3 _ _ (by rw [HX.out]; exact hlt))
   have hlk : (es.take k).length = k := by rw [List.length_take, HX.out]; omega
   have HC : Hid (∀ W, Below (w.heap.size + 2) W2 W → (W.cell? ⟨w.heap.size, 3, none⟩ = some (.slice (some ⟨b, off, none⟩) al ac)) ∧ W.cell? ⟨b, off + k * 3, none⟩ = some (.int .i64 x1) ∧ W.cell? ⟨b, off + k * 3 + 1, none⟩ = some (.int .i64 x2) ∧ W.cell? ⟨b, off + k * 3 + 2, none⟩ = some (.int .i64 x3)) := Lib.hid (fun W hb => by
    obtain ⟨⟨_, _, _, q4⟩, _, _, hbw⟩ := HOB.out W hb
    have h := hcell W hbw k hlt
    rw [hx] at h
    exact ⟨q4, h⟩)
   obtain ⟨ts, hts⟩ : ∃ ts, es.take k = ts := ⟨_, rfl⟩
   rw [hts] at HN hP hlk
   have HP := Lib.hid hP
   have HB := Lib.hid hbr
   have hkk : k ≤ 1000 := by omega
   have HLK := Lib.hid hlk
   clear hP hbr hx hcell hlk hts
   go_wp2_with (fail)
   obtain ⟨S, hSd⟩ : ∃ S : (Nat → Bool) → (Nat → Value) → World → Prop, S = fun L f W => Below (w.heap.size + 2) W2 W ∧ w.heap.size + 3 ≤ W.heap.size ∧ (L 7 = true → L 8 = false → ∃ q, f 7 = .slice (some ⟨q, 0, none⟩) 1 1 ∧ BlkAt W q #[.int .i64 x1, .int .i64 x2, .int .i64 x3]) ∧ Pcs W (w.heap.size + 2) (ownPs (w.heap.size + 2) N (.slice sa sl sc) (.slice fa fl fc) (if L 8 = true then ts ++ [⟨x1, x2, x3⟩] else ts) (if L 10 = true then f 8 else .slice va k ca) (if L 8 = true then f 8 else .slice va k ca)) := ⟨_, rfl⟩
   refine wp_region_st mixed (by kernel_rfl) [[], [(0, 18)], [], [(2, 20)], [], [(3, 21), (4, 22)], [(5, 23)], [(6, 24)], [(1, 19), (7, 25)], [(0, 18), (1, 19), (2, 20), (3, 21), (4, 22), (5, 23), (6, 24), (7, 25), (8, 26)], [(9, 27), (8, 26), (8, 26), (0, 18), (1, 19), (2, 20), (3, 21), (4, 22), (5, 23), (6, 24), (7, 25), (8, 26)]] [(0, 18), (1, 19), (2, 20), (3, 21), (4, 22), (5, 23), (6, 24), (7, 25), (8, 26), (9, 27)] rfl rfl [EV ?eo0, EV ?eo1, EV ?eo2, EV ?eo3, EV ?eo4, EV ?eo5, EV ?eo6, fun v => ∃ b, v = .slice (some ⟨b, 0, none⟩) 1 1, fun v => ∃ a c, v = .slice a (k + 1) c, EV ?eo9, fun _ => True] S ?ostart ?osteps ?orest
   case ostart =>
    intro f
    rw [hSd]
    exact ⟨HB.out.drew, hzr, fun h => (by cases h), HP.out.quiet (below_grows ((Below.refl _ _).drew) none)⟩
   case osteps =>
    refine ⟨fun L f W hi hd hdn hh hS => ?_, fun L f W hi hd hdn hh hS => ?_, fun L f W hi hd hdn hh hS => ?_, fun L f W hi hd hdn hh hS => ?_, fun L f W hi hd hdn hh hS => ?_, fun L f W hi hd hdn hh hS => ?_, fun L f W hi hd hdn hh hS => ?_, fun L f W hi hd hdn hh hS => ?_, fun L f W hi hd hdn hh hS => ?_, fun L f W hi hd hdn hh hS => ?_, fun L f W hi hd hdn hh hS => ?_, trivial⟩
    ·
     unfold stStep
     rw [if_pos (by simp [Region.wanted])]
     intro K Q hK
     simp only [puts, foldr_nil];go_step
     refine st_ex hK rfl rfl (by simp only [Act.put, setIfInBounds_toArray, set_cons_succ, set_cons_zero, Array.getD_eq_getD_getElem?, List.getElem?_toArray, List.getElem?_cons_succ, List.getElem?_cons_zero, Option.getD_some] <;> rfl) rfl (by rw [hSd] at hS ⊢; exact hS)
    ·
     obtain ⟨h0, -⟩ := hh;have g0 : f 0=_:=h0
     have l8 : L 8 = false := Bool.eq_false_iff.2 fun h => by have q := hdn 8 _ h rfl 1 (by decide); rw [show L 1 = false from hi] at q; cases q
     have l10 : L 10 = false := Bool.eq_false_iff.2 fun h => by have q := hdn 10 _ h rfl 8 (by decide); rw [show L 8 = false from l8] at q; cases q
     unfold stStep
     rw [if_pos (by simp [Region.wanted])]
     intro K Q hK
     simp only [puts, Za, Zb, Zc, Zd, Ze, g0]
     have hS' := hS
     rw [hSd] at hS'
     simp only [l8, l10, if_false, Bool.false_eq_true] at hS'
     have x1 : W.cell? ⟨w.heap.size + 2, 3, none⟩ = some (.slice va k ca) := ((hS'.2.2.2.blk 1 rfl).2.cell 3).1
     go_step
     refine st_ex hK rfl rfl (by simp only [Act.put, setIfInBounds_toArray, set_cons_succ, set_cons_zero, Array.getD_eq_getD_getElem?, List.getElem?_toArray, List.getElem?_cons_succ, List.getElem?_cons_zero, Option.getD_some] <;> rfl) rfl (by rw [hSd] at hS ⊢; exact hS)
    ·
     unfold stStep
     rw [if_pos (by simp [Region.wanted])]
     intro K Q hK
     simp only [puts, foldr_nil];go_step
     refine st_ex hK rfl rfl (by simp only [Act.put, setIfInBounds_toArray, set_cons_succ, set_cons_zero, Array.getD_eq_getD_getElem?, List.getElem?_toArray, List.getElem?_cons_succ, List.getElem?_cons_zero, Option.getD_some] <;> rfl) rfl (by rw [hSd] at hS ⊢; exact hS)
    ·
     obtain ⟨h2, -⟩ := hh;have g2 : f 2=_:=h2
     unfold stStep
     rw [if_pos (by simp [Region.wanted])]
     intro K Q hK
     simp only [puts, Za, Zb, Zc, Zd, Ze, g2]
     have hS' := hS
     rw [hSd] at hS'
     obtain ⟨q4, q1, q2, q3⟩ := HC.out W hS'.1
     go_step
     refine st_ex hK rfl rfl (by simp only [Act.put, setIfInBounds_toArray, set_cons_succ, set_cons_zero, Array.getD_eq_getD_getElem?, List.getElem?_toArray, List.getElem?_cons_succ, List.getElem?_cons_zero, Option.getD_some] <;> rfl) rfl (by rw [hSd] at hS ⊢; exact hS)
    ·
     unfold stStep
     rw [if_pos (by simp [Region.wanted])]
     intro K Q hK
     simp only [puts, foldr_nil];go_step
     refine st_ex hK rfl rfl (by simp only [Act.put, setIfInBounds_toArray, set_cons_succ, set_cons_zero, Array.getD_eq_getD_getElem?, List.getElem?_toArray, List.getElem?_cons_succ, List.getElem?_cons_zero, Option.getD_some] <;> rfl) rfl (by rw [hSd] at hS ⊢; exact hS)
    ·
     obtain ⟨h3, h4, -⟩ := hh;have g3 : f 3=_:=h3;have g4 : f 4=_:=h4
     unfold stStep
     rw [if_pos (by simp [Region.wanted])]
     intro K Q hK
     simp only [puts, Za, Zb, Zc, Zd, Ze, g3, g4];go_step
     refine st_ex hK rfl rfl (by simp only [Act.put, setIfInBounds_toArray, set_cons_succ, set_cons_zero, Array.getD_eq_getD_getElem?, List.getElem?_toArray, List.getElem?_cons_succ, List.getElem?_cons_zero, Option.getD_some] <;> rfl) rfl (by rw [hSd] at hS ⊢; exact hS)
    ·
     obtain ⟨h5, -⟩ := hh;have g5 : f 5=_:=h5
     unfold stStep
     rw [if_pos (by simp [Region.wanted])]
     intro K Q hK
     simp only [puts, Za, Zb, Zc, Zd, Ze, g5]
     have hS' := hS
     rw [hSd] at hS'
     obtain ⟨q4, q1, q2, q3⟩ := HC.out W hS'.1
     go_step
     refine st_ex hK rfl rfl (by simp only [Act.put, setIfInBounds_toArray, set_cons_succ, set_cons_zero, Array.getD_eq_getD_getElem?, List.getElem?_toArray, List.getElem?_cons_succ, List.getElem?_cons_zero, Option.getD_some] <;> rfl) rfl (by rw [hSd] at hS ⊢; exact hS)
    ·
     obtain ⟨h6, -⟩ := hh;have g6 : f 6=_:=h6
     have l8 : L 8 = false := Bool.eq_false_iff.2 fun h => by have q := hdn 8 _ h rfl 7 (by decide); rw [show L 7 = false from hi] at q; cases q
     have l10 : L 10 = false := Bool.eq_false_iff.2 fun h => by have q := hdn 10 _ h rfl 8 (by decide); rw [show L 8 = false from l8] at q; cases q
     unfold stStep
     rw [if_pos (by simp [Region.wanted])]
     intro K Q hK
     simp only [puts, Za, Zb, Zc, Zd, Ze, g6]
     rw [hSd] at hS hK
     have l7 : L 7 = false := hi
     try simp only [stage, l8, l10, l7, if_true, if_false, Bool.false_eq_true] at hS
     obtain ⟨hbW, hzW, -, hPW⟩ := hS
     have hal : Below W.heap.size W (W.alloc (.cells #[.int .i64 x1, .int .i64 x2, .int .i64 x3] 49)) := (Below.refl _ _).alloc (Nat.le_refl _) _
     go_step
     refine hK.out _ _ rfl ⟨_, rfl⟩ ?_
     refine ⟨hbW.alloc (by omega) _, by simp; omega, fun _ _ => ⟨_, rfl, BlkAt.new W _ _⟩, ?_⟩
     simp only [l8, l10, Bool.false_eq_true, ↓reduceIte, Nat.reduceEqDiff] at hPW ⊢
     exact hPW.quiet (below_grows hal none)
    ·
     obtain ⟨h1, h7, -⟩ := hh;have g1 : f 1=_:=h1
     obtain ⟨b7, (g7 : f 7 = _)⟩ := h7
     have l7 : L 7 = true := hd 7 (by decide)
     have l10 : L 10 = false := Bool.eq_false_iff.2 fun h => by have q := hdn 10 _ h rfl 8 (by decide); rw [show L 8 = false from hi] at q; cases q
     unfold stStep
     rw [if_pos (by simp [Region.wanted])]
     intro K Q hK
     simp only [puts, Za, Zb, Zc, Zd, Ze, g1, g7]
     rw [hSd] at hS hK
     have l8 : L 8 = false := hi
     try simp only [stage, l10, l8, l7, if_true, if_false, Bool.false_eq_true] at hS
     obtain ⟨hbW, hzW, h7, hPW⟩ := hS
     obtain ⟨q, e7, hq⟩ := h7 trivial trivial
     rw [g7] at e7
     obtain rfl : b7 = q := by simpa using e7
     try simp only [l8, l10, if_false, Bool.false_eq_true] at hPW
     refine wp_app_pcs elA _ _ rfl 0 (v := .slice va k ca) (n := k) rfl hPW (by rw [← HLK.out]; rfl) (news := [.int .i64 x1, .int .i64 x2, .int .i64 x3]) rfl ⟨rfl, fun ad e i u hi => by injection e with e; subst e; rw [addr_add, Nat.zero_add, (hq.cell i).1, ← hi]; simp, fun e => by cases e⟩ (by intro u hu; simp only [List.mem_cons, List.not_mem_nil, or_false] at hu; rcases hu with rfl | rfl | rfl <;> rfl) (by omega) (by omega) ?_
     intro a' c' w' hp' hbw
     refine hK.out _ _ rfl ⟨a', c', rfl⟩ ?_
     refine ⟨hbW.trans hbw, Nat.le_trans hzW hbw.size, fun _ h => (by simp at h), ?_⟩
     simp only [l10, Bool.false_eq_true, ↓reduceIte, Nat.reduceEqDiff]
     have e1 : (ts ++ [(⟨x1, x2, x3⟩ : A3)]).length = k + 1 := by rw [List.length_append, HLK.out]; rfl
     unfold ownPs
     rw [e1, tvs_append]
     exact hp'
    ·
     obtain ⟨h0, h1, h2, h3, h4, h5, h6, h7, h8, -⟩ := hh;have g0 : f 0=_:=h0;have g1 : f 1=_:=h1;have g2 : f 2=_:=h2;have g3 : f 3=_:=h3;have g4 : f 4=_:=h4;have g5 : f 5=_:=h5;have g6 : f 6=_:=h6
     obtain ⟨b7, (g7 : f 7 = _)⟩ := h7
     obtain ⟨a8, c8, (g8 : f 8 = _)⟩ := h8
     unfold stStep
     rw [if_pos (by simp [Region.wanted])]
     intro K Q hK
     simp only [puts, Za, Zb, Zc, Zd, Ze, g0, g1, g2, g3, g4, g5, g6, g7, g8];go_step
     refine st_ex hK rfl rfl (by simp only [Act.put, setIfInBounds_toArray, set_cons_succ, set_cons_zero, Array.getD_eq_getD_getElem?, List.getElem?_toArray, List.getElem?_cons_succ, List.getElem?_cons_zero, Option.getD_some] <;> rfl) rfl (by rw [hSd] at hS ⊢; exact hS)
    ·
     obtain ⟨h9, h8, _, h0, h1, h2, h3, h4, h5, h6, h7, _, -⟩ := hh;have g9 : f 9=_:=h9
     obtain ⟨a8, c8, (g8 : f 8 = _)⟩ := h8
     have g0 : f 0=_:=h0;have g1 : f 1=_:=h1;have g2 : f 2=_:=h2;have g3 : f 3=_:=h3;have g4 : f 4=_:=h4;have g5 : f 5=_:=h5;have g6 : f 6=_:=h6
     obtain ⟨b7, (g7 : f 7 = _)⟩ := h7
     have l8 : L 8 = true := hd 8 (by decide)
     unfold stStep
     rw [if_pos (by simp [Region.wanted])]
     intro K Q hK
     simp only [puts, Za, Zb, Zc, Zd, Ze, g9, g8, g0, g1, g2, g3, g4, g5, g6, g7]
     rw [hSd] at hS hK
     have l10 : L 10 = false := hi
     try simp only [stage, l10, l8, if_true, if_false, Bool.false_eq_true] at hS
     obtain ⟨hbW, hzW, -, hPW⟩ := hS
     have l8' : L 8 = true := hd 8 (by decide)
     simp only [l8', l10, if_false, if_true, Bool.false_eq_true, g8] at hPW
     have y1 := ((hPW.blk 1 rfl).2.cell 3)
     have y2 : W.cell? ⟨w.heap.size + 2, 3, none⟩ = some (.slice va k ca) := y1.1
     have y3 := y1.2
     go_step
     refine hK.out _ _ rfl trivial ?_
     refine ⟨hbW.setCell (p := ⟨w.heap.size + 2, 3, none⟩) (Nat.le_refl _) _, by rw [World.size_setCell]; exact hzW, fun _ h => (by simp [l8'] at h), ?_⟩
     simp only [l8', ↓reduceIte, Nat.reduceEqDiff, g8]
     exact hPW.blkStore 1 rfl 3 _
   case orest =>
    intro L f WD hL hh hS
    rw [hSd] at hS
    clear hSd
    have l7 : L 7 = true := hL 7 (by decide)
    have l8 : L 8 = true := hL 8 (by decide)
    have l10 : L 10 = true := hL 10 (by decide)
    simp only [stage, l7, l8, l10, if_true] at hS
    clear hL l7 l8 l10
    obtain ⟨h0, h1, h2, h3, h4, h5, h6, h7, h8, h9, -⟩ := hh;have g0 : f 0=_:=h0;have g1 : f 1=_:=h1;have g2 : f 2=_:=h2;have g3 : f 3=_:=h3;have g4 : f 4=_:=h4;have g5 : f 5=_:=h5;have g6 : f 6=_:=h6
    obtain ⟨b7, (g7 : f 7 = _)⟩ := h7
    obtain ⟨a8, c8, (g8 : f 8 = _)⟩ := h8
    have g9 : f 9=_:=h9;simp only [puts, Za, Zb, Zc, Zd, Ze, g0, g1, g2, g3, g4, g5, g6, g7, g8, g9]
    clear h0 h1 h2 h3 h4 h5 h6 h9 g0 g1 g2 g3 g4 g5 g6 g9
    simp only [g8] at hS
    obtain ⟨hbD, hzD, -, hPD⟩ := hS
    rw [← HN.out] at hPD
    have HPD := Lib.hid hPD
    clear hPD
    go_wp2_with (fail)
    go_roundw
    case rel => exact ⟨k + 1, a8, c8, hlt, by go_num, hbD, hzD, HPD.out⟩
    case measure => simp [intOf]; omega
  ·have t1 : decide ((k : Int) < al) = false := decide_eq_false (by omega)
   obtain rfl : k = al := by omega
   rw [List.take_of_length_le (by rw [HX.out]; exact Nat.le_refl _)] at hP
   obtain ⟨-, hdW, hZW, hbw⟩ := HOB.out wr hbr
   have hI : IsArcs wr va k ca es := (IsArcs.of_owns (hP.row 0 rfl)).1
   have hB1 := (hP.blk 1 rfl).2
   have e1 : wr.cell? ⟨w.heap.size + 2, 0, none⟩ = some (.int .i64 N) := (hB1.cell 0).1
   have e2 : wr.cell? ⟨w.heap.size + 2, 1, none⟩ = some (.slice sa sl sc) := (hB1.cell 1).1
   have e3 : wr.cell? ⟨w.heap.size + 2, 2, none⟩ = some (.slice fa fl fc) := (hB1.cell 2).1
   have e4 : wr.cell? ⟨w.heap.size + 2, 3, none⟩ = some (.slice va k ca) := (hB1.cell 3).1
   have HIA := Lib.hid hI
   have HZ := Lib.hid hZW
   have HBW := Lib.hid hbw
   clear hP hdW hI hB1 hZW hbw
   go_wp2_with (show wpList _ _ _ (⟨_, .store 43 _ _, _, _, _, _⟩ :: _) _ _; refine wpList_store_row rfl 43 _ _ rfl (w.heap.size + 1) #[.int .i64 N, .slice sa sl sc, .slice fa fl fc, .slice va k ca] rfl rfl _ _ HZ.out nfa_i rfl (nfa_one _ _ _ _ _ _ _ _ _ _) ?_)
   refine bodyPost_ret (results_cell_row rfl _ _ (w.heap.size + 1) _ _ _ _ rfl (setRow_heap _ _ _ _ _ _ HZ.out) Tryz.underlying43 rfl nfa_i) rfl ?_
   have hbf := below_setRow HBW.out (show w.heap.size ≤ w.heap.size + 1 by omega) #[.int .i64 N, .slice sa sl sc, .slice fa fl fc, .slice va k ca]
   have hdf := HD0.out.later hbf
   exact ⟨⟨⟨sa, sl, sc, fa, fl, fc, va, k, ca⟩, rfl, ⟨hdf.1, hdf.2, arcs_bx HZ.out HIA.out⟩⟩, hbf⟩
end Go.Proofs.YtbjdglopkpigbaaGreatDoor.Na
namespace Go.Proofs.YtbjdglopkpigbaaGreatDoor.Na
open Go.RowKit
attribute [local go_sem] Oper.semAt_some
theorem boxRA (x : A3) (w : World) :
  Below w.heap.size w (w.alloc (.cells #[.int .i64 x.f, .int .i64 x.l, .int .i64 x.t] 50)) ∧ (w.alloc (.cells #[.int .i64 x.f, .int .i64 x.l, .int .i64 x.t] 50)).heap.size = w.heap.size + 1 ∧
  ∀ W, Below (w.heap.size + 1) (w.alloc (.cells #[.int .i64 x.f, .int .i64 x.l, .int .i64 x.t] 50)) W → W.cell? ⟨w.heap.size, 0, none⟩ = some (.int .i64 x.f) ∧ W.cell? ⟨w.heap.size, 1, none⟩ = some (.int .i64 x.l) ∧ W.cell? ⟨w.heap.size, 2, none⟩ = some (.int .i64 x.t) := by
 refine ⟨(Below.refl _ _).alloc (Nat.le_refl _) _, by simp, fun W hb => ?_⟩
 have := hb.block w.heap.size (Nat.lt_succ_self _)
 rw [heap_alloc_new] at this
 exact ⟨cell_of_row W _ 0 _ _ _ this, cell_of_row W _ 1 _ _ _ this, cell_of_row W _ 2 _ _ _ this⟩
set_option maxRecDepth 20000 in
theorem before_any (x y : A3) (w : World) : Calls Tryz.prog 27 #[vA x, vA y] w fun e w' => e = .returned (.bool (decide (LtN x y))) ∧ Below w.heap.size w w' := by
 obtain ⟨V, hV⟩ : ∃ V, decide (LtN x y) = V := ⟨_, rfl⟩
 rw [hV]
 have HV := Lib.hid hV
 clear hV
 obtain ⟨x1, x2, x3⟩ := x
 obtain ⟨y1, y2, y3⟩ := y
 obtain ⟨hb1, hs1, hX⟩ := boxRA ⟨x1, x2, x3⟩ w
 obtain ⟨W1, hW1⟩ : ∃ W1, w.alloc (.cells #[.int .i64 x1, .int .i64 x2, .int .i64 x3] 50) = W1 := ⟨_, rfl⟩
 simp only at hb1 hs1 hX
 rw [hW1] at hb1 hs1 hX
 obtain ⟨hb2, hs2, hY⟩ := boxRA ⟨y1, y2, y3⟩ W1
 obtain ⟨W2, hW2⟩ : ∃ W2, W1.alloc (.cells #[.int .i64 y1, .int .i64 y2, .int .i64 y3] 50) = W2 := ⟨_, rfl⟩
 simp only at hb2 hs2 hY
 rw [hW2] at hb2 hs2 hY
 have hB : Below w.heap.size w W2 := hb1.trans (hb2.mono (by omega))
 obtain ⟨f1, f2, f3⟩ := hX W2 (hb2.mono (by omega))
 obtain ⟨k1, k2, k3⟩ := hY W2 (Below.refl _ _)
 rw [hs1] at k1 k2 k3
 unfold vA
 clear hX hY hb1 hb2
 by_cases h1 : x1 = y1
 ·have t1 : (x1 != y1) = false := by simp [h1]
  by_cases h2 : x2 = y2
  ·have t2 : (x2 != y2) = false := by simp [h2]
   have HD : Hid (decide (x3 < y3) = V) := Lib.hid (by rw [← HV.out]; exact decide_eq_decide.2 (by unfold LtN; simp only; omega))
   clear h1 h2
   go_enter Tryz.func27, Tryz.ntmps27
   go_wp2
   go_ret
   exact ⟨by rw [← HD.out]; rfl, hB⟩
  ·have t2 : (x2 != y2) = true := by simp; omega
   have HD : Hid (decide (x2 < y2) = V) := Lib.hid (by rw [← HV.out]; exact decide_eq_decide.2 (by unfold LtN; simp only; omega))
   clear h1 h2
   go_enter Tryz.func27, Tryz.ntmps27
   go_wp2
   go_ret
   exact ⟨by rw [← HD.out]; rfl, hB⟩
 ·have t1 : (x1 != y1) = true := by simp; omega
  have HD : Hid (decide (x1 < y1) = V) := Lib.hid (by rw [← HV.out]; exact decide_eq_decide.2 (by unfold LtN; simp only; omega))
  clear h1
  go_enter Tryz.func27, Tryz.ntmps27
  go_wp2
  go_ret
  exact ⟨by rw [← HD.out]; rfl, hB⟩
end Go.Proofs.YtbjdglopkpigbaaGreatDoor.Na
