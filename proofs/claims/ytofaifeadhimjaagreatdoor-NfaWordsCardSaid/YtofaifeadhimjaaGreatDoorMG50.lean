import Derived.Test.YtofaifeadhimjaaGreatDoorMG38
import Derived.Test.YtofaifeadhimjaaGreatDoorMG41
import Derived.Test.YtofaifeadhimjaaGreatDoorMG44
import Derived.Test.YtofaifeadhimjaaGreatDoorMG46
import Derived.Test.YtofaifeadhimjaaGreatDoorMG48
import Derived.Test.YtofaifeadhimjaaGreatDoorMG49
/-
  NfaWd, NfaWordsW
-/
set_option linter.unusedSimpArgs false
set_option linter.unusedVariables false
namespace Go.Proofs.YtofaifeadhimjaaGreatDoor
open List (foldr_cons foldr_nil setIfInBounds_toArray set_cons_succ set_cons_zero)
open Go.RowKit
attribute [local go_sem] Oper.semAt_some

def shPs (vS vW : Value) (ss ws : List Wd) (X : List Pc) : List Pc := .row 22 1 vS ss.length (ss.map Wd.v) :: .row 22 1 vW ws.length (ws.map Wd.v) :: (ss.map Wd.pc ++ (ws.map Wd.pc ++ X))
section
variable {W W' : World} {B c : Nat} {a : Option Addr} {vS vW : Value} {ss ws : List Wd} {X : List Pc}
theorem sh_start {x : Wd} (hx : Pc.At W B x.pc) (hB : B ≤ W.heap.size) : Pcs ((W.alloc (.cells #[x.v] 22)).alloc (.cells #[.slice none 0 0] 22)) B (shPs (.slice (some ⟨W.heap.size, 0, none⟩) 1 1) (.slice (some ⟨W.heap.size + 1, 0, none⟩) 1 1) [x] [⟨none, 0, []⟩] []) := by
 have h1 : Pcs W B [x.pc] := Pcs.one hx
 have h2 := h1.add (W' := W.alloc (.cells #[x.v] 22)) (.row 22 1 (.slice (some ⟨W.heap.size, 0, none⟩) 1 1) 1 [x.v]) (below_grows ((Below.refl _ _).alloc (Nat.le_refl _) _) none) (World.ownsRow_lit W #[x.v] 1 hB (by unfold maxLen; omega) rfl) (fun j e => by have e : some W.heap.size = some j := e; injection e with e; omega)
 have h3 := h2.add (W' := (W.alloc (.cells #[x.v] 22)).alloc (.cells #[.slice none 0 0] 22)) (.row 22 1 (.slice (some ⟨(W.alloc (.cells #[x.v] 22)).heap.size, 0, none⟩) 1 1) 1 [.slice none 0 0]) (below_grows ((Below.refl _ _).alloc (Nat.le_refl _) _) none) (World.ownsRow_lit _ #[.slice none 0 0] 1 (by simp; omega) (by unfold maxLen; omega) rfl) (fun j e => by have e : some (W.alloc (.cells #[x.v] 22)).heap.size = some j := e; injection e with e; omega)
 have h4 := h3.empty 3 1
 rw [World.size_alloc] at h4
 refine h4.turn ?_
 exact (List.perm_append_comm (l₁ := [x.pc]) (l₂ := [_, _])).append_right [_]
theorem sh_add {p : Pc} (hP : Pcs W B (shPs vS vW ss ws X)) (hb : Below W.heap.size W W') (h0 : p.At W' B) (hk : ∀ k, p.own = some k → W.heap.size ≤ k) : Pcs W' B (shPs vS vW ss ws (X ++ [p])) := by
 have h := hP.add p (below_grows hb none) h0 hk
 unfold shPs at h ⊢
 rw [List.cons_append, List.cons_append, List.append_assoc, List.append_assoc] at h
 exact h
theorem sh_memS (hP : Pcs W B (shPs vS vW ss ws X)) {x : Wd} (hx : x ∈ ss) : Pc.At W B x.pc := (pcsIff.1 hP).1 _ (List.mem_cons_of_mem _ (List.mem_cons_of_mem _ (List.mem_append_left _ (List.mem_map_of_mem hx))))
theorem sh_memW (hP : Pcs W B (shPs vS vW ss ws X)) {x : Wd} (hx : x ∈ ws) : Pc.At W B x.pc := (pcsIff.1 hP).1 _ (List.mem_cons_of_mem _ (List.mem_cons_of_mem _ (List.mem_append_right _ (List.mem_append_left _ (List.mem_map_of_mem hx)))))
theorem sh_memX (hP : Pcs W B (shPs vS vW ss ws X)) {p : Pc} (hx : p ∈ X) : p.At W B := (pcsIff.1 hP).1 _ (List.mem_cons_of_mem _ (List.mem_cons_of_mem _ (List.mem_append_right _ (List.mem_append_right _ hx))))
theorem wd_cell {vs : List Wd} {E g : Nat} (hr : W.ownsRow B E 1 (.slice (some ⟨g, 0, none⟩) vs.length c) vs.length (vs.map Wd.v)) {k : Nat} (hk : k < vs.length) : W.cell? ⟨g, k, none⟩ = some (.slice (gwd vs k).a (gwd vs k).z.length (gwd vs k).c) := by
 rcases row_cap hr with ⟨h1, _⟩ | ⟨g', h1, _, _, h4⟩
 ·omega
 ·injection h1 with h1
  injection h1 with h1
  subst h1
  rw [h4 k hk, List.getElem?_map, List.getElem?_eq_getElem hk, gwd_eq vs k hk]
  rfl
theorem sh_cellS {g : Nat} (hP : Pcs W B (shPs (.slice (some ⟨g, 0, none⟩) ss.length c) vW ss ws X)) {k : Nat} (hk : k < ss.length) : W.cell? ⟨g, k, none⟩ = some (.slice (gwd ss k).a (gwd ss k).z.length (gwd ss k).c) ∧ IsInts .i64 W (gwd ss k).a (gwd ss k).z.length (gwd ss k).c (gwd ss k).z :=
 ⟨wd_cell (hP.row 0 rfl) hk, Wd.ints (sh_memS hP (gwd_mem hk))⟩
theorem sh_cellW {g : Nat} (hP : Pcs W B (shPs vS (.slice (some ⟨g, 0, none⟩) ws.length c) ss ws X)) {k : Nat} (hk : k < ws.length) : W.cell? ⟨g, k, none⟩ = some (.slice (gwd ws k).a (gwd ws k).z.length (gwd ws k).c) ∧ IsInts .i64 W (gwd ws k).a (gwd ws k).z.length (gwd ws k).c (gwd ws k).z :=
 ⟨wd_cell (hP.row 1 rfl) hk, Wd.ints (sh_memW hP (gwd_mem hk))⟩
theorem sh_sub {X' : List Pc} (hP : Pcs W B (shPs vS vW ss ws X)) (hs : X'.Sublist X) : Pcs W B (shPs vS vW ss ws X') :=
 hP.subw (.cons_cons _ (.cons_cons _ ((List.Sublist.refl _).append ((List.Sublist.refl _).append hs))))
theorem sh_pushS {x : Wd} {a' : Option Addr} {c' : Nat} (hP : Pcs W B ((shPs vS vW ss ws (X ++ [x.pc])).set 0 (.row 22 1 (.slice a' (ss.length + 1) c') (ss.length + 1) (ss.map Wd.v ++ [x.v])))) : Pcs W B (shPs (.slice a' (ss.length + 1) c') vW (ss ++ [x]) ws X) := by
 refine hP.turn ?_
 unfold shPs
 rw [List.map_append, List.map_append, List.length_append, set_cons_zero]
 refine .cons _ (.cons _ ?_)
 rw [List.append_assoc]
 refine List.Perm.append_left _ ?_
 rw [← List.append_assoc]
 exact List.perm_append_comm
theorem sh_pushW {x : Wd} {a' : Option Addr} {c' : Nat} (hP : Pcs W B ((shPs vS vW ss ws (X ++ [x.pc])).set 1 (.row 22 1 (.slice a' (ws.length + 1) c') (ws.length + 1) (ws.map Wd.v ++ [x.v])))) : Pcs W B (shPs vS (.slice a' (ws.length + 1) c') ss (ws ++ [x]) X) := by
 refine hP.turn ?_
 unfold shPs
 rw [List.map_append, List.map_append, List.length_append, set_cons_succ, set_cons_zero]
 refine .cons _ (.cons _ (List.Perm.append_left _ ?_))
 rw [List.append_assoc]
 exact List.Perm.append_left _ List.perm_append_comm
end
theorem minusO_any {w : World} {a a' : Option Addr} {c c' : Nat} {xs ys : List Int} (hs : IsInts .i64 w a xs.length c xs) (hl : xs.length ≤ 1000000) (hs' : IsInts .i64 w a' ys.length c' ys) (hl' : ys.length ≤ 1000000) :
  Calls Tryz.prog 30 #[.slice a xs.length c, .slice a' ys.length c'] w (GivesR (xs.filter (fun x => !decide (x ∈ ys))) w) := by
 refine (Bt.refMinus_any _ _ _ _ _ _ _ _ _ hs hl hs' (by omega)).mono ?_
 rintro e w' ⟨a3, n3, c3, rfl, ho, hb⟩
 obtain rfl := Bt.owns_len ho
 exact ⟨⟨a3, c3, rfl, ho⟩, hb⟩
theorem unionO_any {w : World} {a a' : Option Addr} {c c' : Nat} {xs ys : List Int} (hs : IsInts .i64 w a xs.length c xs) (hl : xs.length ≤ 100000) (hs' : IsInts .i64 w a' ys.length c' ys) (hl' : ys.length ≤ 100000) :
  Calls Tryz.prog 31 #[.slice a xs.length c, .slice a' ys.length c'] w (GivesR (ys.foldl Bt.withL xs) w) := by
 refine (Bt.refUnion_any _ _ _ _ _ _ _ _ _ hs hs' hl hl').mono ?_
 rintro e w' ⟨a3, n3, c3, rfl, ho, hb⟩
 obtain rfl := Bt.owns_len ho
 exact ⟨⟨a3, c3, rfl, ho⟩, hb⟩
set_option maxRecDepth 20000 in
set_option maxHeartbeats 4000000 in
theorem refShortest_no {a : Nfa} {h : NH} {w : World} (hv : ¬ ValidN a) (hd : IsNfa w h a) :
  Calls Tryz.prog 10 #[vNf a h] w (GivesSh a w) := by
 obtain ⟨W1, hW1, hs1, hb1, hO⟩ := boxRN a h w hd
 have HO := Lib.hid hO
 have HS := Lib.hid hs1
 have HB1 := Lib.hid hb1
 obtain ⟨⟨c1, c2, c3, c4⟩, hd1, -⟩ := hO W1 (Below.refl _ _)
 have hle := refLetters_any hd1
 rw [show letV a = [] by unfold letV; rw [vN_no hv]; rfl, show vE a = 1 by unfold vE; rw [vN_no hv]; rfl] at hle
 have HR := Lib.hid (sh_no hv)
 unfold vNf at hle ⊢
 clear hd hO hd1 hb1 hv
 go_enter Tryz.func10, Tryz.ntmps10
 go_wp2_with (go_at_call 29; refine hle.mono ?_; rintro e w3 ⟨⟨aL, cL, rfl, hiL⟩, hb3⟩; have HB3 := Lib.hid hb3; clear hiL hb3)
 go_ret2
 unfold GivesSh
 rw [HR.out.1, HR.out.2]
 exact ⟨⟨none, 0, rfl, .inl ⟨rfl, rfl, rfl, rfl⟩⟩, HB1.out.trans (HB3.out.mono (by have := HS.out; omega))⟩
set_option maxRecDepth 20000 in
set_option maxHeartbeats 16000000 in
theorem refShortest_yes {a : Nfa} {h : NH} {w : World} (hv : ValidN a) (hd : IsNfa w h a) :
  Calls Tryz.prog 10 #[vNf a h] w (GivesSh a w) := by
 obtain ⟨W1, hW1, hs1, hb1, hO⟩ := boxRN a h w hd
 have HO := Lib.hid hO
 have HS := Lib.hid hs1
 obtain ⟨⟨c1, c2, c3, c4⟩, hd1, -⟩ := hO W1 (Below.refl _ _)
 have hle := refLetters_any hd1
 rw [show letV a = letL a.arcs by unfold letV; rw [vN_yes hv]; rfl, show vE a = 0 by unfold vE; rw [vN_yes hv]; rfl] at hle
 have HV := Lib.hid hv
 have hln := letL_len' a.arcs
 have hall := ShI.all hv (letL_asc a.arcs)
 have g0 : shk a.arcs a.s (letL a.arcs) 0 = ⟨[cloL a.arcs a.s], [[]]⟩ := shk_zero _ _ _
 have g1 := inS_zero a
 have g2 := fun k j (hj : j < (letL a.arcs).length) => inS_succ (a := a) (k := k) hj
 have g3 := fun k => inS_full (a := a) (k := k)
 have g3' := fun k => shk_stay (a := a) (k := k)
 have g4 := shk_le hv
 have g4' := fun k j (hk : k < (shk a.arcs a.s (letL a.arcs) k).sets.length) (hf : freshN (shk a.arcs a.s (letL a.arcs) k).sets k ≠ []) => Nat.le_trans (inS_last (j := j) hk hf).length_le (g4 (k + 1))
 have g5 := fun k => (hall k).len
 have g6 := inS_pre a
 have g6' := shk_pre a
 have g7 := fun k => (hall k).bd
 have g8 := fun k => (hall k).short
 have g11 := shk_asc a.arcs a.s (letL a.arcs)
 have g9 : ∀ k, k < (shk a.arcs a.s (letL a.arcs) k).sets.length → (∀ j, j < k → finL a.fin (gw (shk a.arcs a.s (letL a.arcs) k).sets j) = false) → finL a.fin (gw (shk a.arcs a.s (letL a.arcs) k).sets k) = true → shW a = gw (shk a.arcs a.s (letL a.arcs) k).words k ∧ shX a = 0 := fun k h1 h2 h3 => sh_some hv ((hall k).found hv h1 h2 h3)
 have g10 : ∀ k, (shk a.arcs a.s (letL a.arcs) k).sets.length ≤ k → (∀ j, j < k → finL a.fin (gw (shk a.arcs a.s (letL a.arcs) k).sets j) = false) → shW a = [] ∧ shX a = 8 := fun k h1 h2 => sh_none hv fun u hu => (hall k).none hv h1 h2 u ((accF_clo hv.arcsIn hv.startIn).1 hu)
 obtain ⟨SK, hSK⟩ : ∃ SK, shk a.arcs a.s (letL a.arcs) = SK := ⟨_, rfl⟩
 obtain ⟨IS, hIS⟩ : ∃ IS, inS a = IS := ⟨_, rfl⟩
 rw [hSK] at g0 g1 g2 g3 g3' g4 g4' g5 g6 g6' g7 g8 g9 g10 g11
 rw [hIS] at g1 g2 g3 g4' g6
 obtain ⟨LT, hLT⟩ : ∃ LT, letL a.arcs = LT := ⟨_, rfl⟩
 rw [hLT] at hle hln g2 g3
 obtain ⟨LN, hLN⟩ : ∃ LN, LT.length = LN := ⟨_, rfl⟩
 unfold GivesLE at hle
 rw [hLN] at hle hln g2 g3
 have G1 := Lib.hid g1
 have G2 := Lib.hid g2
 have G3 := Lib.hid g3
 have G3' := Lib.hid g3'
 have G4 := Lib.hid g4
 have G4' := Lib.hid g4'
 have G5 := Lib.hid g5
 have G6 := Lib.hid g6
 have G6' := Lib.hid g6'
 have G7 := Lib.hid g7
 have G8 := Lib.hid g8
 have G9 := Lib.hid g9
 have G10 := Lib.hid g10
 have G11 := Lib.hid g11
 have HLL := Lib.hid hln
 have hsl : h.sl ≤ 100000 := by
  have h1 := bd_len hv.startAsc hv.startIn
  have h2 := hv.1
  rw [hd.start.length] at h1
  omega
 have HCF : Hid (∀ W (hd : IsNfa W h a), Calls Tryz.prog 23 #[vNf a h, .slice h.sa h.sl h.sc] W (GivesR (cloL a.arcs a.s) W)) := Lib.hid (fun W hd => closureO_any HV.out hd hd.start HV.out.startIn hsl)
 obtain ⟨C0, hC0⟩ : ∃ C, cloL a.arcs a.s = C := ⟨_, rfl⟩
 rw [hC0] at HCF g0
 have G0 := Lib.hid g0
 unfold vNf at hle HCF ⊢
 clear hO hd1 hC0 g0 g1 g2 g3 g3' g4 g4' g5 g6 g6' g7 g8 g9 g10 g11 hSK hIS hLT hLN hall hln hsl hd hv
 go_enter Tryz.func10, Tryz.ntmps10
 go_wp2_with (go_at_call 29; refine hle.mono ?_; rintro e w3 ⟨⟨aL, cL, rfl, hiL⟩, hb3⟩; have HB3 : Hid (Below (w.heap.size + 1) W1 w3) := Lib.hid (hb3.mono (by rw [HS.out]; exact Nat.le_refl _)); obtain ⟨⟨k1, k2, k3, k4⟩, hd3, -⟩ := HO.out w3 HB3.out; have HD3 := Lib.hid hd3; have HIL := Lib.hid hiL; clear hb3 c1 c2 c3 c4 hd3 hiL)
 refine (HCF.out _ HD3.out).mono ?_
 rintro e w4 ⟨⟨a4, c4, rfl, ho4⟩, hb4⟩
 obtain ⟨wo, hwo⟩ : ∃ wo, wo = w3 := ⟨w3, rfl⟩
 subst hwo
 have hB2 : w.heap.size + 1 ≤ wo.heap.size := by have := HB3.out.size; rw [HS.out] at this; exact this
 have HB2 := Lib.hid hB2
 have HO3 : Hid (∀ W, Below wo.heap.size wo W → (W.cell? ⟨w.heap.size, 0, none⟩ = some (.int .i64 a.n) ∧ W.cell? ⟨w.heap.size, 1, none⟩ = some (.slice h.sa h.sl h.sc) ∧ W.cell? ⟨w.heap.size, 2, none⟩ = some (.slice h.fa h.fl h.fc) ∧ W.cell? ⟨w.heap.size, 3, none⟩ = some (.slice h.aa h.al h.ac)) ∧ IsNfa W h a ∧ Below w.heap.size w W ∧ IsInts .i64 W aL LN cL LT) := Lib.hid (fun W hW => by
  obtain ⟨q1, q2, q3⟩ := HO.out W (HB3.out.trans (hW.mono HB2.out))
  exact ⟨q1, q2, q3, HIL.out.later hW⟩)
 have hP0 := sh_start (x := ⟨a4, c4, C0⟩) ho4 hb4.size
 obtain ⟨G, hG⟩ : ∃ G, w4.heap.size = G := ⟨_, rfl⟩
 simp only [Wd.v] at hP0
 rw [hG] at hP0
 obtain ⟨X, hX⟩ : ∃ X, (w4.alloc (.cells #[.slice a4 C0.length c4] 22)).alloc (.cells #[.slice none 0 0] 22) = X := ⟨_, rfl⟩
 have hbX : Below wo.heap.size wo X := by rw [← hX]; exact (hb4.alloc hb4.size _).alloc (by simp; have := hb4.size; omega) _
 rw [hX] at hP0
 have HX := Lib.hid hX
 have HP0 : Hid (Pcs X wo.heap.size (shPs (.slice (some ⟨G, 0, none⟩) 1 1) (.slice (some ⟨G + 1, 0, none⟩) 1 1) [⟨a4, c4, C0⟩] [⟨none, 0, []⟩] [Wd.pc ⟨none, 0, []⟩])) := Lib.hid (by
  have h1 := hP0.empty 3 1
  exact h1)
 have HBX := Lib.hid hbX
 clear hX hP0 hbX hb4 ho4 hle k1 k2 k3 k4 hW1 hs1 hB2
 go_upto_region 6 with (fail)
 rw [HX.out]
 clear hG
 go_wp2_with (fail)
 go_loopw [6, 7, 8, 9] (fun vS vW vN c W => ∃ (k : Nat) (aS : Option Addr) (cS : Nat) (aW : Option Addr) (cW : Nat) (aN : Option Addr) (cN : Nat) (ss ws : List Wd), k ≤ ss.length ∧ c = .int .i64 (k : Int) ∧ vS = .slice aS ss.length cS ∧ vW = .slice aW ws.length cW ∧ vN = .slice aN (seenN (SK k).sets k).length cN ∧ ss.map Wd.z = (SK k).sets ∧ ws.map Wd.z = (SK k).words ∧ Hid (∀ j, j < k → finL a.fin (gw (SK k).sets j) = false) ∧ Below wo.heap.size wo W ∧ Pcs W wo.heap.size (shPs (.slice aS ss.length cS) (.slice aW ws.length cW) ss ws [Wd.pc ⟨aN, cN, seenN (SK k).sets k⟩])) (fun _ _ _ c _ => 400002 - (intOf c).toNat)
 case atStart =>
  refine ⟨0, some ⟨G, 0, none⟩, 1, some ⟨G + 1, 0, none⟩, 1, none, 0, [⟨a4, c4, C0⟩], [⟨none, 0, []⟩], Nat.zero_le _, rfl, rfl, rfl, by rw [seenN_zero]; rfl, by rw [G0.out]; rfl, by rw [G0.out]; rfl, Lib.hid (fun j hj => absurd hj (Nat.not_lt_zero _)), HBX.out, ?_⟩
  rw [seenN_zero]
  exact HP0.out
 case round =>
  obtain ⟨k, aS, cS, aW, cW, aN, cN, ss, ws, hk, rfl, rfl, rfl, rfl, hss, hws, HNO, hb, hP⟩ := hrel
  have hsl : ss.length = (SK k).sets.length := by rw [← hss, List.length_map]
  have hwl : ws.length = (SK k).sets.length := by rw [← G5.out, ← hws, List.length_map]
  have hs4 := G4.out k
  rcases Nat.lt_or_ge k ss.length with hlt | hge
  ·have t1 : decide (k < ss.length) = true := decide_eq_true hlt
   obtain ⟨gS, rfl, -, -⟩ := owns_at (hP.row 0 rfl) (by omega)
   obtain ⟨gW, rfl, -, -⟩ := owns_at (hP.row 1 rfl) (by omega)
   have hkq : k < (SK k).sets.length := by rw [← hsl]; exact hlt
   have hkw : k < ws.length := by rw [hwl]; exact hkq
   obtain ⟨⟨ya, yc, SS⟩, hy⟩ : ∃ y, gwd ss k = y := ⟨_, rfl⟩
   have hyS : gw (SK k).sets k = SS := by rw [← hss, ← gwl_gw, gwl_map hlt, hy]
   obtain ⟨⟨xa, xc, xw⟩, hx⟩ : ∃ y, gwd ws k = y := ⟨_, rfl⟩
   have hxW : gw (SK k).words k = xw := by rw [← hws, ← gwl_gw, gwl_map hkw, hx]
   have hbd : Bd a.n SS := by rw [← hyS]; exact G7.out k _ (gw_mem hkq)
   have hxl : xw.length ≤ 400001 := by
    have h1 := G8.out k (gw (SK k).words k) (gw_mem (by rw [G5.out]; exact hkq))
    rw [hxW] at h1
    omega
   obtain ⟨u, hu⟩ : ∃ u, finL a.fin SS = u := ⟨_, rfl⟩
   have hfi := fun W (h1 : IsNfa W h a) (h2 : IsInts .i64 W ya SS.length yc SS) => refFinal_any (w := W) HV.out h1 h2 hbd
   rw [hu] at hfi
   unfold vNf at hfi
   have hcell : ∀ W, Below wr.heap.size wr W → (W.cell? ⟨w.heap.size, 0, none⟩ = some (.int .i64 a.n) ∧ W.cell? ⟨w.heap.size, 1, none⟩ = some (.slice h.sa h.sl h.sc) ∧ W.cell? ⟨w.heap.size, 2, none⟩ = some (.slice h.fa h.fl h.fc) ∧ W.cell? ⟨w.heap.size, 3, none⟩ = some (.slice h.aa h.al h.ac)) ∧ IsNfa W h a ∧ (W.cell? ⟨gS, k, none⟩ = some (.slice ya SS.length yc) ∧ IsInts .i64 W ya SS.length yc SS) ∧ (W.cell? ⟨gW, k, none⟩ = some (.slice xa xw.length xc) ∧ IsInts .i64 W xa xw.length xc xw) := fun W hW => by
    obtain ⟨q1, q2, -, -⟩ := HO3.out W (hb.trans (hW.mono hb.size))
    have hPW := hP.quiet (below_grows hW none)
    have h1 := sh_cellS hPW hlt
    have h2 := sh_cellW hPW hkw
    rw [hy] at h1
    rw [hx] at h2
    exact ⟨q1, q2, h1, h2⟩
   obtain ⟨SN, hSN⟩ : ∃ SN, seenN (SK k).sets k = SN := ⟨_, rfl⟩
   have hFr : freshN (SK k).sets k = SS.filter (fun x => !decide (x ∈ SN)) := by unfold freshN; rw [hyS, hSN]
   have hUn : SS.foldl Bt.withL SN = seenN (SK k).sets (k + 1) := by rw [← hyS, ← hSN]; exact seen_next with_law (by have := HV.out.1; omega) (G7.out k) hkq
   rw [hSN] at hP ⊢
   have hSNl : SN.length ≤ 4096 := by
    have h1 := seenN_bd (n := a.n) (by have := HV.out.1; omega) (G7.out k) k
    rw [hSN] at h1
    have h2 := bd_len (by rw [← hSN]; exact setN_asc _) h1
    have := HV.out.1
    omega
   have HC := Lib.hid hcell
   have HFI := Lib.hid hfi
   have HSS := Lib.hid hss
   have HWS := Lib.hid hws
   have HP1 := Lib.hid hP
   have HB1 := Lib.hid hb
   have HFR := Lib.hid hFr
   have HUN := Lib.hid hUn
   have HKQ := Lib.hid hkq
   have HSL := Lib.hid hsl
   have HWL := Lib.hid hwl
   have HYS := Lib.hid hyS
   have HXW := Lib.hid hxW
   have HXD := Lib.hid hx
   have HBD := Lib.hid hbd
   have HU := Lib.hid hu
   have HXL := Lib.hid hxl
   have HSN := Lib.hid hSN
   have HSNL := Lib.hid hSNl
   have HKL := Lib.hid hlt
   have HY := Lib.hid hy
   have HS4 := Lib.hid hs4
   clear hcell hfi hss hws hP hb hFr hUn hkq hsl hwl hyS hxW hx hbd hu hxl hSN hSNl hy hk hs4
   go_wp2_with (fail)
   refine wp_region_grow mixed (by kernel_rfl) [[], [], [], [(1, 34), (2, 35)], [(3, 36)], [(0, 33), (4, 37)]] [(0, 33), (1, 34), (2, 35), (3, 36), (4, 37), (5, 38)] rfl rfl [Ex ?ea0, Ex ?ea1, Ex ?ea2, Ex ?ea3, Ex ?ea4, Ex (.bool u)] ⟨stays_ex _, stays_ex _, stays_ex _, stays_ex _, stays_ex _, stays_ex _, trivial⟩ ?asteps ?arest
   case asteps =>
    refine ⟨fun f W hC hh => ?_, fun f W hC hh => ?_, fun f W hC hh => ?_, fun f W hC hh => ?_, fun f W hC hh => ?_, fun f W hC hh => ?_, trivial⟩
    ·
     refine tab_plain fun K Q hK => ?_
     simp only [puts, foldr_nil]
     obtain ⟨⟨q1, q2, q3, q4⟩, q5, ⟨q6, q7⟩, q8⟩ := HC.out W hC
     go_step
     exact fam_e hK rfl rfl (Below.refl _ _) hC
    ·
     refine tab_plain fun K Q hK => ?_
     simp only [puts, foldr_nil]
     go_step
     exact fam_e hK rfl rfl (Below.refl _ _) hC
    ·
     refine tab_plain fun K Q hK => ?_
     simp only [puts, foldr_nil]
     go_step
     exact fam_e hK rfl rfl (Below.refl _ _) hC
    ·
     obtain ⟨h1, h2, -⟩ := hh
     have g1 : f 1 = _ := h1
     have g2 : f 2 = _ := h2
     refine tab_plain fun K Q hK => ?_
     simp only [puts, Za, Zb, Zc, Zd, Ze, g1, g2]
     go_step
     exact fam_e hK rfl rfl (Below.refl _ _) hC
    ·
     obtain ⟨h3, -⟩ := hh
     have g3 : f 3 = _ := h3
     refine tab_plain fun K Q hK => ?_
     simp only [puts, Za, Zb, Zc, Zd, Ze, g3]
     obtain ⟨⟨q1, q2, q3, q4⟩, q5, ⟨q6, q7⟩, q8⟩ := HC.out W hC
     go_step
     exact fam_e hK rfl rfl (Below.refl _ _) hC
    ·
     obtain ⟨h0, h4, -⟩ := hh
     have g0 : f 0 = _ := h0
     have g4 : f 4 = _ := h4
     refine tab_plain fun K Q hK => ?_
     simp only [puts, Za, Zb, Zc, Zd, Ze, g0, g4]
     obtain ⟨⟨q1, q2, q3, q4⟩, q5, ⟨q6, q7⟩, q8⟩ := HC.out W hC
     go_step
     go_at_call 25
     refine (HFI.out W q5 q7).mono ?_
     rintro e w' ⟨rfl, hb⟩
     exact fam_fin hK rfl rfl hb (hC.trans (hb.mono hC.size))
   case arest =>
    intro f WA hC hh
    obtain ⟨h0, h1, h2, h3, h4, h5, -⟩ := hh
    have g0 : f 0 = _ := h0
    have g1 : f 1 = _ := h1
    have g2 : f 2 = _ := h2
    have g3 : f 3 = _ := h3
    have g4 : f 4 = _ := h4
    have g5 : f 5 = _ := h5
    simp only [puts, Za, Zb, Zc, Zd, Ze, g0, g1, g2, g3, g4, g5]
    clear h0 h1 h2 h3 h4 h5 g0 g1 g2 g3 g4 g5
    obtain ⟨-, -, ⟨q6, q7⟩, q8, q9⟩ := HC.out WA hC
    have hBA : Below wo.heap.size wo WA := HB1.out.trans (hC.mono HB1.out.size)
    have HPA := Lib.hid (HP1.out.quiet (below_grows hC none))
    have HBA := Lib.hid hBA
    have HQ7 := Lib.hid q7
    have HQ9 := Lib.hid q9
    clear hC hBA q7 q9
    cases u with
    | true =>
     have HRR := Lib.hid (G9.out k HKQ.out HNO.out (by rw [HYS.out]; exact HU.out))
     have HWB := Lib.hid (HO3.out WA HBA.out).2.2.1
     clear q6
     go_wp2_with (fail)
     go_ret2
     unfold GivesSh
     rw [HRR.out.1, HRR.out.2, HXW.out]
     exact ⟨⟨xa, xc, rfl, HQ9.out⟩, HWB.out⟩
    | false =>
     have hsl2 : SS.length ≤ 4096 := by
      have h1 := G11.out k _ (gw_mem HKQ.out)
      rw [HYS.out] at h1
      have h2 := bd_len h1 HBD.out
      have := HV.out.1
      omega
     have hSNl := HSNL.out
     have hsi : IsInts .i64 WA aN SN.length cN SN := Wd.ints (x := ⟨aN, cN, SN⟩) (sh_memX HPA.out List.mem_cons_self)
     have hmi := minusO_any HQ7.out (by omega) hsi (by omega)
     obtain ⟨F, hF⟩ : ∃ F, SS.filter (fun x => !decide (x ∈ SN)) = F := ⟨_, rfl⟩
     have hFl : F.length ≤ SS.length := by rw [← hF]; exact List.length_filter_le _ _
     have hFb : Bd a.n F := fun z hz => HBD.out z (by rw [← hF] at hz; exact (List.mem_filter.1 hz).1)
     have HFE : Hid (freshN (SK k).sets k = F) := Lib.hid (by rw [HFR.out, hF])
     rw [hF] at hmi
     have HFB := Lib.hid hFb
     clear hF hFb hsi q8
     go_wp2_with (fail)
     refine hmi.mono ?_
     rintro e w5 ⟨⟨a5, c5, rfl, ho5⟩, hb5⟩
     have hP5 := Lib.hid (sh_add (p := Wd.pc ⟨a5, c5, F⟩) HPA.out hb5 (ho5.from_mono HBA.out.size) (fun q e => ((show Pc.At w5 WA.heap.size (Wd.pc ⟨a5, c5, F⟩) from ho5).lt e).1))
     have HB5 := Lib.hid (HBA.out.trans (hb5.mono HBA.out.size))
     have h5 := sh_cellS hP5.out HKL.out
     rw [HY.out] at h5
     obtain ⟨x5, x6⟩ := h5
     simp only at x5 x6
     have hun := unionO_any (Wd.ints (x := ⟨aN, cN, SN⟩) (sh_memX hP5.out List.mem_cons_self)) (by simp only; omega) x6 (by omega)
     simp only at hun
     rw [HUN.out] at hun
     obtain ⟨N1, hN1⟩ : ∃ N1, seenN (SK k).sets (k + 1) = N1 := ⟨_, rfl⟩
     rw [hN1] at hun
     have HN1 := Lib.hid hN1
     have hN1l : N1.length ≤ 4096 := by
      have h1 := seenN_bd (n := a.n) (by have := HV.out.1; omega) (G7.out k) (k + 1)
      rw [hN1] at h1
      have h2 := bd_len (by rw [← hN1]; exact setN_asc _) h1
      have := HV.out.1
      omega
     have HN1L := Lib.hid hN1l
     clear hmi ho5 hb5 x6 q6 hN1 hN1l
     go_wp2_with (fail)
     refine hun.mono ?_
     rintro e w6 ⟨⟨a6, c6, rfl, ho6⟩, hb6⟩
     have HP6 := Lib.hid (sh_sub (X' := [Wd.pc ⟨a5, c5, F⟩, Wd.pc ⟨a6, c6, N1⟩]) (sh_add (p := Wd.pc ⟨a6, c6, N1⟩) hP5.out hb6 (ho6.from_mono HB5.out.size) (fun q e => ((show Pc.At w6 w5.heap.size (Wd.pc ⟨a6, c6, N1⟩) from ho6).lt e).1)) (List.sublist_cons_self _ _))
     have HB6 := Lib.hid (HB5.out.trans (hb6.mono HB5.out.size))
     have HFL : Hid (F.length ≤ 4096) := Lib.hid (by omega)
     have HNO2 : Hid (∀ j, j < k + 1 → finL a.fin (gw (SK (k + 1)).sets j) = false) := Lib.hid (fun j hj => by
      rw [gw_pre (G6'.out k) (by have := HKQ.out; omega)]
      rcases Nat.lt_or_ge j k with h1 | h1
      ·exact HNO.out j h1
      ·rw [show j = k by omega, HYS.out]; exact HU.out)
     have HSN2 : Hid (seenN (SK (k + 1)).sets (k + 1) = N1) := Lib.hid (by rw [seenN_pre (G6'.out k) HKQ.out]; exact HN1.out)
     clear hun ho6 hb6 x5 HPA HBA hP5 HB5 HQ7 HQ9 hFl hsl2 hSNl
     go_wp2_with (fail)
     go_loopw [6, 7, 11] (fun vS vW c W => ∃ (j : Nat) (aS : Option Addr) (cS : Nat) (aW : Option Addr) (cW : Nat) (ss ws : List Wd), j ≤ LN ∧ Hid (F = [] → j = 0) ∧ c = .int .i64 (j : Int) ∧ vS = .slice aS ss.length cS ∧ vW = .slice aW ws.length cW ∧ ss.map Wd.z = (IS k j).sets ∧ ws.map Wd.z = (IS k j).words ∧ Below wo.heap.size wo W ∧ Pcs W wo.heap.size (shPs (.slice aS ss.length cS) (.slice aW ws.length cW) ss ws [Wd.pc ⟨a5, c5, F⟩, Wd.pc ⟨a6, c6, N1⟩])) (fun _ _ c _ => LN - (intOf c).toNat)
     case atStart => exact ⟨0, some ⟨gS, 0, none⟩, cS, some ⟨gW, 0, none⟩, cW, ss, ws, Nat.zero_le _, Lib.hid (fun _ => rfl), rfl, rfl, rfl, by rw [G1.out]; exact HSS.out, by rw [G1.out]; exact HWS.out, HB6.out, HP6.out⟩
     case round =>
      clear HP6 HB6
      obtain ⟨j, aS, cS, aW, cW, ss, ws, hj, HJ0, rfl, rfl, rfl, hss, hws, hb, hP⟩ := hrel
      have hsl : ss.length = (IS k j).sets.length := by rw [← hss, List.length_map]
      have hwl : ws.length = (IS k j).words.length := by rw [← hws, List.length_map]
      have hwl2 : ws.length = ss.length := by rw [hwl, hsl]; exact (G6.out k j).2.2 (G5.out k)
      have hks : k < ss.length := by rw [hsl]; exact Nat.lt_of_lt_of_le HKQ.out (G6.out k j).1.length_le
      by_cases hst : F ≠ [] ∧ j < LN
      ·obtain ⟨hF0, hjl⟩ := hst
       have t2 : decide (j < LN) = true := decide_eq_true hjl
       have hFp : 0 < F.length := by
        rcases Nat.eq_zero_or_pos F.length with h1 | h1
        ·exact absurd (List.eq_nil_of_length_eq_zero h1) hF0
        ·exact h1
       have t3 : decide (0 < F.length) = true := decide_eq_true hFp
       obtain ⟨-, hdr, -, hIL⟩ := HO3.out wr hb
       obtain ⟨bL, oL, rfl, -, xL⟩ := hIL.at wr (Below.refl _ _) j hjl
       obtain ⟨gS, rfl, -, -⟩ := owns_at (hP.row 0 rfl) (by omega)
       obtain ⟨gW, rfl, -, -⟩ := owns_at (hP.row 1 rfl) (by omega)
       have hkw2 : k < ws.length := by rw [hwl2]; exact hks
       obtain ⟨⟨xa, xc, xz⟩, hx⟩ : ∃ y, gwd ws k = y := ⟨_, rfl⟩
       have hxz : xz = xw := by
        have h1 : gwl (ws.map Wd.z) k = xz := by rw [gwl_map hkw2, hx]
        rw [← h1, hws, gwl_gw, gw_pre (G6.out k j).2.1 (by rw [G5.out]; exact HKQ.out), HXW.out]
       subst hxz
       have hG2 := G2.out k j hjl
       rw [HFE.out, HN1.out, HXW.out] at hG2
       obtain ⟨c, hc⟩ : ∃ c, gi LT j = c := ⟨_, rfl⟩
       rw [hc] at hG2 xL
       have hcell : ∀ W, Below wr.heap.size wr W → (W.cell? ⟨w.heap.size, 0, none⟩ = some (.int .i64 a.n) ∧ W.cell? ⟨w.heap.size, 1, none⟩ = some (.slice h.sa h.sl h.sc) ∧ W.cell? ⟨w.heap.size, 2, none⟩ = some (.slice h.fa h.fl h.fc) ∧ W.cell? ⟨w.heap.size, 3, none⟩ = some (.slice h.aa h.al h.ac)) ∧ IsNfa W h a ∧ W.cell? ⟨bL, oL + j, none⟩ = some (.int .i64 c) ∧ IsInts .i64 W a5 F.length c5 F ∧ IsInts .i64 W a6 N1.length c6 N1 := fun W hW => by
        obtain ⟨q1, q2, -, -⟩ := HO3.out W (hb.trans (hW.mono hb.size))
        have hPW := hP.quiet (below_grows hW none)
        exact ⟨q1, q2, (hW.cell (p := ⟨bL, oL + j, none⟩) (lt_of_cell xL)).trans xL, Wd.ints (x := ⟨a5, c5, F⟩) (sh_memX hPW List.mem_cons_self), Wd.ints (x := ⟨a6, c6, N1⟩) (sh_memX hPW (List.mem_cons_of_mem _ List.mem_cons_self))⟩
       have hLc : ∀ W, Below wo.heap.size wo W → W.cell? ⟨bL, oL + j, none⟩ = some (.int .i64 c) := fun W hW => by
        obtain ⟨-, -, -, q3⟩ := HO3.out W hW
        obtain ⟨b', o', e', -, q4⟩ := q3.at W (Below.refl _ _) j hjl
        injection e' with e'
        injection e' with e1 e2
        subst e1 e2
        rw [hc] at q4
        exact q4
       obtain ⟨T0, hT0⟩ : ∃ T, stpL a.arcs F c = T := ⟨_, rfl⟩
       have hT0l : T0.length ≤ 4096 := by
        have h1 := stpL_bd HV.out.arcsIn F c
        rw [hT0] at h1
        have h2 := bd_len (by rw [← hT0]; unfold stpL movL; exact cloL_asc _ _) h1
        have := HV.out.1
        omega
       have hst := fun W (h1 : IsNfa W h a) (h2 : IsInts .i64 W a5 F.length c5 F) => refstepO_any (w := W) (c := c) HV.out h1 h2 HFB.out (by have := HFL.out; omega)
       rw [hT0] at hst
       unfold vNf at hst
       obtain ⟨T, hT⟩ : ∃ T, T0.filter (fun x => !decide (x ∈ N1)) = T := ⟨_, rfl⟩
       have hTA : setAt a.arcs F N1 c = T := by unfold setAt; rw [hT0, hT]
       have hmn := fun W (x : Option Addr) (y : Nat) (h1 : IsInts .i64 W x T0.length y T0) (h2 : IsInts .i64 W a6 N1.length c6 N1) => minusO_any (w := W) h1 (by omega) h2 (by have := HN1L.out; omega)
       rw [hT] at hmn
       have hsl4 : ss.length ≤ 400001 := by rw [hsl]; exact G4'.out k j HKQ.out (by rw [HFE.out]; exact hF0)
       have hsl5 : (IS k (j + 1)).sets.length ≤ 400001 := G4'.out k (j + 1) HKQ.out (by rw [HFE.out]; exact hF0)
       have HST := Lib.hid hst
       have HMN := Lib.hid hmn
       have HC := Lib.hid hcell
       have HLC := Lib.hid hLc
       have HTA := Lib.hid hTA
       have HG2 := Lib.hid hG2
       have HSS2 := Lib.hid hss
       have HWS2 := Lib.hid hws
       have HP2 := Lib.hid hP
       have HB2' := Lib.hid hb
       have HXD2 := Lib.hid hx
       have HW2 := Lib.hid hwl2
       have HKW2 := Lib.hid hkw2
       have HF0 := Lib.hid hF0
       have hln9 := HLL.out
       clear hst hmn hcell hLc hTA hG2 hss hws hP hb hx hsl hwl hwl2 hT hT0 hc hdr hIL xL hF0 hFp
       go_wp2_with (fail)
       refine wp_region_grow mixed (by kernel_rfl) [[], [], [], [], [(2, 68), (3, 69)], [(4, 70)], [(0, 66), (1, 67), (5, 71)], [], [(6, 72), (7, 73), (6, 72)], [(8, 74), (8, 74), (0, 66), (1, 67), (2, 68), (3, 69), (4, 70), (5, 71), (6, 72), (7, 73), (8, 74)]] [(0, 66), (1, 67), (2, 68), (3, 69), (4, 70), (5, 71), (6, 72), (7, 73), (8, 74), (9, 12)] rfl rfl [Ex ?eb0, Ex ?eb1, Ex ?eb2, Ex ?eb3, Ex ?eb4, Ex ?eb5, OwnR wr.heap.size T0, Ex ?eb7, OwnR wr.heap.size T, OwnR wr.heap.size T] ⟨stays_ex _, stays_ex _, stays_ex _, stays_ex _, stays_ex _, stays_ex _, stays_ownR _ _, stays_ex _, stays_ownR _ _, stays_ownR _ _, trivial⟩ ?bsteps ?brest
       case bsteps =>
        refine ⟨fun f W hC hh => ?_, fun f W hC hh => ?_, fun f W hC hh => ?_, fun f W hC hh => ?_, fun f W hC hh => ?_, fun f W hC hh => ?_, fun f W hC hh => ?_, fun f W hC hh => ?_, fun f W hC hh => ?_, fun f W hC hh => ?_, trivial⟩
        ·
         refine tab_plain fun K Q hK => ?_
         simp only [puts, foldr_nil]
         obtain ⟨⟨q1, q2, q3, q4⟩, q5, q6, q7, q8⟩ := HC.out W hC
         go_step
         exact fam_e hK rfl rfl (Below.refl _ _) hC
        ·
         refine tab_plain fun K Q hK => ?_
         simp only [puts, foldr_nil]
         go_step
         exact fam_e hK rfl rfl (Below.refl _ _) hC
        ·
         refine tab_plain fun K Q hK => ?_
         simp only [puts, foldr_nil]
         go_step
         exact fam_e hK rfl rfl (Below.refl _ _) hC
        ·
         refine tab_plain fun K Q hK => ?_
         simp only [puts, foldr_nil]
         go_step
         exact fam_e hK rfl rfl (Below.refl _ _) hC
        ·
         obtain ⟨h2, h3, -⟩ := hh
         have g2 : f 2 = _ := h2
         have g3 : f 3 = _ := h3
         refine tab_plain fun K Q hK => ?_
         simp only [puts, Za, Zb, Zc, Zd, Ze, g2, g3]
         go_step
         exact fam_e hK rfl rfl (Below.refl _ _) hC
        ·
         obtain ⟨h4, -⟩ := hh
         have g4 : f 4 = _ := h4
         refine tab_plain fun K Q hK => ?_
         simp only [puts, Za, Zb, Zc, Zd, Ze, g4]
         obtain ⟨⟨q1, q2, q3, q4⟩, q5, q6, q7, q8⟩ := HC.out W hC
         go_step
         exact fam_e hK rfl rfl (Below.refl _ _) hC
        ·
         obtain ⟨h0, h1, h5, -⟩ := hh
         have g0 : f 0 = _ := h0
         have g1 : f 1 = _ := h1
         have g5 : f 5 = _ := h5
         refine tab_plain fun K Q hK => ?_
         simp only [puts, Za, Zb, Zc, Zd, Ze, g0, g1, g5]
         obtain ⟨⟨q1, q2, q3, q4⟩, q5, q6, q7, q8⟩ := HC.out W hC
         go_step
         go_at_call 24
         refine (HST.out W q5 q7).mono ?_
         rintro e w' ⟨⟨a', c', rfl, hI⟩, hb⟩
         exact fam_fin hK rfl ⟨a', c', rfl, hI.from_mono (by have := hC.size; omega)⟩ hb (hC.trans (hb.mono hC.size))
        ·
         refine tab_plain fun K Q hK => ?_
         simp only [puts, foldr_nil]
         go_step
         exact fam_e hK rfl rfl (Below.refl _ _) hC
        ·
         obtain ⟨h6, h7, _, -⟩ := hh
         obtain ⟨at6, ct6, g6, s6⟩ := h6
         have g7 : f 7 = _ := h7
         refine tab_plain fun K Q hK => ?_
         simp only [puts, Za, Zb, Zc, Zd, Ze, g6, g7]
         obtain ⟨⟨q1, q2, q3, q4⟩, q5, q6, q7, q8⟩ := HC.out W hC
         go_step
         go_at_call 30
         refine (HMN.out W _ _ (IsInts.of_owns s6).1 q8).mono ?_
         rintro e w' ⟨⟨a', c', rfl, hI⟩, hb⟩
         exact fam_fin hK rfl ⟨a', c', rfl, hI.from_mono (by have := hC.size; omega)⟩ hb (hC.trans (hb.mono hC.size))
        ·
         obtain ⟨h8, _, h0, h1, h2, h3, h4, h5, h6, h7, _, -⟩ := hh
         obtain ⟨at8, ct8, g8, s8⟩ := h8
         have g0 : f 0 = _ := h0
         have g1 : f 1 = _ := h1
         have g2 : f 2 = _ := h2
         have g3 : f 3 = _ := h3
         have g4 : f 4 = _ := h4
         have g5 : f 5 = _ := h5
         obtain ⟨at6, ct6, g6, s6⟩ := h6
         have g7 : f 7 = _ := h7
         refine tab_plain fun K Q hK => ?_
         simp only [puts, Za, Zb, Zc, Zd, Ze, g8, g0, g1, g2, g3, g4, g5, g6, g7]
         go_step
         exact fam_fin hK rfl ⟨at8, ct8, rfl, s8⟩ (Below.refl _ _) hC
       case brest =>
        intro f WB hC hh
        obtain ⟨h0, h1, h2, h3, h4, h5, h6, h7, h8, h9, -⟩ := hh
        have g0 : f 0 = _ := h0
        have g1 : f 1 = _ := h1
        have g2 : f 2 = _ := h2
        have g3 : f 3 = _ := h3
        have g4 : f 4 = _ := h4
        have g5 : f 5 = _ := h5
        obtain ⟨at6, ct6, g6, s6⟩ := h6
        have g7 : f 7 = _ := h7
        obtain ⟨at8, ct8, g8, s8⟩ := h8
        obtain ⟨at9, ct9, g9, s9⟩ := h9
        simp only [puts, Za, Zb, Zc, Zd, Ze, g0, g1, g2, g3, g4, g5, g6, g7, g8, g9]
        clear h0 h1 h2 h3 h4 h5 h7 g0 g1 g2 g3 g4 g5 g7
        have hbB : Below wo.heap.size wo WB := HB2'.out.trans (hC.mono HB2'.out.size)
        have hPB := sh_add (p := Wd.pc ⟨at9, ct9, T⟩) HP2.out hC (s9.from_mono HB2'.out.size) (fun q e => ((show Pc.At WB wr.heap.size (Wd.pc ⟨at9, ct9, T⟩) from s9).lt e).1)
        have HPB := Lib.hid hPB
        have HBB := Lib.hid hbB
        clear hPB hbB hC s6 s8 s9
        by_cases hTn : T = []
        ·subst hTn
         have HE : Hid (IS k (j + 1) = IS k j) := Lib.hid (by rw [HG2.out]; unfold sh1; rw [if_pos HTA.out])
         have t4 : decide (0 < ([] : List Int).length) = false := rfl
         go_wp2_with (fail)
         go_roundw
         case rel =>
          exact ⟨j + 1, some ⟨gS, 0, none⟩, cS, some ⟨gW, 0, none⟩, cW, ss, ws, hjl, Lib.hid (fun h => absurd h HF0.out), by go_num, rfl, rfl, by rw [HE.out]; exact HSS2.out, by rw [HE.out]; exact HWS2.out, HBB.out, sh_sub HPB.out (List.sublist_append_left _ _)⟩
         case measure => simp [intOf]; omega
        ·have hTp : 0 < T.length := by
          rcases Nat.eq_zero_or_pos T.length with h1 | h1
          ·exact absurd (List.eq_nil_of_length_eq_zero h1) hTn
          ·exact h1
         have t4 : decide (0 < T.length) = true := decide_eq_true hTp
         have HE : Hid (IS k (j + 1) = ⟨(IS k j).sets ++ [T], (IS k j).words ++ [xz ++ [c]]⟩) := Lib.hid (by rw [HG2.out]; unfold sh1; rw [HTA.out, if_neg hTn])
         have HP6 : Hid (Pcs (WB.alloc (.cells #[.slice at9 T.length ct9] 22)) wo.heap.size (shPs (.slice (some ⟨gS, 0, none⟩) ss.length cS) (.slice (some ⟨gW, 0, none⟩) ws.length cW) ss ws ([Wd.pc ⟨a5, c5, F⟩, Wd.pc ⟨a6, c6, N1⟩] ++ [Wd.pc ⟨at9, ct9, T⟩]))) := Lib.hid (HPB.out.quiet (below_grows ((Below.refl _ _).alloc (Nat.le_refl _) _) none))
         have HB6 : Hid (Below wo.heap.size wo (WB.alloc (.cells #[.slice at9 T.length ct9] 22))) := Lib.hid (HBB.out.alloc HBB.out.size _)
         clear hTn hTp
         go_upto_region 20 with (at_builtin; refine app_pcs elRL rfl _ _ rfl 0 (v := .slice (some ⟨gS, 0, none⟩) ss.length cS) (n := ss.length) (xs := ss.map Wd.v) rfl HP6.out rfl rfl (new_src WB #[.slice at9 T.length ct9] _ rfl) (by intro u hu; rw [List.mem_singleton.1 hu]; rfl) (by omega) HB6.out.size ?_; intro a9 c9 w9 hp9 hb9; have HP9 := Lib.hid hp9; have HB9 := Lib.hid (HB6.out.trans hb9); clear hp9 hb9)
         have HP11 : Hid (Pcs w9 wo.heap.size (shPs (.slice a9 (ss.length + 1) c9) (.slice (some ⟨gW, 0, none⟩) ws.length cW) (ss ++ [⟨at9, ct9, T⟩]) ws [Wd.pc ⟨a5, c5, F⟩, Wd.pc ⟨a6, c6, N1⟩])) := Lib.hid (sh_pushS (x := ⟨at9, ct9, T⟩) HP9.out)
         clear HP9 HP6 HB6
         obtain ⟨S, hSd⟩ : ∃ S : (Nat → Bool) → (Nat → Value) → World → Prop, S = fun L f W => Below wo.heap.size wo W ∧ (L 14 = false → Bld w9 3 1 W (if L 12 = true then f 12 else if L 6 = true then f 6 else if L 1 = true then f 1 else undef) (if L 12 = true then xz.length + 1 else if L 6 = true then xz.length else 0) (if L 12 = true then ivs .i64 (xz ++ [c]) else if L 6 = true then ivs .i64 xz else []) (if L 12 = true then undef else if L 11 = true then f 11 else undef) #[.int .i64 c] undef #[]) ∧ (L 13 = true → L 14 = false → ∃ q a c', f 13 = .slice (some ⟨q, 0, none⟩) 1 1 ∧ f 12 = .slice a (xz.length + 1) c' ∧ BlkAt W q #[.slice a (xz.length + 1) c']) ∧ (L 14 = true → (L 15 = true → f 15 = f 14) ∧ ∃ a c', f 12 = .slice a (xz.length + 1) c' ∧ Pcs W wo.heap.size (shPs (.slice a9 (ss.length + 1) c9) (f 14) (ss ++ [⟨at9, ct9, T⟩]) (ws ++ [⟨a, c', xz ++ [c]⟩]) [Wd.pc ⟨a5, c5, F⟩, Wd.pc ⟨a6, c6, N1⟩])) := ⟨_, rfl⟩
         refine wp_region_st mixed (by kernel_rfl) [[], [], [], [], [(2, 84), (3, 85)], [(4, 86)], [(1, 83), (5, 87)], [], [], [(7, 89), (8, 90)], [(9, 91)], [(10, 92)], [(6, 88), (11, 93), (6, 88)], [(12, 94)], [(0, 82), (13, 95), (12, 94)], [(14, 96), (14, 96), (0, 82), (1, 83), (2, 84), (3, 85), (4, 86), (5, 87), (6, 88), (7, 89), (8, 90), (9, 91), (10, 92), (11, 93), (12, 94), (13, 95), (14, 96)]] [(0, 82), (1, 83), (2, 84), (3, 85), (4, 86), (5, 87), (6, 88), (7, 89), (8, 90), (9, 91), (10, 92), (11, 93), (12, 94), (13, 95), (14, 96), (15, 7)] rfl rfl [EV ?ez0, fun v => ∃ b, v = .slice (some ⟨b, 0, none⟩) 0 0, EV ?ez2, EV ?ez3, EV ?ez4, EV ?ez5, fun v => ∃ a c, v = .slice a xz.length c, EV ?ez7, EV ?ez8, EV ?ez9, EV ?ez10, fun v => ∃ b, v = .slice (some ⟨b, 0, none⟩) 1 1, fun v => ∃ a c, v = .slice a (xz.length + 1) c, fun v => ∃ b, v = .slice (some ⟨b, 0, none⟩) 1 1, fun v => ∃ a c, v = .slice a (ws.length + 1) c, fun v => ∃ a c, v = .slice a (ws.length + 1) c] S ?zstart ?zsteps ?zrest
         case zstart =>
          intro f
          rw [hSd]
          exact ⟨HB9.out.drew, fun _ => Bld.start w9 _ _ _ _, fun h => (by cases h), fun h => (by cases h)⟩
         case zsteps =>
          refine ⟨fun L f W hi hd hdn hh hS => ?_, fun L f W hi hd hdn hh hS => ?_, fun L f W hi hd hdn hh hS => ?_, fun L f W hi hd hdn hh hS => ?_, fun L f W hi hd hdn hh hS => ?_, fun L f W hi hd hdn hh hS => ?_, fun L f W hi hd hdn hh hS => ?_, fun L f W hi hd hdn hh hS => ?_, fun L f W hi hd hdn hh hS => ?_, fun L f W hi hd hdn hh hS => ?_, fun L f W hi hd hdn hh hS => ?_, fun L f W hi hd hdn hh hS => ?_, fun L f W hi hd hdn hh hS => ?_, fun L f W hi hd hdn hh hS => ?_, fun L f W hi hd hdn hh hS => ?_, fun L f W hi hd hdn hh hS => ?_, trivial⟩
          ·
           unfold stStep
           rw [if_pos (by simp [Region.wanted])]
           intro K Q hK
           simp only [puts, foldr_nil]
           go_step
           refine st_ex hK rfl rfl (by simp only [Act.put, setIfInBounds_toArray, set_cons_succ, set_cons_zero, Array.getD_eq_getD_getElem?, List.getElem?_toArray, List.getElem?_cons_succ, List.getElem?_cons_zero, Option.getD_some] <;> rfl) rfl (by rw [hSd] at hS ⊢; exact hS)
          ·
           have l6 : L 6 = false := Bool.eq_false_iff.2 fun h => by have q := hdn 6 _ h rfl 1 (by decide); rw [show L 1 = false from hi] at q; cases q
           have l12 : L 12 = false := Bool.eq_false_iff.2 fun h => by have q := hdn 12 _ h rfl 6 (by decide); rw [show L 6 = false from l6] at q; cases q
           have l13 : L 13 = false := Bool.eq_false_iff.2 fun h => by have q := hdn 13 _ h rfl 12 (by decide); rw [show L 12 = false from l12] at q; cases q
           have l14 : L 14 = false := Bool.eq_false_iff.2 fun h => by have q := hdn 14 _ h rfl 13 (by decide); rw [show L 13 = false from l13] at q; cases q
           unfold stStep
           rw [if_pos (by simp [Region.wanted])]
           intro K Q hK
           simp only [puts, foldr_nil]
           rw [hSd] at hS hK
           have l1 : L 1 = false := hi
           try simp only [stage, l6, l12, l13, l14, l1, if_true, if_false, Bool.false_eq_true] at hS
           obtain ⟨hbW, hBl, h13, h14⟩ := hS
           have hBl := hBl (by first | exact l14 | trivial)
           try simp only [l1, l6, l12, if_false, Bool.false_eq_true] at hBl
           go_step
           refine hK.out _ _ rfl ⟨_, rfl⟩ ?_
           have q := hBl.lit
           try simp only [l6, l12, l13, l14, Bool.false_eq_true, ↓reduceIte, Nat.reduceEqDiff]
           exact ⟨hbW.alloc hbW.size _, fun _ => q, fun h => (by cases h), fun h => (by cases h)⟩
          ·
           unfold stStep
           rw [if_pos (by simp [Region.wanted])]
           intro K Q hK
           simp only [puts, foldr_nil]
           go_step
           refine st_ex hK rfl rfl (by simp only [Act.put, setIfInBounds_toArray, set_cons_succ, set_cons_zero, Array.getD_eq_getD_getElem?, List.getElem?_toArray, List.getElem?_cons_succ, List.getElem?_cons_zero, Option.getD_some] <;> rfl) rfl (by rw [hSd] at hS ⊢; exact hS)
          ·
           unfold stStep
           rw [if_pos (by simp [Region.wanted])]
           intro K Q hK
           simp only [puts, foldr_nil]
           go_step
           refine st_ex hK rfl rfl (by simp only [Act.put, setIfInBounds_toArray, set_cons_succ, set_cons_zero, Array.getD_eq_getD_getElem?, List.getElem?_toArray, List.getElem?_cons_succ, List.getElem?_cons_zero, Option.getD_some] <;> rfl) rfl (by rw [hSd] at hS ⊢; exact hS)
          ·
           obtain ⟨h2, h3, -⟩ := hh
           have g2 : f 2 = _ := h2
           have g3 : f 3 = _ := h3
           unfold stStep
           rw [if_pos (by simp [Region.wanted])]
           intro K Q hK
           simp only [puts, Za, Zb, Zc, Zd, Ze, g2, g3]
           go_step
           refine st_ex hK rfl rfl (by simp only [Act.put, setIfInBounds_toArray, set_cons_succ, set_cons_zero, Array.getD_eq_getD_getElem?, List.getElem?_toArray, List.getElem?_cons_succ, List.getElem?_cons_zero, Option.getD_some] <;> rfl) rfl (by rw [hSd] at hS ⊢; exact hS)
          ·
           obtain ⟨h4, -⟩ := hh
           have g4 : f 4 = _ := h4
           have l6 : L 6 = false := Bool.eq_false_iff.2 fun h => by have q := hdn 6 _ h rfl 5 (by decide); rw [show L 5 = false from hi] at q; cases q
           have l12 : L 12 = false := Bool.eq_false_iff.2 fun h => by have q := hdn 12 _ h rfl 6 (by decide); rw [show L 6 = false from l6] at q; cases q
           have l13 : L 13 = false := Bool.eq_false_iff.2 fun h => by have q := hdn 13 _ h rfl 12 (by decide); rw [show L 12 = false from l12] at q; cases q
           have l14 : L 14 = false := Bool.eq_false_iff.2 fun h => by have q := hdn 14 _ h rfl 13 (by decide); rw [show L 13 = false from l13] at q; cases q
           unfold stStep
           rw [if_pos (by simp [Region.wanted])]
           intro K Q hK
           simp only [puts, Za, Zb, Zc, Zd, Ze, g4]
           have hS' := hS
           rw [hSd] at hS'
           have hB' := (hS'.2.1 l14).bel
           have hq := sh_cellW (HP11.out.quiet (below_grows hB' none)) HKW2.out
           rw [HXD2.out] at hq
           have mz := hq.1
           go_step
           refine st_ex hK rfl rfl (by simp only [Act.put, setIfInBounds_toArray, set_cons_succ, set_cons_zero, Array.getD_eq_getD_getElem?, List.getElem?_toArray, List.getElem?_cons_succ, List.getElem?_cons_zero, Option.getD_some] <;> rfl) rfl (by rw [hSd] at hS ⊢; exact hS)
          ·
           obtain ⟨h1, h5, -⟩ := hh
           obtain ⟨b1, (g1 : f 1 = _)⟩ := h1
           have g5 : f 5 = _ := h5
           have l1 : L 1 = true := hd 1 (by decide)
           have l12 : L 12 = false := Bool.eq_false_iff.2 fun h => by have q := hdn 12 _ h rfl 6 (by decide); rw [show L 6 = false from hi] at q; cases q
           have l13 : L 13 = false := Bool.eq_false_iff.2 fun h => by have q := hdn 13 _ h rfl 12 (by decide); rw [show L 12 = false from l12] at q; cases q
           have l14 : L 14 = false := Bool.eq_false_iff.2 fun h => by have q := hdn 14 _ h rfl 13 (by decide); rw [show L 13 = false from l13] at q; cases q
           unfold stStep
           rw [if_pos (by simp [Region.wanted])]
           intro K Q hK
           simp only [puts, Za, Zb, Zc, Zd, Ze, g1, g5]
           rw [hSd] at hS hK
           have l6 : L 6 = false := hi
           try simp only [stage, l12, l13, l14, l6, l1, if_true, if_false, Bool.false_eq_true] at hS
           obtain ⟨hbW, hBl, h13, h14⟩ := hS
           have hBl := hBl (by first | exact l14 | trivial)
           have l1' : L 1 = true := hd 1 (by decide)
           try simp only [l1', l6, l12, if_false, if_true, Bool.false_eq_true, g1] at hBl
           have hown := hBl.own.resolve_left (by intro h; cases h)
           have hq := sh_cellW (HP11.out.quiet (below_grows hBl.bel none)) HKW2.out
           rw [HXD2.out] at hq
           have hin := hq.2
           simp only at hin
           refine wp_app_blk elI64 _ _ rfl rfl hown rfl (ints_src hin) (ivs_one _ _) (by have := HXL.out; omega) hBl.bel.size ?_
           intro a' c' w' ho hg hbw hblk
           try simp only [Nat.zero_add, List.nil_append] at ho hblk ⊢
           refine hK.out _ _ rfl ⟨a', c', rfl⟩ ?_
           have q := hBl.app ho hg hbw hblk
           try simp only [l12, l13, l14, Bool.false_eq_true, ↓reduceIte, Nat.reduceEqDiff]
           exact ⟨hbW.trans (hbw.mono HB9.out.size), fun _ => q, fun h => (by cases h), fun h => (by cases h)⟩
          ·
           unfold stStep
           rw [if_pos (by simp [Region.wanted])]
           intro K Q hK
           simp only [puts, foldr_nil]
           go_step
           refine st_ex hK rfl rfl (by simp only [Act.put, setIfInBounds_toArray, set_cons_succ, set_cons_zero, Array.getD_eq_getD_getElem?, List.getElem?_toArray, List.getElem?_cons_succ, List.getElem?_cons_zero, Option.getD_some] <;> rfl) rfl (by rw [hSd] at hS ⊢; exact hS)
          ·
           unfold stStep
           rw [if_pos (by simp [Region.wanted])]
           intro K Q hK
           simp only [puts, foldr_nil]
           go_step
           refine st_ex hK rfl rfl (by simp only [Act.put, setIfInBounds_toArray, set_cons_succ, set_cons_zero, Array.getD_eq_getD_getElem?, List.getElem?_toArray, List.getElem?_cons_succ, List.getElem?_cons_zero, Option.getD_some] <;> rfl) rfl (by rw [hSd] at hS ⊢; exact hS)
          ·
           obtain ⟨h7, h8, -⟩ := hh
           have g7 : f 7 = _ := h7
           have g8 : f 8 = _ := h8
           unfold stStep
           rw [if_pos (by simp [Region.wanted])]
           intro K Q hK
           simp only [puts, Za, Zb, Zc, Zd, Ze, g7, g8]
           go_step
           refine st_ex hK rfl rfl (by simp only [Act.put, setIfInBounds_toArray, set_cons_succ, set_cons_zero, Array.getD_eq_getD_getElem?, List.getElem?_toArray, List.getElem?_cons_succ, List.getElem?_cons_zero, Option.getD_some] <;> rfl) rfl (by rw [hSd] at hS ⊢; exact hS)
          ·
           obtain ⟨h9, -⟩ := hh
           have g9 : f 9 = _ := h9
           have l11 : L 11 = false := Bool.eq_false_iff.2 fun h => by have q := hdn 11 _ h rfl 10 (by decide); rw [show L 10 = false from hi] at q; cases q
           have l12 : L 12 = false := Bool.eq_false_iff.2 fun h => by have q := hdn 12 _ h rfl 11 (by decide); rw [show L 11 = false from l11] at q; cases q
           have l13 : L 13 = false := Bool.eq_false_iff.2 fun h => by have q := hdn 13 _ h rfl 12 (by decide); rw [show L 12 = false from l12] at q; cases q
           have l14 : L 14 = false := Bool.eq_false_iff.2 fun h => by have q := hdn 14 _ h rfl 13 (by decide); rw [show L 13 = false from l13] at q; cases q
           unfold stStep
           rw [if_pos (by simp [Region.wanted])]
           intro K Q hK
           simp only [puts, Za, Zb, Zc, Zd, Ze, g9]
           have hS' := hS
           rw [hSd] at hS'
           have mx := HLC.out W hS'.1
           go_step
           refine st_ex hK rfl rfl (by simp only [Act.put, setIfInBounds_toArray, set_cons_succ, set_cons_zero, Array.getD_eq_getD_getElem?, List.getElem?_toArray, List.getElem?_cons_succ, List.getElem?_cons_zero, Option.getD_some] <;> rfl) rfl (by rw [hSd] at hS ⊢; exact hS)
          ·
           obtain ⟨h10, -⟩ := hh
           have g10 : f 10 = _ := h10
           have l12 : L 12 = false := Bool.eq_false_iff.2 fun h => by have q := hdn 12 _ h rfl 11 (by decide); rw [show L 11 = false from hi] at q; cases q
           have l13 : L 13 = false := Bool.eq_false_iff.2 fun h => by have q := hdn 13 _ h rfl 12 (by decide); rw [show L 12 = false from l12] at q; cases q
           have l14 : L 14 = false := Bool.eq_false_iff.2 fun h => by have q := hdn 14 _ h rfl 13 (by decide); rw [show L 13 = false from l13] at q; cases q
           unfold stStep
           rw [if_pos (by simp [Region.wanted])]
           intro K Q hK
           simp only [puts, Za, Zb, Zc, Zd, Ze, g10]
           rw [hSd] at hS hK
           have l11 : L 11 = false := hi
           try simp only [stage, l12, l13, l14, l11, if_true, if_false, Bool.false_eq_true] at hS
           obtain ⟨hbW, hBl, h13, h14⟩ := hS
           have hBl := hBl (by first | exact l14 | trivial)
           try simp only [l11, l12, if_false, Bool.false_eq_true] at hBl
           go_step
           refine hK.out _ _ rfl ⟨_, rfl⟩ ?_
           have q := hBl.elem 3
           try simp only [l12, l13, l14, Bool.false_eq_true, ↓reduceIte, Nat.reduceEqDiff]
           exact ⟨hbW.alloc hbW.size _, fun _ => q, fun h => (by cases h), fun h => (by cases h)⟩
          ·
           obtain ⟨h6, h11, _, -⟩ := hh
           obtain ⟨a6, c6, (g6 : f 6 = _)⟩ := h6
           obtain ⟨b11, (g11 : f 11 = _)⟩ := h11
           have l6 : L 6 = true := hd 6 (by decide)
           have l11 : L 11 = true := hd 11 (by decide)
           have l13 : L 13 = false := Bool.eq_false_iff.2 fun h => by have q := hdn 13 _ h rfl 12 (by decide); rw [show L 12 = false from hi] at q; cases q
           have l14 : L 14 = false := Bool.eq_false_iff.2 fun h => by have q := hdn 14 _ h rfl 13 (by decide); rw [show L 13 = false from l13] at q; cases q
           unfold stStep
           rw [if_pos (by simp [Region.wanted])]
           intro K Q hK
           simp only [puts, Za, Zb, Zc, Zd, Ze, g6, g11]
           rw [hSd] at hS hK
           have l12 : L 12 = false := hi
           try simp only [stage, l13, l14, l12, l6, l11, if_true, if_false, Bool.false_eq_true] at hS
           obtain ⟨hbW, hBl, h13, h14⟩ := hS
           have hBl := hBl (by first | exact l14 | trivial)
           have l6' : L 6 = true := hd 6 (by decide)
           have l11' : L 11 = true := hd 11 (by decide)
           try simp only [l6', l11', l12, if_false, if_true, Bool.false_eq_true, g6, g11] at hBl
           have hown := hBl.own.resolve_left (by intro h; cases h)
           have hpr := (hBl.pair _ rfl).1
           refine wp_app_blk elI64 _ _ rfl rfl hown rfl (m := 1) (news := [.int .i64 c]) ⟨rfl, fun ad e i u hi => by injection e with e; subst e; rw [addr_add, Nat.zero_add, (hpr.cell i).1, ← hi]; simp, fun e => by cases e⟩ (by intro u hu; rw [List.mem_singleton.1 hu]; rfl) (by have := HXL.out; omega) hBl.bel.size ?_
           intro a' c' w' ho hg hbw hblk
           refine hK.out _ _ rfl ⟨a', c', rfl⟩ ?_
           have q := hBl.app ho hg hbw hblk
           have e9 : ivs .i64 xz ++ [.int .i64 c] = ivs .i64 (xz ++ [c]) := by simp [ivs]
           rw [e9] at q
           try simp only [l13, l14, Bool.false_eq_true, ↓reduceIte, Nat.reduceEqDiff]
           exact ⟨hbW.trans (hbw.mono HB9.out.size), fun _ => ⟨q.bel, q.own, fun b h => (by cases h), fun d h => (by cases h)⟩, fun h => (by cases h), fun h => (by cases h)⟩
          ·
           obtain ⟨h12, -⟩ := hh
           obtain ⟨a12, c12, (g12 : f 12 = _)⟩ := h12
           have l12 : L 12 = true := hd 12 (by decide)
           have l14 : L 14 = false := Bool.eq_false_iff.2 fun h => by have q := hdn 14 _ h rfl 13 (by decide); rw [show L 13 = false from hi] at q; cases q
           unfold stStep
           rw [if_pos (by simp [Region.wanted])]
           intro K Q hK
           simp only [puts, Za, Zb, Zc, Zd, Ze, g12]
           rw [hSd] at hS hK
           have l13 : L 13 = false := hi
           try simp only [stage, l14, l13, l12, if_true, if_false, Bool.false_eq_true] at hS
           obtain ⟨hbW, hBl, h13, h14⟩ := hS
           have hBl := hBl (by first | exact l14 | trivial)
           have l12' : L 12 = true := hd 12 (by decide)
           try simp only [l12', if_true] at hBl
           have hal : ∀ cs T, Below W.heap.size W (W.alloc (.cells cs T)) := fun cs T => (Below.refl _ _).alloc (Nat.le_refl _) _
           go_step
           refine hK.out _ _ rfl ⟨_, rfl⟩ ?_
           try simp only [l12', l14, Bool.false_eq_true, ↓reduceIte, Nat.reduceEqDiff]
           rw [g12] at hBl ⊢
           exact ⟨hbW.alloc hbW.size _, fun _ => ⟨hBl.bel.alloc hBl.bel.size _, hBl.own.imp id (fun e => e.kept_below (hal _ _)), fun b h => (by cases h), fun d h => (by cases h)⟩, fun _ _ => ⟨_, a12, c12, rfl, rfl, BlkAt.new W _ _⟩, fun h => (by cases h)⟩
          ·
           obtain ⟨h0, h13, h12, -⟩ := hh
           have g0 : f 0 = _ := h0
           obtain ⟨b13, (g13 : f 13 = _)⟩ := h13
           obtain ⟨a12, c12, (g12 : f 12 = _)⟩ := h12
           have l13 : L 13 = true := hd 13 (by decide)
           have l15 : L 15 = false := Bool.eq_false_iff.2 fun h => by have q := hdn 15 _ h rfl 14 (by decide); rw [show L 14 = false from hi] at q; cases q
           unfold stStep
           rw [if_pos (by simp [Region.wanted])]
           intro K Q hK
           simp only [puts, Za, Zb, Zc, Zd, Ze, g0, g13, g12]
           rw [hSd] at hS hK
           have l14 : L 14 = false := hi
           try simp only [stage, l15, l14, l13, if_true, if_false, Bool.false_eq_true] at hS
           obtain ⟨hbW, hBl, h13, h14⟩ := hS
           have l13' : L 13 = true := hd 13 (by decide)
           have l12' : L 12 = true := hdn 13 _ (hd 13 (by decide)) rfl 12 (by decide)
           have hBl := hBl (by first | exact l14 | trivial)
           try simp only [l12', if_true] at hBl
           obtain ⟨q, a12, c12, e13, e12, hq⟩ := h13 (by first | exact l13' | trivial) (by first | exact l14 | trivial)
           rw [g13] at e13
           obtain rfl : b13 = q := by simpa using e13
           rw [e12] at hBl
           have hown := hBl.own.resolve_left (by intro h; cases h)
           have e8 : (xz ++ [c]).length = xz.length + 1 := by rw [List.length_append]; rfl
           have hown2 : Pc.At W w9.heap.size (Wd.pc ⟨a12, c12, xz ++ [c]⟩) := by
            unfold Wd.pc Wd.v
            rw [e8]
            exact hown
           have hPW := sh_add (p := Wd.pc ⟨a12, c12, xz ++ [c]⟩) HP11.out hBl.bel (hown2.low HB9.out.size) (fun q e => (hown2.lt e).1)
           refine wp_app_pcs elRL _ _ rfl 1 (v := .slice (some ⟨gW, 0, none⟩) ws.length cW) (n := ws.length) rfl hPW rfl (news := [.slice a12 (xz.length + 1) c12]) rfl ⟨rfl, fun ad e i u hi => by injection e with e; subst e; rw [addr_add, Nat.zero_add, (hq.cell i).1, ← hi]; simp, fun e => by cases e⟩ (by intro u hu; rw [List.mem_singleton.1 hu]; rfl) (by have := HW2.out; omega) hbW.size ?_
           intro a' c' w' hp' hbw
           refine hK.out _ _ rfl ⟨a', c', rfl⟩ ?_
           try simp only [l12', l13', Bool.false_eq_true, ↓reduceIte, Nat.reduceEqDiff]
           refine ⟨hbW.trans hbw, fun h => (by cases h), fun _ h => (by cases h), fun _ => ⟨fun h => (by simp [l15] at h), a12, c12, e12, ?_⟩⟩
           rw [← e8] at hp'
           exact sh_pushW (x := ⟨a12, c12, xz ++ [c]⟩) hp'
          ·
           obtain ⟨h14, _, h0, h1, h2, h3, h4, h5, h6, h7, h8, h9, h10, h11, h12, h13, _, -⟩ := hh
           obtain ⟨a14, c14, (g14 : f 14 = _)⟩ := h14
           have g0 : f 0 = _ := h0
           obtain ⟨b1, (g1 : f 1 = _)⟩ := h1
           have g2 : f 2 = _ := h2
           have g3 : f 3 = _ := h3
           have g4 : f 4 = _ := h4
           have g5 : f 5 = _ := h5
           obtain ⟨a6, c6, (g6 : f 6 = _)⟩ := h6
           have g7 : f 7 = _ := h7
           have g8 : f 8 = _ := h8
           have g9 : f 9 = _ := h9
           have g10 : f 10 = _ := h10
           obtain ⟨b11, (g11 : f 11 = _)⟩ := h11
           obtain ⟨a12, c12, (g12 : f 12 = _)⟩ := h12
           obtain ⟨b13, (g13 : f 13 = _)⟩ := h13
           have l14 : L 14 = true := hd 14 (by decide)
           unfold stStep
           rw [if_pos (by simp [Region.wanted])]
           intro K Q hK
           simp only [puts, Za, Zb, Zc, Zd, Ze, g14, g0, g1, g2, g3, g4, g5, g6, g7, g8, g9, g10, g11, g12, g13]
           rw [hSd] at hS hK
           have l15 : L 15 = false := hi
           try simp only [stage, l15, l14, if_true, if_false, Bool.false_eq_true] at hS
           obtain ⟨hbW, -, -, h14⟩ := hS
           have l14' : L 14 = true := hd 14 (by decide)
           have h14' := h14 (by first | exact l14' | trivial)
           obtain ⟨-, h14'⟩ := h14'
           go_step
           refine hK.out _ _ rfl ⟨_, _, rfl⟩ ?_
           try simp only [l14', Bool.false_eq_true, ↓reduceIte, Nat.reduceEqDiff]
           exact ⟨hbW, fun h => (by simp at h), fun _ h => (by simp at h), fun _ => ⟨fun _ => (by rw [g14]; rfl), h14'⟩⟩
         case zrest =>
          intro L f WZ hL hh hS
          rw [hSd] at hS
          clear hSd
          have l1 : L 1 = true := hL 1 (by decide)
          have l6 : L 6 = true := hL 6 (by decide)
          have l11 : L 11 = true := hL 11 (by decide)
          have l12 : L 12 = true := hL 12 (by decide)
          have l13 : L 13 = true := hL 13 (by decide)
          have l14 : L 14 = true := hL 14 (by decide)
          have l15 : L 15 = true := hL 15 (by decide)
          simp only [stage, l1, l6, l11, l12, l13, l14, l15, if_true] at hS
          clear hL l1 l6 l11 l12 l13 l14 l15
          obtain ⟨h0, h1, h2, h3, h4, h5, h6, h7, h8, h9, h10, h11, h12, h13, h14, h15, -⟩ := hh
          have g0 : f 0 = _ := h0
          obtain ⟨b1, (g1 : f 1 = _)⟩ := h1
          have g2 : f 2 = _ := h2
          have g3 : f 3 = _ := h3
          have g4 : f 4 = _ := h4
          have g5 : f 5 = _ := h5
          obtain ⟨a6, c6, (g6 : f 6 = _)⟩ := h6
          have g7 : f 7 = _ := h7
          have g8 : f 8 = _ := h8
          have g9 : f 9 = _ := h9
          have g10 : f 10 = _ := h10
          obtain ⟨b11, (g11 : f 11 = _)⟩ := h11
          obtain ⟨a12, c12, (g12 : f 12 = _)⟩ := h12
          obtain ⟨b13, (g13 : f 13 = _)⟩ := h13
          obtain ⟨a14, c14, (g14 : f 14 = _)⟩ := h14
          obtain ⟨a15, c15, (g15 : f 15 = _)⟩ := h15
          simp only [puts, Za, Zb, Zc, Zd, Ze, g0, g1, g2, g3, g4, g5, g6, g7, g8, g9, g10, g11, g12, g13, g14, g15]
          clear h0 h2 h3 h4 h5 h7 h8 h9 h10 g0 g2 g3 g4 g5 g7 g8 g9 g10
          obtain ⟨hbZ, -, -, h14⟩ := hS
          have h14' := h14 (by trivial)
          obtain ⟨h15, aa, cc, g12', hPn⟩ := h14'
          have e15 := h15 (by trivial)
          rw [← e15, g15] at hPn
          have HPN := Lib.hid hPn
          clear hPn h14 h15 e15 g12'
          go_wp2_with (fail)
          go_roundw
          case rel =>
           refine ⟨j + 1, a9, c9, a15, c15, ss ++ [⟨at9, ct9, T⟩], ws ++ [⟨aa, cc, xz ++ [c]⟩], hjl, Lib.hid (fun h => absurd h HF0.out), by go_num, by rw [List.length_append]; rfl, by rw [List.length_append]; rfl, ?_, ?_, hbZ, ?_⟩
           ·rw [HE.out, List.map_append, HSS2.out]; rfl
           ·rw [HE.out, List.map_append, HWS2.out]; rfl
           ·rw [List.length_append, List.length_append]; exact HPN.out
          case measure => simp [intOf]; omega
      ·have hEQ : IS k j = SK (k + 1) := by
        by_cases hF0 : F = []
        ·rw [HJ0.out hF0, G1.out]; exact (G3'.out k (by rw [HFE.out]; exact hF0)).symm
        ·have hnj : ¬ j < LN := fun h1 => hst ⟨hF0, h1⟩
         rw [show j = LN by omega]; exact G3.out k HKQ.out (by rw [HFE.out]; exact hF0)
       have hte : decide (j < LN) = false ∨ (decide (j < LN) = true ∧ decide (0 < F.length) = false) := by
        by_cases hF0 : F = []
        ·rcases Nat.lt_or_ge j LN with h1 | h1
         ·exact .inr ⟨decide_eq_true h1, decide_eq_false (by rw [hF0]; exact Nat.lt_irrefl 0)⟩
         ·exact .inl (decide_eq_false (by omega))
        ·exact .inl (decide_eq_false (fun h1 => hst ⟨hF0, h1⟩))
       rw [hEQ] at hss hws
       have HP := Lib.hid (sh_sub (X' := [Wd.pc ⟨a6, c6, N1⟩]) hP (List.sublist_cons_self _ _))
       have HSS2 := Lib.hid hss
       have HWS2 := Lib.hid hws
       have HB := Lib.hid hb
       have hk9 : k < 400001 := by have h8 := HKQ.out; have h9 := HS4.out; omega
       clear hss hws hP hb hsl hwl hwl2 hEQ hst hj
       rcases hte with t2 | ⟨t2, t3⟩
       all_goals
        go_wp2_with (fail)
        go_roundw
        case rel =>
         refine ⟨k + 1, aS, cS, aW, cW, a6, c6, ss, ws, hks, by go_num, rfl, rfl, by rw [HSN2.out], HSS2.out, HWS2.out, HNO2, HB.out, ?_⟩
         rw [HSN2.out]
         exact HP.out
        case measure => simp [intOf]; omega
  ·obtain rfl : k = ss.length := by omega
   have t1 : decide (ss.length < ss.length) = false := decide_eq_false (by omega)
   have HRR := Lib.hid (G10.out ss.length (by rw [← hsl]; exact Nat.le_refl _) HNO.out)
   have HWB := Lib.hid (HO3.out wr hb).2.2.1
   obtain ⟨M, hM⟩ : ∃ M, ss.length = M := ⟨_, rfl⟩
   rw [hM] at t1 ⊢
   clear hP hb hsl hwl hss hws HNO hM hk hge hs4
   go_wp2_with (fail)
   go_ret2
   unfold GivesSh
   rw [HRR.out.1, HRR.out.2]
   exact ⟨⟨none, 0, rfl, .inl ⟨rfl, rfl, rfl, rfl⟩⟩, HWB.out⟩
theorem refShortest_any {a : Nfa} {h : NH} {w : World} (hd : IsNfa w h a) : Calls Tryz.prog 10 #[vNf a h] w (GivesSh a w) := by
 by_cases hv : ValidN a
 ·exact refShortest_yes hv hd
 ·exact refShortest_no hv hd
end Go.Proofs.YtofaifeadhimjaaGreatDoor

set_option linter.unusedSimpArgs false
set_option linter.unusedVariables false
namespace Go.Proofs.YtofaifeadhimjaaGreatDoor
open List (foldr_cons foldr_nil setIfInBounds_toArray set_cons_succ set_cons_zero)
open Go.RowKit
attribute [local go_sem] Oper.semAt_some

theorem cell_later {w w' : World} {b j : Nat} {v : Value} (hb : Below w.heap.size w w') (h : w.cell? ⟨b, j, none⟩ = some v) : w'.cell? ⟨b, j, none⟩ = some v := (hb.cell (p := ⟨b, j, none⟩) (lt_of_cell h)).trans h
def NfP (a : Nfa) : Value → World → Prop := fun v W => ∃ h', v = vNf a h' ∧ IsNfa W h' a
theorem stays_nfP (a : Nfa) : Stays (NfP a) := fun v W W' hb ⟨h', e, h⟩ => ⟨h', e, h.later hb⟩
theorem boxRNx (a : Nfa) (h : NH) (w : World) (hd : IsNfa w h a) : ∃ W1, w.alloc (.cells #[.int .i64 a.n, .slice h.sa h.sl h.sc, .slice h.fa h.fl h.fc, .slice h.aa h.al h.ac] 26) = W1 ∧ W1.heap.size = w.heap.size + 1 ∧ Below w.heap.size w W1 ∧ ∀ W, Below (w.heap.size + 1) W1 W → (W.cell? ⟨w.heap.size, 0, none⟩ = some (.int .i64 a.n) ∧ W.cell? ⟨w.heap.size, 1, none⟩ = some (.slice h.sa h.sl h.sc) ∧ W.cell? ⟨w.heap.size, 2, none⟩ = some (.slice h.fa h.fl h.fc) ∧ W.cell? ⟨w.heap.size, 3, none⟩ = some (.slice h.aa h.al h.ac)) ∧ IsNfa W h a ∧ Below w.heap.size w W := boxRN a h w hd
theorem revV_sl (a : Nfa) : (revV a).s.length ≤ 100000 := by
 by_cases hv : ValidN a
 ·rw [(rev_yes hv).1]
  have h1 := finsL_len a.fin a.n.toNat
  have h2 := hv.1
  show (finsL a.fin a.n.toNat).length ≤ 100000
  omega
 ·rw [(rev_no hv).1]; exact Nat.zero_le _
theorem revV_al (a : Nfa) : (revV a).arcs.length ≤ 1000000 := by
 by_cases hv : ValidN a
 ·rw [(rev_yes hv).1]
  have h2 := hv.2.2.1
  show (revA a.arcs).length ≤ 1000000
  rw [revA_len hv.sorted]
  omega
 ·rw [(rev_no hv).1]; exact Nat.zero_le _
theorem shW_ofP {a : Nfa} (h : ValidN a → ShP a) : (shW a).length ≤ 100000 := by
 by_cases hv : ValidN a
 ·rcases h hv with h1 | ⟨u, h1, h2⟩
  ·rw [(sh_none hv fun u hu => h1 u ((accF_clo hv.arcsIn hv.startIn).1 hu)).1]; exact Nat.zero_le _
  ·rw [(sh_some hv h1).1]
   have := hv.1
   omega
 ·rw [(sh_no hv).1]; exact Nat.zero_le _
set_option maxRecDepth 20000 in
set_option maxHeartbeats 16000000 in
theorem nfaWords_walk (a : Nfa) (h : NH) (b : Nfa) (k : NH) (aw : Option Addr) (lw cw : Nat) (zs : List Int) (w : World) (ia : IsNfa w h a) (ib : IsNfa w k b) (iw : IsInts .i64 w aw lw cw zs) (iT : TabW w) :
  Calls Tryz.prog 3 #[vNf a h, vNf b k, .slice aw lw cw] w fun e w' => e = .returned (.bool true) ∧ Below w.heap.size w w' := by
 obtain ⟨W0, hW0, hs0, hb0, hO0⟩ := boxRN a h w ia
 replace ib := ib.later hb0
 replace ia := (hO0 W0 (Below.refl _ _)).2.1
 replace iw := iw.later hb0
 obtain ⟨c01, c02, c03, c04⟩ := (hO0 W0 (Below.refl _ _)).1
 obtain ⟨W1, hW1, hs1, hb1, hO1⟩ := boxRN b k W0 ib
 replace ia := ia.later hb1
 replace ib := (hO1 W1 (Below.refl _ _)).2.1
 replace iw := iw.later hb1
 replace c01 := cell_later hb1 c01
 replace c02 := cell_later hb1 c02
 replace c03 := cell_later hb1 c03
 replace c04 := cell_later hb1 c04
 obtain ⟨c11, c12, c13, c14⟩ := (hO1 W1 (Below.refl _ _)).1
 have HB : Below w.heap.size w W1 := (hb0.trans (hb1.mono (hb0).size))
 rw [hs0] at c11 c12 c13 c14
 clear hO0 hb0 hO1 hb1
 unfold vNf
 replace iT := iT.later HB
 by_cases fa : FewN a
 rotate_left
 ·have hx := fa
  go_enter Tryz.func3, Tryz.ntmps3
  go_wp2_with (fail)
  refine (awake_any iT).mono ?_
  rintro e w1 ⟨rfl, hb⟩
  replace c01 := cell_later hb c01
  replace c02 := cell_later hb c02
  replace c03 := cell_later hb c03
  replace c04 := cell_later hb c04
  replace c11 := cell_later hb c11
  replace c12 := cell_later hb c12
  replace c13 := cell_later hb c13
  replace c14 := cell_later hb c14
  replace ia := ia.later hb
  replace ib := ib.later hb
  replace iw := iw.later hb
  replace iT := iT.later hb
  replace HB := HB.trans (hb.mono HB.size)
  clear hb
  go_wp2_with (fail)
  refine (few_no ia fa).mono ?_
  rintro e w2 ⟨rfl, hb⟩
  replace c01 := cell_later hb c01
  replace c02 := cell_later hb c02
  replace c03 := cell_later hb c03
  replace c04 := cell_later hb c04
  replace c11 := cell_later hb c11
  replace c12 := cell_later hb c12
  replace c13 := cell_later hb c13
  replace c14 := cell_later hb c14
  replace ia := ia.later hb
  replace ib := ib.later hb
  replace iw := iw.later hb
  replace iT := iT.later hb
  replace HB := HB.trans (hb.mono HB.size)
  clear hb
  go_wp2_with (fail)
  go_ret
  exact ⟨rfl, HB⟩
 by_cases fb : FewN b
 rotate_left
 ·have hx := fb
  go_enter Tryz.func3, Tryz.ntmps3
  go_wp2_with (fail)
  refine (awake_any iT).mono ?_
  rintro e w3 ⟨rfl, hb⟩
  replace c01 := cell_later hb c01
  replace c02 := cell_later hb c02
  replace c03 := cell_later hb c03
  replace c04 := cell_later hb c04
  replace c11 := cell_later hb c11
  replace c12 := cell_later hb c12
  replace c13 := cell_later hb c13
  replace c14 := cell_later hb c14
  replace ia := ia.later hb
  replace ib := ib.later hb
  replace iw := iw.later hb
  replace iT := iT.later hb
  replace HB := HB.trans (hb.mono HB.size)
  clear hb
  go_wp2_with (fail)
  refine (few_yes ia fa).mono ?_
  rintro e w4 ⟨rfl, hb⟩
  replace c01 := cell_later hb c01
  replace c02 := cell_later hb c02
  replace c03 := cell_later hb c03
  replace c04 := cell_later hb c04
  replace c11 := cell_later hb c11
  replace c12 := cell_later hb c12
  replace c13 := cell_later hb c13
  replace c14 := cell_later hb c14
  replace ia := ia.later hb
  replace ib := ib.later hb
  replace iw := iw.later hb
  replace iT := iT.later hb
  replace HB := HB.trans (hb.mono HB.size)
  clear hb
  go_wp2_with (fail)
  refine (few_no ib fb).mono ?_
  rintro e w5 ⟨rfl, hb⟩
  replace c01 := cell_later hb c01
  replace c02 := cell_later hb c02
  replace c03 := cell_later hb c03
  replace c04 := cell_later hb c04
  replace c11 := cell_later hb c11
  replace c12 := cell_later hb c12
  replace c13 := cell_later hb c13
  replace c14 := cell_later hb c14
  replace ia := ia.later hb
  replace ib := ib.later hb
  replace iw := iw.later hb
  replace iT := iT.later hb
  replace HB := HB.trans (hb.mono HB.size)
  clear hb
  go_wp2_with (fail)
  go_ret
  exact ⟨rfl, HB⟩
 by_cases hlw : 20 < lw
 ·have d1 : decide ((20 : Int) < (lw : Int)) = true := decide_eq_true (by omega)
  go_enter Tryz.func3, Tryz.ntmps3
  go_wp2_with (fail)
  refine (awake_any iT).mono ?_
  rintro e w6 ⟨rfl, hb⟩
  replace c01 := cell_later hb c01
  replace c02 := cell_later hb c02
  replace c03 := cell_later hb c03
  replace c04 := cell_later hb c04
  replace c11 := cell_later hb c11
  replace c12 := cell_later hb c12
  replace c13 := cell_later hb c13
  replace c14 := cell_later hb c14
  replace ia := ia.later hb
  replace ib := ib.later hb
  replace iw := iw.later hb
  replace iT := iT.later hb
  replace HB := HB.trans (hb.mono HB.size)
  clear hb
  go_wp2_with (fail)
  refine (few_yes ia fa).mono ?_
  rintro e w7 ⟨rfl, hb⟩
  replace c01 := cell_later hb c01
  replace c02 := cell_later hb c02
  replace c03 := cell_later hb c03
  replace c04 := cell_later hb c04
  replace c11 := cell_later hb c11
  replace c12 := cell_later hb c12
  replace c13 := cell_later hb c13
  replace c14 := cell_later hb c14
  replace ia := ia.later hb
  replace ib := ib.later hb
  replace iw := iw.later hb
  replace iT := iT.later hb
  replace HB := HB.trans (hb.mono HB.size)
  clear hb
  go_wp2_with (fail)
  refine (few_yes ib fb).mono ?_
  rintro e w8 ⟨rfl, hb⟩
  replace c01 := cell_later hb c01
  replace c02 := cell_later hb c02
  replace c03 := cell_later hb c03
  replace c04 := cell_later hb c04
  replace c11 := cell_later hb c11
  replace c12 := cell_later hb c12
  replace c13 := cell_later hb c13
  replace c14 := cell_later hb c14
  replace ia := ia.later hb
  replace ib := ib.later hb
  replace iw := iw.later hb
  replace iT := iT.later hb
  replace HB := HB.trans (hb.mono HB.size)
  clear hb
  go_wp2_with (fail)
  go_ret
  exact ⟨rfl, HB⟩
 have d1 : decide ((20 : Int) < (lw : Int)) = false := decide_eq_false (by omega)
 have fa3 : a.arcs.length ≤ 1000 := by have := fa.2.2.2; omega
 have fb3 : b.arcs.length ≤ 1000 := by have := fb.2.2.2; omega
 have hlw2 : lw ≤ 100000 := by omega
 have hsl : h.sl ≤ 100000 := by have h1 := ia.start.length; have h2 := fa.2.1; omega
 have ka := fun W h' (hd : IsNfa W h' a) (hi : IsInts .i64 W aw lw cw zs) (hT : TabW W) => accepts_any (w := W) (h := h') hd hi hT
 have kb := fun W h' (hd : IsNfa W h' a) (hi : IsInts .i64 W aw lw cw zs) => refAccepts_any (w := W) (h := h') hd hi hlw2
 have kc := fun W h' (hd : IsNfa W h' a) (hT : TabW W) => (Shortest_any (w := W) (h := h') hd hT).mono fun e w' hh => And.intro (And.intro hh.1.1 (shW_ofP hh.2)) hh.1.2
 have kd := fun W h' (hd : IsNfa W h' a) => refShortest_any (w := W) (h := h') hd
 have ke := fun W h' (hd : IsNfa W h' a) => Reverse_any (w := W) (h := h') hd
 have kf := fun W h' (hd : IsNfa W h' a) => refReverse_any (w := W) (h := h') hd
 unfold accV at ka kb
 unfold GivesSh at kd
 have kc : ∀ W h', IsNfa W h' a → TabW W → Calls Tryz.prog 9 #[vNf a h'] W fun e w' => ((∃ b c, e = .returned (.tuple #[.slice b (shW a).length c, .int .i64 (shX a)]) ∧ IsInts .i64 w' b (shW a).length c (shW a)) ∧ (shW a).length ≤ 100000) ∧ Below W.heap.size W w' := kc
 have hRs := revV_sl a
 have hRa := revV_al a
 obtain ⟨u, hu⟩ : ∃ u, accN a zs = u := ⟨_, rfl⟩
 obtain ⟨x1, hx1⟩ : ∃ x : Int, (if vN a = true then (0 : Int) else 1) = x := ⟨_, rfl⟩
 obtain ⟨SW, hSW⟩ : ∃ x, shW a = x := ⟨_, rfl⟩
 obtain ⟨x2, hx2⟩ : ∃ x, shX a = x := ⟨_, rfl⟩
 obtain ⟨R, hR⟩ : ∃ x, revV a = x := ⟨_, rfl⟩
 obtain ⟨x3, hx3⟩ : ∃ x, revE a = x := ⟨_, rfl⟩
 rw [hu, hx1] at ka kb
 rw [hSW, hx2] at kc kd
 rw [hR, hx3] at ke kf
 rw [hR] at hRs hRa
 obtain ⟨sl, hsl2⟩ : ∃ n, SW.length = n := ⟨_, rfl⟩
 rw [hsl2] at kc kd
 obtain ⟨q, hq⟩ : ∃ q, eqN a b = q := ⟨_, rfl⟩
 have HQ := Lib.hid hq
 have KA := Lib.hid ka
 have KB := Lib.hid kb
 have KC := Lib.hid kc
 have KD := Lib.hid kd
 have KE := Lib.hid ke
 have KF := Lib.hid kf
 have HRS := Lib.hid hRs
 have HRA := Lib.hid hRa
 have q0 : (u == u) = true := by simp
 have q1 : (x1 == x1) = true := by simp
 have q2 : (x2 == x2) = true := by simp
 have q3 : (x3 == x3) = true := by simp
 have q4 : (q == q) = true := by simp
 clear ka kb kc kd ke kf hRs hRa hu hx1 hSW hx2 hR hx3 hq hlw hlw2 hsl2
 go_enter Tryz.func3, Tryz.ntmps3
 go_wp2_with (fail)
 refine (awake_any iT).mono ?_
 rintro e w9 ⟨rfl, hb⟩
 replace c01 := cell_later hb c01
 replace c02 := cell_later hb c02
 replace c03 := cell_later hb c03
 replace c04 := cell_later hb c04
 replace c11 := cell_later hb c11
 replace c12 := cell_later hb c12
 replace c13 := cell_later hb c13
 replace c14 := cell_later hb c14
 replace ia := ia.later hb
 replace ib := ib.later hb
 replace iw := iw.later hb
 replace iT := iT.later hb
 replace HB := HB.trans (hb.mono HB.size)
 clear hb
 go_wp2_with (fail)
 refine (few_yes ia fa).mono ?_
 rintro e w10 ⟨rfl, hb⟩
 replace c01 := cell_later hb c01
 replace c02 := cell_later hb c02
 replace c03 := cell_later hb c03
 replace c04 := cell_later hb c04
 replace c11 := cell_later hb c11
 replace c12 := cell_later hb c12
 replace c13 := cell_later hb c13
 replace c14 := cell_later hb c14
 replace ia := ia.later hb
 replace ib := ib.later hb
 replace iw := iw.later hb
 replace iT := iT.later hb
 replace HB := HB.trans (hb.mono HB.size)
 clear hb
 go_wp2_with (fail)
 refine (few_yes ib fb).mono ?_
 rintro e w11 ⟨rfl, hb⟩
 replace c01 := cell_later hb c01
 replace c02 := cell_later hb c02
 replace c03 := cell_later hb c03
 replace c04 := cell_later hb c04
 replace c11 := cell_later hb c11
 replace c12 := cell_later hb c12
 replace c13 := cell_later hb c13
 replace c14 := cell_later hb c14
 replace ia := ia.later hb
 replace ib := ib.later hb
 replace iw := iw.later hb
 replace iT := iT.later hb
 replace HB := HB.trans (hb.mono HB.size)
 clear hb
 go_wp2_with (fail)
 refine (own_any ia fa3).mono ?_
 rintro e w12 ⟨⟨yp, rfl, ip⟩, hb⟩
 unfold vNf
 replace c01 := cell_later hb c01
 replace c02 := cell_later hb c02
 replace c03 := cell_later hb c03
 replace c04 := cell_later hb c04
 replace c11 := cell_later hb c11
 replace c12 := cell_later hb c12
 replace c13 := cell_later hb c13
 replace c14 := cell_later hb c14
 replace ia := ia.later hb
 replace ib := ib.later hb
 replace iw := iw.later hb
 replace iT := iT.later hb
 replace HB := HB.trans (hb.mono HB.size)
 clear hb
 go_upto_region 6 with (fail)
 obtain ⟨Vp, hVp, -, hb, hOp⟩ := boxNW a yp _ ip
 rw [hVp]
 obtain ⟨⟨cp1, cp2, cp3, cp4⟩, -, -⟩ := hOp Vp (Below.refl _ _)
 clear hOp hVp
 replace c01 := cell_later hb c01
 replace c02 := cell_later hb c02
 replace c03 := cell_later hb c03
 replace c04 := cell_later hb c04
 replace c11 := cell_later hb c11
 replace c12 := cell_later hb c12
 replace c13 := cell_later hb c13
 replace c14 := cell_later hb c14
 replace ia := ia.later hb
 replace ib := ib.later hb
 replace iw := iw.later hb
 replace iT := iT.later hb
 replace ip := ip.later hb
 replace HB := HB.trans (hb.mono HB.size)
 clear hb
 go_wp2_with (fail)
 refine (KA.out _ _ ip iw iT).mono ?_
 rintro e w13 ⟨rfl, hb⟩
 replace c01 := cell_later hb c01
 replace c02 := cell_later hb c02
 replace c03 := cell_later hb c03
 replace c04 := cell_later hb c04
 replace c11 := cell_later hb c11
 replace c12 := cell_later hb c12
 replace c13 := cell_later hb c13
 replace c14 := cell_later hb c14
 replace cp1 := cell_later hb cp1
 replace cp2 := cell_later hb cp2
 replace cp3 := cell_later hb cp3
 replace cp4 := cell_later hb cp4
 replace ia := ia.later hb
 replace ib := ib.later hb
 replace iw := iw.later hb
 replace iT := iT.later hb
 replace ip := ip.later hb
 replace HB := HB.trans (hb.mono HB.size)
 clear hb
 go_wp2_with (fail)
 refine (KB.out _ _ ia iw).mono ?_
 rintro e w14 ⟨rfl, hb⟩
 replace c01 := cell_later hb c01
 replace c02 := cell_later hb c02
 replace c03 := cell_later hb c03
 replace c04 := cell_later hb c04
 replace c11 := cell_later hb c11
 replace c12 := cell_later hb c12
 replace c13 := cell_later hb c13
 replace c14 := cell_later hb c14
 replace cp1 := cell_later hb cp1
 replace cp2 := cell_later hb cp2
 replace cp3 := cell_later hb cp3
 replace cp4 := cell_later hb cp4
 replace ia := ia.later hb
 replace ib := ib.later hb
 replace iw := iw.later hb
 replace iT := iT.later hb
 replace ip := ip.later hb
 replace HB := HB.trans (hb.mono HB.size)
 clear hb
 go_wp2_with (fail)
 refine (KC.out _ _ ip iT).mono ?_
 rintro e w15 ⟨⟨⟨g1, t1, rfl, i1⟩, hSl⟩, hb⟩
 replace c01 := cell_later hb c01
 replace c02 := cell_later hb c02
 replace c03 := cell_later hb c03
 replace c04 := cell_later hb c04
 replace c11 := cell_later hb c11
 replace c12 := cell_later hb c12
 replace c13 := cell_later hb c13
 replace c14 := cell_later hb c14
 replace cp1 := cell_later hb cp1
 replace cp2 := cell_later hb cp2
 replace cp3 := cell_later hb cp3
 replace cp4 := cell_later hb cp4
 replace ia := ia.later hb
 replace ib := ib.later hb
 replace iw := iw.later hb
 replace iT := iT.later hb
 replace ip := ip.later hb
 replace HB := HB.trans (hb.mono HB.size)
 clear hb
 go_wp2_with (fail)
 refine (KD.out _ _ ia).mono ?_
 rintro e w16 ⟨⟨g2, t2, rfl, i2⟩, hb⟩
 replace c01 := cell_later hb c01
 replace c02 := cell_later hb c02
 replace c03 := cell_later hb c03
 replace c04 := cell_later hb c04
 replace c11 := cell_later hb c11
 replace c12 := cell_later hb c12
 replace c13 := cell_later hb c13
 replace c14 := cell_later hb c14
 replace cp1 := cell_later hb cp1
 replace cp2 := cell_later hb cp2
 replace cp3 := cell_later hb cp3
 replace cp4 := cell_later hb cp4
 replace ia := ia.later hb
 replace ib := ib.later hb
 replace iw := iw.later hb
 replace iT := iT.later hb
 replace ip := ip.later hb
 replace i1 := i1.later hb
 replace HB := HB.trans (hb.mono HB.size)
 clear hb
 go_wp2_with (fail)
 refine (KE.out _ _ ip).mono ?_
 rintro e w17 ⟨⟨yr, rfl, ir⟩, hb⟩
 unfold vNf
 replace c01 := cell_later hb c01
 replace c02 := cell_later hb c02
 replace c03 := cell_later hb c03
 replace c04 := cell_later hb c04
 replace c11 := cell_later hb c11
 replace c12 := cell_later hb c12
 replace c13 := cell_later hb c13
 replace c14 := cell_later hb c14
 replace cp1 := cell_later hb cp1
 replace cp2 := cell_later hb cp2
 replace cp3 := cell_later hb cp3
 replace cp4 := cell_later hb cp4
 replace ia := ia.later hb
 replace ib := ib.later hb
 replace iw := iw.later hb
 replace iT := iT.later hb
 replace ip := ip.later hb
 replace i1 := i1.later hb
 replace i2 := i2.later hb
 replace HB := HB.trans (hb.mono HB.size)
 clear hb
 go_upto_region 11 with (fail)
 obtain ⟨Vr, hVr, -, hb, hOr⟩ := boxNW R yr _ ir
 rw [hVr]
 obtain ⟨⟨cr1, cr2, cr3, cr4⟩, -, -⟩ := hOr Vr (Below.refl _ _)
 clear hOr hVr
 replace c01 := cell_later hb c01
 replace c02 := cell_later hb c02
 replace c03 := cell_later hb c03
 replace c04 := cell_later hb c04
 replace c11 := cell_later hb c11
 replace c12 := cell_later hb c12
 replace c13 := cell_later hb c13
 replace c14 := cell_later hb c14
 replace cp1 := cell_later hb cp1
 replace cp2 := cell_later hb cp2
 replace cp3 := cell_later hb cp3
 replace cp4 := cell_later hb cp4
 replace ia := ia.later hb
 replace ib := ib.later hb
 replace iw := iw.later hb
 replace iT := iT.later hb
 replace ip := ip.later hb
 replace i1 := i1.later hb
 replace i2 := i2.later hb
 replace ir := ir.later hb
 replace HB := HB.trans (hb.mono HB.size)
 clear hb
 go_wp2_with (fail)
 refine (KF.out _ _ ia).mono ?_
 rintro e w18 ⟨⟨yq, rfl, iq⟩, hb⟩
 unfold vNf
 replace c01 := cell_later hb c01
 replace c02 := cell_later hb c02
 replace c03 := cell_later hb c03
 replace c04 := cell_later hb c04
 replace c11 := cell_later hb c11
 replace c12 := cell_later hb c12
 replace c13 := cell_later hb c13
 replace c14 := cell_later hb c14
 replace cp1 := cell_later hb cp1
 replace cp2 := cell_later hb cp2
 replace cp3 := cell_later hb cp3
 replace cp4 := cell_later hb cp4
 replace cr1 := cell_later hb cr1
 replace cr2 := cell_later hb cr2
 replace cr3 := cell_later hb cr3
 replace cr4 := cell_later hb cr4
 replace ia := ia.later hb
 replace ib := ib.later hb
 replace iw := iw.later hb
 replace iT := iT.later hb
 replace ip := ip.later hb
 replace i1 := i1.later hb
 replace i2 := i2.later hb
 replace ir := ir.later hb
 replace HB := HB.trans (hb.mono HB.size)
 clear hb
 go_upto_region 12 with (fail)
 obtain ⟨Vq, hVq, -, hb, hOq⟩ := boxRNx R yq _ iq
 rw [hVq]
 obtain ⟨⟨cq1, cq2, cq3, cq4⟩, -, -⟩ := hOq Vq (Below.refl _ _)
 clear hOq hVq
 replace c01 := cell_later hb c01
 replace c02 := cell_later hb c02
 replace c03 := cell_later hb c03
 replace c04 := cell_later hb c04
 replace c11 := cell_later hb c11
 replace c12 := cell_later hb c12
 replace c13 := cell_later hb c13
 replace c14 := cell_later hb c14
 replace cp1 := cell_later hb cp1
 replace cp2 := cell_later hb cp2
 replace cp3 := cell_later hb cp3
 replace cp4 := cell_later hb cp4
 replace cr1 := cell_later hb cr1
 replace cr2 := cell_later hb cr2
 replace cr3 := cell_later hb cr3
 replace cr4 := cell_later hb cr4
 replace ia := ia.later hb
 replace ib := ib.later hb
 replace iw := iw.later hb
 replace iT := iT.later hb
 replace ip := ip.later hb
 replace i1 := i1.later hb
 replace i2 := i2.later hb
 replace ir := ir.later hb
 replace iq := iq.later hb
 replace HB := HB.trans (hb.mono HB.size)
 clear hb
 have hys : yr.sl ≤ 100000 := by rw [← ir.start.length]; exact HRS.out
 have hya : yr.al ≤ 1000000 := by rw [← ir.arcs.length]; exact HRA.out
 refine wp_region_grow mixed (by kernel_rfl) [[], [], [(0, 69), (1, 70)], [(2, 71)], [(3, 72)], [(3, 72)], [(4, 73), (5, 74), (3, 72)], [(3, 72), (6, 75)], [(7, 76), (3, 72)], [(8, 77)], [(8, 77)], [(9, 78), (10, 79), (8, 77)], [(8, 77), (11, 80)], [(12, 81), (8, 77)], [(13, 82)], [(13, 82)], [(14, 83), (15, 84), (13, 82), (13, 82)], [(13, 82), (16, 85)], [(17, 86), (16, 85)], [(18, 87)], [(18, 87)], [(19, 88), (20, 89), (18, 87)], [(18, 87), (21, 90)], [(22, 91), (18, 87)], [(23, 92)], [(24, 93), (23, 92), (23, 92)], [(23, 92)], [(25, 94), (26, 95), (25, 94), (23, 92)], [(23, 92), (27, 96)], [(28, 97), (27, 96)], [(29, 98)], [(29, 98)], [(31, 100), (29, 98), (29, 98)], [(30, 99), (32, 101), (32, 101), (29, 98)], [(29, 98)], [(29, 98)], [(34, 103), (35, 104), (33, 102), (29, 98)], [(33, 102), (36, 105), (29, 98)], [(29, 98), (37, 106)], [(38, 107), (36, 105)], [(39, 108)], [(39, 108)], [(40, 109), (41, 110), (39, 108), (39, 108)], [(39, 108), (42, 111)], [(43, 112), (42, 111), (0, 69), (1, 70), (2, 71), (3, 72), (4, 73), (5, 74), (6, 75), (7, 76), (8, 77), (9, 78), (10, 79), (11, 80), (12, 81), (13, 82), (14, 83), (15, 84), (16, 85), (17, 86), (18, 87), (19, 88), (20, 89), (21, 90), (22, 91), (23, 92), (24, 93), (25, 94), (26, 95), (27, 96), (28, 97), (29, 98), (30, 99), (31, 100), (32, 101), (33, 102), (34, 103), (35, 104), (36, 105), (37, 106), (38, 107), (39, 108), (40, 109), (41, 110), (42, 111), (43, 112)]] [(0, 69), (1, 70), (2, 71), (3, 72), (4, 73), (5, 74), (6, 75), (7, 76), (8, 77), (9, 78), (10, 79), (11, 80), (12, 81), (13, 82), (14, 83), (15, 84), (16, 85), (17, 86), (18, 87), (19, 88), (20, 89), (21, 90), (22, 91), (23, 92), (24, 93), (25, 94), (26, 95), (27, 96), (28, 97), (29, 98), (30, 99), (31, 100), (32, 101), (33, 102), (34, 103), (35, 104), (36, 105), (37, 106), (38, 107), (39, 108), (40, 109), (41, 110), (42, 111), (43, 112), (44, 6)] rfl rfl [Ex ?ee0, Ex ?ee1, Ex ?ee2, Ex ?ee3, Ex ?ee4, Ex ?ee5, Ex ?ee6, Ex ?ee7, Ex ?ee8, Ex ?ee9, Ex ?ee10, Ex ?ee11, Ex ?ee12, Ex ?ee13, Ex ?ee14, Ex ?ee15, Ex (.bool true), Ex ?ee17, Ex ?ee18, Ex ?ee19, Ex ?ee20, Ex ?ee21, Ex ?ee22, Ex ?ee23, Ex ?ee24, NfP R, Ex ?ee26, Ex (.bool true), Ex ?ee28, Ex ?ee29, Ex ?ee30, Ex ?ee31, NfP b, Ex (.bool q), Ex ?ee34, Ex ?ee35, Ex (.bool q), Ex ?ee37, Ex ?ee38, Ex ?ee39, Ex ?ee40, Ex ?ee41, Ex (.bool true), Ex ?ee43, Ex ?ee44] ⟨stays_ex _, stays_ex _, stays_ex _, stays_ex _, stays_ex _, stays_ex _, stays_ex _, stays_ex _, stays_ex _, stays_ex _, stays_ex _, stays_ex _, stays_ex _, stays_ex _, stays_ex _, stays_ex _, stays_ex _, stays_ex _, stays_ex _, stays_ex _, stays_ex _, stays_ex _, stays_ex _, stays_ex _, stays_ex _, stays_nfP _, stays_ex _, stays_ex _, stays_ex _, stays_ex _, stays_ex _, stays_ex _, stays_nfP _, stays_ex _, stays_ex _, stays_ex _, stays_ex _, stays_ex _, stays_ex _, stays_ex _, stays_ex _, stays_ex _, stays_ex _, stays_ex _, stays_ex _, trivial⟩ ?esteps ?erest
 case esteps =>
  refine ⟨fun f W hC hh => ?_, fun f W hC hh => ?_, fun f W hC hh => ?_, fun f W hC hh => ?_, fun f W hC hh => ?_, fun f W hC hh => ?_, fun f W hC hh => ?_, fun f W hC hh => ?_, fun f W hC hh => ?_, fun f W hC hh => ?_, fun f W hC hh => ?_, fun f W hC hh => ?_, fun f W hC hh => ?_, fun f W hC hh => ?_, fun f W hC hh => ?_, fun f W hC hh => ?_, fun f W hC hh => ?_, fun f W hC hh => ?_, fun f W hC hh => ?_, fun f W hC hh => ?_, fun f W hC hh => ?_, fun f W hC hh => ?_, fun f W hC hh => ?_, fun f W hC hh => ?_, fun f W hC hh => ?_, fun f W hC hh => ?_, fun f W hC hh => ?_, fun f W hC hh => ?_, fun f W hC hh => ?_, fun f W hC hh => ?_, fun f W hC hh => ?_, fun f W hC hh => ?_, fun f W hC hh => ?_, fun f W hC hh => ?_, fun f W hC hh => ?_, fun f W hC hh => ?_, fun f W hC hh => ?_, fun f W hC hh => ?_, fun f W hC hh => ?_, fun f W hC hh => ?_, fun f W hC hh => ?_, fun f W hC hh => ?_, fun f W hC hh => ?_, fun f W hC hh => ?_, fun f W hC hh => ?_, trivial⟩
  ·
   refine tab_plain fun K Q hK => ?_
   simp only [puts, foldr_nil]
   go_step
   exact fam_e hK rfl rfl (Below.refl _ _) hC
  ·
   refine tab_plain fun K Q hK => ?_
   simp only [puts, foldr_nil]
   go_step
   exact fam_e hK rfl rfl (Below.refl _ _) hC
  ·
   obtain ⟨h0, h1, -⟩ := hh
   have g0 : f 0 = _ := h0
   have g1 : f 1 = _ := h1
   refine tab_plain fun K Q hK => ?_
   simp only [puts, Za, Zb, Zc, Zd, Ze, g0, g1]
   go_step
   exact fam_e hK rfl rfl (Below.refl _ _) hC
  ·
   obtain ⟨h2, -⟩ := hh
   have g2 : f 2 = _ := h2
   refine tab_plain fun K Q hK => ?_
   simp only [puts, Za, Zb, Zc, Zd, Ze, g2]
   go_step
   exact fam_e hK rfl rfl (Below.refl _ _) hC
  ·
   obtain ⟨h3, -⟩ := hh
   have g3 : f 3 = _ := h3
   refine tab_yes g3 fun K Q hK => ?_
   simp only [puts, Za, Zb, Zc, Zd, Ze, g3]
   go_step
   exact fam_e hK rfl rfl (Below.refl _ _) hC
  ·
   obtain ⟨h3, -⟩ := hh
   have g3 : f 3 = _ := h3
   refine tab_yes g3 fun K Q hK => ?_
   simp only [puts, Za, Zb, Zc, Zd, Ze, g3]
   go_step
   exact fam_e hK rfl rfl (Below.refl _ _) hC
  ·
   obtain ⟨h4, h5, h3, -⟩ := hh
   have g4 : f 4 = _ := h4
   have g5 : f 5 = _ := h5
   have g3 : f 3 = _ := h3
   refine tab_yes g3 fun K Q hK => ?_
   simp only [puts, Za, Zb, Zc, Zd, Ze, g4, g5, g3]
   go_step
   exact fam_e hK rfl rfl (Below.refl _ _) hC
  ·
   obtain ⟨h3, h6, -⟩ := hh
   have g3 : f 3 = _ := h3
   have g6 : f 6 = _ := h6
   refine tab_plain fun K Q hK => ?_
   simp only [puts, Za, Zb, Zc, Zd, Ze, g3, g6]
   go_step
   exact fam_e hK rfl rfl (Below.refl _ _) hC
  ·
   obtain ⟨h7, h3, -⟩ := hh
   have g7 : f 7 = _ := h7
   have g3 : f 3 = _ := h3
   refine tab_plain fun K Q hK => ?_
   simp only [puts, Za, Zb, Zc, Zd, Ze, g7, g3]
   go_step
   exact fam_e hK rfl rfl (Below.refl _ _) hC
  ·
   obtain ⟨h8, -⟩ := hh
   have g8 : f 8 = _ := h8
   refine tab_yes g8 fun K Q hK => ?_
   simp only [puts, Za, Zb, Zc, Zd, Ze, g8]
   go_step
   exact fam_e hK rfl rfl (Below.refl _ _) hC
  ·
   obtain ⟨h8, -⟩ := hh
   have g8 : f 8 = _ := h8
   refine tab_yes g8 fun K Q hK => ?_
   simp only [puts, Za, Zb, Zc, Zd, Ze, g8]
   go_step
   exact fam_e hK rfl rfl (Below.refl _ _) hC
  ·
   obtain ⟨h9, h10, h8, -⟩ := hh
   have g9 : f 9 = _ := h9
   have g10 : f 10 = _ := h10
   have g8 : f 8 = _ := h8
   refine tab_yes g8 fun K Q hK => ?_
   simp only [puts, Za, Zb, Zc, Zd, Ze, g9, g10, g8]
   go_step
   exact fam_e hK rfl rfl (Below.refl _ _) hC
  ·
   obtain ⟨h8, h11, -⟩ := hh
   have g8 : f 8 = _ := h8
   have g11 : f 11 = _ := h11
   refine tab_plain fun K Q hK => ?_
   simp only [puts, Za, Zb, Zc, Zd, Ze, g8, g11]
   go_step
   exact fam_e hK rfl rfl (Below.refl _ _) hC
  ·
   obtain ⟨h12, h8, -⟩ := hh
   have g12 : f 12 = _ := h12
   have g8 : f 8 = _ := h8
   refine tab_plain fun K Q hK => ?_
   simp only [puts, Za, Zb, Zc, Zd, Ze, g12, g8]
   go_step
   exact fam_e hK rfl rfl (Below.refl _ _) hC
  ·
   obtain ⟨h13, -⟩ := hh
   have g13 : f 13 = _ := h13
   refine tab_yes g13 fun K Q hK => ?_
   simp only [puts, Za, Zb, Zc, Zd, Ze, g13]
   go_step
   exact fam_e hK rfl rfl (Below.refl _ _) hC
  ·
   obtain ⟨h13, -⟩ := hh
   have g13 : f 13 = _ := h13
   refine tab_yes g13 fun K Q hK => ?_
   simp only [puts, Za, Zb, Zc, Zd, Ze, g13]
   go_step
   exact fam_e hK rfl rfl (Below.refl _ _) hC
  ·
   obtain ⟨h14, h15, h13, _, -⟩ := hh
   have g14 : f 14 = _ := h14
   have g15 : f 15 = _ := h15
   have g13 : f 13 = _ := h13
   refine tab_yes g13 fun K Q hK => ?_
   simp only [puts, Za, Zb, Zc, Zd, Ze, g14, g15, g13]
   go_step
   go_at_call 13
   have hs := Bt.same_any _ _ _ _ _ _ _ _ W (i1.later hC) (i2.later hC) (by omega)
   rw [decide_eq_true (rfl : SW = SW)] at hs
   refine (hs).mono ?_
   rintro e w' ⟨rfl, hb⟩
   exact fam_fin hK rfl rfl hb (hC.trans (hb.mono hC.size))
  ·
   obtain ⟨h13, h16, -⟩ := hh
   have g13 : f 13 = _ := h13
   have g16 : f 16 = _ := h16
   refine tab_plain fun K Q hK => ?_
   simp only [puts, Za, Zb, Zc, Zd, Ze, g13, g16]
   go_step
   exact fam_e hK rfl rfl (Below.refl _ _) hC
  ·
   obtain ⟨h17, h16, -⟩ := hh
   have g17 : f 17 = _ := h17
   have g16 : f 16 = _ := h16
   refine tab_plain fun K Q hK => ?_
   simp only [puts, Za, Zb, Zc, Zd, Ze, g17, g16]
   go_step
   exact fam_e hK rfl rfl (Below.refl _ _) hC
  ·
   obtain ⟨h18, -⟩ := hh
   have g18 : f 18 = _ := h18
   refine tab_yes g18 fun K Q hK => ?_
   simp only [puts, Za, Zb, Zc, Zd, Ze, g18]
   go_step
   exact fam_e hK rfl rfl (Below.refl _ _) hC
  ·
   obtain ⟨h18, -⟩ := hh
   have g18 : f 18 = _ := h18
   refine tab_yes g18 fun K Q hK => ?_
   simp only [puts, Za, Zb, Zc, Zd, Ze, g18]
   go_step
   exact fam_e hK rfl rfl (Below.refl _ _) hC
  ·
   obtain ⟨h19, h20, h18, -⟩ := hh
   have g19 : f 19 = _ := h19
   have g20 : f 20 = _ := h20
   have g18 : f 18 = _ := h18
   refine tab_yes g18 fun K Q hK => ?_
   simp only [puts, Za, Zb, Zc, Zd, Ze, g19, g20, g18]
   go_step
   exact fam_e hK rfl rfl (Below.refl _ _) hC
  ·
   obtain ⟨h18, h21, -⟩ := hh
   have g18 : f 18 = _ := h18
   have g21 : f 21 = _ := h21
   refine tab_plain fun K Q hK => ?_
   simp only [puts, Za, Zb, Zc, Zd, Ze, g18, g21]
   go_step
   exact fam_e hK rfl rfl (Below.refl _ _) hC
  ·
   obtain ⟨h22, h18, -⟩ := hh
   have g22 : f 22 = _ := h22
   have g18 : f 18 = _ := h18
   refine tab_plain fun K Q hK => ?_
   simp only [puts, Za, Zb, Zc, Zd, Ze, g22, g18]
   go_step
   exact fam_e hK rfl rfl (Below.refl _ _) hC
  ·
   obtain ⟨h23, -⟩ := hh
   have g23 : f 23 = _ := h23
   refine tab_yes g23 fun K Q hK => ?_
   simp only [puts, Za, Zb, Zc, Zd, Ze, g23]
   have mr1 := cell_later hC cr1
   have mr2 := cell_later hC cr2
   have mr3 := cell_later hC cr3
   have mr4 := cell_later hC cr4
   go_step
   exact fam_e hK rfl rfl (Below.refl _ _) hC
  ·
   obtain ⟨h24, h23, _, -⟩ := hh
   have g24 : f 24 = _ := h24
   have g23 : f 23 = _ := h23
   refine tab_yes g23 fun K Q hK => ?_
   simp only [puts, Za, Zb, Zc, Zd, Ze, g24, g23]
   go_step
   go_at_call 15
   refine (theirs_any (ir.later hC) hya).mono ?_
   rintro e w' ⟨⟨y', rfl, hI⟩, hb⟩
   exact fam_fin hK rfl ⟨y', rfl, hI⟩ hb (hC.trans (hb.mono hC.size))
  ·
   obtain ⟨h23, -⟩ := hh
   have g23 : f 23 = _ := h23
   refine tab_yes g23 fun K Q hK => ?_
   simp only [puts, Za, Zb, Zc, Zd, Ze, g23]
   have mq1 := cell_later hC cq1
   have mq2 := cell_later hC cq2
   have mq3 := cell_later hC cq3
   have mq4 := cell_later hC cq4
   go_step
   exact fam_e hK rfl rfl (Below.refl _ _) hC
  ·
   obtain ⟨h25, h26, _, h23, -⟩ := hh
   obtain ⟨y25, g25, s25⟩ := h25
   have g26 : f 26 = _ := h26
   have g23 : f 23 = _ := h23
   refine tab_yes g23 fun K Q hK => ?_
   simp only [puts, Za, Zb, Zc, Zd, Ze, g25, g26, g23]
   go_step
   go_at_call 14
   have hs := refSame_any s25 (iq.later hC) (by rw [← s25.start.length]; exact HRS.out)
   rw [eqN_self] at hs
   refine (hs).mono ?_
   rintro e w' ⟨rfl, hb⟩
   exact fam_fin hK rfl rfl hb (hC.trans (hb.mono hC.size))
  ·
   obtain ⟨h23, h27, -⟩ := hh
   have g23 : f 23 = _ := h23
   have g27 : f 27 = _ := h27
   refine tab_plain fun K Q hK => ?_
   simp only [puts, Za, Zb, Zc, Zd, Ze, g23, g27]
   go_step
   exact fam_e hK rfl rfl (Below.refl _ _) hC
  ·
   obtain ⟨h28, h27, -⟩ := hh
   have g28 : f 28 = _ := h28
   have g27 : f 27 = _ := h27
   refine tab_plain fun K Q hK => ?_
   simp only [puts, Za, Zb, Zc, Zd, Ze, g28, g27]
   go_step
   exact fam_e hK rfl rfl (Below.refl _ _) hC
  ·
   obtain ⟨h29, -⟩ := hh
   have g29 : f 29 = _ := h29
   refine tab_yes g29 fun K Q hK => ?_
   simp only [puts, Za, Zb, Zc, Zd, Ze, g29]
   have mp1 := cell_later hC cp1
   have mp2 := cell_later hC cp2
   have mp3 := cell_later hC cp3
   have mp4 := cell_later hC cp4
   go_step
   exact fam_e hK rfl rfl (Below.refl _ _) hC
  ·
   obtain ⟨h29, -⟩ := hh
   have g29 : f 29 = _ := h29
   refine tab_yes g29 fun K Q hK => ?_
   simp only [puts, Za, Zb, Zc, Zd, Ze, g29]
   have m11 := cell_later hC c11
   have m12 := cell_later hC c12
   have m13 := cell_later hC c13
   have m14 := cell_later hC c14
   go_step
   exact fam_e hK rfl rfl (Below.refl _ _) hC
  ·
   obtain ⟨h31, h29, _, -⟩ := hh
   have g31 : f 31 = _ := h31
   have g29 : f 29 = _ := h29
   refine tab_yes g29 fun K Q hK => ?_
   simp only [puts, Za, Zb, Zc, Zd, Ze, g31, g29]
   go_step
   go_at_call 6
   refine (own_any (ib.later hC) fb3).mono ?_
   rintro e w' ⟨⟨y', rfl, hI⟩, hb⟩
   exact fam_fin hK rfl ⟨y', rfl, hI⟩ hb (hC.trans (hb.mono hC.size))
  ·
   obtain ⟨h30, h32, _, h29, -⟩ := hh
   have g30 : f 30 = _ := h30
   obtain ⟨y32, g32, s32⟩ := h32
   have g29 : f 29 = _ := h29
   refine tab_yes g29 fun K Q hK => ?_
   simp only [puts, Za, Zb, Zc, Zd, Ze, g30, g32, g29]
   go_step
   go_at_call 16
   have hs := equal_any (ip.later hC) s32
   rw [HQ.out] at hs
   refine (hs).mono ?_
   rintro e w' ⟨rfl, hb⟩
   exact fam_fin hK rfl rfl hb (hC.trans (hb.mono hC.size))
  ·
   obtain ⟨h29, -⟩ := hh
   have g29 : f 29 = _ := h29
   refine tab_yes g29 fun K Q hK => ?_
   simp only [puts, Za, Zb, Zc, Zd, Ze, g29]
   have m01 := cell_later hC c01
   have m02 := cell_later hC c02
   have m03 := cell_later hC c03
   have m04 := cell_later hC c04
   go_step
   exact fam_e hK rfl rfl (Below.refl _ _) hC
  ·
   obtain ⟨h29, -⟩ := hh
   have g29 : f 29 = _ := h29
   refine tab_yes g29 fun K Q hK => ?_
   simp only [puts, Za, Zb, Zc, Zd, Ze, g29]
   have m11 := cell_later hC c11
   have m12 := cell_later hC c12
   have m13 := cell_later hC c13
   have m14 := cell_later hC c14
   go_step
   exact fam_e hK rfl rfl (Below.refl _ _) hC
  ·
   obtain ⟨h34, h35, h33, h29, -⟩ := hh
   have g34 : f 34 = _ := h34
   have g35 : f 35 = _ := h35
   have g33 : f 33 = _ := h33
   have g29 : f 29 = _ := h29
   refine tab_yes g29 fun K Q hK => ?_
   simp only [puts, Za, Zb, Zc, Zd, Ze, g34, g35, g33, g29]
   go_step
   go_at_call 14
   have hs := refSame_any (ia.later hC) (ib.later hC) hsl
   rw [HQ.out] at hs
   refine (hs).mono ?_
   rintro e w' ⟨rfl, hb⟩
   exact fam_fin hK rfl rfl hb (hC.trans (hb.mono hC.size))
  ·
   obtain ⟨h33, h36, h29, -⟩ := hh
   have g33 : f 33 = _ := h33
   have g36 : f 36 = _ := h36
   have g29 : f 29 = _ := h29
   refine tab_yes g29 fun K Q hK => ?_
   simp only [puts, Za, Zb, Zc, Zd, Ze, g33, g36, g29]
   go_step
   exact fam_e hK rfl rfl (Below.refl _ _) hC
  ·
   obtain ⟨h29, h37, -⟩ := hh
   have g29 : f 29 = _ := h29
   have g37 : f 37 = _ := h37
   refine tab_plain fun K Q hK => ?_
   simp only [puts, Za, Zb, Zc, Zd, Ze, g29, g37]
   go_step
   exact fam_e hK rfl rfl (Below.refl _ _) hC
  ·
   obtain ⟨h38, h36, -⟩ := hh
   have g38 : f 38 = _ := h38
   have g36 : f 36 = _ := h36
   refine tab_plain fun K Q hK => ?_
   simp only [puts, Za, Zb, Zc, Zd, Ze, g38, g36]
   go_step
   exact fam_e hK rfl rfl (Below.refl _ _) hC
  ·
   obtain ⟨h39, -⟩ := hh
   have g39 : f 39 = _ := h39
   refine tab_yes g39 fun K Q hK => ?_
   simp only [puts, Za, Zb, Zc, Zd, Ze, g39]
   have mp1 := cell_later hC cp1
   have mp2 := cell_later hC cp2
   have mp3 := cell_later hC cp3
   have mp4 := cell_later hC cp4
   go_step
   exact fam_e hK rfl rfl (Below.refl _ _) hC
  ·
   obtain ⟨h39, -⟩ := hh
   have g39 : f 39 = _ := h39
   refine tab_yes g39 fun K Q hK => ?_
   simp only [puts, Za, Zb, Zc, Zd, Ze, g39]
   have mp1 := cell_later hC cp1
   have mp2 := cell_later hC cp2
   have mp3 := cell_later hC cp3
   have mp4 := cell_later hC cp4
   go_step
   exact fam_e hK rfl rfl (Below.refl _ _) hC
  ·
   obtain ⟨h40, h41, h39, _, -⟩ := hh
   have g40 : f 40 = _ := h40
   have g41 : f 41 = _ := h41
   have g39 : f 39 = _ := h39
   refine tab_yes g39 fun K Q hK => ?_
   simp only [puts, Za, Zb, Zc, Zd, Ze, g40, g41, g39]
   go_step
   go_at_call 16
   have hs := equal_any (ip.later hC) (ip.later hC)
   rw [eqN_self] at hs
   refine (hs).mono ?_
   rintro e w' ⟨rfl, hb⟩
   exact fam_fin hK rfl rfl hb (hC.trans (hb.mono hC.size))
  ·
   obtain ⟨h39, h42, -⟩ := hh
   have g39 : f 39 = _ := h39
   have g42 : f 42 = _ := h42
   refine tab_plain fun K Q hK => ?_
   simp only [puts, Za, Zb, Zc, Zd, Ze, g39, g42]
   go_step
   exact fam_e hK rfl rfl (Below.refl _ _) hC
  ·
   obtain ⟨h43, h42, h0, h1, h2, h3, h4, h5, h6, h7, h8, h9, h10, h11, h12, h13, h14, h15, h16, h17, h18, h19, h20, h21, h22, h23, h24, h25, h26, h27, h28, h29, h30, h31, h32, h33, h34, h35, h36, h37, h38, h39, h40, h41, _, _, -⟩ := hh
   have g43 : f 43 = _ := h43
   have g42 : f 42 = _ := h42
   have g0 : f 0 = _ := h0
   have g1 : f 1 = _ := h1
   have g2 : f 2 = _ := h2
   have g3 : f 3 = _ := h3
   have g4 : f 4 = _ := h4
   have g5 : f 5 = _ := h5
   have g6 : f 6 = _ := h6
   have g7 : f 7 = _ := h7
   have g8 : f 8 = _ := h8
   have g9 : f 9 = _ := h9
   have g10 : f 10 = _ := h10
   have g11 : f 11 = _ := h11
   have g12 : f 12 = _ := h12
   have g13 : f 13 = _ := h13
   have g14 : f 14 = _ := h14
   have g15 : f 15 = _ := h15
   have g16 : f 16 = _ := h16
   have g17 : f 17 = _ := h17
   have g18 : f 18 = _ := h18
   have g19 : f 19 = _ := h19
   have g20 : f 20 = _ := h20
   have g21 : f 21 = _ := h21
   have g22 : f 22 = _ := h22
   have g23 : f 23 = _ := h23
   have g24 : f 24 = _ := h24
   obtain ⟨y25, g25, s25⟩ := h25
   have g26 : f 26 = _ := h26
   have g27 : f 27 = _ := h27
   have g28 : f 28 = _ := h28
   have g29 : f 29 = _ := h29
   have g30 : f 30 = _ := h30
   have g31 : f 31 = _ := h31
   obtain ⟨y32, g32, s32⟩ := h32
   have g33 : f 33 = _ := h33
   have g34 : f 34 = _ := h34
   have g35 : f 35 = _ := h35
   have g36 : f 36 = _ := h36
   have g37 : f 37 = _ := h37
   have g38 : f 38 = _ := h38
   have g39 : f 39 = _ := h39
   have g40 : f 40 = _ := h40
   have g41 : f 41 = _ := h41
   refine tab_plain fun K Q hK => ?_
   simp only [puts, Za, Zb, Zc, Zd, Ze, g43, g42, g0, g1, g2, g3, g4, g5, g6, g7, g8, g9, g10, g11, g12, g13, g14, g15, g16, g17, g18, g19, g20, g21, g22, g23, g24, g25, g26, g27, g28, g29, g30, g31, g32, g33, g34, g35, g36, g37, g38, g39, g40, g41]
   go_step
   exact fam_e hK rfl rfl (Below.refl _ _) hC
 case erest =>
  intro f WE hC hh
  obtain ⟨h0, h1, h2, h3, h4, h5, h6, h7, h8, h9, h10, h11, h12, h13, h14, h15, h16, h17, h18, h19, h20, h21, h22, h23, h24, h25, h26, h27, h28, h29, h30, h31, h32, h33, h34, h35, h36, h37, h38, h39, h40, h41, h42, h43, h44, -⟩ := hh
  have g0 : f 0 = _ := h0
  have g1 : f 1 = _ := h1
  have g2 : f 2 = _ := h2
  have g3 : f 3 = _ := h3
  have g4 : f 4 = _ := h4
  have g5 : f 5 = _ := h5
  have g6 : f 6 = _ := h6
  have g7 : f 7 = _ := h7
  have g8 : f 8 = _ := h8
  have g9 : f 9 = _ := h9
  have g10 : f 10 = _ := h10
  have g11 : f 11 = _ := h11
  have g12 : f 12 = _ := h12
  have g13 : f 13 = _ := h13
  have g14 : f 14 = _ := h14
  have g15 : f 15 = _ := h15
  have g16 : f 16 = _ := h16
  have g17 : f 17 = _ := h17
  have g18 : f 18 = _ := h18
  have g19 : f 19 = _ := h19
  have g20 : f 20 = _ := h20
  have g21 : f 21 = _ := h21
  have g22 : f 22 = _ := h22
  have g23 : f 23 = _ := h23
  have g24 : f 24 = _ := h24
  obtain ⟨y25, g25, s25⟩ := h25
  have g26 : f 26 = _ := h26
  have g27 : f 27 = _ := h27
  have g28 : f 28 = _ := h28
  have g29 : f 29 = _ := h29
  have g30 : f 30 = _ := h30
  have g31 : f 31 = _ := h31
  obtain ⟨y32, g32, s32⟩ := h32
  have g33 : f 33 = _ := h33
  have g34 : f 34 = _ := h34
  have g35 : f 35 = _ := h35
  have g36 : f 36 = _ := h36
  have g37 : f 37 = _ := h37
  have g38 : f 38 = _ := h38
  have g39 : f 39 = _ := h39
  have g40 : f 40 = _ := h40
  have g41 : f 41 = _ := h41
  have g42 : f 42 = _ := h42
  have g43 : f 43 = _ := h43
  have g44 : f 44 = _ := h44
  simp only [puts, Za, Zb, Zc, Zd, Ze, g0, g1, g2, g3, g4, g5, g6, g7, g8, g9, g10, g11, g12, g13, g14, g15, g16, g17, g18, g19, g20, g21, g22, g23, g24, g25, g26, g27, g28, g29, g30, g31, g32, g33, g34, g35, g36, g37, g38, g39, g40, g41, g42, g43, g44]
  clear h0 h1 h2 h3 h4 h5 h6 h7 h8 h9 h10 h11 h12 h13 h14 h15 h16 h17 h18 h19 h20 h21 h22 h23 h24 h26 h27 h28 h29 h30 h31 h33 h34 h35 h36 h37 h38 h39 h40 h41 h42 h43 h44 g0 g1 g2 g3 g4 g5 g6 g7 g8 g9 g10 g11 g12 g13 g14 g15 g16 g17 g18 g19 g20 g21 g22 g23 g24 g26 g27 g28 g29 g30 g31 g33 g34 g35 g36 g37 g38 g39 g40 g41 g42 g43 g44
  have hb := hC
  clear hC
  replace c01 := cell_later hb c01
  replace c02 := cell_later hb c02
  replace c03 := cell_later hb c03
  replace c04 := cell_later hb c04
  replace c11 := cell_later hb c11
  replace c12 := cell_later hb c12
  replace c13 := cell_later hb c13
  replace c14 := cell_later hb c14
  replace cp1 := cell_later hb cp1
  replace cp2 := cell_later hb cp2
  replace cp3 := cell_later hb cp3
  replace cp4 := cell_later hb cp4
  replace cr1 := cell_later hb cr1
  replace cr2 := cell_later hb cr2
  replace cr3 := cell_later hb cr3
  replace cr4 := cell_later hb cr4
  replace cq1 := cell_later hb cq1
  replace cq2 := cell_later hb cq2
  replace cq3 := cell_later hb cq3
  replace cq4 := cell_later hb cq4
  replace ia := ia.later hb
  replace ib := ib.later hb
  replace iw := iw.later hb
  replace iT := iT.later hb
  replace ip := ip.later hb
  replace i1 := i1.later hb
  replace i2 := i2.later hb
  replace ir := ir.later hb
  replace iq := iq.later hb
  replace HB := HB.trans (hb.mono HB.size)
  clear hb
  go_wp2_with (fail)
  go_ret
  exact ⟨rfl, HB⟩
theorem nfaWords_top (a : Nfa) (h : NH) (b : Nfa) (k : NH) (aw : Option Addr) (lw cw : Nat) (zs : List Int) (w : World) (ia : IsNfa w h a) (ib : IsNfa w k b) (iw : IsInts .i64 w aw lw cw zs) {P Q : Prop} (_ : P) (_ : Q) (iT : TabW w) :
  Calls Tryz.prog 3 #[vNf a h, vNf b k, .slice aw lw cw] w fun e w' => e = .returned (.bool true) ∧ Below w.heap.size w w' := nfaWords_walk a h b k aw lw cw zs w ia ib iw iT
end Go.Proofs.YtofaifeadhimjaaGreatDoor
