import Derived.Test.YtofaifeadhimjaaGreatDoorMG33
import Derived.Test.YtofaifeadhimjaaGreatDoorMG34
import Derived.Test.YtofaifeadhimjaaGreatDoorMG42
import Derived.Test.YtofaifeadhimjaaGreatDoorMG45
import Derived.Test.YtofaifeadhimjaaGreatDoorMG46
import Derived.Test.YtofaifeadhimjaaGreatDoorMG47
/-
  NfaRk, NfaWc
-/
set_option linter.unusedSimpArgs false
set_option linter.unusedVariables false
namespace Go.Proofs.YtofaifeadhimjaaGreatDoor
open List (foldr_cons foldr_nil setIfInBounds_toArray set_cons_succ set_cons_zero)
open Go.RowKit
attribute [local go_sem] Oper.semAt_some

def blkO : Value → Nat
 | .pointer (some a) => a.block
 | _ => 0
theorem Pcs.setRowAt {W : World} {B b : Nat} {ps : List Pc} (h : Pcs W B ps) (i : Nat) {cs : Array Value} (hp : ps[i]? = some (.blk b cs)) (cs' : Array Value) : Pcs (W.setRow b cs') B (ps.set i (.blk b cs')) := by
 obtain ⟨hB, T, hZ⟩ := h.blk i hp
 have hbs := below_setRow (g := b) (Below.refl b W) (Nat.le_refl _) cs'
 refine h.put i (.blk b cs') hp ⟨hbs.os, hbs.tape, hbs.output, hbs.size, fun k _ hne => setRow_other W _ k _ (fun e => hne (by rw [e]; rfl))⟩ ⟨hB, T, setRow_heap _ _ _ _ _ _ hZ⟩ fun k e => .inl e
theorem pcs_ahead {W : World} {B q : Nat} {ps : List Pc} (hP : Pcs W B ps) (hq : q < B) (cs : Array Value) : Pcs (W.setRow q cs) B ps :=
 ⟨fun i p hp => (hP.each i p hp).grown (r := some q) ⟨rfl, rfl, rfl, by simp [World.setRow], fun k hk hne => setRow_other W q k cs (fun e => hne (by rw [e]))⟩ (fun k hk e => by injection e with e; have := ((hP.each i p hp).lt hk).1; omega), hP.apart⟩
theorem wp_make_op {P : Program} {T E : TypeId} {bytes : Nat} {z : Value} (el : Elem P T E z 1 bytes) (hz : z.cells = #[z]) {w : World} {o : Oper} {a : Act} {K : Act → World → Prop} {Q : Exit → Act → World → Prop} (l c : Operand)
  (ho : o.op = .makeSlice T l c) {B : Nat} {kl kc : IntKind} {n : Nat} {C C' : Int} (hl : a.eval l = .int kl C') (hc : a.eval c = .int kc C) (hC : C = n) (hC' : C' = n) (hb : n * (bytes + 1) ≤ 140737488355328) (hB : B ≤ w.heap.size)
  (h : ∀ w', w'.ownsRow B E 1 (.slice (some ⟨w.heap.size, 0, none⟩) n n) n (List.replicate n z) → Below B w w' → K (a.put o.dst (.slice (some ⟨w.heap.size, 0, none⟩) n n)) w') : o.wp P a w K Q := by
 refine wp_make_full el l c ho hl hc hC hC' hb hB fun w' h1 _ h3 => h w' ?_ h3
 rw [hz, Nat.mul_one, toList_madeCells_one] at h1
 exact h1
def GivesNE (N : Nfa) (c : Int) (w : World) (e : Ending) (w' : World) : Prop := (∃ h', e = .returned (.tuple #[vNf N h', .int .i64 c]) ∧ IsNfa w' h' N) ∧ Below w.heap.size w w'
theorem boxRv (a : Nfa) (h : NH) (w : World) (hd : IsNfa w h a) : ∃ W1 W2, w.alloc (.cells #[.int .i64 a.n, .slice h.sa h.sl h.sc, .slice h.fa h.fl h.fc, .slice h.aa h.al h.ac] 31) = W1 ∧ W1.alloc (.cells #[.int .i64 0, .slice none 0 0, .slice none 0 0, .slice none 0 0] 31) = W2 ∧ W1.heap.size = w.heap.size + 1 ∧ W2.heap.size = w.heap.size + 2 ∧ ∀ W, Below (w.heap.size + 2) W2 W → (W.cell? ⟨w.heap.size, 0, none⟩ = some (.int .i64 a.n) ∧ W.cell? ⟨w.heap.size, 1, none⟩ = some (.slice h.sa h.sl h.sc) ∧ W.cell? ⟨w.heap.size, 2, none⟩ = some (.slice h.fa h.fl h.fc) ∧ W.cell? ⟨w.heap.size, 3, none⟩ = some (.slice h.aa h.al h.ac)) ∧ IsNfa W h a ∧ Below w.heap.size w W ∧ W.heap[w.heap.size + 1]? = some (.cells #[.int .i64 0, .slice none 0 0, .slice none 0 0, .slice none 0 0] 31 (0, 0)) ∧ w.heap.size + 2 ≤ W.heap.size := by
 obtain ⟨W1, hW1, hs1, hb1, hO⟩ := boxNW a h w hd
 have hs2 : (W1.alloc (.cells #[.int .i64 0, .slice none 0 0, .slice none 0 0, .slice none 0 0] 31)).heap.size = w.heap.size + 2 := by simp; omega
 refine ⟨W1, _, hW1, rfl, hs1, hs2, fun W hW => ?_⟩
 have hb2 : Below W1.heap.size W1 (W1.alloc (.cells #[.int .i64 0, .slice none 0 0, .slice none 0 0, .slice none 0 0] 31)) := (Below.refl _ _).alloc (Nat.le_refl _) _
 obtain ⟨k1, k2, k3⟩ := hO W ((hb2.mono (by omega)).trans (hW.mono (by omega)))
 exact ⟨k1, k2, k3, by rw [hW.block _ (by omega), ← hs1]; exact heap_alloc_new W1 _, hs2 ▸ hW.size⟩
theorem isN_zero (W : World) : IsNfa W ⟨none, 0, 0, none, 0, 0, none, 0, 0⟩ zeroN := ⟨.inl ⟨rfl, rfl, rfl, rfl⟩, .inl ⟨rfl, rfl, rfl⟩, .inl ⟨rfl, rfl, rfl⟩⟩
set_option maxRecDepth 20000 in
set_option maxHeartbeats 4000000 in
theorem Reverse_no {a : Nfa} {h : NH} {w : World} (hv : ¬ ValidN a) (hd : IsNfa w h a) :
  Calls Tryz.prog 11 #[vNf a h] w (GivesNE zeroN 1 w) := by
 obtain ⟨W1, W2, hW1, hW2, hs1, hs2, hO⟩ := boxRv a h w hd
 have HO := Lib.hid hO
 have HS := Lib.hid hs2
 obtain ⟨⟨c1, c2, c3, c4⟩, hd2, -, -, -⟩ := hO W2 (Below.refl _ _)
 have hva := valid_any a h W2 hd2
 rw [vN_no hv] at hva
 unfold vNf at hva ⊢
 clear hd hO hd2 hv
 go_enter Tryz.func11, Tryz.ntmps11
 go_wp2_with (first
  | (go_at_call 18; refine hva.mono ?_; rintro e w3 ⟨rfl, hb3⟩; obtain ⟨-, -, hbw3, hZ3, -⟩ := HO.out w3 (hb3.mono (by rw [HS.out]; exact Nat.le_refl _)); have HZ3 := Lib.hid hZ3; clear hZ3)
  | (show wpList _ _ _ (⟨_, .store 31 _ _, _, _, _, _⟩ :: _) _ _; refine wpList_store_row rfl 31 _ _ rfl (w.heap.size + 1) #[.int .i64 0, .slice none 0 0, .slice none 0 0, .slice none 0 0] rfl rfl _ _ HZ3.out nfa_i rfl (nfa_one _ _ _ _ _ _ _ _ _ _) ?_))
 refine bodyPost_ret (results_row2 rfl _ _ (w.heap.size + 1) _ _ _ _ rfl rfl (setRow_heap _ _ _ _ _ _ HZ3.out) Tryz.underlying31 rfl nfa_i) rfl ?_
 exact ⟨⟨_, rfl, isN_zero _⟩, below_setRow hbw3 (by omega) _⟩
def revPs (b N g : Nat) (fs : List Bool) (vs : Value) (S : List Int) (va : Value) (A : List A3) : List Pc :=
 [.blk b #[.int .i64 (N : Int), vs, .slice (some ⟨g, 0, none⟩) N N, va], .row 4 1 (.slice (some ⟨g, 0, none⟩) N N) N (bvs fs), .row 3 1 vs S.length (ivs .i64 S), .row 50 3 va A.length (tvs A)]
set_option maxRecDepth 20000 in
set_option maxHeartbeats 8000000 in
theorem Reverse_yes {a : Nfa} {h : NH} {w : World} (hv : ValidN a) (hd : IsNfa w h a) :
  Calls Tryz.prog 11 #[vNf a h] w (GivesNE (revN a) 0 w) := by
 obtain ⟨W1, W2, hW1, hW2, hs1, hs2, hO⟩ := boxRv a h w hd
 have HS := Lib.hid hs2
 obtain ⟨⟨c1, c2, c3, c4⟩, hd2, -, -, -⟩ := hO W2 (Below.refl _ _)
 have hva := valid_any a h W2 hd2
 rw [vN_yes hv] at hva
 have HV := Lib.hid hv
 have hn := hv.1
 have hfl0 := hv.2.1
 have hal0 := hv.2.2.1
 rw [hd.fin.length] at hfl0
 rw [hd.arcs.length] at hal0
 obtain ⟨n, s, fin, es⟩ := a
 obtain ⟨sa, sl, sc, fa, fl, fc, aa, al, ac⟩ := h
 simp only [vNf] at hW1 hW2 hO hva hn hfl0 hal0 c1 c2 c3 c4 ⊢
 obtain ⟨N, rfl⟩ := Int.eq_ofNat_of_zero_le hn.1
 obtain rfl : N = fl := by omega
 have hN : N ≤ 200 := by omega
 have HO := Lib.hid hO
 clear hd hO hd2 hv hn hfl0
 go_enter Tryz.func11, Tryz.ntmps11
 go_wp2_with (go_at_call 18; refine hva.mono ?_; rintro e w3 ⟨rfl, hb3⟩; have HB3 : Hid (Below (w.heap.size + 2) W2 w3) := Lib.hid (hb3.mono (by rw [HS.out]; exact Nat.le_refl _)); clear hb3 c1 c2 c3 c4)
 obtain ⟨wo, hwo⟩ : ∃ wo, wo = w3 := ⟨w3, rfl⟩
 subst hwo
 have HO3 : Hid (∀ W, Below wo.heap.size wo W → (W.cell? ⟨w.heap.size, 0, none⟩ = some (.int .i64 (N : Int)) ∧ W.cell? ⟨w.heap.size, 1, none⟩ = some (.slice sa sl sc) ∧ W.cell? ⟨w.heap.size, 2, none⟩ = some (.slice fa N fc) ∧ W.cell? ⟨w.heap.size, 3, none⟩ = some (.slice aa al ac)) ∧ IsNfa W ⟨sa, sl, sc, fa, N, fc, aa, al, ac⟩ ⟨N, s, fin, es⟩ ∧ Below w.heap.size w W ∧ W.heap[w.heap.size + 1]? = some (.cells #[.int .i64 0, .slice none 0 0, .slice none 0 0, .slice none 0 0] 31 (0, 0)) ∧ w.heap.size + 2 ≤ W.heap.size) := Lib.hid (fun W hW => HO.out W (HB3.out.trans (hW.mono (by have := HB3.out.size; rw [HS.out] at this; exact this))))
 have HP0 := Lib.hid (Pcs.nil wo wo.heap.size)
 have hq2 : w.heap.size + 2 ≤ wo.heap.size := (HO3.out wo (Below.refl _ _)).2.2.2.2
 have HQ2 := Lib.hid hq2
 clear hva HO hW1 hW2 hs1 hs2 hq2
 obtain ⟨S, hSd⟩ : ∃ S : (Nat → Bool) → (Nat → Value) → World → Prop, S = fun L f W => Below wo.heap.size wo W ∧ (L 5 = true → f 5 = .agg #[.int .i64 (N : Int), .slice none 0 0, f 4, .slice none 0 0]) ∧ Pcs W wo.heap.size ((if L 6 = true then [.blk (blkO (f 6)) (if L 7 = true then #[.int .i64 (N : Int), .slice none 0 0, f 4, .slice none 0 0] else #[.int .i64 0, .slice none 0 0, .slice none 0 0, .slice none 0 0])] else []) ++ (if L 4 = true then [.row 4 1 (f 4) N (bvs (List.replicate N false))] else [])) := ⟨_, rfl⟩
 refine wp_region_st mixed (by kernel_rfl) [[], [(0, 15)], [], [(2, 17)], [(3, 18), (3, 18)], [(1, 16), (4, 19)], [], [(6, 4), (5, 20), (0, 15), (1, 16), (2, 17), (3, 18), (4, 19), (5, 20), (6, 4)]] [(0, 15), (1, 16), (2, 17), (3, 18), (4, 19), (5, 20), (6, 4)] rfl rfl [EV ?e0, EV ?e1, EV ?e2, EV ?e3, fun v => ∃ g, v = .slice (some ⟨g, 0, none⟩) N N, fun _ => True, fun v => ∃ b, v = .pointer (some ⟨b, 0, none⟩), fun _ => True] S ?start ?steps ?rest
 case start =>
  intro f
  rw [hSd]
  exact ⟨(Below.refl _ _).drew, fun h => (by cases h), HP0.out.quiet (below_grows ((Below.refl _ _).drew) none)⟩
 case steps =>
  refine ⟨fun L f W hi hd hdn hh hS => ?_, fun L f W hi hd hdn hh hS => ?_, fun L f W hi hd hdn hh hS => ?_, fun L f W hi hd hdn hh hS => ?_, fun L f W hi hd hdn hh hS => ?_, fun L f W hi hd hdn hh hS => ?_, fun L f W hi hd hdn hh hS => ?_, fun L f W hi hd hdn hh hS => ?_, trivial⟩
  ·
   unfold stStep
   rw [if_pos (by simp [Region.wanted])]
   intro K Q hK
   simp only [puts, foldr_nil]
   go_step
   refine st_ex hK rfl rfl (by simp only [Act.put, setIfInBounds_toArray, set_cons_succ, set_cons_zero, Array.getD_eq_getD_getElem?, List.getElem?_toArray, List.getElem?_cons_succ, List.getElem?_cons_zero, Option.getD_some] <;> rfl) rfl (by rw [hSd] at hS ⊢; exact hS)
  ·
   obtain ⟨h0, -⟩ := hh
   have g0 : f 0 = _ := h0
   unfold stStep
   rw [if_pos (by simp [Region.wanted])]
   intro K Q hK
   simp only [puts, Za, Zb, Zc, Zd, Ze, g0]
   have hS' := hS
   rw [hSd] at hS'
   obtain ⟨⟨q1, q2, q3, q4⟩, -, -, -, -⟩ := HO3.out W hS'.1
   go_step
   refine st_ex hK rfl rfl (by simp only [Act.put, setIfInBounds_toArray, set_cons_succ, set_cons_zero, Array.getD_eq_getD_getElem?, List.getElem?_toArray, List.getElem?_cons_succ, List.getElem?_cons_zero, Option.getD_some] <;> rfl) rfl (by rw [hSd] at hS ⊢; exact hS)
  ·
   unfold stStep
   rw [if_pos (by simp [Region.wanted])]
   intro K Q hK
   simp only [puts, foldr_nil]
   go_step
   refine st_ex hK rfl rfl (by simp only [Act.put, setIfInBounds_toArray, set_cons_succ, set_cons_zero, Array.getD_eq_getD_getElem?, List.getElem?_toArray, List.getElem?_cons_succ, List.getElem?_cons_zero, Option.getD_some] <;> rfl) rfl (by rw [hSd] at hS ⊢; exact hS)
  ·
   obtain ⟨h2, -⟩ := hh
   have g2 : f 2 = _ := h2
   unfold stStep
   rw [if_pos (by simp [Region.wanted])]
   intro K Q hK
   simp only [puts, Za, Zb, Zc, Zd, Ze, g2]
   have hS' := hS
   rw [hSd] at hS'
   obtain ⟨⟨q1, q2, q3, q4⟩, -, -, -, -⟩ := HO3.out W hS'.1
   go_step
   refine st_ex hK rfl rfl (by simp only [Act.put, setIfInBounds_toArray, set_cons_succ, set_cons_zero, Array.getD_eq_getD_getElem?, List.getElem?_toArray, List.getElem?_cons_succ, List.getElem?_cons_zero, Option.getD_some] <;> rfl) rfl (by rw [hSd] at hS ⊢; exact hS)
  ·
   obtain ⟨h3, _, -⟩ := hh
   have g3 : f 3 = _ := h3
   have l5 : L 5 = false := Bool.eq_false_iff.2 fun h => by have q := hdn 5 _ h rfl 4 (by decide); rw [show L 4 = false from hi] at q; cases q
   have l7 : L 7 = false := Bool.eq_false_iff.2 fun h => by have q := hdn 7 _ h rfl 5 (by decide); rw [show L 5 = false from l5] at q; cases q
   unfold stStep
   rw [if_pos (by simp [Region.wanted])]
   intro K Q hK
   simp only [puts, Za, Zb, Zc, Zd, Ze, g3]
   rw [hSd] at hS hK
   have l4 : L 4 = false := hi
   try simp only [stage, l5, l7, l4, if_true, if_false, Bool.false_eq_true] at hS
   obtain ⟨hbW, -, hPW⟩ := hS
   refine wp_make_op elB rfl _ _ rfl rfl rfl rfl rfl (by omega) (Nat.le_refl _) ?_
   intro w' ho' hb'
   refine hK.out _ _ rfl ⟨_, rfl⟩ ?_
   refine ⟨hbW.trans (hb'.mono hbW.size), fun h => (by simp [l5] at h), ?_⟩
   simp only [l4, l7, Bool.false_eq_true, ↓reduceIte, Nat.reduceEqDiff, List.append_nil] at hPW ⊢
   have h1 := hPW.add (.row 4 1 (.slice (some ⟨W.heap.size, 0, none⟩) N N) N (bvs (List.replicate N false))) (below_grows hb' none) (by have h2 := ho'.from_mono hbW.size; show World.ownsRow _ _ _ _ _ _ _; rw [show bvs (List.replicate N false) = List.replicate N (Value.bool false) by simp [bvs]]; exact h2) (fun q e => by have e : some W.heap.size = some q := e; injection e with e; omega)
   exact h1
  ·
   obtain ⟨h1, h4, -⟩ := hh
   have g1 : f 1 = _ := h1
   obtain ⟨b4, (g4 : f 4 = _)⟩ := h4
   have l7 : L 7 = false := Bool.eq_false_iff.2 fun h => by have q := hdn 7 _ h rfl 5 (by decide); rw [show L 5 = false from hi] at q; cases q
   unfold stStep
   rw [if_pos (by simp [Region.wanted])]
   intro K Q hK
   simp only [puts, Za, Zb, Zc, Zd, Ze, g1, g4]
   rw [hSd] at hS hK
   have l5 : L 5 = false := hi
   try simp only [stage, l7, l5, if_true, if_false, Bool.false_eq_true] at hS
   obtain ⟨hbW, -, hPW⟩ := hS
   go_step
   refine hK.out _ _ rfl trivial ?_
   refine ⟨hbW, fun _ => (by simp [g4, fval, Act.put]), ?_⟩
   simp only [l7, Bool.false_eq_true, ↓reduceIte, Nat.reduceEqDiff] at hPW ⊢
   exact hPW
  ·
   have l7 : L 7 = false := Bool.eq_false_iff.2 fun h => by have q := hdn 7 _ h rfl 6 (by decide); rw [show L 6 = false from hi] at q; cases q
   unfold stStep
   rw [if_pos (by simp [Region.wanted])]
   intro K Q hK
   simp only [puts, foldr_nil]
   rw [hSd] at hS hK
   have l6 : L 6 = false := hi
   try simp only [stage, l7, l6, if_true, if_false, Bool.false_eq_true] at hS
   obtain ⟨hbW, h5W, hPW⟩ := hS
   go_step
   refine hK.out _ _ rfl ⟨_, rfl⟩ ?_
   refine ⟨hbW.alloc hbW.size _, h5W, ?_⟩
   simp only [l6, l7, Bool.false_eq_true, ↓reduceIte, Nat.reduceEqDiff, List.nil_append] at hPW ⊢
   have h1 := hPW.new hbW.size #[.int .i64 0, .slice none 0 0, .slice none 0 0, .slice none 0 0] 31
   exact h1.turn List.perm_append_comm
  ·
   obtain ⟨h6, h5, h0, h1, h2, h3, h4, _, _, -⟩ := hh
   obtain ⟨b6, (g6 : f 6 = _)⟩ := h6
   obtain ⟨z5, g5⟩ : ∃ z, f 5 = z := ⟨_, rfl⟩
   have g0 : f 0 = _ := h0
   have g1 : f 1 = _ := h1
   have g2 : f 2 = _ := h2
   have g3 : f 3 = _ := h3
   obtain ⟨b4, (g4 : f 4 = _)⟩ := h4
   have l4 : L 4 = true := hd 4 (by decide)
   have l5 : L 5 = true := hd 5 (by decide)
   have l6 : L 6 = true := hd 6 (by decide)
   unfold stStep
   rw [if_pos (by simp [Region.wanted])]
   intro K Q hK
   simp only [puts, Za, Zb, Zc, Zd, Ze, g6, g5, g0, g1, g2, g3, g4]
   rw [hSd] at hS hK
   have l7 : L 7 = false := hi
   try simp only [stage, l7, l4, l5, l6, if_true, if_false, Bool.false_eq_true] at hS
   obtain ⟨hbW, h5W, hPW⟩ := hS
   have l4' : L 4 = true := hdn 5 _ (hd 5 (by decide)) rfl 4 (by decide)
   have l5' : L 5 = true := hd 5 (by decide)
   have l6' : L 6 = true := hd 6 (by decide)
   simp only [l4', l6', l7, Bool.false_eq_true, if_true, if_false, ↓reduceIte, g4, g6] at hPW
   have h5 := h5W trivial
   rw [g5, g4] at h5
   subst h5
   obtain ⟨hB6, T6, hZ6⟩ := hPW.blk 0 rfl
   refine wp_store_row 31 _ _ rfl b6 #[.int .i64 (N : Int), .slice none 0 0, .slice (some ⟨b4, 0, none⟩) N N, .slice none 0 0] rfl rfl _ _ hZ6 nfa_i rfl (nfa_one _ _ _ _ _ _ _ _ _ _) ?_
   refine hK.out _ _ rfl trivial ?_
   refine ⟨below_setRow hbW hB6 _, fun _ => (by simp only [Nat.reduceEqDiff, ↓reduceIte]; rw [g5, g4]), ?_⟩
   simp only [l4', l6', ↓reduceIte, Nat.reduceEqDiff, g4, g6]
   exact hPW.setRowAt 0 rfl _
 case rest =>
  intro L f WA hL hh hS
  rw [hSd] at hS
  clear hSd
  have l4 : L 4 = true := hL 4 (by decide)
  have l5 : L 5 = true := hL 5 (by decide)
  have l6 : L 6 = true := hL 6 (by decide)
  have l7 : L 7 = true := hL 7 (by decide)
  simp only [stage, l4, l5, l6, l7, if_true] at hS
  clear hL l4 l5 l6 l7
  obtain ⟨h0, h1, h2, h3, h4, h5, h6, -⟩ := hh
  have g0 : f 0 = _ := h0
  have g1 : f 1 = _ := h1
  have g2 : f 2 = _ := h2
  have g3 : f 3 = _ := h3
  obtain ⟨b4, (g4 : f 4 = _)⟩ := h4
  obtain ⟨z5, g5⟩ : ∃ z, f 5 = z := ⟨_, rfl⟩
  obtain ⟨b6, (g6 : f 6 = _)⟩ := h6
  simp only [puts, Za, Zb, Zc, Zd, Ze, g0, g1, g2, g3, g4, g5, g6]
  clear h0 h1 h2 h3 g0 g1 g2 g3
  obtain ⟨hbA, -, hPA⟩ := hS
  simp only [g4, g6] at hPA
  replace hPA := (hPA.empty 3 1).empty 50 3
  have HPA : Hid (Pcs WA wo.heap.size (revPs b6 N b4 (List.replicate N false) (.slice none 0 0) [] (.slice none 0 0) [])) := Lib.hid hPA
  have HBA := Lib.hid hbA
  obtain ⟨⟨k1, k2, k3, k4⟩, -, -, -, -⟩ := HO3.out WA hbA
  clear hPA hbA
  clear hN hal0
  have HNN : Hid (N ≤ 200) := Lib.hid (by have := HV.out.1.2; simp only at this; omega)
  have hsl0 : s.length = sl := (HO3.out wo (Below.refl _ _)).2.1.start.length
  have HSL := Lib.hid hsl0
  have HST : Hid (∀ z ∈ s, 0 ≤ z ∧ z < (N : Int)) := Lib.hid (fun z hz => HV.out.start hz)
  have hel0 : es.length = al := (HO3.out wo (Below.refl _ _)).2.1.arcs.length
  have HEL := Lib.hid hel0
  have HAL : Hid (al ≤ 2000) := Lib.hid (by have := HV.out.2.2.1; simp only at this; omega)
  clear hsl0 hel0
  clear h5
  go_wp2_with (fail)
  go_loopw [24] (fun c W => ∃ (i : Nat) (aS : Option Addr) (cS : Nat), i ≤ N ∧ c = .int .i64 (i : Int) ∧ Below wo.heap.size wo W ∧ Pcs W wo.heap.size (revPs b6 N b4 (List.replicate N false) (.slice aS (finsL fin i).length cS) (finsL fin i) (.slice none 0 0) [])) (fun c _ => N - (intOf c).toNat)
  case atStart => exact ⟨0, none, 0, Nat.zero_le _, rfl, HBA.out, HPA.out⟩
  case round =>
   clear k1 k2 k3 k4
   obtain ⟨i, aS, cS, hi, rfl, hb, hP⟩ := hrel
   obtain ⟨⟨k1, k2, k3, k4⟩, hdW, -, -, -⟩ := HO3.out wr hb
   rcases Nat.lt_or_ge i N with hlt | hge
   ·have t1 : decide ((i : Int) < (N : Int)) = true := decide_eq_true (by omega)
    have t1' : decide (i < N) = true := decide_eq_true hlt
    obtain ⟨bf, of, rfl, hfc⟩ := hdW.fin.fix (by simp only; omega)
    have x1 : wr.cell? ⟨bf, of + i, none⟩ = some (.bool (gb fin i)) := hfc wr (Below.refl _ _) i hlt
    obtain ⟨u, hu⟩ : ∃ u, gb fin i = u := ⟨_, rfl⟩
    rw [hu] at x1
    have HU := Lib.hid hu
    have HP := Lib.hid hP
    have HB := Lib.hid hb
    have hsz := hb.size
    have e1 : wr.cell? ⟨b6, 1, none⟩ = some (.slice aS (finsL fin i).length cS) := ((hP.blk 0 rfl).2.cell 1).1
    have hFL := finsL_len fin i
    have hN := HNN.out
    obtain ⟨SL, hSL⟩ : ∃ n, (finsL fin i).length = n := ⟨_, rfl⟩
    rw [hSL] at e1 hFL HP
    have HSS := Lib.hid hSL
    clear hP hb hu hfc hdW hSL k1 k2 k3 k4
    cases u with
    | true =>
     have HP2 : Hid (Pcs (wr.alloc (.cells #[.int .i64 (i : Int)] 3)) wo.heap.size (revPs b6 N b4 (List.replicate N false) (.slice aS SL cS) (finsL fin i) (.slice none 0 0) [])) := Lib.hid (HP.out.quiet (below_grows ((Below.refl _ _).alloc (Nat.le_refl _) _) none))
     have HB2 : Hid (Below wo.heap.size wo (wr.alloc (.cells #[.int .i64 (i : Int)] 3))) := Lib.hid (HB.out.alloc hsz _)
     have HSZ := Lib.hid hsz
     clear hsz
     go_wp2_with (at_builtin; refine app_pcs elI64 rfl _ _ rfl 2 (v := .slice aS SL cS) (n := SL) (xs := ivs .i64 (finsL fin i)) rfl HP2.out (by unfold revPs; rw [HSS.out]; rfl) rfl (new_src wr #[.int .i64 (i : Int)] _ rfl) (by intro u hu; rw [List.mem_singleton.1 hu]; rfl) (by omega) (by have := HSZ.out; simp; omega) ?_; intro a9 c9 w9 hp9 hb9; have yy := (hp9.blk 0 rfl).2.cell 1; have y1 : w9.cell? ⟨b6, 1, none⟩ = some (.slice aS SL cS) := yy.1; have y2 := yy.2; have HP9 := Lib.hid hp9; have HB9 := Lib.hid hb9; clear hp9 hb9 yy)
     go_roundw
     case rel =>
      refine ⟨i + 1, a9, c9, hlt, by go_num, ?_, ?_⟩
      ·exact Below.setCell (p := ⟨b6, 1, none⟩) (HB2.out.trans HB9.out) (HP9.out.blk 0 rfl).1 _
      ·have h1 := HP9.out.blkStore 0 rfl 1 (.slice a9 (SL + 1) c9)
       rw [finsL_yes HU.out, List.length_append, HSS.out, List.length_singleton]
       unfold revPs
       rw [List.length_append, HSS.out, List.length_singleton, show ivs .i64 (finsL fin i ++ [(i : Int)]) = ivs .i64 (finsL fin i) ++ [.int .i64 (i : Int)] by simp [ivs]]
       exact h1
     case measure => simp [intOf]; omega
    | false =>
     go_wp2_with (fail)
     go_roundw
     case rel => exact ⟨i + 1, aS, cS, hlt, by go_num, HB.out, by rw [finsL_no HU.out, HSS.out]; exact HP.out⟩
     case measure => simp [intOf]; omega
   ·obtain rfl : i = N := by omega
    have t1 : decide ((i : Int) < (i : Int)) = false := decide_eq_false (by omega)
    have t1' : decide (i < i) = false := decide_eq_false (by omega)
    obtain ⟨S, hS9⟩ : ∃ S, finsL fin i = S := ⟨_, rfl⟩
    rw [hS9] at hP
    have HSF := Lib.hid hS9
    have HP := Lib.hid hP
    have HB := Lib.hid hb
    clear hP hb hS9 hdW hi
    have hsl0 : sl ≤ 100000 := by
     have h1 := HSL.out
     have h2 := bd_len HV.out.startAsc HV.out.startIn
     have := HNN.out
     simp only [Int.toNat_natCast] at h2
     omega
    go_wp2_with (fail)
    go_loopw [40] (fun c W => ∃ (k : Nat), k ≤ sl ∧ c = .int .i64 (k : Int) ∧ Below wo.heap.size wo W ∧ Pcs W wo.heap.size (revPs b6 i b4 (setBs i (s.take k)) (.slice aS S.length cS) S (.slice none 0 0) [])) (fun c _ => sl - (intOf c).toNat)
    case atStart => exact ⟨0, Nat.zero_le _, rfl, HB.out, HP.out⟩
    case round =>
     clear k1 k2 k3 k4
     obtain ⟨k, hk, rfl, hb, hP⟩ := hrel
     obtain ⟨⟨k1, k2, k3, k4⟩, hdW, -, -, -⟩ := HO3.out wr hb
     rcases Nat.lt_or_ge k sl with hlt | hge
     ·have t2 : decide ((k : Int) < (sl : Int)) = true := decide_eq_true (by omega)
      have t2' : decide (k < sl) = true := decide_eq_true hlt
      obtain ⟨bS, oS, rfl, hbl, x1⟩ := hdW.start.at wr (Below.refl _ _) k hlt
      have hzm := HST.out (gi s k) (gi_mem s k (by rw [HSL.out]; exact hlt))
      have HTK : Hid (s.take (k + 1) = s.take k ++ [gi s k]) := Lib.hid (take_succ_gi s k (by rw [HSL.out]; exact hlt))
      obtain ⟨q, hq⟩ : ∃ q, gi s k = q := ⟨_, rfl⟩
      simp only at x1
      rw [hq] at x1 hzm HTK
      obtain ⟨q, rfl⟩ := Int.eq_ofNat_of_zero_le hzm.1
      have hqi : q < i := by omega
      obtain ⟨F, hF⟩ : ∃ F, setBs i (s.take k) = F := ⟨_, rfl⟩
      have hFl : F.length = i := by rw [← hF]; exact (setBs_facts i _ fun z hz => HST.out z (List.mem_of_mem_take hz)).1
      have HFF : Hid (setBs i (s.take (k + 1)) = F.set q true) := Lib.hid (by rw [HTK.out, setBs_snoc, hF]; rfl)
      rw [hF] at hP
      have e2 : wr.cell? ⟨b6, 2, none⟩ = some (.slice (some ⟨b4, 0, none⟩) i i) := ((hP.blk 0 rfl).2.cell 2).1
      obtain ⟨y1, y2⟩ := bown_cell (hP.row 1 rfl) hqi hFl
      have HP := Lib.hid hP
      have HB := Lib.hid hb
      clear hP hb hq hdW k1 k2 k3 k4 hF hFl hzm hbl
      go_wp2_with (fail)
      go_roundw
      case rel =>
       refine ⟨k + 1, hlt, by go_num, ?_, ?_⟩
       ·exact Below.setCell (p := ⟨b4, q, none⟩) HB.out ((HP.out.each 1 _ rfl).lt rfl).1 _
       ·have h1 := HP.out.rowStore 1 rfl q (.bool true)
        rw [HFF.out]
        unfold revPs
        rw [show bvs (F.set q true) = (bvs F).set q (.bool true) by simp [bvs]]
        exact h1
      case measure => simp [intOf]; omega
     ·obtain rfl : k = sl := by omega
      have t2 : decide ((k : Int) < (k : Int)) = false := decide_eq_false (by omega)
      have t2' : decide (k < k) = false := decide_eq_false (by omega)
      obtain ⟨F, hF⟩ : ∃ F, setBs i (s.take k) = F := ⟨_, rfl⟩
      have HFB : Hid (F = boolsL s i) := Lib.hid (by
       rw [← hF, List.take_of_length_le (by rw [HSL.out]; exact Nat.le_refl _)]
       exact setBs_eq i s HST.out)
      rw [hF] at hP
      have HP := Lib.hid hP
      have HB := Lib.hid hb
      clear hP hb hF hdW hk
      go_wp2_with (fail)
      go_loopw [52] (fun c W => ∃ (j : Nat) (va : Option Addr) (ca : Nat), j ≤ al ∧ c = .int .i64 (j : Int) ∧ Below wo.heap.size wo W ∧ Pcs W wo.heap.size (revPs b6 i b4 F (.slice aS S.length cS) S (.slice va j ca) ((es.take j).map swA))) (fun c _ => al - (intOf c).toNat)
      case atStart => exact ⟨0, none, 0, Nat.zero_le _, rfl, HB.out, HP.out⟩
      case round =>
       clear k1 k2 k3 k4
       obtain ⟨j, va, ca, hj, rfl, hb, hP⟩ := hrel
       obtain ⟨⟨k1, k2, k3, k4⟩, hdW, -, -, -⟩ := HO3.out wr hb
       rcases Nat.lt_or_ge j al with hlt | hge
       ·have t3 : decide ((j : Int) < (al : Int)) = true := decide_eq_true (by omega)
        have t3' : decide (j < al) = true := decide_eq_true hlt
        obtain ⟨bA, oA, rfl, hac⟩ := hdW.arcs.fix (by simp only; omega)
        obtain ⟨x1, x2, x3⟩ := hac wr (Below.refl _ _) j hlt
        have HTK : Hid ((es.take (j + 1)).map swA = (es.take j).map swA ++ [swA (g3 es j)]) := Lib.hid (by rw [take_succ_g3 es j (by rw [HEL.out]; exact hlt), List.map_append]; rfl)
        obtain ⟨⟨y1, y2, y3⟩, hy⟩ : ∃ y, g3 es j = y := ⟨_, rfl⟩
        rw [hy] at HTK x1 x2 x3
        obtain ⟨TS, hTS⟩ : ∃ TS, (es.take j).map swA = TS := ⟨_, rfl⟩
        have hTl : TS.length = j := by rw [← hTS, List.length_map, List.length_take, HEL.out]; omega
        rw [hTS] at HTK hP
        simp only [swA] at HTK
        simp only at x1 x2 x3
        have hsz := hb.size
        obtain ⟨Wn, hWn⟩ : ∃ Wn, wr.alloc (.cells #[.int .i64 y1, .int .i64 y2, .int .i64 y3] 50) = Wn := ⟨_, rfl⟩
        have hbn : Below wr.heap.size wr Wn := by rw [← hWn]; exact (Below.refl _ _).alloc (Nat.le_refl _) _
        have z1 : Wn.cell? ⟨wr.heap.size, 0, none⟩ = some (.int .i64 y1) := by rw [← hWn]; exact cell_of_row _ _ 0 _ _ _ (heap_alloc_new wr _)
        have z2 : Wn.cell? ⟨wr.heap.size, 1, none⟩ = some (.int .i64 y2) := by rw [← hWn]; exact cell_of_row _ _ 1 _ _ _ (heap_alloc_new wr _)
        have z3 : Wn.cell? ⟨wr.heap.size, 2, none⟩ = some (.int .i64 y3) := by rw [← hWn]; exact cell_of_row _ _ 2 _ _ _ (heap_alloc_new wr _)
        have hPn := hP.quiet (below_grows hbn none)
        have e3 : Wn.cell? ⟨b6, 3, none⟩ = some (.slice va j ca) := ((hPn.blk 0 rfl).2.cell 3).1
        have HBn : Hid (Below wo.heap.size wo Wn) := Lib.hid (hb.trans (hbn.mono hsz))
        have HP2 : Hid (Pcs (Wn.alloc (.cells #[.int .i64 y3, .int .i64 y2, .int .i64 y1] 50)) wo.heap.size (revPs b6 i b4 F (.slice aS S.length cS) S (.slice va j ca) TS)) := Lib.hid (hPn.quiet (below_grows ((Below.refl _ _).alloc (Nat.le_refl _) _) none))
        have HB2 : Hid (Below wo.heap.size wo (Wn.alloc (.cells #[.int .i64 y3, .int .i64 y2, .int .i64 y1] 50))) := Lib.hid (HBn.out.alloc HBn.out.size _)
        have HSZ := Lib.hid hsz
        have HAl := HAL.out
        have HTL := Lib.hid hTl
        have HWN := Lib.hid hWn
        clear hP hb hy hac hdW k1 k2 k3 k4 hTS hTl hbn hPn hsz hWn
        go_upto_region 18 with (fail)
        rw [HWN.out]
        go_wp2_with (at_builtin; refine app_pcs elA rfl _ _ rfl 3 (v := .slice va j ca) (n := j) (xs := tvs TS) rfl HP2.out (by unfold revPs; rw [HTL.out]; rfl) rfl (new_src Wn #[.int .i64 y3, .int .i64 y2, .int .i64 y1] _ rfl) (by intro u hu; simp at hu; rcases hu with rfl | rfl | rfl <;> rfl) (by omega) HB2.out.size ?_; intro a9 c9 w9 hp9 hb9; have yy := (hp9.blk 0 rfl).2.cell 3; have v1 : w9.cell? ⟨b6, 3, none⟩ = some (.slice va j ca) := yy.1; have v2 := yy.2; have HP9 := Lib.hid hp9; have HB9 := Lib.hid hb9; clear hp9 hb9 yy)
        go_roundw
        case rel =>
         refine ⟨j + 1, a9, c9, hlt, by go_num, ?_, ?_⟩
         ·exact Below.setCell (p := ⟨b6, 3, none⟩) (HB2.out.trans HB9.out) (HP9.out.blk 0 rfl).1 _
         ·have h1 := HP9.out.blkStore 0 rfl 3 (.slice a9 (j + 1) c9)
          rw [HTK.out]
          unfold revPs
          rw [List.length_append, HTL.out, tvs_append]
          exact h1
        case measure => simp [intOf]; omega
       ·obtain rfl : j = al := by omega
        have t3 : decide ((j : Int) < (j : Int)) = false := decide_eq_false (by omega)
        have t3' : decide (j < j) = false := decide_eq_false (by omega)
        rw [List.take_of_length_le (by rw [HEL.out]; exact Nat.le_refl _)] at hP
        have e3 : wr.cell? ⟨b6, 3, none⟩ = some (.slice va j ca) := ((hP.blk 0 rfl).2.cell 3).1
        have hlm : (es.map swA).length = j := by rw [List.length_map]; exact HEL.out
        have hrw := hP.row 3 rfl
        rw [hlm] at hrw
        have hsrt := sort_arcs hrw (by rw [hlm]; have := HAL.out; omega)
        have HP := Lib.hid hP
        have HB := Lib.hid hb
        have HLM := Lib.hid hlm
        clear hP hb hdW hj hlm hrw
        go_wp2_with (fail)
        go_at_call 32
        refine hsrt.mono ?_
        rintro e w9 ⟨rfl, ⟨A', hp, hs, ho9⟩, hg9⟩
        obtain rfl : A' = revA es := sorted_rev HV.out.sorted hp hs
        have hP9 := HP.out.put 3 (.row 50 3 (.slice va j ca) j (tvs (revA es))) rfl hg9 ho9 (fun q e => .inl e)
        have hb9 : Below wo.heap.size wo w9 := HB.out.grown hg9 HB.out.size (fun q e => ((HP.out.each 3 _ rfl).lt e).1)
        have hB1 := (hP9.blk 0 rfl).2
        have d0 : w9.cell? ⟨b6, 0, none⟩ = some (.int .i64 (i : Int)) := (hB1.cell 0).1
        have d1 : w9.cell? ⟨b6, 1, none⟩ = some (.slice aS S.length cS) := (hB1.cell 1).1
        have d2 : w9.cell? ⟨b6, 2, none⟩ = some (.slice (some ⟨b4, 0, none⟩) i i) := (hB1.cell 2).1
        have d3 : w9.cell? ⟨b6, 3, none⟩ = some (.slice va j ca) := (hB1.cell 3).1
        obtain ⟨-, -, hbW, hZ, -⟩ := HO3.out w9 hb9
        have HZ := Lib.hid hZ
        have HBW := Lib.hid hbW
        have HP9 := Lib.hid hP9
        clear hP9 hb9 hB1 hbW hZ hp hs ho9 hg9 hsrt e3 k1 k2 k3 k4
        go_wp2_with (show wpList _ _ _ (⟨_, .store 31 _ _, _, _, _, _⟩ :: _) _ _; refine wpList_store_row rfl 31 _ _ rfl (w.heap.size + 1) #[.int .i64 (i : Int), .slice aS S.length cS, .slice (some ⟨b4, 0, none⟩) i i, .slice va j ca] rfl rfl _ _ HZ.out nfa_i rfl (nfa_one _ _ _ _ _ _ _ _ _ _) ?_)
        refine bodyPost_ret (results_row2 rfl _ _ (w.heap.size + 1) _ _ _ _ rfl rfl (setRow_heap _ _ _ _ _ _ HZ.out) Tryz.underlying31 rfl nfa_i) rfl ?_
        refine ⟨⟨⟨aS, S.length, cS, some ⟨b4, 0, none⟩, i, i, va, j, ca⟩, rfl, ?_⟩, below_setRow HBW.out (by omega) _⟩
        have hPf := pcs_ahead HP9.out (q := w.heap.size + 1) (by have := HQ2.out; omega) #[.int .i64 (i : Int), .slice aS S.length cS, .slice (some ⟨b4, 0, none⟩) i i, .slice va j ca]
        have i1 := (IsInts.of_owns (hPf.row 2 rfl)).1
        have i2 := (IsBools.of_owns (hPf.row 1 rfl)).1
        have i3 := (IsArcs.of_owns (hPf.row 3 rfl)).1
        rw [HFB.out] at i2
        refine ⟨?_, ?_, i3⟩
        ·show IsInts _ _ _ _ _ (finsL fin (i : Int).toNat)
         rw [Int.toNat_natCast, HSF.out]
         exact i1
        ·show IsBools _ _ _ _ (boolsL s (i : Int).toNat)
         rw [Int.toNat_natCast]
         exact i2
theorem Reverse_any {a : Nfa} {h : NH} {w : World} (hd : IsNfa w h a) :
  Calls Tryz.prog 11 #[vNf a h] w (GivesNE (revV a) (revE a) w) := by
 by_cases hv : ValidN a
 ·rw [(rev_yes hv).1, (rev_yes hv).2]; exact Reverse_yes hv hd
 ·rw [(rev_no hv).1, (rev_no hv).2]; exact Reverse_no hv hd
end Go.Proofs.YtofaifeadhimjaaGreatDoor

set_option linter.unusedSimpArgs false
set_option linter.unusedVariables false
namespace Go.Proofs.YtofaifeadhimjaaGreatDoor
open List (foldr_cons foldr_nil setIfInBounds_toArray set_cons_succ set_cons_zero)
open Go.RowKit
attribute [local go_sem] Oper.semAt_some

theorem insA_len (x : A3) : ∀ l : List A3, (insA l x).length ≤ l.length + 1
 | [] => Nat.le_refl _
 | y :: l => by
  have ih := insA_len x l
  unfold insA
  split
  ·rw [List.length_cons, List.length_cons]; omega
  ·split
   ·rw [List.length_cons]; omega
   ·rw [List.length_cons, List.length_cons]; omega
theorem boxRvR (a : Nfa) (h : NH) (w : World) (hd : IsNfa w h a) : ∃ W1 W2, w.alloc (.cells #[.int .i64 a.n, .slice h.sa h.sl h.sc, .slice h.fa h.fl h.fc, .slice h.aa h.al h.ac] 26) = W1 ∧ W1.alloc (.cells #[.int .i64 0, .slice none 0 0, .slice none 0 0, .slice none 0 0] 26) = W2 ∧ W1.heap.size = w.heap.size + 1 ∧ W2.heap.size = w.heap.size + 2 ∧ ∀ W, Below (w.heap.size + 2) W2 W → (W.cell? ⟨w.heap.size, 0, none⟩ = some (.int .i64 a.n) ∧ W.cell? ⟨w.heap.size, 1, none⟩ = some (.slice h.sa h.sl h.sc) ∧ W.cell? ⟨w.heap.size, 2, none⟩ = some (.slice h.fa h.fl h.fc) ∧ W.cell? ⟨w.heap.size, 3, none⟩ = some (.slice h.aa h.al h.ac)) ∧ IsNfa W h a ∧ Below w.heap.size w W ∧ W.heap[w.heap.size + 1]? = some (.cells #[.int .i64 0, .slice none 0 0, .slice none 0 0, .slice none 0 0] 26 (0, 0)) ∧ w.heap.size + 2 ≤ W.heap.size := by
 obtain ⟨W1, hW1, hs1, hb1, hO⟩ := boxRN a h w hd
 have hs2 : (W1.alloc (.cells #[.int .i64 0, .slice none 0 0, .slice none 0 0, .slice none 0 0] 26)).heap.size = w.heap.size + 2 := by simp; omega
 refine ⟨W1, _, hW1, rfl, hs1, hs2, fun W hW => ?_⟩
 have hb2 : Below W1.heap.size W1 (W1.alloc (.cells #[.int .i64 0, .slice none 0 0, .slice none 0 0, .slice none 0 0] 26)) := (Below.refl _ _).alloc (Nat.le_refl _) _
 obtain ⟨k1, k2, k3⟩ := hO W ((hb2.mono (by omega)).trans (hW.mono (by omega)))
 exact ⟨k1, k2, k3, by rw [hW.block _ (by omega), ← hs1]; exact heap_alloc_new W1 _, hs2 ▸ hW.size⟩
set_option maxRecDepth 20000 in
set_option maxHeartbeats 4000000 in
theorem refReverse_no {a : Nfa} {h : NH} {w : World} (hv : ¬ ValidN a) (hd : IsNfa w h a) :
  Calls Tryz.prog 12 #[vNf a h] w (GivesNE zeroN 1 w) := by
 obtain ⟨W1, W2, hW1, hW2, hs1, hs2, hO⟩ := boxRvR a h w hd
 have HO := Lib.hid hO
 have HS := Lib.hid hs2
 obtain ⟨⟨c1, c2, c3, c4⟩, hd2, -, -, -⟩ := hO W2 (Below.refl _ _)
 have hva := refValid_any a h W2 hd2
 rw [vN_no hv] at hva
 unfold vNf at hva ⊢
 clear hd hO hd2 hv
 go_enter Tryz.func12, Tryz.ntmps12
 go_wp2_with (first
  | (go_at_call 22; refine hva.mono ?_; rintro e w3 ⟨rfl, hb3⟩; obtain ⟨-, -, hbw3, hZ3, -⟩ := HO.out w3 (hb3.mono (by rw [HS.out]; exact Nat.le_refl _)); have HZ3 := Lib.hid hZ3; clear hZ3)
  | (show wpList _ _ _ (⟨_, .store 26 _ _, _, _, _, _⟩ :: _) _ _; refine wpList_store_row rfl 26 _ _ rfl (w.heap.size + 1) #[.int .i64 0, .slice none 0 0, .slice none 0 0, .slice none 0 0] rfl rfl _ _ HZ3.out rnfa_i rfl (nfa_one _ _ _ _ _ _ _ _ _ _) ?_))
 refine bodyPost_ret (results_row2 rfl _ _ (w.heap.size + 1) _ _ _ _ rfl rfl (setRow_heap _ _ _ _ _ _ HZ3.out) Tryz.underlying26 rfl rnfa_i) rfl ?_
 exact ⟨⟨_, rfl, isN_zero _⟩, below_setRow hbw3 (by omega) _⟩
def rrevPs (b N g : Nat) (fs : List Bool) (vs : Value) (S : List Int) (va : Value) (A : List A3) : List Pc :=
 [.blk b #[.int .i64 (N : Int), vs, .slice (some ⟨g, 0, none⟩) N N, va], .row 4 1 (.slice (some ⟨g, 0, none⟩) N N) N (bvs fs), .row 3 1 vs S.length (ivs .i64 S), .row 57 3 va A.length (tvs A)]
set_option maxRecDepth 20000 in
set_option maxHeartbeats 8000000 in
theorem refReverse_yes {a : Nfa} {h : NH} {w : World} (hv : ValidN a) (hd : IsNfa w h a) :
  Calls Tryz.prog 12 #[vNf a h] w (GivesNE (revN a) 0 w) := by
 obtain ⟨W1, W2, hW1, hW2, hs1, hs2, hO⟩ := boxRvR a h w hd
 have HS := Lib.hid hs2
 obtain ⟨⟨c1, c2, c3, c4⟩, hd2, -, -, -⟩ := hO W2 (Below.refl _ _)
 have hva := refValid_any a h W2 hd2
 rw [vN_yes hv] at hva
 have HV := Lib.hid hv
 have hn := hv.1
 have hfl0 := hv.2.1
 have hal0 := hv.2.2.1
 rw [hd.fin.length] at hfl0
 rw [hd.arcs.length] at hal0
 obtain ⟨n, s, fin, es⟩ := a
 obtain ⟨sa, sl, sc, fa, fl, fc, aa, al, ac⟩ := h
 simp only [vNf] at hW1 hW2 hO hva hn hfl0 hal0 c1 c2 c3 c4 ⊢
 obtain ⟨N, rfl⟩ := Int.eq_ofNat_of_zero_le hn.1
 obtain rfl : N = fl := by omega
 have hN : N ≤ 200 := by omega
 have HO := Lib.hid hO
 clear hd hO hd2 hv hn hfl0
 go_enter Tryz.func12, Tryz.ntmps12
 go_wp2_with (go_at_call 22; refine hva.mono ?_; rintro e w3 ⟨rfl, hb3⟩; have HB3 : Hid (Below (w.heap.size + 2) W2 w3) := Lib.hid (hb3.mono (by rw [HS.out]; exact Nat.le_refl _)); clear hb3 c1 c2 c3 c4)
 obtain ⟨wo, hwo⟩ : ∃ wo, wo = w3 := ⟨w3, rfl⟩
 subst hwo
 have HO3 : Hid (∀ W, Below wo.heap.size wo W → (W.cell? ⟨w.heap.size, 0, none⟩ = some (.int .i64 (N : Int)) ∧ W.cell? ⟨w.heap.size, 1, none⟩ = some (.slice sa sl sc) ∧ W.cell? ⟨w.heap.size, 2, none⟩ = some (.slice fa N fc) ∧ W.cell? ⟨w.heap.size, 3, none⟩ = some (.slice aa al ac)) ∧ IsNfa W ⟨sa, sl, sc, fa, N, fc, aa, al, ac⟩ ⟨N, s, fin, es⟩ ∧ Below w.heap.size w W ∧ W.heap[w.heap.size + 1]? = some (.cells #[.int .i64 0, .slice none 0 0, .slice none 0 0, .slice none 0 0] 26 (0, 0)) ∧ w.heap.size + 2 ≤ W.heap.size) := Lib.hid (fun W hW => HO.out W (HB3.out.trans (hW.mono (by have := HB3.out.size; rw [HS.out] at this; exact this))))
 have HP0 := Lib.hid (Pcs.nil wo wo.heap.size)
 have hq2 : w.heap.size + 2 ≤ wo.heap.size := (HO3.out wo (Below.refl _ _)).2.2.2.2
 have HQ2 := Lib.hid hq2
 clear hva HO hW1 hW2 hs1 hs2 hq2
 obtain ⟨S, hSd⟩ : ∃ S : (Nat → Bool) → (Nat → Value) → World → Prop, S = fun L f W => Below wo.heap.size wo W ∧ (L 5 = true → f 5 = .agg #[.int .i64 (N : Int), .slice none 0 0, f 4, .slice none 0 0]) ∧ Pcs W wo.heap.size ((if L 6 = true then [.blk (blkO (f 6)) (if L 7 = true then #[.int .i64 (N : Int), .slice none 0 0, f 4, .slice none 0 0] else #[.int .i64 0, .slice none 0 0, .slice none 0 0, .slice none 0 0])] else []) ++ (if L 4 = true then [.row 4 1 (f 4) N (bvs (List.replicate N false))] else [])) := ⟨_, rfl⟩
 refine wp_region_st mixed (by kernel_rfl) [[], [(0, 12)], [], [(2, 14)], [(3, 15), (3, 15)], [(1, 13), (4, 16)], [], [(6, 4), (5, 17), (0, 12), (1, 13), (2, 14), (3, 15), (4, 16), (5, 17), (6, 4)]] [(0, 12), (1, 13), (2, 14), (3, 15), (4, 16), (5, 17), (6, 4)] rfl rfl [EV ?e0, EV ?e1, EV ?e2, EV ?e3, fun v => ∃ g, v = .slice (some ⟨g, 0, none⟩) N N, fun _ => True, fun v => ∃ b, v = .pointer (some ⟨b, 0, none⟩), fun _ => True] S ?start ?steps ?rest
 case start =>
  intro f
  rw [hSd]
  exact ⟨(Below.refl _ _).drew, fun h => (by cases h), HP0.out.quiet (below_grows ((Below.refl _ _).drew) none)⟩
 case steps =>
  refine ⟨fun L f W hi hd hdn hh hS => ?_, fun L f W hi hd hdn hh hS => ?_, fun L f W hi hd hdn hh hS => ?_, fun L f W hi hd hdn hh hS => ?_, fun L f W hi hd hdn hh hS => ?_, fun L f W hi hd hdn hh hS => ?_, fun L f W hi hd hdn hh hS => ?_, fun L f W hi hd hdn hh hS => ?_, trivial⟩
  ·
   unfold stStep
   rw [if_pos (by simp [Region.wanted])]
   intro K Q hK
   simp only [puts, foldr_nil]
   go_step
   refine st_ex hK rfl rfl (by simp only [Act.put, setIfInBounds_toArray, set_cons_succ, set_cons_zero, Array.getD_eq_getD_getElem?, List.getElem?_toArray, List.getElem?_cons_succ, List.getElem?_cons_zero, Option.getD_some] <;> rfl) rfl (by rw [hSd] at hS ⊢; exact hS)
  ·
   obtain ⟨h0, -⟩ := hh
   have g0 : f 0 = _ := h0
   unfold stStep
   rw [if_pos (by simp [Region.wanted])]
   intro K Q hK
   simp only [puts, Za, Zb, Zc, Zd, Ze, g0]
   have hS' := hS
   rw [hSd] at hS'
   obtain ⟨⟨q1, q2, q3, q4⟩, -, -, -, -⟩ := HO3.out W hS'.1
   go_step
   refine st_ex hK rfl rfl (by simp only [Act.put, setIfInBounds_toArray, set_cons_succ, set_cons_zero, Array.getD_eq_getD_getElem?, List.getElem?_toArray, List.getElem?_cons_succ, List.getElem?_cons_zero, Option.getD_some] <;> rfl) rfl (by rw [hSd] at hS ⊢; exact hS)
  ·
   unfold stStep
   rw [if_pos (by simp [Region.wanted])]
   intro K Q hK
   simp only [puts, foldr_nil]
   go_step
   refine st_ex hK rfl rfl (by simp only [Act.put, setIfInBounds_toArray, set_cons_succ, set_cons_zero, Array.getD_eq_getD_getElem?, List.getElem?_toArray, List.getElem?_cons_succ, List.getElem?_cons_zero, Option.getD_some] <;> rfl) rfl (by rw [hSd] at hS ⊢; exact hS)
  ·
   obtain ⟨h2, -⟩ := hh
   have g2 : f 2 = _ := h2
   unfold stStep
   rw [if_pos (by simp [Region.wanted])]
   intro K Q hK
   simp only [puts, Za, Zb, Zc, Zd, Ze, g2]
   have hS' := hS
   rw [hSd] at hS'
   obtain ⟨⟨q1, q2, q3, q4⟩, -, -, -, -⟩ := HO3.out W hS'.1
   go_step
   refine st_ex hK rfl rfl (by simp only [Act.put, setIfInBounds_toArray, set_cons_succ, set_cons_zero, Array.getD_eq_getD_getElem?, List.getElem?_toArray, List.getElem?_cons_succ, List.getElem?_cons_zero, Option.getD_some] <;> rfl) rfl (by rw [hSd] at hS ⊢; exact hS)
  ·
   obtain ⟨h3, _, -⟩ := hh
   have g3 : f 3 = _ := h3
   have l5 : L 5 = false := Bool.eq_false_iff.2 fun h => by have q := hdn 5 _ h rfl 4 (by decide); rw [show L 4 = false from hi] at q; cases q
   have l7 : L 7 = false := Bool.eq_false_iff.2 fun h => by have q := hdn 7 _ h rfl 5 (by decide); rw [show L 5 = false from l5] at q; cases q
   unfold stStep
   rw [if_pos (by simp [Region.wanted])]
   intro K Q hK
   simp only [puts, Za, Zb, Zc, Zd, Ze, g3]
   rw [hSd] at hS hK
   have l4 : L 4 = false := hi
   try simp only [stage, l5, l7, l4, if_true, if_false, Bool.false_eq_true] at hS
   obtain ⟨hbW, -, hPW⟩ := hS
   refine wp_make_op elB rfl _ _ rfl rfl rfl rfl rfl (by omega) (Nat.le_refl _) ?_
   intro w' ho' hb'
   refine hK.out _ _ rfl ⟨_, rfl⟩ ?_
   refine ⟨hbW.trans (hb'.mono hbW.size), fun h => (by simp [l5] at h), ?_⟩
   simp only [l4, l7, Bool.false_eq_true, ↓reduceIte, Nat.reduceEqDiff, List.append_nil] at hPW ⊢
   have h1 := hPW.add (.row 4 1 (.slice (some ⟨W.heap.size, 0, none⟩) N N) N (bvs (List.replicate N false))) (below_grows hb' none) (by have h2 := ho'.from_mono hbW.size; show World.ownsRow _ _ _ _ _ _ _; rw [show bvs (List.replicate N false) = List.replicate N (Value.bool false) by simp [bvs]]; exact h2) (fun q e => by have e : some W.heap.size = some q := e; injection e with e; omega)
   exact h1
  ·
   obtain ⟨h1, h4, -⟩ := hh
   have g1 : f 1 = _ := h1
   obtain ⟨b4, (g4 : f 4 = _)⟩ := h4
   have l7 : L 7 = false := Bool.eq_false_iff.2 fun h => by have q := hdn 7 _ h rfl 5 (by decide); rw [show L 5 = false from hi] at q; cases q
   unfold stStep
   rw [if_pos (by simp [Region.wanted])]
   intro K Q hK
   simp only [puts, Za, Zb, Zc, Zd, Ze, g1, g4]
   rw [hSd] at hS hK
   have l5 : L 5 = false := hi
   try simp only [stage, l7, l5, if_true, if_false, Bool.false_eq_true] at hS
   obtain ⟨hbW, -, hPW⟩ := hS
   go_step
   refine hK.out _ _ rfl trivial ?_
   refine ⟨hbW, fun _ => (by simp [g4, fval, Act.put]), ?_⟩
   simp only [l7, Bool.false_eq_true, ↓reduceIte, Nat.reduceEqDiff] at hPW ⊢
   exact hPW
  ·
   have l7 : L 7 = false := Bool.eq_false_iff.2 fun h => by have q := hdn 7 _ h rfl 6 (by decide); rw [show L 6 = false from hi] at q; cases q
   unfold stStep
   rw [if_pos (by simp [Region.wanted])]
   intro K Q hK
   simp only [puts, foldr_nil]
   rw [hSd] at hS hK
   have l6 : L 6 = false := hi
   try simp only [stage, l7, l6, if_true, if_false, Bool.false_eq_true] at hS
   obtain ⟨hbW, h5W, hPW⟩ := hS
   go_step
   refine hK.out _ _ rfl ⟨_, rfl⟩ ?_
   refine ⟨hbW.alloc hbW.size _, h5W, ?_⟩
   simp only [l6, l7, Bool.false_eq_true, ↓reduceIte, Nat.reduceEqDiff, List.nil_append] at hPW ⊢
   have h1 := hPW.new hbW.size #[.int .i64 0, .slice none 0 0, .slice none 0 0, .slice none 0 0] 26
   exact h1.turn List.perm_append_comm
  ·
   obtain ⟨h6, h5, h0, h1, h2, h3, h4, _, _, -⟩ := hh
   obtain ⟨b6, (g6 : f 6 = _)⟩ := h6
   obtain ⟨z5, g5⟩ : ∃ z, f 5 = z := ⟨_, rfl⟩
   have g0 : f 0 = _ := h0
   have g1 : f 1 = _ := h1
   have g2 : f 2 = _ := h2
   have g3 : f 3 = _ := h3
   obtain ⟨b4, (g4 : f 4 = _)⟩ := h4
   have l4 : L 4 = true := hd 4 (by decide)
   have l5 : L 5 = true := hd 5 (by decide)
   have l6 : L 6 = true := hd 6 (by decide)
   unfold stStep
   rw [if_pos (by simp [Region.wanted])]
   intro K Q hK
   simp only [puts, Za, Zb, Zc, Zd, Ze, g6, g5, g0, g1, g2, g3, g4]
   rw [hSd] at hS hK
   have l7 : L 7 = false := hi
   try simp only [stage, l7, l4, l5, l6, if_true, if_false, Bool.false_eq_true] at hS
   obtain ⟨hbW, h5W, hPW⟩ := hS
   have l4' : L 4 = true := hdn 5 _ (hd 5 (by decide)) rfl 4 (by decide)
   have l5' : L 5 = true := hd 5 (by decide)
   have l6' : L 6 = true := hd 6 (by decide)
   simp only [l4', l6', l7, Bool.false_eq_true, if_true, if_false, ↓reduceIte, g4, g6] at hPW
   have h5 := h5W trivial
   rw [g5, g4] at h5
   subst h5
   obtain ⟨hB6, T6, hZ6⟩ := hPW.blk 0 rfl
   refine wp_store_row 26 _ _ rfl b6 #[.int .i64 (N : Int), .slice none 0 0, .slice (some ⟨b4, 0, none⟩) N N, .slice none 0 0] rfl rfl _ _ hZ6 rnfa_i rfl (nfa_one _ _ _ _ _ _ _ _ _ _) ?_
   refine hK.out _ _ rfl trivial ?_
   refine ⟨below_setRow hbW hB6 _, fun _ => (by simp only [Nat.reduceEqDiff, ↓reduceIte]; rw [g5, g4]), ?_⟩
   simp only [l4', l6', ↓reduceIte, Nat.reduceEqDiff, g4, g6]
   exact hPW.setRowAt 0 rfl _
 case rest =>
  intro L f WA hL hh hS
  rw [hSd] at hS
  clear hSd
  have l4 : L 4 = true := hL 4 (by decide)
  have l5 : L 5 = true := hL 5 (by decide)
  have l6 : L 6 = true := hL 6 (by decide)
  have l7 : L 7 = true := hL 7 (by decide)
  simp only [stage, l4, l5, l6, l7, if_true] at hS
  clear hL l4 l5 l6 l7
  obtain ⟨h0, h1, h2, h3, h4, h5, h6, -⟩ := hh
  have g0 : f 0 = _ := h0
  have g1 : f 1 = _ := h1
  have g2 : f 2 = _ := h2
  have g3 : f 3 = _ := h3
  obtain ⟨b4, (g4 : f 4 = _)⟩ := h4
  obtain ⟨z5, g5⟩ : ∃ z, f 5 = z := ⟨_, rfl⟩
  obtain ⟨b6, (g6 : f 6 = _)⟩ := h6
  simp only [puts, Za, Zb, Zc, Zd, Ze, g0, g1, g2, g3, g4, g5, g6]
  clear h0 h1 h2 h3 g0 g1 g2 g3
  obtain ⟨hbA, -, hPA⟩ := hS
  simp only [g4, g6] at hPA
  replace hPA := (hPA.empty 3 1).empty 57 3
  have HPA : Hid (Pcs WA wo.heap.size (rrevPs b6 N b4 (List.replicate N false) (.slice none 0 0) [] (.slice none 0 0) [])) := Lib.hid hPA
  have HBA := Lib.hid hbA
  obtain ⟨⟨k1, k2, k3, k4⟩, -, -, -, -⟩ := HO3.out WA hbA
  clear hPA hbA
  clear hN hal0
  have HNN : Hid (N ≤ 200) := Lib.hid (by have := HV.out.1.2; simp only at this; omega)
  have hsl0 : s.length = sl := (HO3.out wo (Below.refl _ _)).2.1.start.length
  have HSL := Lib.hid hsl0
  have HST : Hid (∀ z ∈ s, 0 ≤ z ∧ z < (N : Int)) := Lib.hid (fun z hz => HV.out.start hz)
  have hel0 : es.length = al := (HO3.out wo (Below.refl _ _)).2.1.arcs.length
  have HEL := Lib.hid hel0
  have HAL : Hid (al ≤ 2000) := Lib.hid (by have := HV.out.2.2.1; simp only at this; omega)
  have hsl1 : sl ≤ 100000 := by
   have h2 := bd_len HV.out.startAsc HV.out.startIn
   have := HNN.out
   simp only [Int.toNat_natCast] at h2
   omega
  have HSM := Lib.hid hsl1
  clear hsl0 hel0 h5
  go_wp2_with (fail)
  clear k1 k2 k3 k4
  go_loopw [5] (fun c W => ∃ (k : Nat), k ≤ sl ∧ c = .int .i64 (k : Int) ∧ Below wo.heap.size wo W ∧ Pcs W wo.heap.size (rrevPs b6 N b4 (setBs N (s.take k)) (.slice none 0 0) [] (.slice none 0 0) [])) (fun c _ => sl - (intOf c).toNat)
  case atStart => exact ⟨0, Nat.zero_le _, rfl, HBA.out, HPA.out⟩
  case round =>
   obtain ⟨k, hk, rfl, hb, hP⟩ := hrel
   obtain ⟨⟨k1, k2, k3, k4⟩, hdW, -, -, -⟩ := HO3.out wr hb
   rcases Nat.lt_or_ge k sl with hlt | hge
   ·have t2 : decide (k < sl) = true := decide_eq_true hlt
    obtain ⟨bS, oS, rfl, hbl, x1⟩ := hdW.start.at wr (Below.refl _ _) k hlt
    have hzm := HST.out (gi s k) (gi_mem s k (by rw [HSL.out]; exact hlt))
    have HTK : Hid (s.take (k + 1) = s.take k ++ [gi s k]) := Lib.hid (take_succ_gi s k (by rw [HSL.out]; exact hlt))
    obtain ⟨q, hq⟩ : ∃ q, gi s k = q := ⟨_, rfl⟩
    simp only at x1
    rw [hq] at x1 hzm HTK
    obtain ⟨q, rfl⟩ := Int.eq_ofNat_of_zero_le hzm.1
    have hqi : q < N := by omega
    obtain ⟨F, hF⟩ : ∃ F, setBs N (s.take k) = F := ⟨_, rfl⟩
    have hFl : F.length = N := by rw [← hF]; exact (setBs_facts N _ fun z hz => HST.out z (List.mem_of_mem_take hz)).1
    have HFF : Hid (setBs N (s.take (k + 1)) = F.set q true) := Lib.hid (by rw [HTK.out, setBs_snoc, hF]; rfl)
    rw [hF] at hP
    have HX : Hid (∀ W, Below wr.heap.size wr W → W.cell? ⟨bS, oS + k, none⟩ = some (.int .i64 (q : Int))) := Lib.hid (fun W hW => (hW.cell (p := ⟨bS, oS + k, none⟩) (lt_of_cell x1)).trans x1)
    have HFL := Lib.hid hFl
    have HP := Lib.hid hP
    have HB := Lib.hid hb
    have hsz := hb.size
    clear hP hb hq hdW hF hFl hzm hbl x1 hk
    have HO4 : Hid (∀ W, Below wo.heap.size wo W → W.cell? ⟨w.heap.size, 1, none⟩ = some (.slice (some ⟨bS, oS, none⟩) sl sc)) := Lib.hid (fun W hW => (HO3.out W hW).1.2.1)
    have HX2 : Hid (∀ W, Below wo.heap.size wo W → W.cell? ⟨bS, oS + k, none⟩ = some (.int .i64 (q : Int))) := Lib.hid (fun W hW => by
     obtain ⟨-, hd2, -, -, -⟩ := HO3.out W hW
     obtain ⟨b', o', e', -, x⟩ := hd2.start.at W (Below.refl _ _) k hlt
     injection e' with e'
     injection e' with e1 e2
     subst e1 e2
     have h0 := HX.out wr (Below.refl _ _)
     obtain ⟨b'', o'', e'', -, x0⟩ := (HO3.out wr HB.out).2.1.start.at wr (Below.refl _ _) k hlt
     injection e'' with e''
     injection e'' with e1 e2
     subst e1 e2
     simp only at x x0
     rw [x0] at h0
     rw [x, h0])
    go_wp2_with (fail)
    obtain ⟨S, hSd⟩ : ∃ S : (Nat → Bool) → (Nat → Value) → World → Prop, S = fun L f W => Below wo.heap.size wo W ∧ Pcs W wo.heap.size (rrevPs b6 N b4 (if L 8 = true then F.set q true else F) (.slice none 0 0) [] (.slice none 0 0) []) := ⟨_, rfl⟩
    refine wp_region_st mixed (by kernel_rfl) [[], [(0, 25)], [], [(2, 27)], [], [(3, 28), (4, 29)], [(5, 30)], [(1, 26), (6, 31), (0, 25), (1, 26), (2, 27), (3, 28), (4, 29), (5, 30), (6, 31)], [(7, 32), (0, 25), (1, 26), (2, 27), (3, 28), (4, 29), (5, 30), (6, 31)]] [(0, 25), (1, 26), (2, 27), (3, 28), (4, 29), (5, 30), (6, 31), (7, 32)] rfl rfl [EV ?eb0, EV ?eb1, EV ?eb2, EV ?eb3, EV ?eb4, EV ?eb5, EV ?eb6, EV ?eb7, fun _ => True] S ?bstart ?bsteps ?brest
    case bstart =>
     intro f
     rw [hSd]
     exact ⟨HB.out.drew, HP.out.quiet (below_grows ((Below.refl _ _).drew) none)⟩
    case bsteps =>
     refine ⟨fun L f W hi hd hdn hh hS => ?_, fun L f W hi hd hdn hh hS => ?_, fun L f W hi hd hdn hh hS => ?_, fun L f W hi hd hdn hh hS => ?_, fun L f W hi hd hdn hh hS => ?_, fun L f W hi hd hdn hh hS => ?_, fun L f W hi hd hdn hh hS => ?_, fun L f W hi hd hdn hh hS => ?_, fun L f W hi hd hdn hh hS => ?_, trivial⟩
     ·
      unfold stStep
      rw [if_pos (by simp [Region.wanted])]
      intro K Q hK
      simp only [puts, foldr_nil]
      go_step
      refine st_ex hK rfl rfl (by simp only [Act.put, setIfInBounds_toArray, set_cons_succ, set_cons_zero, Array.getD_eq_getD_getElem?, List.getElem?_toArray, List.getElem?_cons_succ, List.getElem?_cons_zero, Option.getD_some] <;> rfl) rfl (by rw [hSd] at hS ⊢; exact hS)
     ·
      obtain ⟨h0, -⟩ := hh
      have g0 : f 0 = _ := h0
      unfold stStep
      rw [if_pos (by simp [Region.wanted])]
      intro K Q hK
      simp only [puts, Za, Zb, Zc, Zd, Ze, g0]
      have hS' := hS
      rw [hSd] at hS'
      have y1 : W.cell? ⟨b6, 2, none⟩ = some (.slice (some ⟨b4, 0, none⟩) N N) := ((hS'.2.blk 0 rfl).2.cell 2).1
      go_step
      refine st_ex hK rfl rfl (by simp only [Act.put, setIfInBounds_toArray, set_cons_succ, set_cons_zero, Array.getD_eq_getD_getElem?, List.getElem?_toArray, List.getElem?_cons_succ, List.getElem?_cons_zero, Option.getD_some] <;> rfl) rfl (by rw [hSd] at hS ⊢; exact hS)
     ·
      unfold stStep
      rw [if_pos (by simp [Region.wanted])]
      intro K Q hK
      simp only [puts, foldr_nil]
      go_step
      refine st_ex hK rfl rfl (by simp only [Act.put, setIfInBounds_toArray, set_cons_succ, set_cons_zero, Array.getD_eq_getD_getElem?, List.getElem?_toArray, List.getElem?_cons_succ, List.getElem?_cons_zero, Option.getD_some] <;> rfl) rfl (by rw [hSd] at hS ⊢; exact hS)
     ·
      obtain ⟨h2, -⟩ := hh
      have g2 : f 2 = _ := h2
      unfold stStep
      rw [if_pos (by simp [Region.wanted])]
      intro K Q hK
      simp only [puts, Za, Zb, Zc, Zd, Ze, g2]
      have hS' := hS
      rw [hSd] at hS'
      have y1 := HO4.out W hS'.1
      go_step
      refine st_ex hK rfl rfl (by simp only [Act.put, setIfInBounds_toArray, set_cons_succ, set_cons_zero, Array.getD_eq_getD_getElem?, List.getElem?_toArray, List.getElem?_cons_succ, List.getElem?_cons_zero, Option.getD_some] <;> rfl) rfl (by rw [hSd] at hS ⊢; exact hS)
     ·
      unfold stStep
      rw [if_pos (by simp [Region.wanted])]
      intro K Q hK
      simp only [puts, foldr_nil]
      go_step
      refine st_ex hK rfl rfl (by simp only [Act.put, setIfInBounds_toArray, set_cons_succ, set_cons_zero, Array.getD_eq_getD_getElem?, List.getElem?_toArray, List.getElem?_cons_succ, List.getElem?_cons_zero, Option.getD_some] <;> rfl) rfl (by rw [hSd] at hS ⊢; exact hS)
     ·
      obtain ⟨h3, h4, -⟩ := hh
      have g3 : f 3 = _ := h3
      have g4 : f 4 = _ := h4
      unfold stStep
      rw [if_pos (by simp [Region.wanted])]
      intro K Q hK
      simp only [puts, Za, Zb, Zc, Zd, Ze, g3, g4]
      go_step
      refine st_ex hK rfl rfl (by simp only [Act.put, setIfInBounds_toArray, set_cons_succ, set_cons_zero, Array.getD_eq_getD_getElem?, List.getElem?_toArray, List.getElem?_cons_succ, List.getElem?_cons_zero, Option.getD_some] <;> rfl) rfl (by rw [hSd] at hS ⊢; exact hS)
     ·
      obtain ⟨h5, -⟩ := hh
      have g5 : f 5 = _ := h5
      unfold stStep
      rw [if_pos (by simp [Region.wanted])]
      intro K Q hK
      simp only [puts, Za, Zb, Zc, Zd, Ze, g5]
      have hS' := hS
      rw [hSd] at hS'
      have y1 := HX2.out W hS'.1
      go_step
      refine st_ex hK rfl rfl (by simp only [Act.put, setIfInBounds_toArray, set_cons_succ, set_cons_zero, Array.getD_eq_getD_getElem?, List.getElem?_toArray, List.getElem?_cons_succ, List.getElem?_cons_zero, Option.getD_some] <;> rfl) rfl (by rw [hSd] at hS ⊢; exact hS)
     ·
      obtain ⟨h1, h6, h0, _, h2, h3, h4, h5, _, -⟩ := hh
      have g1 : f 1 = _ := h1
      have g6 : f 6 = _ := h6
      have g0 : f 0 = _ := h0
      have g2 : f 2 = _ := h2
      have g3 : f 3 = _ := h3
      have g4 : f 4 = _ := h4
      have g5 : f 5 = _ := h5
      unfold stStep
      rw [if_pos (by simp [Region.wanted])]
      intro K Q hK
      simp only [puts, Za, Zb, Zc, Zd, Ze, g1, g6, g0, g2, g3, g4, g5]
      go_step
      refine st_ex hK rfl rfl (by simp only [Act.put, setIfInBounds_toArray, set_cons_succ, set_cons_zero, Array.getD_eq_getD_getElem?, List.getElem?_toArray, List.getElem?_cons_succ, List.getElem?_cons_zero, Option.getD_some] <;> rfl) rfl (by rw [hSd] at hS ⊢; exact hS)
     ·
      obtain ⟨h7, h0, h1, h2, h3, h4, h5, h6, -⟩ := hh
      have g7 : f 7 = _ := h7
      have g0 : f 0 = _ := h0
      have g1 : f 1 = _ := h1
      have g2 : f 2 = _ := h2
      have g3 : f 3 = _ := h3
      have g4 : f 4 = _ := h4
      have g5 : f 5 = _ := h5
      have g6 : f 6 = _ := h6
      unfold stStep
      rw [if_pos (by simp [Region.wanted])]
      intro K Q hK
      simp only [puts, Za, Zb, Zc, Zd, Ze, g7, g0, g1, g2, g3, g4, g5, g6]
      rw [hSd] at hS hK
      have l8 : L 8 = false := hi
      try simp only [stage, l8, if_true, if_false, Bool.false_eq_true] at hS
      obtain ⟨hbW, hPW⟩ := hS
      try simp only [l8, if_false, Bool.false_eq_true] at hPW
      obtain ⟨y1, y2⟩ := bown_cell (hPW.row 1 rfl) hqi HFL.out
      go_step
      refine hK.out _ _ rfl trivial ?_
      refine ⟨Below.setCell (p := ⟨b4, q, none⟩) hbW ((hPW.each 1 _ rfl).lt rfl).1 _, ?_⟩
      simp only [↓reduceIte, Nat.reduceEqDiff]
      have h1 := hPW.rowStore 1 rfl q (.bool true)
      unfold rrevPs
      rw [show bvs (F.set q true) = (bvs F).set q (.bool true) by simp [bvs]]
      exact h1
    case brest =>
     intro L f WB hL hh hS
     rw [hSd] at hS
     clear hSd
     have l8 : L 8 = true := hL 8 (by decide)
     simp only [stage, l8, if_true] at hS
     clear hL l8
     obtain ⟨h0, h1, h2, h3, h4, h5, h6, h7, -⟩ := hh
     have g0 : f 0 = _ := h0
     have g1 : f 1 = _ := h1
     have g2 : f 2 = _ := h2
     have g3 : f 3 = _ := h3
     have g4 : f 4 = _ := h4
     have g5 : f 5 = _ := h5
     have g6 : f 6 = _ := h6
     have g7 : f 7 = _ := h7
     simp only [puts, Za, Zb, Zc, Zd, Ze, g0, g1, g2, g3, g4, g5, g6, g7]
     clear h0 h1 h2 h3 h4 h5 h6 h7 g0 g1 g2 g3 g4 g5 g6 g7
     obtain ⟨hbB, hPB⟩ := hS
     have HPB := Lib.hid hPB
     have hsl9 := HSM.out
     clear hPB
     go_wp2_with (fail)
     go_roundw
     case rel => exact ⟨k + 1, hlt, by go_num, hbB, by rw [HFF.out]; exact HPB.out⟩
     case measure => simp [intOf]; omega
   ·obtain rfl : k = sl := by omega
    have t2 : decide (k < k) = false := decide_eq_false (by omega)
    obtain ⟨F, hF⟩ : ∃ F, setBs N (s.take k) = F := ⟨_, rfl⟩
    have HFB : Hid (F = boolsL s N) := Lib.hid (by
     rw [← hF, List.take_of_length_le (by rw [HSL.out]; exact Nat.le_refl _)]
     exact setBs_eq N s HST.out)
    rw [hF] at hP
    have HP := Lib.hid hP
    have HB := Lib.hid hb
    clear hP hb hF hdW hk hsl1
    go_wp2_with (fail)
    clear k1 k2 k3 k4
    go_loopw [6] (fun c W => ∃ (i : Nat) (aS : Option Addr) (cS : Nat), i ≤ N ∧ c = .int .i64 (i : Int) ∧ Below wo.heap.size wo W ∧ Pcs W wo.heap.size (rrevPs b6 N b4 F (.slice aS (finsL fin i).length cS) (finsL fin i) (.slice none 0 0) [])) (fun c _ => N - (intOf c).toNat)
    case atStart => exact ⟨0, none, 0, Nat.zero_le _, rfl, HB.out, HP.out⟩
    case round =>
     obtain ⟨i, aS, cS, hi, rfl, hb, hP⟩ := hrel
     obtain ⟨⟨k1, k2, k3, k4⟩, hdW, -, -, -⟩ := HO3.out wr hb
     rcases Nat.lt_or_ge i N with hlt | hge
     ·have t1 : decide ((i : Int) < (N : Int)) = true := decide_eq_true (by omega)
      have t1' : decide (i < N) = true := decide_eq_true hlt
      obtain ⟨bf, of, rfl, hfc⟩ := hdW.fin.fix (by simp only; omega)
      have x1 : wr.cell? ⟨bf, of + i, none⟩ = some (.bool (gb fin i)) := hfc wr (Below.refl _ _) i hlt
      obtain ⟨u, hu⟩ : ∃ u, gb fin i = u := ⟨_, rfl⟩
      rw [hu] at x1
      have HU := Lib.hid hu
      have HP := Lib.hid hP
      have HB := Lib.hid hb
      have hsz := hb.size
      have e1 : wr.cell? ⟨b6, 1, none⟩ = some (.slice aS (finsL fin i).length cS) := ((hP.blk 0 rfl).2.cell 1).1
      have hFL := finsL_len fin i
      have hN := HNN.out
      obtain ⟨SL, hSL⟩ : ∃ n, (finsL fin i).length = n := ⟨_, rfl⟩
      rw [hSL] at e1 hFL HP
      have HSS := Lib.hid hSL
      clear hP hb hu hfc hdW hSL
      cases u with
      | true =>
       have HP2 : Hid (Pcs (wr.alloc (.cells #[.int .i64 (i : Int)] 3)) wo.heap.size (rrevPs b6 N b4 F (.slice aS SL cS) (finsL fin i) (.slice none 0 0) [])) := Lib.hid (HP.out.quiet (below_grows ((Below.refl _ _).alloc (Nat.le_refl _) _) none))
       have HB2 : Hid (Below wo.heap.size wo (wr.alloc (.cells #[.int .i64 (i : Int)] 3))) := Lib.hid (HB.out.alloc hsz _)
       have HSZ := Lib.hid hsz
       clear hsz
       go_wp2_with (at_builtin; refine app_pcs elI64 rfl _ _ rfl 2 (v := .slice aS SL cS) (n := SL) (xs := ivs .i64 (finsL fin i)) rfl HP2.out (by unfold rrevPs; rw [HSS.out]; rfl) rfl (new_src wr #[.int .i64 (i : Int)] _ rfl) (by intro u hu; rw [List.mem_singleton.1 hu]; rfl) (by omega) (by have := HSZ.out; simp; omega) ?_; intro a9 c9 w9 hp9 hb9; have yy := (hp9.blk 0 rfl).2.cell 1; have y1 : w9.cell? ⟨b6, 1, none⟩ = some (.slice aS SL cS) := yy.1; have y2 := yy.2; have HP9 := Lib.hid hp9; have HB9 := Lib.hid hb9; clear hp9 hb9 yy)
       go_roundw
       case rel =>
        refine ⟨i + 1, a9, c9, hlt, by go_num, ?_, ?_⟩
        ·exact Below.setCell (p := ⟨b6, 1, none⟩) (HB2.out.trans HB9.out) (HP9.out.blk 0 rfl).1 _
        ·have h1 := HP9.out.blkStore 0 rfl 1 (.slice a9 (SL + 1) c9)
         rw [finsL_yes HU.out, List.length_append, HSS.out, List.length_singleton]
         unfold rrevPs
         rw [List.length_append, HSS.out, List.length_singleton, show ivs .i64 (finsL fin i ++ [(i : Int)]) = ivs .i64 (finsL fin i) ++ [.int .i64 (i : Int)] by simp [ivs]]
         exact h1
       case measure => simp [intOf]; omega
      | false =>
       go_wp2_with (fail)
       go_roundw
       case rel => exact ⟨i + 1, aS, cS, hlt, by go_num, HB.out, by rw [finsL_no HU.out, HSS.out]; exact HP.out⟩
       case measure => simp [intOf]; omega
     ·obtain rfl : i = N := by omega
      have t1 : decide ((i : Int) < (i : Int)) = false := decide_eq_false (by omega)
      have t1' : decide (i < i) = false := decide_eq_false (by omega)
      obtain ⟨S0, hS9⟩ : ∃ S, finsL fin i = S := ⟨_, rfl⟩
      rw [hS9] at hP
      have HSF := Lib.hid hS9
      have HP := Lib.hid hP
      have HB := Lib.hid hb
      clear hP hb hS9 hdW hi
      go_wp2_with (fail)
      clear k1 k2 k3 k4
      go_loopw [7] (fun c W => ∃ (j : Nat) (va : Option Addr) (ca : Nat), j ≤ al ∧ (revA (es.take j)).length ≤ j ∧ c = .int .i64 (j : Int) ∧ Below wo.heap.size wo W ∧ Pcs W wo.heap.size (rrevPs b6 i b4 F (.slice aS S0.length cS) S0 (.slice va (revA (es.take j)).length ca) (revA (es.take j)))) (fun c _ => al - (intOf c).toNat)
      case atStart => exact ⟨0, none, 0, Nat.zero_le _, Nat.le_refl _, rfl, HB.out, HP.out⟩
      case round =>
       obtain ⟨j, va, ca, hj, hrl, rfl, hb, hP⟩ := hrel
       obtain ⟨⟨k1, k2, k3, k4⟩, hdW, -, -, -⟩ := HO3.out wr hb
       rcases Nat.lt_or_ge j al with hlt | hge
       ·have t3 : decide ((j : Int) < (al : Int)) = true := decide_eq_true (by omega)
        have t3' : decide (j < al) = true := decide_eq_true hlt
        obtain ⟨bA, oA, rfl, hac⟩ := hdW.arcs.fix (by simp only; omega)
        have HTK : Hid (revA (es.take (j + 1)) = insA (revA (es.take j)) (swA (g3 es j))) := Lib.hid (by rw [take_succ_g3 es j (by rw [HEL.out]; exact hlt), revA_snoc])
        obtain ⟨⟨y1, y2, y3⟩, hy⟩ : ∃ y, g3 es j = y := ⟨_, rfl⟩
        have HAC : Hid (∀ W, Below wo.heap.size wo W → W.cell? ⟨w.heap.size, 3, none⟩ = some (.slice (some ⟨bA, oA, none⟩) al ac) ∧ W.cell? ⟨bA, oA + j * 3, none⟩ = some (.int .i64 y1) ∧ W.cell? ⟨bA, oA + j * 3 + 1, none⟩ = some (.int .i64 y2) ∧ W.cell? ⟨bA, oA + j * 3 + 2, none⟩ = some (.int .i64 y3)) := Lib.hid (fun W hW => by
         obtain ⟨⟨-, -, -, q4⟩, hd2, -, -, -⟩ := HO3.out W hW
         have h1 := hd2.arcs.get j hlt
         simp only [hy] at h1
         exact ⟨q4, h1⟩)
        rw [hy] at HTK
        obtain ⟨TS, hTS⟩ : ∃ TS, revA (es.take j) = TS := ⟨_, rfl⟩
        rw [hTS] at HTK hP hrl
        simp only [swA] at HTK
        obtain ⟨TL, hTL⟩ : ∃ n, TS.length = n := ⟨_, rfl⟩
        obtain ⟨NL, hNL⟩ : ∃ n, (insA TS ⟨y3, y2, y1⟩).length = n := ⟨_, rfl⟩
        have hnl := insA_len ⟨y3, y2, y1⟩ TS
        rw [hTL] at hP hrl hnl
        rw [hNL] at hnl
        have hal2 := HAL.out
        have HTL := Lib.hid hTL
        have HNL := Lib.hid hNL
        have HRL : Hid ((insA TS ⟨y3, y2, y1⟩).length ≤ j + 1) := Lib.hid (by omega)
        have HIN : Hid (∀ W, IsArcs W va TL ca TS → Calls Tryz.prog 34 #[.slice va TL ca, .agg #[.int .i64 y3, .int .i64 y2, .int .i64 y1]] W (GivesA (insA TS ⟨y3, y2, y1⟩) W)) := Lib.hid (fun W hi => refInsert_any ⟨y3, y2, y1⟩ hi (by omega))
        have HP := Lib.hid hP
        have HB := Lib.hid hb
        clear hP hb hy hac hdW hTS hTL hNL
        go_wp2_with (fail)
        obtain ⟨S, hSd⟩ : ∃ S : (Nat → Bool) → (Nat → Value) → World → Prop, S = fun L f W => Below wo.heap.size wo W ∧ Pcs W wo.heap.size [.blk b6 #[.int .i64 (i : Int), .slice aS S0.length cS, .slice (some ⟨b4, 0, none⟩) i i, (if L 23 = true then f 21 else .slice va TL ca)], .row 4 1 (.slice (some ⟨b4, 0, none⟩) i i) i (bvs F), .row 3 1 (.slice aS S0.length cS) S0.length (ivs .i64 S0), .row 57 3 (if L 21 = true then f 21 else .slice va TL ca) (if L 21 = true then NL else TL) (tvs (if L 21 = true then insA TS ⟨y3, y2, y1⟩ else TS))] := ⟨_, rfl⟩
        refine wp_region_st mixed (by kernel_rfl) [[], [(0, 57)], [], [(2, 59)], [], [(3, 60), (4, 61)], [(5, 62)], [(6, 63)], [], [(8, 65)], [], [(9, 66), (10, 67)], [(11, 68)], [(12, 69)], [], [(14, 71)], [], [(15, 72), (16, 73)], [(17, 74)], [(18, 75)], [(7, 64), (13, 70), (19, 76)], [(1, 58), (20, 77)], [(0, 57), (1, 58), (2, 59), (3, 60), (4, 61), (5, 62), (6, 63), (7, 64), (8, 65), (9, 66), (10, 67), (11, 68), (12, 69), (13, 70), (14, 71), (15, 72), (16, 73), (17, 74), (18, 75), (19, 76), (20, 77), (21, 78)], [(22, 79), (21, 78), (21, 78), (0, 57), (1, 58), (2, 59), (3, 60), (4, 61), (5, 62), (6, 63), (7, 64), (8, 65), (9, 66), (10, 67), (11, 68), (12, 69), (13, 70), (14, 71), (15, 72), (16, 73), (17, 74), (18, 75), (19, 76), (20, 77), (21, 78)]] [(0, 57), (1, 58), (2, 59), (3, 60), (4, 61), (5, 62), (6, 63), (7, 64), (8, 65), (9, 66), (10, 67), (11, 68), (12, 69), (13, 70), (14, 71), (15, 72), (16, 73), (17, 74), (18, 75), (19, 76), (20, 77), (21, 78), (22, 79)] rfl rfl [EV ?ec0, EV ?ec1, EV ?ec2, EV ?ec3, EV ?ec4, EV ?ec5, EV ?ec6, EV ?ec7, EV ?ec8, EV ?ec9, EV ?ec10, EV ?ec11, EV ?ec12, EV ?ec13, EV ?ec14, EV ?ec15, EV ?ec16, EV ?ec17, EV ?ec18, EV ?ec19, EV ?ec20, fun v => ∃ a c, v = .slice a NL c, EV ?ec22, fun _ => True] S ?cstart ?csteps ?crest
        case cstart =>
         intro f
         rw [hSd]
         exact ⟨HB.out.drew, by have h := HP.out.quiet (below_grows ((Below.refl wr.heap.size wr).drew) none); unfold rrevPs at h; rw [HTL.out] at h; exact h⟩
        case csteps =>
         refine ⟨fun L f W hi hd hdn hh hS => ?_, fun L f W hi hd hdn hh hS => ?_, fun L f W hi hd hdn hh hS => ?_, fun L f W hi hd hdn hh hS => ?_, fun L f W hi hd hdn hh hS => ?_, fun L f W hi hd hdn hh hS => ?_, fun L f W hi hd hdn hh hS => ?_, fun L f W hi hd hdn hh hS => ?_, fun L f W hi hd hdn hh hS => ?_, fun L f W hi hd hdn hh hS => ?_, fun L f W hi hd hdn hh hS => ?_, fun L f W hi hd hdn hh hS => ?_, fun L f W hi hd hdn hh hS => ?_, fun L f W hi hd hdn hh hS => ?_, fun L f W hi hd hdn hh hS => ?_, fun L f W hi hd hdn hh hS => ?_, fun L f W hi hd hdn hh hS => ?_, fun L f W hi hd hdn hh hS => ?_, fun L f W hi hd hdn hh hS => ?_, fun L f W hi hd hdn hh hS => ?_, fun L f W hi hd hdn hh hS => ?_, fun L f W hi hd hdn hh hS => ?_, fun L f W hi hd hdn hh hS => ?_, fun L f W hi hd hdn hh hS => ?_, trivial⟩
         ·
          unfold stStep
          rw [if_pos (by simp [Region.wanted])]
          intro K Q hK
          simp only [puts, foldr_nil]
          go_step
          refine st_ex hK rfl rfl (by simp only [Act.put, setIfInBounds_toArray, set_cons_succ, set_cons_zero, Array.getD_eq_getD_getElem?, List.getElem?_toArray, List.getElem?_cons_succ, List.getElem?_cons_zero, Option.getD_some] <;> rfl) rfl (by rw [hSd] at hS ⊢; exact hS)
         ·
          obtain ⟨h0, -⟩ := hh
          have g0 : f 0 = _ := h0
          have l21 : L 21 = false := Bool.eq_false_iff.2 fun h => by have q := hdn 21 _ h rfl 1 (by decide); rw [show L 1 = false from hi] at q; cases q
          have l23 : L 23 = false := Bool.eq_false_iff.2 fun h => by have q := hdn 23 _ h rfl 21 (by decide); rw [show L 21 = false from l21] at q; cases q
          unfold stStep
          rw [if_pos (by simp [Region.wanted])]
          intro K Q hK
          simp only [puts, Za, Zb, Zc, Zd, Ze, g0]
          have hS' := hS
          rw [hSd] at hS'
          simp only [l21, l23, if_false, Bool.false_eq_true] at hS'
          have x1 : W.cell? ⟨b6, 3, none⟩ = some (.slice va TL ca) := ((hS'.2.blk 0 rfl).2.cell 3).1
          go_step
          refine st_ex hK rfl rfl (by simp only [Act.put, setIfInBounds_toArray, set_cons_succ, set_cons_zero, Array.getD_eq_getD_getElem?, List.getElem?_toArray, List.getElem?_cons_succ, List.getElem?_cons_zero, Option.getD_some] <;> rfl) rfl (by rw [hSd] at hS ⊢; exact hS)
         ·
          unfold stStep
          rw [if_pos (by simp [Region.wanted])]
          intro K Q hK
          simp only [puts, foldr_nil]
          go_step
          refine st_ex hK rfl rfl (by simp only [Act.put, setIfInBounds_toArray, set_cons_succ, set_cons_zero, Array.getD_eq_getD_getElem?, List.getElem?_toArray, List.getElem?_cons_succ, List.getElem?_cons_zero, Option.getD_some] <;> rfl) rfl (by rw [hSd] at hS ⊢; exact hS)
         ·
          obtain ⟨h2, -⟩ := hh
          have g2 : f 2 = _ := h2
          unfold stStep
          rw [if_pos (by simp [Region.wanted])]
          intro K Q hK
          simp only [puts, Za, Zb, Zc, Zd, Ze, g2]
          have hS' := hS
          rw [hSd] at hS'
          obtain ⟨q1, q2, q3, q4⟩ := HAC.out W hS'.1
          go_step
          refine st_ex hK rfl rfl (by simp only [Act.put, setIfInBounds_toArray, set_cons_succ, set_cons_zero, Array.getD_eq_getD_getElem?, List.getElem?_toArray, List.getElem?_cons_succ, List.getElem?_cons_zero, Option.getD_some] <;> rfl) rfl (by rw [hSd] at hS ⊢; exact hS)
         ·
          unfold stStep
          rw [if_pos (by simp [Region.wanted])]
          intro K Q hK
          simp only [puts, foldr_nil]
          go_step
          refine st_ex hK rfl rfl (by simp only [Act.put, setIfInBounds_toArray, set_cons_succ, set_cons_zero, Array.getD_eq_getD_getElem?, List.getElem?_toArray, List.getElem?_cons_succ, List.getElem?_cons_zero, Option.getD_some] <;> rfl) rfl (by rw [hSd] at hS ⊢; exact hS)
         ·
          obtain ⟨h3, h4, -⟩ := hh
          have g3 : f 3 = _ := h3
          have g4 : f 4 = _ := h4
          unfold stStep
          rw [if_pos (by simp [Region.wanted])]
          intro K Q hK
          simp only [puts, Za, Zb, Zc, Zd, Ze, g3, g4]
          go_step
          refine st_ex hK rfl rfl (by simp only [Act.put, setIfInBounds_toArray, set_cons_succ, set_cons_zero, Array.getD_eq_getD_getElem?, List.getElem?_toArray, List.getElem?_cons_succ, List.getElem?_cons_zero, Option.getD_some] <;> rfl) rfl (by rw [hSd] at hS ⊢; exact hS)
         ·
          obtain ⟨h5, -⟩ := hh
          have g5 : f 5 = _ := h5
          unfold stStep
          rw [if_pos (by simp [Region.wanted])]
          intro K Q hK
          simp only [puts, Za, Zb, Zc, Zd, Ze, g5]
          go_step
          refine st_ex hK rfl rfl (by simp only [Act.put, setIfInBounds_toArray, set_cons_succ, set_cons_zero, Array.getD_eq_getD_getElem?, List.getElem?_toArray, List.getElem?_cons_succ, List.getElem?_cons_zero, Option.getD_some] <;> rfl) rfl (by rw [hSd] at hS ⊢; exact hS)
         ·
          obtain ⟨h6, -⟩ := hh
          have g6 : f 6 = _ := h6
          unfold stStep
          rw [if_pos (by simp [Region.wanted])]
          intro K Q hK
          simp only [puts, Za, Zb, Zc, Zd, Ze, g6]
          have hS' := hS
          rw [hSd] at hS'
          obtain ⟨q1, q2, q3, q4⟩ := HAC.out W hS'.1
          go_step
          refine st_ex hK rfl rfl (by simp only [Act.put, setIfInBounds_toArray, set_cons_succ, set_cons_zero, Array.getD_eq_getD_getElem?, List.getElem?_toArray, List.getElem?_cons_succ, List.getElem?_cons_zero, Option.getD_some] <;> rfl) rfl (by rw [hSd] at hS ⊢; exact hS)
         ·
          unfold stStep
          rw [if_pos (by simp [Region.wanted])]
          intro K Q hK
          simp only [puts, foldr_nil]
          go_step
          refine st_ex hK rfl rfl (by simp only [Act.put, setIfInBounds_toArray, set_cons_succ, set_cons_zero, Array.getD_eq_getD_getElem?, List.getElem?_toArray, List.getElem?_cons_succ, List.getElem?_cons_zero, Option.getD_some] <;> rfl) rfl (by rw [hSd] at hS ⊢; exact hS)
         ·
          obtain ⟨h8, -⟩ := hh
          have g8 : f 8 = _ := h8
          unfold stStep
          rw [if_pos (by simp [Region.wanted])]
          intro K Q hK
          simp only [puts, Za, Zb, Zc, Zd, Ze, g8]
          have hS' := hS
          rw [hSd] at hS'
          obtain ⟨q1, q2, q3, q4⟩ := HAC.out W hS'.1
          go_step
          refine st_ex hK rfl rfl (by simp only [Act.put, setIfInBounds_toArray, set_cons_succ, set_cons_zero, Array.getD_eq_getD_getElem?, List.getElem?_toArray, List.getElem?_cons_succ, List.getElem?_cons_zero, Option.getD_some] <;> rfl) rfl (by rw [hSd] at hS ⊢; exact hS)
         ·
          unfold stStep
          rw [if_pos (by simp [Region.wanted])]
          intro K Q hK
          simp only [puts, foldr_nil]
          go_step
          refine st_ex hK rfl rfl (by simp only [Act.put, setIfInBounds_toArray, set_cons_succ, set_cons_zero, Array.getD_eq_getD_getElem?, List.getElem?_toArray, List.getElem?_cons_succ, List.getElem?_cons_zero, Option.getD_some] <;> rfl) rfl (by rw [hSd] at hS ⊢; exact hS)
         ·
          obtain ⟨h9, h10, -⟩ := hh
          have g9 : f 9 = _ := h9
          have g10 : f 10 = _ := h10
          unfold stStep
          rw [if_pos (by simp [Region.wanted])]
          intro K Q hK
          simp only [puts, Za, Zb, Zc, Zd, Ze, g9, g10]
          go_step
          refine st_ex hK rfl rfl (by simp only [Act.put, setIfInBounds_toArray, set_cons_succ, set_cons_zero, Array.getD_eq_getD_getElem?, List.getElem?_toArray, List.getElem?_cons_succ, List.getElem?_cons_zero, Option.getD_some] <;> rfl) rfl (by rw [hSd] at hS ⊢; exact hS)
         ·
          obtain ⟨h11, -⟩ := hh
          have g11 : f 11 = _ := h11
          unfold stStep
          rw [if_pos (by simp [Region.wanted])]
          intro K Q hK
          simp only [puts, Za, Zb, Zc, Zd, Ze, g11]
          go_step
          refine st_ex hK rfl rfl (by simp only [Act.put, setIfInBounds_toArray, set_cons_succ, set_cons_zero, Array.getD_eq_getD_getElem?, List.getElem?_toArray, List.getElem?_cons_succ, List.getElem?_cons_zero, Option.getD_some] <;> rfl) rfl (by rw [hSd] at hS ⊢; exact hS)
         ·
          obtain ⟨h12, -⟩ := hh
          have g12 : f 12 = _ := h12
          unfold stStep
          rw [if_pos (by simp [Region.wanted])]
          intro K Q hK
          simp only [puts, Za, Zb, Zc, Zd, Ze, g12]
          have hS' := hS
          rw [hSd] at hS'
          obtain ⟨q1, q2, q3, q4⟩ := HAC.out W hS'.1
          go_step
          refine st_ex hK rfl rfl (by simp only [Act.put, setIfInBounds_toArray, set_cons_succ, set_cons_zero, Array.getD_eq_getD_getElem?, List.getElem?_toArray, List.getElem?_cons_succ, List.getElem?_cons_zero, Option.getD_some] <;> rfl) rfl (by rw [hSd] at hS ⊢; exact hS)
         ·
          unfold stStep
          rw [if_pos (by simp [Region.wanted])]
          intro K Q hK
          simp only [puts, foldr_nil]
          go_step
          refine st_ex hK rfl rfl (by simp only [Act.put, setIfInBounds_toArray, set_cons_succ, set_cons_zero, Array.getD_eq_getD_getElem?, List.getElem?_toArray, List.getElem?_cons_succ, List.getElem?_cons_zero, Option.getD_some] <;> rfl) rfl (by rw [hSd] at hS ⊢; exact hS)
         ·
          obtain ⟨h14, -⟩ := hh
          have g14 : f 14 = _ := h14
          unfold stStep
          rw [if_pos (by simp [Region.wanted])]
          intro K Q hK
          simp only [puts, Za, Zb, Zc, Zd, Ze, g14]
          have hS' := hS
          rw [hSd] at hS'
          obtain ⟨q1, q2, q3, q4⟩ := HAC.out W hS'.1
          go_step
          refine st_ex hK rfl rfl (by simp only [Act.put, setIfInBounds_toArray, set_cons_succ, set_cons_zero, Array.getD_eq_getD_getElem?, List.getElem?_toArray, List.getElem?_cons_succ, List.getElem?_cons_zero, Option.getD_some] <;> rfl) rfl (by rw [hSd] at hS ⊢; exact hS)
         ·
          unfold stStep
          rw [if_pos (by simp [Region.wanted])]
          intro K Q hK
          simp only [puts, foldr_nil]
          go_step
          refine st_ex hK rfl rfl (by simp only [Act.put, setIfInBounds_toArray, set_cons_succ, set_cons_zero, Array.getD_eq_getD_getElem?, List.getElem?_toArray, List.getElem?_cons_succ, List.getElem?_cons_zero, Option.getD_some] <;> rfl) rfl (by rw [hSd] at hS ⊢; exact hS)
         ·
          obtain ⟨h15, h16, -⟩ := hh
          have g15 : f 15 = _ := h15
          have g16 : f 16 = _ := h16
          unfold stStep
          rw [if_pos (by simp [Region.wanted])]
          intro K Q hK
          simp only [puts, Za, Zb, Zc, Zd, Ze, g15, g16]
          go_step
          refine st_ex hK rfl rfl (by simp only [Act.put, setIfInBounds_toArray, set_cons_succ, set_cons_zero, Array.getD_eq_getD_getElem?, List.getElem?_toArray, List.getElem?_cons_succ, List.getElem?_cons_zero, Option.getD_some] <;> rfl) rfl (by rw [hSd] at hS ⊢; exact hS)
         ·
          obtain ⟨h17, -⟩ := hh
          have g17 : f 17 = _ := h17
          unfold stStep
          rw [if_pos (by simp [Region.wanted])]
          intro K Q hK
          simp only [puts, Za, Zb, Zc, Zd, Ze, g17]
          go_step
          refine st_ex hK rfl rfl (by simp only [Act.put, setIfInBounds_toArray, set_cons_succ, set_cons_zero, Array.getD_eq_getD_getElem?, List.getElem?_toArray, List.getElem?_cons_succ, List.getElem?_cons_zero, Option.getD_some] <;> rfl) rfl (by rw [hSd] at hS ⊢; exact hS)
         ·
          obtain ⟨h18, -⟩ := hh
          have g18 : f 18 = _ := h18
          unfold stStep
          rw [if_pos (by simp [Region.wanted])]
          intro K Q hK
          simp only [puts, Za, Zb, Zc, Zd, Ze, g18]
          have hS' := hS
          rw [hSd] at hS'
          obtain ⟨q1, q2, q3, q4⟩ := HAC.out W hS'.1
          go_step
          refine st_ex hK rfl rfl (by simp only [Act.put, setIfInBounds_toArray, set_cons_succ, set_cons_zero, Array.getD_eq_getD_getElem?, List.getElem?_toArray, List.getElem?_cons_succ, List.getElem?_cons_zero, Option.getD_some] <;> rfl) rfl (by rw [hSd] at hS ⊢; exact hS)
         ·
          obtain ⟨h7, h13, h19, -⟩ := hh
          have g7 : f 7 = _ := h7
          have g13 : f 13 = _ := h13
          have g19 : f 19 = _ := h19
          unfold stStep
          rw [if_pos (by simp [Region.wanted])]
          intro K Q hK
          simp only [puts, Za, Zb, Zc, Zd, Ze, g7, g13, g19]
          go_step
          refine st_ex hK rfl rfl (by simp only [Act.put, setIfInBounds_toArray, set_cons_succ, set_cons_zero, Array.getD_eq_getD_getElem?, List.getElem?_toArray, List.getElem?_cons_succ, List.getElem?_cons_zero, Option.getD_some] <;> rfl) rfl (by rw [hSd] at hS ⊢; exact hS)
         ·
          obtain ⟨h1, h20, -⟩ := hh
          have g1 : f 1 = _ := h1
          have g20 : f 20 = _ := h20
          have l23 : L 23 = false := Bool.eq_false_iff.2 fun h => by have q := hdn 23 _ h rfl 21 (by decide); rw [show L 21 = false from hi] at q; cases q
          unfold stStep
          rw [if_pos (by simp [Region.wanted])]
          intro K Q hK
          simp only [puts, Za, Zb, Zc, Zd, Ze, g1, g20]
          rw [hSd] at hS hK
          have l21 : L 21 = false := hi
          try simp only [stage, l23, l21, if_true, if_false, Bool.false_eq_true] at hS
          obtain ⟨hbW, hPW⟩ := hS
          try simp only [l21, l23, if_false, Bool.false_eq_true] at hPW
          have hia := (IsArcs.of_owns (hPW.row 3 rfl)).1
          go_step
          go_at_call 34
          refine (HIN.out W hia).mono ?_
          rintro e w' ⟨⟨a', c', rfl, ho⟩, hb⟩
          rw [HNL.out] at ho ⊢
          refine hK.out _ _ rfl ⟨a', c', rfl⟩ ?_
          simp only [l23, Bool.false_eq_true, ↓reduceIte, Nat.reduceEqDiff]
          refine ⟨hbW.trans (hb.mono hbW.size), ?_⟩
          exact hPW.put 3 (.row 57 3 (.slice a' NL c') NL (tvs (insA TS ⟨y3, y2, y1⟩))) rfl (below_grows hb _) (ho.from_mono hbW.size) (fun k e => .inr ((show Pc.At w' W.heap.size (.row 57 3 (.slice a' NL c') NL (tvs (insA TS ⟨y3, y2, y1⟩))) from ho).lt e).1)
         ·
          obtain ⟨h0, h1, h2, h3, h4, h5, h6, h7, h8, h9, h10, h11, h12, h13, h14, h15, h16, h17, h18, h19, h20, h21, -⟩ := hh
          have g0 : f 0 = _ := h0
          have g1 : f 1 = _ := h1
          have g2 : f 2 = _ := h2
          have g3 : f 3 = _ := h3
          have g4 : f 4 = _ := h4
          have g5 : f 5 = _ := h5
          have g6 : f 6 = _ := h6
          have g7 : f 7 = _ := h7
          have g8 : f 8 = _ := h8
          have g9 : f 9 = _ := h9
          have g10 : f 10 = _ := h10
          have g11 : f 11 = _ := h11
          have g12 : f 12 = _ := h12
          have g13 : f 13 = _ := h13
          have g14 : f 14 = _ := h14
          have g15 : f 15 = _ := h15
          have g16 : f 16 = _ := h16
          have g17 : f 17 = _ := h17
          have g18 : f 18 = _ := h18
          have g19 : f 19 = _ := h19
          have g20 : f 20 = _ := h20
          obtain ⟨ar21, cr21, (g21 : f 21 = _)⟩ := h21
          unfold stStep
          rw [if_pos (by simp [Region.wanted])]
          intro K Q hK
          simp only [puts, Za, Zb, Zc, Zd, Ze, g0, g1, g2, g3, g4, g5, g6, g7, g8, g9, g10, g11, g12, g13, g14, g15, g16, g17, g18, g19, g20, g21]
          go_step
          refine st_ex hK rfl rfl (by simp only [Act.put, setIfInBounds_toArray, set_cons_succ, set_cons_zero, Array.getD_eq_getD_getElem?, List.getElem?_toArray, List.getElem?_cons_succ, List.getElem?_cons_zero, Option.getD_some] <;> rfl) rfl (by rw [hSd] at hS ⊢; exact hS)
         ·
          obtain ⟨h22, h21, _, h0, h1, h2, h3, h4, h5, h6, h7, h8, h9, h10, h11, h12, h13, h14, h15, h16, h17, h18, h19, h20, _, -⟩ := hh
          have g22 : f 22 = _ := h22
          obtain ⟨ar21, cr21, (g21 : f 21 = _)⟩ := h21
          have g0 : f 0 = _ := h0
          have g1 : f 1 = _ := h1
          have g2 : f 2 = _ := h2
          have g3 : f 3 = _ := h3
          have g4 : f 4 = _ := h4
          have g5 : f 5 = _ := h5
          have g6 : f 6 = _ := h6
          have g7 : f 7 = _ := h7
          have g8 : f 8 = _ := h8
          have g9 : f 9 = _ := h9
          have g10 : f 10 = _ := h10
          have g11 : f 11 = _ := h11
          have g12 : f 12 = _ := h12
          have g13 : f 13 = _ := h13
          have g14 : f 14 = _ := h14
          have g15 : f 15 = _ := h15
          have g16 : f 16 = _ := h16
          have g17 : f 17 = _ := h17
          have g18 : f 18 = _ := h18
          have g19 : f 19 = _ := h19
          have g20 : f 20 = _ := h20
          have l21 : L 21 = true := hd 21 (by decide)
          unfold stStep
          rw [if_pos (by simp [Region.wanted])]
          intro K Q hK
          simp only [puts, Za, Zb, Zc, Zd, Ze, g22, g21, g0, g1, g2, g3, g4, g5, g6, g7, g8, g9, g10, g11, g12, g13, g14, g15, g16, g17, g18, g19, g20]
          rw [hSd] at hS hK
          have l23 : L 23 = false := hi
          try simp only [stage, l23, l21, if_true, if_false, Bool.false_eq_true] at hS
          obtain ⟨hbW, hPW⟩ := hS
          have l21' : L 21 = true := hd 21 (by decide)
          try simp only [l21', l23, if_false, if_true, Bool.false_eq_true, g21] at hPW
          have y1 := ((hPW.blk 0 rfl).2.cell 3)
          have y2 : W.cell? ⟨b6, 3, none⟩ = some (.slice va TL ca) := y1.1
          have y3 := y1.2
          go_step
          refine hK.out _ _ rfl trivial ?_
          refine ⟨Below.setCell (p := ⟨b6, 3, none⟩) hbW (hPW.blk 0 rfl).1 _, ?_⟩
          simp only [l21', ↓reduceIte, Nat.reduceEqDiff, g21]
          exact hPW.blkStore 0 rfl 3 _
        case crest =>
         intro L f WC hL hh hS
         rw [hSd] at hS
         clear hSd
         have l21 : L 21 = true := hL 21 (by decide)
         have l23 : L 23 = true := hL 23 (by decide)
         simp only [stage, l21, l23, if_true] at hS
         clear hL l21 l23
         obtain ⟨h0, h1, h2, h3, h4, h5, h6, h7, h8, h9, h10, h11, h12, h13, h14, h15, h16, h17, h18, h19, h20, h21, h22, -⟩ := hh
         have g0 : f 0 = _ := h0
         have g1 : f 1 = _ := h1
         have g2 : f 2 = _ := h2
         have g3 : f 3 = _ := h3
         have g4 : f 4 = _ := h4
         have g5 : f 5 = _ := h5
         have g6 : f 6 = _ := h6
         have g7 : f 7 = _ := h7
         have g8 : f 8 = _ := h8
         have g9 : f 9 = _ := h9
         have g10 : f 10 = _ := h10
         have g11 : f 11 = _ := h11
         have g12 : f 12 = _ := h12
         have g13 : f 13 = _ := h13
         have g14 : f 14 = _ := h14
         have g15 : f 15 = _ := h15
         have g16 : f 16 = _ := h16
         have g17 : f 17 = _ := h17
         have g18 : f 18 = _ := h18
         have g19 : f 19 = _ := h19
         have g20 : f 20 = _ := h20
         obtain ⟨ar21, cr21, (g21 : f 21 = _)⟩ := h21
         have g22 : f 22 = _ := h22
         simp only [puts, Za, Zb, Zc, Zd, Ze, g0, g1, g2, g3, g4, g5, g6, g7, g8, g9, g10, g11, g12, g13, g14, g15, g16, g17, g18, g19, g20, g21, g22]
         clear h0 h1 h2 h3 h4 h5 h6 h7 h8 h9 h10 h11 h12 h13 h14 h15 h16 h17 h18 h19 h20 h22 g0 g1 g2 g3 g4 g5 g6 g7 g8 g9 g10 g11 g12 g13 g14 g15 g16 g17 g18 g19 g20 g22
         simp only [g21] at hS
         obtain ⟨hbC, hPC⟩ := hS
         have HPC := Lib.hid hPC
         clear hPC
         go_wp2_with (fail)
         go_roundw
         case rel =>
          refine ⟨j + 1, ar21, cr21, hlt, by rw [HTK.out]; exact HRL.out, by go_num, hbC, ?_⟩
          rw [HTK.out]
          unfold rrevPs
          rw [HNL.out]
          exact HPC.out
         case measure => simp [intOf]; omega
       ·obtain rfl : j = al := by omega
        have t3 : decide ((j : Int) < (j : Int)) = false := decide_eq_false (by omega)
        have t3' : decide (j < j) = false := decide_eq_false (by omega)
        rw [List.take_of_length_le (by rw [HEL.out]; exact Nat.le_refl _)] at hP
        obtain ⟨TL, hTL⟩ : ∃ n, (revA es).length = n := ⟨_, rfl⟩
        rw [hTL] at hP
        have HTL := Lib.hid hTL
        have hB1 := (hP.blk 0 rfl).2
        have d0 : wr.cell? ⟨b6, 0, none⟩ = some (.int .i64 (i : Int)) := (hB1.cell 0).1
        have d1 : wr.cell? ⟨b6, 1, none⟩ = some (.slice aS S0.length cS) := (hB1.cell 1).1
        have d2 : wr.cell? ⟨b6, 2, none⟩ = some (.slice (some ⟨b4, 0, none⟩) i i) := (hB1.cell 2).1
        have d3 : wr.cell? ⟨b6, 3, none⟩ = some (.slice va TL ca) := (hB1.cell 3).1
        obtain ⟨-, -, hbW, hZ, -⟩ := HO3.out wr hb
        have HZ := Lib.hid hZ
        have HBW := Lib.hid hbW
        have HP9 := Lib.hid hP
        clear hP hb hB1 hbW hZ hdW hj hrl hTL
        go_wp2_with (show wpList _ _ _ (⟨_, .store 26 _ _, _, _, _, _⟩ :: _) _ _; refine wpList_store_row rfl 26 _ _ rfl (w.heap.size + 1) #[.int .i64 (i : Int), .slice aS S0.length cS, .slice (some ⟨b4, 0, none⟩) i i, .slice va TL ca] rfl rfl _ _ HZ.out rnfa_i rfl (nfa_one _ _ _ _ _ _ _ _ _ _) ?_)
        refine bodyPost_ret (results_row2 rfl _ _ (w.heap.size + 1) _ _ _ _ rfl rfl (setRow_heap _ _ _ _ _ _ HZ.out) Tryz.underlying26 rfl rnfa_i) rfl ?_
        refine ⟨⟨⟨aS, S0.length, cS, some ⟨b4, 0, none⟩, i, i, va, TL, ca⟩, rfl, ?_⟩, below_setRow HBW.out (by omega) _⟩
        have hPf := pcs_ahead HP9.out (q := w.heap.size + 1) (by have := HQ2.out; omega) #[.int .i64 (i : Int), .slice aS S0.length cS, .slice (some ⟨b4, 0, none⟩) i i, .slice va TL ca]
        have i1 := (IsInts.of_owns (hPf.row 2 rfl)).1
        have i2 := (IsBools.of_owns (hPf.row 1 rfl)).1
        have i3 := (IsArcs.of_owns (hPf.row 3 rfl)).1
        rw [HFB.out] at i2
        refine ⟨?_, ?_, i3⟩
        ·show IsInts _ _ _ _ _ (finsL fin (i : Int).toNat)
         rw [Int.toNat_natCast, HSF.out]
         exact i1
        ·show IsBools _ _ _ _ (boolsL s (i : Int).toNat)
         rw [Int.toNat_natCast]
         exact i2
theorem refReverse_any {a : Nfa} {h : NH} {w : World} (hd : IsNfa w h a) :
  Calls Tryz.prog 12 #[vNf a h] w (GivesNE (revV a) (revE a) w) := by
 by_cases hv : ValidN a
 ·rw [(rev_yes hv).1, (rev_yes hv).2]; exact refReverse_yes hv hd
 ·rw [(rev_no hv).1, (rev_no hv).2]; exact refReverse_no hv hd
end Go.Proofs.YtofaifeadhimjaaGreatDoor
