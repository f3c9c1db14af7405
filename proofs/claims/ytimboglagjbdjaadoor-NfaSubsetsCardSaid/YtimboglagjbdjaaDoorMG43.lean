import Derived.Deep.DeepCutAuto
import Derived.Deep.QuietTactic
import Derived.BigQuiet
import Derived.WalkSmall
import Derived.Test.YtimboglagjbdjaaDoorMG10
import Derived.Test.YtimboglagjbdjaaDoorMG32
import Derived.Test.YtimboglagjbdjaaDoorMG37
import Derived.Test.YtimboglagjbdjaaDoorMG41
import Derived.Test.YtimboglagjbdjaaDoorMG42
/-
  NfaRd, NfaSm
-/
set_option linter.unusedSimpArgs false
set_option linter.unusedVariables false
namespace Go.Proofs.YtimboglagjbdjaaDoor
open List (foldr_cons foldr_nil setIfInBounds_toArray set_cons_succ set_cons_zero)
open Go.RowKit
attribute [local go_sem] Oper.semAt_some

theorem elRL : Elem Tryd.prog 39 22 (.slice none 0 0) 1 24 := ⟨Tryd.underlying39, by kernel_rfl, rfl, by decide⟩
theorem elRA : Elem Tryd.prog 24 65 (.agg #[.int .i64 0, .int .i64 0, .int .i64 0]) 3 24 := ⟨Tryd.underlying24, by kernel_rfl, rfl, by decide⟩
theorem subr_i : (Tryd.prog.info? 41).map (·.size) = some 3 := by kernel_rfl
def rdPs (po : Nat) (cs : Array Value) (vS vF vA : Value) (vs : List Wd) (fs : List Bool) (A : List A3) (X : List Pc) : List Pc :=
 .blk po cs :: .row 22 1 vS vs.length (vs.map Wd.v) :: .row 4 1 vF fs.length (bvs fs) :: .row 65 3 vA A.length (tvs A) :: (vs.map Wd.pc ++ X)
theorem perm5 {α : Type} (a b c d e : α) : [a, b, c, d, e].Perm [c, b, d, e, a] := by
 have h1 : [a, b, c, d, e].Perm ([b, c, d, e] ++ [a]) := List.perm_append_comm (l₁ := [a])
 exact h1.trans (.swap _ _ _)
section
variable {W W' : World} {B po c : Nat} {cs : Array Value} {a : Option Addr} {vS vF vA : Value} {vs : List Wd} {fs : List Bool} {A : List A3} {X : List Pc}
theorem rd_start {x : Wd} (hx : Pc.At W B x.pc) (hB : B ≤ W.heap.size) (T : TypeId) : Pcs ((W.alloc (.cells #[x.v] 22)).alloc (.cells #[.slice (some ⟨W.heap.size, 0, none⟩) 1 1, .slice none 0 0, .slice none 0 0] T)) B (rdPs (W.heap.size + 1) #[.slice (some ⟨W.heap.size, 0, none⟩) 1 1, .slice none 0 0, .slice none 0 0] (.slice (some ⟨W.heap.size, 0, none⟩) 1 1) (.slice none 0 0) (.slice none 0 0) [x] [] [] []) := by
 have h1 : Pcs W B [x.pc] := Pcs.one hx
 have h2 := h1.add (W' := W.alloc (.cells #[x.v] 22)) (.row 22 1 (.slice (some ⟨W.heap.size, 0, none⟩) 1 1) 1 [x.v]) (below_grows ((Below.refl _ _).alloc (Nat.le_refl _) _) none) (World.ownsRow_lit W #[x.v] 1 hB (by unfold maxLen; omega) rfl) (fun j e => by have e : some W.heap.size = some j := e; injection e with e; omega)
 have h3 := h2.new (by simp; omega) #[.slice (some ⟨W.heap.size, 0, none⟩) 1 1, .slice none 0 0, .slice none 0 0] T
 rw [World.size_alloc] at h3
 have h4 := (h3.empty 4 1).empty 65 3
 exact h4.turn (perm5 _ _ _ _ _)
theorem rd_more {p : Pc} (hP : Pcs W B (rdPs po cs vS vF vA vs fs A X)) (hb : Below W.heap.size W W') (h0 : p.At W' B) (hk : ∀ k, p.own = some k → W.heap.size ≤ k) : Pcs W' B (rdPs po cs vS vF vA vs fs A (p :: X)) := by
 refine (hP.add p (below_grows hb none) h0 hk).turn ?_
 unfold rdPs
 rw [List.cons_append, List.cons_append, List.cons_append, List.cons_append, List.append_assoc]
 exact .cons _ (.cons _ (.cons _ (.cons _ (List.Perm.append_left _ (List.perm_append_singleton _ _)))))
theorem rdw_in (hP : Pcs W B (rdPs po cs vS vF vA vs fs A X)) {x : Wd} (hx : x ∈ vs) : Pc.At W B x.pc := (pcsIff.1 hP).1 _ (List.mem_cons_of_mem _ (List.mem_cons_of_mem _ (List.mem_cons_of_mem _ (List.mem_cons_of_mem _ (List.mem_append_left _ (List.mem_map_of_mem hx))))))
theorem rd_ws (hP : Pcs W B (rdPs po cs (.slice a vs.length c) vF vA vs fs A X)) : IsWs W a vs.length c (vs.map Wd.z) := ws_of (hP.row 1 rfl) fun x hx => rdw_in hP hx
theorem rd_drop {p : Pc} (hP : Pcs W B (rdPs po cs vS vF vA vs fs A (p :: X))) : Pcs W B (rdPs po cs vS vF vA vs fs A X) :=
 hP.sub (.cons_cons _ (.cons_cons _ (.cons_cons _ (.cons_cons _ ((List.Sublist.refl _).append (List.sublist_cons_self _ _))))))
theorem rd_push {x : Wd} {a' : Option Addr} {c' : Nat} (hP : Pcs W B ((rdPs po cs vS vF vA vs fs A (x.pc :: X)).set 1 (.row 22 1 (.slice a' (vs.length + 1) c') (vs.length + 1) (vs.map Wd.v ++ [x.v])))) : Pcs W B (rdPs po cs (.slice a' (vs.length + 1) c') vF vA (vs ++ [x]) fs A X) := by
 have e : rdPs po cs (.slice a' (vs.length + 1) c') vF vA (vs ++ [x]) fs A X = (rdPs po cs vS vF vA vs fs A (x.pc :: X)).set 1 (.row 22 1 (.slice a' (vs.length + 1) c') (vs.length + 1) (vs.map Wd.v ++ [x.v])) := by
  unfold rdPs
  rw [List.map_append, List.map_append, List.length_append, List.append_assoc]
  rfl
 rw [e]
 exact hP
end
def SubVR (a : Nfa) (D : Bq (List Int)) (v : Value) (W : World) : Prop := ∃ aS cS aF cF aA cA, v = .agg #[.slice aS D.q.length cS, .slice aF D.q.length cF, .slice aA D.a.length cA] ∧ IsWs W aS D.q.length cS D.q ∧ IsBools W aF D.q.length cF (D.q.map (finL a.fin)) ∧ IsArcs W aA D.a.length cA D.a
theorem subr_nil (a : Nfa) (W : World) : SubVR a ⟨[], [], []⟩ (.agg #[.slice none 0 0, .slice none 0 0, .slice none 0 0]) W :=
 ⟨none, 0, none, 0, none, 0, rfl, .inl ⟨rfl, rfl, rfl⟩, .inl ⟨rfl, rfl, rfl⟩, .inl ⟨rfl, rfl, rfl⟩⟩
theorem pcs_box {W : World} {B q : Nat} {ps : List Pc} (hP : Pcs W B ps) (hq : q < B) (cs : Array Value) : Pcs (W.setRow q cs) B ps :=
 ⟨fun i p hp => (hP.each i p hp).grown (r := some q) ⟨rfl, rfl, rfl, by simp [World.setRow], fun k hk hne => setRow_other W q k cs (fun e => hne (by rw [e]))⟩ (fun k hk e => by injection e with e; have := ((hP.each i p hp).lt hk).1; omega), hP.apart⟩
def GivesSubR (a : Nfa) (D : Bq (List Int)) (c : Int) (w : World) (e : Ending) (w' : World) : Prop := (∃ v, e = .returned (.tuple #[v, .int .i64 c]) ∧ SubVR a D v w') ∧ Below w.heap.size w w'
theorem boxDr (a : Nfa) (h : NH) (w : World) (hd : IsNfa w h a) : ∃ W1 W2, w.alloc (.cells #[.int .i64 a.n, .slice h.sa h.sl h.sc, .slice h.fa h.fl h.fc, .slice h.aa h.al h.ac] 26) = W1 ∧ W1.alloc (.cells #[.slice none 0 0, .slice none 0 0, .slice none 0 0] 41) = W2 ∧ W1.heap.size = w.heap.size + 1 ∧ W2.heap.size = w.heap.size + 2 ∧ ∀ W, Below (w.heap.size + 2) W2 W → (W.cell? ⟨w.heap.size, 0, none⟩ = some (.int .i64 a.n) ∧ W.cell? ⟨w.heap.size, 1, none⟩ = some (.slice h.sa h.sl h.sc) ∧ W.cell? ⟨w.heap.size, 2, none⟩ = some (.slice h.fa h.fl h.fc) ∧ W.cell? ⟨w.heap.size, 3, none⟩ = some (.slice h.aa h.al h.ac)) ∧ IsNfa W h a ∧ Below w.heap.size w W ∧ W.heap[w.heap.size + 1]? = some (.cells #[.slice none 0 0, .slice none 0 0, .slice none 0 0] 41 (0, 0)) := by
 obtain ⟨W1, hW1, hs1, hb1, hO⟩ := boxRN a h w hd
 refine ⟨W1, _, hW1, rfl, hs1, by simp; omega, fun W hW => ?_⟩
 have hb2 : Below W1.heap.size W1 (W1.alloc (.cells #[.slice none 0 0, .slice none 0 0, .slice none 0 0] 41)) := (Below.refl _ _).alloc (Nat.le_refl _) _
 obtain ⟨k1, k2, k3⟩ := hO W ((hb2.mono (by omega)).trans (hW.mono (by omega)))
 exact ⟨k1, k2, k3, by rw [hW.block _ (by omega), ← hs1]; exact heap_alloc_new W1 _⟩
theorem rd_done {a : Nfa} {D : Bq (List Int)} {W : World} {B po q cS cF cA : Nat} {cs : Array Value} {aS aF aA : Option Addr} {vs : List Wd} {fs : List Bool} {A : List A3} {X : List Pc} (hP : Pcs W B (rdPs po cs (.slice aS vs.length cS) (.slice aF fs.length cF) (.slice aA A.length cA) vs fs A X)) (hq : q < B) (cs' : Array Value) (h1 : vs.map Wd.z = D.q) (h2 : fs = D.q.map (finL a.fin)) (h3 : A = D.a) : SubVR a D (.agg #[.slice aS vs.length cS, .slice aF fs.length cF, .slice aA A.length cA]) (W.setRow q cs') := by
 have hP2 := pcs_box hP hq cs'
 have e1 : vs.length = D.q.length := by rw [← h1, List.length_map]
 have e2 : fs.length = D.q.length := by rw [h2, List.length_map]
 have i1 := rd_ws hP2
 have i2 := (IsBools.of_owns (hP2.row 2 rfl)).1
 have i3 := (IsArcs.of_owns (hP2.row 3 rfl)).1
 rw [h1] at i1
 subst h3
 rw [e1] at i1
 rw [e2, h2] at i2
 rw [e1, e2]
 exact ⟨aS, cS, aF, cF, aA, cA, rfl, i1, i2, i3⟩
theorem rd_cell {W : World} {B po c g : Nat} {cs : Array Value} {vF vA : Value} {vs : List Wd} {fs : List Bool} {A : List A3} {X : List Pc} (hP : Pcs W B (rdPs po cs (.slice (some ⟨g, 0, none⟩) vs.length c) vF vA vs fs A X)) {k : Nat} (hk : k < vs.length) : W.cell? ⟨g, k, none⟩ = some (.slice (gwd vs k).a (gwd vs k).z.length (gwd vs k).c) ∧ IsInts .i64 W (gwd vs k).a (gwd vs k).z.length (gwd vs k).c (gwd vs k).z := by
 refine ⟨?_, Wd.ints (rdw_in hP (gwd_mem hk))⟩
 rcases row_cap (hP.row 1 rfl) with ⟨h1, _⟩ | ⟨g', h1, _, _, h4⟩
 ·omega
 ·injection h1 with h1
  injection h1 with h1
  subst h1
  rw [h4 k hk, List.getElem?_map, List.getElem?_eq_getElem hk, gwd_eq vs k hk]
  rfl
set_option maxRecDepth 20000 in
set_option maxHeartbeats 8000000 in
theorem refDeterminize_any {a : Nfa} {h : NH} {w : World} {L : Int} (hd : IsNfa w h a) :
  Calls Tryd.prog 10 #[vNf a h, .int .i64 L] w (GivesSubR a (detR a L) (detE a L) w) := by
 obtain ⟨W1, W2, hW1, hW2, hs1, hs2, hO⟩ := boxDr a h w hd
 have HO := Lib.hid hO
 have HS := Lib.hid hs2
 obtain ⟨⟨c1, c2, c3, c4⟩, hd2, -, -⟩ := hO W2 (Below.refl _ _)
 have hle := refLetters_any hd2
 obtain ⟨V, hV⟩ : ∃ V, vN a = V := ⟨_, rfl⟩
 have HV := Lib.hid hV
 cases V with
 | false =>
  have HR : Hid (detR a L = ⟨[], [], []⟩ ∧ detE a L = 1) := Lib.hid (by unfold detR detE; rw [HV.out]; exact ⟨rfl, rfl⟩)
  rw [show letV a = [] by unfold letV; rw [hV]; rfl, show vE a = 1 by unfold vE; rw [hV]; rfl] at hle
  unfold vNf at hle ⊢
  clear hd hO hd2 hV
  go_enter Tryd.func10, Tryd.ntmps10
  go_wp2_with (first
   | (go_at_call 23; refine hle.mono ?_; rintro e w3 ⟨⟨aL, cL, rfl, hiL⟩, hb3⟩; obtain ⟨-, -, hbw3, hZ3⟩ := HO.out w3 (hb3.mono (by rw [HS.out]; omega)); have HZ3 := Lib.hid hZ3; clear hZ3 hiL)
   | (show wpList _ _ _ (⟨_, .store 41 _ _, _, _, _, _⟩ :: _) _ _; refine wpList_store_row rfl 41 _ _ rfl (w.heap.size + 1) #[.slice none 0 0, .slice none 0 0, .slice none 0 0] rfl rfl _ _ HZ3.out subr_i rfl (subs_one _ _ _ _ _ _ _ _ _) ?_))
  refine bodyPost_ret (results_row2 rfl _ _ (w.heap.size + 1) _ _ _ _ rfl rfl (setRow_heap _ _ _ _ _ _ HZ3.out) Tryd.underlying41 rfl subr_i) rfl ?_
  rw [HR.out.1, HR.out.2]
  exact ⟨⟨_, rfl, subr_nil _ _⟩, below_setRow hbw3 (by omega) _⟩
 | true =>
  have hvv : ValidN a := vN_iff.1 hV
  have HVV := Lib.hid hvv
  obtain ⟨O, hO9⟩ : ∃ O, detOk a L = O := ⟨_, rfl⟩
  have HR : Hid (detR a L = (if O = true then detF a else ⟨[], [], []⟩) ∧ detE a L = (if O = true then 0 else 6)) := Lib.hid (by unfold detR detE; rw [hV, hO9]; exact ⟨rfl, rfl⟩)
  rw [show letV a = letL a.arcs by unfold letV; rw [hV]; rfl, show vE a = 0 by unfold vE; rw [hV]; rfl] at hle
  obtain ⟨BQ, hBQ⟩ : ∃ BQ, detB a = BQ := ⟨_, rfl⟩
  obtain ⟨IN, hIN⟩ : ∃ IN, inK a = IN := ⟨_, rfl⟩
  have hln := letL_len' a.arcs
  obtain ⟨mn, hmn⟩ : ∃ mn, min L 1000 = mn := ⟨_, rfl⟩
  have hmn2 : (if L < 1000 then L else 1000) = mn := by rw [← hmn]; split <;> omega
  have hmn3 : mn ≤ 1000 := by rw [← hmn]; omega
  have f0 : BQ 0 = ⟨[cloL a.arcs a.s], [[]], []⟩ := by rw [← hBQ]; rfl
  have f1 : ∀ k, IN k 0 = BQ k := fun k => by rw [← hIN, ← hBQ]; exact inK_zero a k
  have f2 : ∀ k j, j < (letL a.arcs).length → IN k (j + 1) = rq1 a.arcs (gwl (BQ k).q k) k (IN k j) (gi (letL a.arcs) j) := fun k j hj => by rw [← hIN, ← hBQ]; exact inK_succ hj
  have f3 : ∀ k, k < (BQ k).q.length → IN k (letL a.arcs).length = BQ (k + 1) := fun k hk => by rw [← hBQ] at hk; rw [← hIN, ← hBQ]; exact inK_full hvv hk
  have f4 : ∀ k j, k < (BQ k).q.length → (IN k j).q.length ≤ (BQ (k + 1)).q.length := fun k j hk => by rw [← hBQ] at hk; rw [← hIN, ← hBQ]; exact inK_le hvv hk
  have f5 : ∀ k j, j ≤ (letL a.arcs).length → (IN k j).a.length ≤ (BQ k).a.length + j := fun k j hj => by rw [← hIN, ← hBQ]; exact inK_alen a k j hj
  have f6 : ∀ k, (BQ k).a.length ≤ k * 10000 := fun k => by rw [← hBQ]; exact detB_alen a k
  have f7 : ∀ k j, ∀ SK ∈ (IN k j).q, CS a SK := fun k j => by rw [← hIN]; exact inK_in hvv k j
  have f8 : ∀ k, mn < ((BQ k).q.length : Int) → O = false := fun k hk => by rw [← hBQ, ← hmn] at hk; rw [← hO9]; exact detOk_no hk
  have f9 : ∀ k, (BQ k).q.length ≤ k → ((BQ k).q.length : Int) ≤ mn → O = true ∧ detF a = BQ k := fun k hk hl => by
   rw [← hBQ] at hk
   rw [← hBQ, ← hmn] at hl
   obtain ⟨h1, h2⟩ := detB_fin hk hl
   exact ⟨by rw [← hO9]; exact detOk_yes h1, by rw [← hBQ]; exact h2.symm⟩
  have f10 : ∀ k j, (BQ k).q <+: (IN k j).q := fun k j => by rw [← hIN, ← hBQ]; exact inK_pre a k j
  obtain ⟨LT, hLT⟩ : ∃ LT, letL a.arcs = LT := ⟨_, rfl⟩
  rw [hLT] at hle hln f2 f3 f5
  obtain ⟨LN, hLN⟩ : ∃ LN, LT.length = LN := ⟨_, rfl⟩
  unfold GivesLE at hle
  rw [hLN] at hle hln f2 f3 f5
  have F0 := Lib.hid f0
  have F1 := Lib.hid f1
  have F2 := Lib.hid f2
  have F3 := Lib.hid f3
  have F4 := Lib.hid f4
  have F5 := Lib.hid f5
  have F6 := Lib.hid f6
  have F7 := Lib.hid f7
  have F8 := Lib.hid f8
  have F9 := Lib.hid f9
  have F10 := Lib.hid f10
  have HLN := Lib.hid hLN
  have HLL := Lib.hid hln
  have HM3 := Lib.hid hmn3
  have hsl : h.sl ≤ 100000 := by
   have h1 := bd_len hvv.startAsc hvv.startIn
   have h2 := hvv.1
   rw [hd.start.length] at h1
   omega
  have HSL := Lib.hid hsl
  clear f0 f1 f2 f3 f4 f5 f6 f7 f8 f9 f10 hBQ hIN hLT hLN hO9 hvv hln hmn3 hsl hd
  have HCF : Hid (∀ W (hd : IsNfa W h a), Calls Tryd.prog 24 #[vNf a h, .slice h.sa h.sl h.sc] W (GivesR (cloL a.arcs a.s) W)) := Lib.hid (fun W hd => closureO_any HVV.out hd hd.start HVV.out.startIn HSL.out)
  obtain ⟨C0, hC0⟩ : ∃ C, cloL a.arcs a.s = C := ⟨_, rfl⟩
  rw [hC0] at HCF F0
  unfold vNf at hle HCF ⊢
  clear hO hd2 hV hC0
  go_enter Tryd.func10, Tryd.ntmps10
  go_wp2_with (go_at_call 23; refine hle.mono ?_; rintro e w3 ⟨⟨aL, cL, rfl, hiL⟩, hb3⟩; have HB3 : Hid (Below (w.heap.size + 2) W2 w3) := Lib.hid (hb3.mono (by rw [HS.out]; exact Nat.le_refl _)); obtain ⟨⟨k1, k2, k3, k4⟩, hd3, -, -⟩ := HO.out w3 HB3.out; have HD3 := Lib.hid hd3; have HIL := Lib.hid hiL; clear hb3 c1 c2 c3 c4 hd3 hiL)
  refine (HCF.out _ HD3.out).mono ?_
  rintro e w4 ⟨⟨a4, c4, rfl, ho4⟩, hb4⟩
  obtain ⟨wo, hwo⟩ : ∃ wo, wo = w3 := ⟨w3, rfl⟩
  subst hwo
  have hB2 : w.heap.size + 2 ≤ wo.heap.size := by have := HB3.out.size; rw [HS.out] at this; exact this
  have HB2 := Lib.hid hB2
  have HO3 : Hid (∀ W, Below wo.heap.size wo W → (W.cell? ⟨w.heap.size, 0, none⟩ = some (.int .i64 a.n) ∧ W.cell? ⟨w.heap.size, 1, none⟩ = some (.slice h.sa h.sl h.sc) ∧ W.cell? ⟨w.heap.size, 2, none⟩ = some (.slice h.fa h.fl h.fc) ∧ W.cell? ⟨w.heap.size, 3, none⟩ = some (.slice h.aa h.al h.ac)) ∧ IsNfa W h a ∧ Below w.heap.size w W ∧ W.heap[w.heap.size + 1]? = some (.cells #[.slice none 0 0, .slice none 0 0, .slice none 0 0] 41 (0, 0)) ∧ IsInts .i64 W aL LN cL LT) := Lib.hid (fun W hW => by
   obtain ⟨q1, q2, q3, q4⟩ := HO.out W (HB3.out.trans (hW.mono HB2.out))
   exact ⟨q1, q2, q3, q4, HIL.out.later hW⟩)
  have hP0 := rd_start (x := ⟨a4, c4, C0⟩) ho4 hb4.size 41
  obtain ⟨G4, hG4⟩ : ∃ G, w4.heap.size = G := ⟨_, rfl⟩
  simp only [Wd.v] at hP0
  rw [hG4] at hP0
  obtain ⟨X, hX⟩ : ∃ X, (w4.alloc (.cells #[.slice a4 C0.length c4] 22)).alloc (.cells #[.slice (some ⟨G4, 0, none⟩) 1 1, .slice none 0 0, .slice none 0 0] 41) = X := ⟨_, rfl⟩
  have hbX : Below wo.heap.size wo X := by rw [← hX]; exact (hb4.alloc hb4.size _).alloc (by simp; have := hb4.size; omega) _
  rw [hX] at hP0
  have HX := Lib.hid hX
  have HP0 := Lib.hid hP0
  have HBX := Lib.hid hbX
  have HZX := Lib.hid (HO3.out X hbX).2.2.2.1
  have HWX := Lib.hid (HO3.out X hbX).2.2.1
  clear hX hP0 hbX hb4 ho4 hle k1 k2 k3 k4 hW1 hW2 hs1 hs2 hB2
  go_upto_region 6 with (fail)
  rw [HX.out]
  clear hmn2 hmn hG4
  by_cases hm1 : mn < 1
  ·have t1 : decide (mn < 1) = true := decide_eq_true hm1
   obtain rfl : O = false := F8.out 0 (by rw [F0.out]; exact hm1)
   go_wp2_with (show wpList _ _ _ (⟨_, .store 41 _ _, _, _, _, _⟩ :: _) _ _; refine wpList_store_row rfl 41 _ _ rfl (w.heap.size + 1) #[.slice none 0 0, .slice none 0 0, .slice none 0 0] rfl rfl _ _ HZX.out subr_i rfl (subs_one _ _ _ _ _ _ _ _ _) ?_)
   refine bodyPost_ret (results_row2 rfl _ _ (w.heap.size + 1) _ _ _ _ rfl rfl (setRow_heap _ _ _ _ _ _ HZX.out) Tryd.underlying41 rfl subr_i) rfl ?_
   rw [HR.out.1, HR.out.2]
   exact ⟨⟨_, rfl, subr_nil _ _⟩, below_setRow HWX.out (by omega) _⟩
  have t1 : decide (mn < 1) = false := decide_eq_false hm1
  have HM1 : Hid (1 ≤ mn) := Lib.hid (by omega)
  clear hm1
  go_wp2_with (fail)
  go_loopw [9] (fun c W => ∃ (k : Nat) (aS : Option Addr) (cS : Nat) (aF : Option Addr) (cF : Nat) (aA : Option Addr) (cA : Nat) (vs : List Wd), k ≤ vs.length ∧ c = .int .i64 (k : Int) ∧ vs.map Wd.z = (BQ k).q ∧ (vs.length : Int) ≤ mn ∧ Below wo.heap.size wo W ∧ Pcs W wo.heap.size (rdPs (G4 + 1) #[.slice aS vs.length cS, .slice aF k cF, .slice aA (BQ k).a.length cA] (.slice aS vs.length cS) (.slice aF k cF) (.slice aA (BQ k).a.length cA) vs (((BQ k).q.take k).map (finL a.fin)) (BQ k).a [])) (fun c _ => 1001 - (intOf c).toNat)
  case atStart =>
   refine ⟨0, some ⟨G4, 0, none⟩, 1, none, 0, none, 0, [⟨a4, c4, C0⟩], Nat.zero_le _, rfl, by rw [F0.out]; rfl, HM1.out, HBX.out, ?_⟩
   rw [F0.out]
   exact HP0.out
  case round =>
   obtain ⟨k, aS, cS, aF, cF, aA, cA, vs, hk, rfl, hvs, hlim, hb, hP⟩ := hrel
   have hlen : vs.length = (BQ k).q.length := by rw [← hvs, List.length_map]
   have e0 : wr.cell? ⟨G4 + 1, 0, none⟩ = some (.slice aS vs.length cS) := ((hP.blk 0 rfl).2.cell 0).1
   have hm1 := HM3.out
   rcases Nat.lt_or_ge k vs.length with hlt | hge
   ·have t2 : decide (k < vs.length) = true := decide_eq_true hlt
    obtain ⟨gS, rfl, -, -⟩ := owns_at (hP.row 1 rfl) (by omega)
    obtain ⟨⟨ya, yc, SK⟩, hy⟩ : ∃ y, gwd vs k = y := ⟨_, rfl⟩
    have hyS : gwl (BQ k).q k = SK := by rw [← hvs, gwl_map hlt, hy]
    have hcs : CS a SK := by
     have h1 := F7.out k 0
     rw [F1.out] at h1
     refine h1 SK ?_
     rw [← hyS]
     exact gwl_mem (by rw [← hlen]; exact hlt)
    obtain ⟨fs, hfs⟩ : ∃ fs, ((BQ k).q.take k).map (finL a.fin) = fs := ⟨_, rfl⟩
    have hfl : fs.length = k := by rw [← hfs, List.length_map, List.length_take]; omega
    obtain ⟨u, hu⟩ : ∃ u, finL a.fin SK = u := ⟨_, rfl⟩
    have HFN : Hid (∀ j, (((IN k j).q.take (k + 1)).map (finL a.fin)) = fs ++ [u]) := Lib.hid (fun j => by
     have h1 := F10.out k j
     have hkl : k < (BQ k).q.length := by rw [← hlen]; exact hlt
     have e : (IN k j).q.take (k + 1) = (BQ k).q.take (k + 1) := by
      obtain ⟨t, ht⟩ := h1
      rw [← ht, List.take_append_of_le_length (by omega)]
     rw [e, List.take_add_one, List.getElem?_eq_getElem hkl, Option.toList_some, List.map_append, hfs, List.map_singleton, ← gwl_eq _ _ hkl, hyS, hu])
    have hfi := fun W (h1 : IsNfa W h a) (h2 : IsInts .i64 W ya SK.length yc SK) => refFinal_any (w := W) HVV.out h1 h2 hcs.1
    rw [hu] at hfi
    unfold vNf at hfi
    rw [hfs] at hP
    have HFI := Lib.hid hfi
    have HCS := Lib.hid hcs
    have HFL := Lib.hid hfl
    have HY := Lib.hid hy
    have HYS := Lib.hid hyS
    have HVS := Lib.hid hvs
    have HLIM := Lib.hid hlim
    have HLEN := Lib.hid hlen
    have HLT := Lib.hid hlt
    have HP1 := Lib.hid hP
    have HB1 := Lib.hid hb
    have hkk : k ≤ 1000 := by omega
    clear hfi hcs hfl hy hyS hvs hlim hlen hP hb hfs hu hk hm1
    go_wp2_with (fail)
    obtain ⟨S, hSd⟩ : ∃ S : (Nat → Bool) → (Nat → Value) → World → Prop, S = fun L f W => Below wo.heap.size wo W ∧ (L 9 = true → L 10 = false → ∃ q, f 9 = .slice (some ⟨q, 0, none⟩) 1 1 ∧ BlkAt W q #[.bool u]) ∧ Pcs W wo.heap.size (rdPs (G4 + 1) #[.slice (some ⟨gS, 0, none⟩) vs.length cS, (if L 12 = true then f 10 else .slice aF k cF), .slice aA (BQ k).a.length cA] (.slice (some ⟨gS, 0, none⟩) vs.length cS) (if L 10 = true then f 10 else .slice aF k cF) (.slice aA (BQ k).a.length cA) vs (if L 10 = true then fs ++ [u] else fs) (BQ k).a []) := ⟨_, rfl⟩
    refine wp_region_st mixed (by kernel_rfl) [[], [(0, 40)], [], [], [(3, 43)], [], [(4, 44), (5, 45)], [(6, 46)], [(2, 42), (7, 47)], [(8, 48)], [(1, 41), (9, 49), (8, 48)], [(0, 40), (1, 41), (2, 42), (3, 43), (4, 44), (5, 45), (6, 46), (7, 47), (8, 48), (9, 49), (10, 50)], [(11, 51), (10, 50), (10, 50), (0, 40), (1, 41), (2, 42), (3, 43), (4, 44), (5, 45), (6, 46), (7, 47), (8, 48), (9, 49), (10, 50)]] [(0, 40), (1, 41), (2, 42), (3, 43), (4, 44), (5, 45), (6, 46), (7, 47), (8, 48), (9, 49), (10, 50), (11, 51)] rfl rfl [EV ?e0, EV ?e1, EV ?e2, EV ?e3, EV ?e4, EV ?e5, EV ?e6, EV ?e7, EV (.bool u), fun v => ∃ b, v = .slice (some ⟨b, 0, none⟩) 1 1, fun v => ∃ a c, v = .slice a (k + 1) c, EV ?e11, fun _ => True] S ?start ?steps ?rest
    case start =>
     intro f
     rw [hSd]
     exact ⟨HB1.out.drew, fun h => (by cases h), HP1.out.quiet (below_grows ((Below.refl _ _).drew) none)⟩
    case steps =>
     refine ⟨fun L f W hi hd hdn hh hS => ?_, fun L f W hi hd hdn hh hS => ?_, fun L f W hi hd hdn hh hS => ?_, fun L f W hi hd hdn hh hS => ?_, fun L f W hi hd hdn hh hS => ?_, fun L f W hi hd hdn hh hS => ?_, fun L f W hi hd hdn hh hS => ?_, fun L f W hi hd hdn hh hS => ?_, fun L f W hi hd hdn hh hS => ?_, fun L f W hi hd hdn hh hS => ?_, fun L f W hi hd hdn hh hS => ?_, fun L f W hi hd hdn hh hS => ?_, fun L f W hi hd hdn hh hS => ?_, trivial⟩
     ·
      unfold stStep
      rw [if_pos (by simp [Region.wanted])]
      intro K Q hK
      simp only [puts, foldr_nil]
      go_step
      refine st_ex hK rfl rfl (by simp only [Act.put, setIfInBounds_toArray, set_cons_succ, set_cons_zero, Array.getD_eq_getD_getElem?, List.getElem?_toArray, List.getElem?_cons_succ, List.getElem?_cons_zero, Option.getD_some] <;> rfl) rfl (by rw [hSd] at hS ⊢; exact hS)
     ·
      obtain ⟨h0, -⟩ := hh
      have g0 : f 0 = _ := h0
      have l10 : L 10 = false := Bool.eq_false_iff.2 fun h => by have q := hdn 10 _ h rfl 1 (by decide); rw [show L 1 = false from hi] at q; cases q
      have l12 : L 12 = false := Bool.eq_false_iff.2 fun h => by have q := hdn 12 _ h rfl 10 (by decide); rw [show L 10 = false from l10] at q; cases q
      unfold stStep
      rw [if_pos (by simp [Region.wanted])]
      intro K Q hK
      simp only [puts, Za, Zb, Zc, Zd, Ze, g0]
      have hS' := hS
      rw [hSd] at hS'
      simp only [l10, l12, if_false, Bool.false_eq_true] at hS'
      have x1 : W.cell? ⟨G4 + 1, 1, none⟩ = some (.slice aF k cF) := ((hS'.2.2.blk 0 rfl).2.cell 1).1
      go_step
      refine st_ex hK rfl rfl (by simp only [Act.put, setIfInBounds_toArray, set_cons_succ, set_cons_zero, Array.getD_eq_getD_getElem?, List.getElem?_toArray, List.getElem?_cons_succ, List.getElem?_cons_zero, Option.getD_some] <;> rfl) rfl (by rw [hSd] at hS ⊢; exact hS)
     ·
      unfold stStep
      rw [if_pos (by simp [Region.wanted])]
      intro K Q hK
      simp only [puts, foldr_nil]
      have hS' := hS
      rw [hSd] at hS'
      obtain ⟨⟨q1, q2, q3, q4⟩, -, -, -, -⟩ := HO3.out W hS'.1
      go_step
      refine st_ex hK rfl rfl (by simp only [Act.put, setIfInBounds_toArray, set_cons_succ, set_cons_zero, Array.getD_eq_getD_getElem?, List.getElem?_toArray, List.getElem?_cons_succ, List.getElem?_cons_zero, Option.getD_some] <;> rfl) rfl (by rw [hSd] at hS ⊢; exact hS)
     ·
      unfold stStep
      rw [if_pos (by simp [Region.wanted])]
      intro K Q hK
      simp only [puts, foldr_nil]
      go_step
      refine st_ex hK rfl rfl (by simp only [Act.put, setIfInBounds_toArray, set_cons_succ, set_cons_zero, Array.getD_eq_getD_getElem?, List.getElem?_toArray, List.getElem?_cons_succ, List.getElem?_cons_zero, Option.getD_some] <;> rfl) rfl (by rw [hSd] at hS ⊢; exact hS)
     ·
      obtain ⟨h3, -⟩ := hh
      have g3 : f 3 = _ := h3
      unfold stStep
      rw [if_pos (by simp [Region.wanted])]
      intro K Q hK
      simp only [puts, Za, Zb, Zc, Zd, Ze, g3]
      have hS' := hS
      rw [hSd] at hS'
      have x1 : W.cell? ⟨G4 + 1, 0, none⟩ = some (.slice (some ⟨gS, 0, none⟩) vs.length cS) := ((hS'.2.2.blk 0 rfl).2.cell 0).1
      go_step
      refine st_ex hK rfl rfl (by simp only [Act.put, setIfInBounds_toArray, set_cons_succ, set_cons_zero, Array.getD_eq_getD_getElem?, List.getElem?_toArray, List.getElem?_cons_succ, List.getElem?_cons_zero, Option.getD_some] <;> rfl) rfl (by rw [hSd] at hS ⊢; exact hS)
     ·
      unfold stStep
      rw [if_pos (by simp [Region.wanted])]
      intro K Q hK
      simp only [puts, foldr_nil]
      go_step
      refine st_ex hK rfl rfl (by simp only [Act.put, setIfInBounds_toArray, set_cons_succ, set_cons_zero, Array.getD_eq_getD_getElem?, List.getElem?_toArray, List.getElem?_cons_succ, List.getElem?_cons_zero, Option.getD_some] <;> rfl) rfl (by rw [hSd] at hS ⊢; exact hS)
     ·
      obtain ⟨h4, h5, -⟩ := hh
      have g4 : f 4 = _ := h4
      have g5 : f 5 = _ := h5
      unfold stStep
      rw [if_pos (by simp [Region.wanted])]
      intro K Q hK
      simp only [puts, Za, Zb, Zc, Zd, Ze, g4, g5]
      go_step
      refine st_ex hK rfl rfl (by simp only [Act.put, setIfInBounds_toArray, set_cons_succ, set_cons_zero, Array.getD_eq_getD_getElem?, List.getElem?_toArray, List.getElem?_cons_succ, List.getElem?_cons_zero, Option.getD_some] <;> rfl) rfl (by rw [hSd] at hS ⊢; exact hS)
     ·
      obtain ⟨h6, -⟩ := hh
      have g6 : f 6 = _ := h6
      unfold stStep
      rw [if_pos (by simp [Region.wanted])]
      intro K Q hK
      simp only [puts, Za, Zb, Zc, Zd, Ze, g6]
      have hS' := hS
      rw [hSd] at hS'
      have x7 := (rd_cell hS'.2.2 HLT.out).1
      rw [HY.out] at x7
      go_step
      refine st_ex hK rfl rfl (by simp only [Act.put, setIfInBounds_toArray, set_cons_succ, set_cons_zero, Array.getD_eq_getD_getElem?, List.getElem?_toArray, List.getElem?_cons_succ, List.getElem?_cons_zero, Option.getD_some] <;> rfl) rfl (by rw [hSd] at hS ⊢; exact hS)
     ·
      obtain ⟨h2, h7, -⟩ := hh
      have g2 : f 2 = _ := h2
      have g7 : f 7 = _ := h7
      have l9 : L 9 = false := Bool.eq_false_iff.2 fun h => by have q := hdn 9 _ h rfl 8 (by decide); rw [show L 8 = false from hi] at q; cases q
      have l10 : L 10 = false := Bool.eq_false_iff.2 fun h => by have q := hdn 10 _ h rfl 9 (by decide); rw [show L 9 = false from l9] at q; cases q
      have l12 : L 12 = false := Bool.eq_false_iff.2 fun h => by have q := hdn 12 _ h rfl 10 (by decide); rw [show L 10 = false from l10] at q; cases q
      unfold stStep
      rw [if_pos (by simp [Region.wanted])]
      intro K Q hK
      simp only [puts, Za, Zb, Zc, Zd, Ze, g2, g7]
      rw [hSd] at hS hK
      have l8 : L 8 = false := hi
      try simp only [stage, l9, l10, l12, l8, if_true, if_false, Bool.false_eq_true] at hS
      obtain ⟨hbW, -, hPW⟩ := hS
      have x8 := (rd_cell hPW HLT.out).2
      rw [HY.out] at x8
      obtain ⟨-, hdW, -, -, -⟩ := HO3.out W hbW
      go_step
      go_at_call 25
      refine (HFI.out W hdW x8).mono ?_
      rintro e w' ⟨rfl, hb'⟩
      refine hK.out _ _ rfl rfl ?_
      simp only [l9, l10, l12, Bool.false_eq_true, ↓reduceIte, Nat.reduceEqDiff] at hPW ⊢
      exact ⟨hbW.trans (hb'.mono hbW.size), fun h => (by cases h), hPW.quiet (below_grows hb' none)⟩
     ·
      obtain ⟨h8, -⟩ := hh
      have g8 : f 8 = _ := h8
      have l10 : L 10 = false := Bool.eq_false_iff.2 fun h => by have q := hdn 10 _ h rfl 9 (by decide); rw [show L 9 = false from hi] at q; cases q
      have l12 : L 12 = false := Bool.eq_false_iff.2 fun h => by have q := hdn 12 _ h rfl 10 (by decide); rw [show L 10 = false from l10] at q; cases q
      unfold stStep
      rw [if_pos (by simp [Region.wanted])]
      intro K Q hK
      simp only [puts, Za, Zb, Zc, Zd, Ze, g8]
      rw [hSd] at hS hK
      have l9 : L 9 = false := hi
      try simp only [stage, l10, l12, l9, if_true, if_false, Bool.false_eq_true] at hS
      obtain ⟨hbW, -, hPW⟩ := hS
      have hal : Below W.heap.size W (W.alloc (.cells #[.bool u] 4)) := (Below.refl _ _).alloc (Nat.le_refl _) _
      go_step
      refine hK.out _ _ rfl ⟨_, rfl⟩ ?_
      refine ⟨hbW.alloc hbW.size _, fun _ _ => ⟨_, rfl, BlkAt.new W _ _⟩, ?_⟩
      simp only [l10, l12, Bool.false_eq_true, ↓reduceIte, Nat.reduceEqDiff] at hPW ⊢
      exact hPW.quiet (below_grows hal none)
     ·
      obtain ⟨h1, h9, h8, -⟩ := hh
      have g1 : f 1 = _ := h1
      obtain ⟨b9, (g9 : f 9 = _)⟩ := h9
      have g8 : f 8 = _ := h8
      have l9 : L 9 = true := hd 9 (by decide)
      have l12 : L 12 = false := Bool.eq_false_iff.2 fun h => by have q := hdn 12 _ h rfl 10 (by decide); rw [show L 10 = false from hi] at q; cases q
      unfold stStep
      rw [if_pos (by simp [Region.wanted])]
      intro K Q hK
      simp only [puts, Za, Zb, Zc, Zd, Ze, g1, g9, g8]
      rw [hSd] at hS hK
      have l10 : L 10 = false := hi
      try simp only [stage, l12, l10, l9, if_true, if_false, Bool.false_eq_true] at hS
      obtain ⟨hbW, h9, hPW⟩ := hS
      obtain ⟨q, e9, hq⟩ := h9 trivial trivial
      rw [g9] at e9
      obtain rfl : b9 = q := by simpa using e9
      try simp only [l10, l12, if_false, Bool.false_eq_true] at hPW
      refine wp_app_pcs elB _ _ rfl 2 (v := .slice aF k cF) (n := fs.length) rfl hPW rfl (news := [.bool u]) rfl ⟨rfl, fun ad e j u' hj => by injection e with e; subst e; rw [addr_add, Nat.zero_add, (hq.cell j).1, ← hj]; simp, fun e => by cases e⟩ (by intro u' hu; rw [List.mem_singleton.1 hu]; rfl) (by have := HFL.out; omega) hbW.size ?_
      intro a' c' w' hp' hbw
      rw [HFL.out] at hp' ⊢
      refine hK.out _ _ rfl ⟨a', c', rfl⟩ ?_
      refine ⟨hbW.trans hbw, fun _ h => (by simp at h), ?_⟩
      simp only [l12, Bool.false_eq_true, ↓reduceIte, Nat.reduceEqDiff]
      have e1 : (fs ++ [u]).length = k + 1 := by rw [List.length_append, HFL.out]; rfl
      have e2 : bvs (fs ++ [u]) = bvs fs ++ [.bool u] := by simp [bvs]
      unfold rdPs
      rw [e1, e2]
      exact hp'
     ·
      obtain ⟨h0, h1, h2, h3, h4, h5, h6, h7, h8, h9, h10, -⟩ := hh
      have g0 : f 0 = _ := h0
      have g1 : f 1 = _ := h1
      have g2 : f 2 = _ := h2
      have g3 : f 3 = _ := h3
      have g4 : f 4 = _ := h4
      have g5 : f 5 = _ := h5
      have g6 : f 6 = _ := h6
      have g7 : f 7 = _ := h7
      have g8 : f 8 = _ := h8
      obtain ⟨b9, (g9 : f 9 = _)⟩ := h9
      obtain ⟨af10, cf10, (g10 : f 10 = _)⟩ := h10
      unfold stStep
      rw [if_pos (by simp [Region.wanted])]
      intro K Q hK
      simp only [puts, Za, Zb, Zc, Zd, Ze, g0, g1, g2, g3, g4, g5, g6, g7, g8, g9, g10]
      go_step
      refine st_ex hK rfl rfl (by simp only [Act.put, setIfInBounds_toArray, set_cons_succ, set_cons_zero, Array.getD_eq_getD_getElem?, List.getElem?_toArray, List.getElem?_cons_succ, List.getElem?_cons_zero, Option.getD_some] <;> rfl) rfl (by rw [hSd] at hS ⊢; exact hS)
     ·
      obtain ⟨h11, h10, _, h0, h1, h2, h3, h4, h5, h6, h7, h8, h9, _, -⟩ := hh
      have g11 : f 11 = _ := h11
      obtain ⟨af10, cf10, (g10 : f 10 = _)⟩ := h10
      have g0 : f 0 = _ := h0
      have g1 : f 1 = _ := h1
      have g2 : f 2 = _ := h2
      have g3 : f 3 = _ := h3
      have g4 : f 4 = _ := h4
      have g5 : f 5 = _ := h5
      have g6 : f 6 = _ := h6
      have g7 : f 7 = _ := h7
      have g8 : f 8 = _ := h8
      obtain ⟨b9, (g9 : f 9 = _)⟩ := h9
      have l10 : L 10 = true := hd 10 (by decide)
      unfold stStep
      rw [if_pos (by simp [Region.wanted])]
      intro K Q hK
      simp only [puts, Za, Zb, Zc, Zd, Ze, g11, g10, g0, g1, g2, g3, g4, g5, g6, g7, g8, g9]
      rw [hSd] at hS hK
      have l12 : L 12 = false := hi
      try simp only [stage, l12, l10, if_true, if_false, Bool.false_eq_true] at hS
      obtain ⟨hbW, -, hPW⟩ := hS
      have l10' : L 10 = true := hd 10 (by decide)
      simp only [l10', l12, if_false, if_true, Bool.false_eq_true, g10] at hPW
      have y1 := ((hPW.blk 0 rfl).2.cell 1)
      have y2 : W.cell? ⟨G4 + 1, 1, none⟩ = some (.slice aF k cF) := y1.1
      have y3 := y1.2
      go_step
      refine hK.out _ _ rfl trivial ?_
      refine ⟨Below.setCell (p := ⟨G4 + 1, 1, none⟩) hbW (hPW.blk 0 rfl).1 _, fun _ h => (by simp [l10'] at h), ?_⟩
      simp only [l10', ↓reduceIte, Nat.reduceEqDiff, g10]
      exact hPW.blkStore 0 rfl 1 _
    case rest =>
     intro L f WA hL hh hS
     rw [hSd] at hS
     clear hSd
     have l9 : L 9 = true := hL 9 (by decide)
     have l10 : L 10 = true := hL 10 (by decide)
     have l12 : L 12 = true := hL 12 (by decide)
     simp only [stage, l9, l10, l12, if_true] at hS
     clear hL l9 l10 l12
     obtain ⟨h0, h1, h2, h3, h4, h5, h6, h7, h8, h9, h10, h11, -⟩ := hh
     have g0 : f 0 = _ := h0
     have g1 : f 1 = _ := h1
     have g2 : f 2 = _ := h2
     have g3 : f 3 = _ := h3
     have g4 : f 4 = _ := h4
     have g5 : f 5 = _ := h5
     have g6 : f 6 = _ := h6
     have g7 : f 7 = _ := h7
     have g8 : f 8 = _ := h8
     obtain ⟨b9, (g9 : f 9 = _)⟩ := h9
     obtain ⟨af10, cf10, (g10 : f 10 = _)⟩ := h10
     have g11 : f 11 = _ := h11
     simp only [puts, Za, Zb, Zc, Zd, Ze, g0, g1, g2, g3, g4, g5, g6, g7, g8, g9, g10, g11]
     clear h0 h1 h2 h3 h4 h5 h6 h7 h8 h11 g0 g1 g2 g3 g4 g5 g6 g7 g8 g11
     simp only [g10] at hS
     obtain ⟨hbA, -, hPA⟩ := hS
     have HPA := Lib.hid hPA
     have HBA := Lib.hid hbA
     clear hPA hbA e0
     go_wp2_with (fail)
     go_loopw [10] (fun c W => ∃ (j : Nat) (aS : Option Addr) (cS : Nat) (aA : Option Addr) (cA : Nat) (vs : List Wd), j ≤ LN ∧ c = .int .i64 (j : Int) ∧ vs.map Wd.z = (IN k j).q ∧ k < vs.length ∧ (vs.length : Int) ≤ mn ∧ Below wo.heap.size wo W ∧ Pcs W wo.heap.size (rdPs (G4 + 1) #[.slice aS vs.length cS, .slice af10 (k + 1) cf10, .slice aA (IN k j).a.length cA] (.slice aS vs.length cS) (.slice af10 (k + 1) cf10) (.slice aA (IN k j).a.length cA) vs (fs ++ [u]) (IN k j).a [])) (fun c _ => LN - (intOf c).toNat)
     case atStart =>
      refine ⟨0, some ⟨gS, 0, none⟩, cS, aA, cA, vs, Nat.zero_le _, rfl, by rw [F1.out]; exact HVS.out, hlt, HLIM.out, HBA.out, ?_⟩
      rw [F1.out]
      exact HPA.out
     case round =>
      obtain ⟨j, aS, cS, aA, cA, vj, hj, rfl, hvj, hkj, hlim, hb, hP⟩ := hrel
      obtain ⟨-, hdr, -, -, hIL⟩ := HO3.out wr hb
      have hln := HLL.out
      have hm1 := HM3.out
      rcases Nat.lt_or_ge j LN with hjl | hge
      ·have t3 : decide (j < LN) = true := decide_eq_true hjl
       obtain ⟨bL, oL, rfl, -, xL⟩ := hIL.at wr (Below.refl _ _) j hjl
       obtain ⟨gJ, rfl, -, -⟩ := owns_at (hP.row 1 rfl) (by omega)
       have hF2 := F2.out k j hjl
       rw [HYS.out] at hF2
       obtain ⟨c, hc⟩ : ∃ c, gi LT j = c := ⟨_, rfl⟩
       rw [hc] at hF2 xL
       have hyj : gwd vj k = (gwd vj k) := rfl
       have hgz : (gwd vj k).z = SK := by
        have h1 := F10.out k j
        have h2 := gwl_pre h1 (i := k) (by rw [← HLEN.out]; exact HLT.out)
        rw [HYS.out, ← hvj, gwl_map hkj] at h2
        exact h2
       have hcell : ∀ W, Below wr.heap.size wr W → (W.cell? ⟨w.heap.size, 0, none⟩ = some (.int .i64 a.n) ∧ W.cell? ⟨w.heap.size, 1, none⟩ = some (.slice h.sa h.sl h.sc) ∧ W.cell? ⟨w.heap.size, 2, none⟩ = some (.slice h.fa h.fl h.fc) ∧ W.cell? ⟨w.heap.size, 3, none⟩ = some (.slice h.aa h.al h.ac)) ∧ IsNfa W h a ∧ W.cell? ⟨G4 + 1, 0, none⟩ = some (.slice (some ⟨gJ, 0, none⟩) vj.length cS) ∧ (W.cell? ⟨gJ, k, none⟩ = some (.slice (gwd vj k).a SK.length (gwd vj k).c) ∧ IsInts .i64 W (gwd vj k).a SK.length (gwd vj k).c SK) ∧ W.cell? ⟨bL, oL + j, none⟩ = some (.int .i64 c) := fun W hW => by
        obtain ⟨q1, q2, -, -, q3⟩ := HO3.out W (hb.trans (hW.mono hb.size))
        have hPW := hP.quiet (below_grows hW none)
        have h1 := rd_cell hPW hkj
        rw [hgz] at h1
        refine ⟨q1, q2, ((hPW.blk 0 rfl).2.cell 0).1, h1, ?_⟩
        obtain ⟨b', o', e', -, q4⟩ := q3.at W (Below.refl _ _) j hjl
        injection e' with e'
        injection e' with e1 e2
        subst e1 e2
        rw [hc] at q4
        exact q4
       obtain ⟨ya, hya⟩ : ∃ x, (gwd vj k).a = x := ⟨_, rfl⟩
       obtain ⟨yc, hyc⟩ : ∃ x, (gwd vj k).c = x := ⟨_, rfl⟩
       rw [hya, hyc] at hcell
       have hsb : SK.length ≤ 100000 := by
        have h1 := bd_len HCS.out.2.2 HCS.out.1
        have h2 := HVV.out.1
        omega
       obtain ⟨T, hT⟩ : ∃ T, movL a.arcs SK c = T := ⟨_, rfl⟩
       have hst := fun W (h1 : IsNfa W h a) (h2 : IsInts .i64 W ya SK.length yc SK) => refstepO_any (w := W) (c := c) HVV.out h1 h2 HCS.out.1 hsb
       rw [HCS.out.stp c, hT] at hst
       unfold vNf at hst
       have HCL : Hid (∀ W, Below wo.heap.size wo W → W.cell? ⟨bL, oL + j, none⟩ = some (.int .i64 c)) := Lib.hid (fun W hW => by
        obtain ⟨-, -, -, -, q3⟩ := HO3.out W hW
        obtain ⟨b', o', e', -, q4⟩ := q3.at W (Below.refl _ _) j hjl
        injection e' with e'
        injection e' with e1 e2
        subst e1 e2
        rw [hc] at q4
        exact q4)
       have HST := Lib.hid hst
       have HC := Lib.hid hcell
       have HT := Lib.hid hT
       have HF2 := Lib.hid hF2
       have HVJ := Lib.hid hvj
       have HKJ := Lib.hid hkj
       have HLJ := Lib.hid hlim
       have HPJ := Lib.hid hP
       have HBJ := Lib.hid hb
       have hjj : j ≤ 10001 := by omega
       have HGZ := Lib.hid hgz
       clear hst hcell hT hF2 hvj hlim hP hb hdr hIL hgz hya hyc hsb hc hyj xL hj hm1 hln
       go_wp2_with (fail)
       refine wp_region_grow mixed (by kernel_rfl) [[], [], [(1, 59)], [], [(2, 60), (3, 61)], [(4, 62)], [], [], [(6, 64), (7, 65)], [(8, 66)], [(0, 58), (5, 63), (9, 67)], [(10, 68), (10, 68), (0, 58), (1, 59), (2, 60), (3, 61), (4, 62), (5, 63), (6, 64), (7, 65), (8, 66), (9, 67), (10, 68)]] [(0, 58), (1, 59), (2, 60), (3, 61), (4, 62), (5, 63), (6, 64), (7, 65), (8, 66), (9, 67), (10, 68), (11, 11)] rfl rfl [Ex ?eb0, Ex ?eb1, Ex ?eb2, Ex ?eb3, Ex ?eb4, Ex ?eb5, Ex ?eb6, Ex ?eb7, Ex ?eb8, Ex ?eb9, OwnR wr.heap.size T, OwnR wr.heap.size T] ⟨stays_ex _, stays_ex _, stays_ex _, stays_ex _, stays_ex _, stays_ex _, stays_ex _, stays_ex _, stays_ex _, stays_ex _, stays_ownR _ _, stays_ownR _ _, trivial⟩ ?bsteps ?brest
       case bsteps =>
        refine ⟨fun f W hC hh => ?_, fun f W hC hh => ?_, fun f W hC hh => ?_, fun f W hC hh => ?_, fun f W hC hh => ?_, fun f W hC hh => ?_, fun f W hC hh => ?_, fun f W hC hh => ?_, fun f W hC hh => ?_, fun f W hC hh => ?_, fun f W hC hh => ?_, fun f W hC hh => ?_, trivial⟩
        ·
         refine tab_plain fun K Q hK => ?_
         simp only [puts, foldr_nil]
         obtain ⟨⟨q1, q2, q3, q4⟩, q5, q6, ⟨q7, q8⟩, q9⟩ := HC.out W hC
         go_step
         exact fam_e hK rfl rfl (Below.refl _ _) hC
        ·
         refine tab_plain fun K Q hK => ?_
         simp only [puts, foldr_nil]
         go_step
         exact fam_e hK rfl rfl (Below.refl _ _) hC
        ·
         obtain ⟨h1, -⟩ := hh
         have g1 : f 1 = _ := h1
         refine tab_plain fun K Q hK => ?_
         simp only [puts, Za, Zb, Zc, Zd, Ze, g1]
         obtain ⟨⟨q1, q2, q3, q4⟩, q5, q6, ⟨q7, q8⟩, q9⟩ := HC.out W hC
         go_step
         exact fam_e hK rfl rfl (Below.refl _ _) hC
        ·
         refine tab_plain fun K Q hK => ?_
         simp only [puts, foldr_nil]
         go_step
         exact fam_e hK rfl rfl (Below.refl _ _) hC
        ·
         obtain ⟨h2, h3, -⟩ := hh
         have g2 : f 2 = _ := h2
         have g3 : f 3 = _ := h3
         refine tab_plain fun K Q hK => ?_
         simp only [puts, Za, Zb, Zc, Zd, Ze, g2, g3]
         go_step
         exact fam_e hK rfl rfl (Below.refl _ _) hC
        ·
         obtain ⟨h4, -⟩ := hh
         have g4 : f 4 = _ := h4
         refine tab_plain fun K Q hK => ?_
         simp only [puts, Za, Zb, Zc, Zd, Ze, g4]
         obtain ⟨⟨q1, q2, q3, q4⟩, q5, q6, ⟨q7, q8⟩, q9⟩ := HC.out W hC
         go_step
         exact fam_e hK rfl rfl (Below.refl _ _) hC
        ·
         refine tab_plain fun K Q hK => ?_
         simp only [puts, foldr_nil]
         go_step
         exact fam_e hK rfl rfl (Below.refl _ _) hC
        ·
         refine tab_plain fun K Q hK => ?_
         simp only [puts, foldr_nil]
         go_step
         exact fam_e hK rfl rfl (Below.refl _ _) hC
        ·
         obtain ⟨h6, h7, -⟩ := hh
         have g6 : f 6 = _ := h6
         have g7 : f 7 = _ := h7
         refine tab_plain fun K Q hK => ?_
         simp only [puts, Za, Zb, Zc, Zd, Ze, g6, g7]
         go_step
         exact fam_e hK rfl rfl (Below.refl _ _) hC
        ·
         obtain ⟨h8, -⟩ := hh
         have g8 : f 8 = _ := h8
         refine tab_plain fun K Q hK => ?_
         simp only [puts, Za, Zb, Zc, Zd, Ze, g8]
         obtain ⟨⟨q1, q2, q3, q4⟩, q5, q6, ⟨q7, q8⟩, q9⟩ := HC.out W hC
         go_step
         exact fam_e hK rfl rfl (Below.refl _ _) hC
        ·
         obtain ⟨h0, h5, h9, -⟩ := hh
         have g0 : f 0 = _ := h0
         have g5 : f 5 = _ := h5
         have g9 : f 9 = _ := h9
         refine tab_plain fun K Q hK => ?_
         simp only [puts, Za, Zb, Zc, Zd, Ze, g0, g5, g9]
         obtain ⟨⟨q1, q2, q3, q4⟩, q5, q6, ⟨q7, q8⟩, q9⟩ := HC.out W hC
         go_step
         go_at_call 26
         refine (HST.out W q5 q8).mono ?_
         rintro e w' ⟨⟨a', c', rfl, hI⟩, hb⟩
         exact fam_fin hK rfl ⟨a', c', rfl, hI.from_mono (by have := hC.size; omega)⟩ hb (hC.trans (hb.mono hC.size))
        ·
         obtain ⟨h10, _, h0, h1, h2, h3, h4, h5, h6, h7, h8, h9, _, -⟩ := hh
         obtain ⟨a10, c10, g10, s10⟩ := h10
         have g0 : f 0 = _ := h0
         have g1 : f 1 = _ := h1
         have g2 : f 2 = _ := h2
         have g3 : f 3 = _ := h3
         have g4 : f 4 = _ := h4
         have g5 : f 5 = _ := h5
         have g6 : f 6 = _ := h6
         have g7 : f 7 = _ := h7
         have g8 : f 8 = _ := h8
         have g9 : f 9 = _ := h9
         refine tab_plain fun K Q hK => ?_
         simp only [puts, Za, Zb, Zc, Zd, Ze, g10, g0, g1, g2, g3, g4, g5, g6, g7, g8, g9]
         go_step
         exact fam_fin hK rfl ⟨a10, c10, rfl, s10⟩ (Below.refl _ _) hC
       case brest =>
        intro f WB hC hh
        obtain ⟨h0, h1, h2, h3, h4, h5, h6, h7, h8, h9, h10, h11, -⟩ := hh
        have g0 : f 0 = _ := h0
        have g1 : f 1 = _ := h1
        have g2 : f 2 = _ := h2
        have g3 : f 3 = _ := h3
        have g4 : f 4 = _ := h4
        have g5 : f 5 = _ := h5
        have g6 : f 6 = _ := h6
        have g7 : f 7 = _ := h7
        have g8 : f 8 = _ := h8
        have g9 : f 9 = _ := h9
        obtain ⟨a10, c10, g10, s10⟩ := h10
        obtain ⟨a11, c11, g11, s11⟩ := h11
        simp only [puts, Za, Zb, Zc, Zd, Ze, g0, g1, g2, g3, g4, g5, g6, g7, g8, g9, g10, g11]
        clear h0 h1 h2 h3 h4 h5 h6 h7 h8 h9 g0 g1 g2 g3 g4 g5 g6 g7 g8 g9
        have hbB : Below wo.heap.size wo WB := HBJ.out.trans (hC.mono HBJ.out.size)
        have hPB := rd_more (p := Wd.pc ⟨a11, c11, T⟩) HPJ.out hC (s11.from_mono HBJ.out.size) (fun q e => ((show Pc.At WB wr.heap.size (Wd.pc ⟨a11, c11, T⟩) from s11).lt e).1)
        have HPB := Lib.hid hPB
        have HBB := Lib.hid hbB
        have HTI := Lib.hid (IsInts.of_owns s11).1
        clear hPB hbB hC s10 s11
        by_cases hT0 : T = []
        ·subst hT0
         have HE : Hid (IN k (j + 1) = IN k j) := Lib.hid (by rw [HF2.out, rq1_nil HT.out])
         go_wp2_with (fail)
         go_roundw
         case rel =>
          refine ⟨j + 1, some ⟨gJ, 0, none⟩, cS, aA, cA, vj, hjl, by go_num, by rw [HE.out]; exact HVJ.out, hkj, HLJ.out, HBB.out, ?_⟩
          rw [HE.out]
          exact rd_drop HPB.out
         case measure => simp [intOf]; omega
        ·have hTl : ((T.length : Int) == 0) = false := by
          have : T.length ≠ 0 := fun e => hT0 (List.eq_nil_of_length_eq_zero e)
          simp only [beq_eq_false_iff_ne, ne_eq]
          omega
         have hTn : movL a.arcs SK c ≠ [] := by rw [HT.out]; exact hT0
         obtain ⟨P, hPa, hPl, hPc⟩ := rq1_step (k := k) (st := IN k j) hTn
         rw [← HF2.out] at hPa hPl hPc
         rw [HT.out] at hPc
         have hfd := refFindS_any (S := T) (rd_ws HPB.out) HTI.out (by have := HLJ.out; have := HM3.out; omega) (fun i hi => by
          have h1 := F7.out k j (gwl (vj.map Wd.z) i) (by rw [HVJ.out]; exact gwl_mem (by rw [← HVJ.out, List.length_map]; exact hi))
          have h2 := bd_len h1.2.2 h1.1
          have h3 := HVV.out.1
          omega)
         rw [HVJ.out] at hfd
         obtain ⟨FV, hFV⟩ : ∃ v, fndL (IN k j).q T = v := ⟨_, rfl⟩
         rw [hFV] at hfd hPc
         have e0 : WB.cell? ⟨G4 + 1, 0, none⟩ = some (.slice (some ⟨gJ, 0, none⟩) vj.length cS) := ((HPB.out.blk 0 rfl).2.cell 0).1
         have hjq : vj.length = (IN k j).q.length := by rw [← HVJ.out, List.length_map]
         have HFD := Lib.hid hfd
         have HPA2 := Lib.hid hPa
         have HPL := Lib.hid hPl
         have HPC := Lib.hid hPc
         have HJQ := Lib.hid hjq
         clear hfd hPa hPl hPc hjq hT0 hTn hFV
         go_upto_if 77 with (go_at_call 27; refine HFD.out.mono ?_; rintro e w5 ⟨rfl, hb5⟩; have HB5 := Lib.hid hb5; clear hb5)
         go_cut [12] (fun nv wc => ∃ (aS : Option Addr) (cS : Nat) (vs : List Wd), nv = .int .i64 (P : Int) ∧ vs.map Wd.z = (IN k (j + 1)).q ∧ k < vs.length ∧ Below wo.heap.size wo wc ∧ Pcs wc wo.heap.size (rdPs (G4 + 1) #[.slice aS vs.length cS, .slice af10 (k + 1) cf10, .slice aA (IN k j).a.length cA] (.slice aS vs.length cS) (.slice af10 (k + 1) cf10) (.slice aA (IN k j).a.length cA) vs (fs ++ [u]) (IN k j).a []))
         case first =>
          have HP5 := Lib.hid (HPB.out.quiet (below_grows HB5.out none))
          have HBW5 := Lib.hid (HBB.out.trans (HB5.out.mono HBB.out.size))
          rcases HPC.out with ⟨h1, h2, h3⟩ | ⟨h1, h2, h3⟩
          ·subst h1
           have t5 : decide ((P : Int) < 0) = false := decide_eq_false (by omega)
           have H3 := Lib.hid h3
           clear h2 h3
           go_wp2_with (fail)
           go_meet
           case rel => exact ⟨some ⟨gJ, 0, none⟩, cS, vj, rfl, by rw [H3.out]; exact HVJ.out, hkj, HBW5.out, rd_drop HP5.out⟩
          ·subst h1
           have H2 := Lib.hid h2
           have H3 := Lib.hid h3
           clear h2 h3
           have e5 : w5.cell? ⟨G4 + 1, 0, none⟩ = some (.slice (some ⟨gJ, 0, none⟩) vj.length cS) := ((HP5.out.blk 0 rfl).2.cell 0).1
           have HP6 : Hid (Pcs (w5.alloc (.cells #[.slice a11 T.length c11] 22)) wo.heap.size (rdPs (G4 + 1) #[.slice (some ⟨gJ, 0, none⟩) vj.length cS, .slice af10 (k + 1) cf10, .slice aA (IN k j).a.length cA] (.slice (some ⟨gJ, 0, none⟩) vj.length cS) (.slice af10 (k + 1) cf10) (.slice aA (IN k j).a.length cA) vj (fs ++ [u]) (IN k j).a [Wd.pc ⟨a11, c11, T⟩])) := Lib.hid (HP5.out.quiet (below_grows ((Below.refl _ _).alloc (Nat.le_refl _) _) none))
           have HB6 : Hid (Below wo.heap.size wo (w5.alloc (.cells #[.slice a11 T.length c11] 22))) := Lib.hid (HBW5.out.alloc HBW5.out.size _)
           have hvb : vj.length ≤ 1000 := by have := HLJ.out; have := HM3.out; omega
           clear e0
           go_wp2_with (at_builtin; refine app_pcs elRL rfl _ _ rfl 1 (v := .slice (some ⟨gJ, 0, none⟩) vj.length cS) (n := vj.length) (xs := vj.map Wd.v) rfl HP6.out rfl rfl (new_src w5 #[.slice a11 T.length c11] _ rfl) (by intro u hu; rw [List.mem_singleton.1 hu]; rfl) (by omega) HB6.out.size ?_; intro a9 c9 w9 hp9 hb9; have yy := (hp9.blk 0 rfl).2.cell 0; have y1 : w9.cell? ⟨G4 + 1, 0, none⟩ = some (.slice (some ⟨gJ, 0, none⟩) vj.length cS) := yy.1; have y2 := yy.2; have HP9 := Lib.hid hp9; have HB9 := Lib.hid hb9; clear hp9 hb9 yy)
           go_meet
           case rel =>
            have h1 := HP9.out.blkStore 0 rfl 0 (.slice a9 (vj.length + 1) c9)
            refine ⟨a9, c9, vj ++ [⟨a11, c11, T⟩], by rw [H2.out, HJQ.out], ?_, by rw [List.length_append]; omega, Below.setCell (p := ⟨G4 + 1, 0, none⟩) (HB6.out.trans HB9.out) (HP9.out.blk 0 rfl).1 _, ?_⟩
            ·rw [List.map_append, HVJ.out, H3.out]; rfl
            ·rw [List.length_append]
             exact rd_push h1
         case rest =>
          clear e0
          obtain ⟨aS, cS, vn, rfl, hvn, hkn, hBc, hPc⟩ := hcut
          have HPc := Lib.hid hPc
          have HBc := Lib.hid hBc
          have HVN := Lib.hid hvn
          have hlq : vn.length = (IN k (j + 1)).q.length := by rw [← hvn, List.length_map]
          clear hPc hBc hvn
          by_cases hmp : mn ≤ (P : Int)
          ·have t6 : decide (mn ≤ (P : Int)) = true := decide_eq_true hmp
           obtain rfl : O = false := F8.out (k + 1) (by
            have h1 := F4.out k (j + 1) (by rw [← HLEN.out]; exact HLT.out)
            have h2 := HPL.out
            omega)
           have HZc := Lib.hid (HO3.out wc HBc.out).2.2.2.1
           have HWc := Lib.hid (HO3.out wc HBc.out).2.2.1
           clear hmp hlq
           go_wp2_with (show wpList _ _ _ (⟨_, .store 41 _ _, _, _, _, _⟩ :: _) _ _; refine wpList_store_row rfl 41 _ _ rfl (w.heap.size + 1) #[.slice none 0 0, .slice none 0 0, .slice none 0 0] rfl rfl _ _ HZc.out subr_i rfl (subs_one _ _ _ _ _ _ _ _ _) ?_)
           refine bodyPost_ret (results_row2 rfl _ _ (w.heap.size + 1) _ _ _ _ rfl rfl (setRow_heap _ _ _ _ _ _ HZc.out) Tryd.underlying41 rfl subr_i) rfl ?_
           rw [HR.out.1, HR.out.2]
           exact ⟨⟨_, rfl, subr_nil _ _⟩, below_setRow HWc.out (by omega) _⟩
          ·have t6 : decide (mn ≤ (P : Int)) = false := decide_eq_false hmp
           have hvm : (vn.length : Int) ≤ mn := by
            rw [hlq]
            have h2 := HLJ.out
            rw [HJQ.out] at h2
            rcases HPC.out with ⟨_, _, h3⟩ | ⟨_, h4, h3⟩
            ·rw [h3]; exact h2
            ·rw [h3, List.length_append, List.length_singleton]; omega
           have HVM := Lib.hid hvm
           have hal : (IN k j).a.length ≤ 20000000 := by
            have h1 := F5.out k j (by omega)
            have h2 := F6.out k
            have h3 : k * 10000 ≤ 10000000 := by omega
            have := HLL.out
            omega
           clear hmp hlq hvm
           go_wp2_with (fail)
           obtain ⟨S, hSd⟩ : ∃ S : (Nat → Bool) → (Nat → Value) → World → Prop, S = fun L f W => Below wo.heap.size wo W ∧ (L 9 = true → L 10 = false → ∃ q, f 9 = .slice (some ⟨q, 0, none⟩) 1 1 ∧ BlkAt W q #[.int .i64 (k : Int), .int .i64 c, .int .i64 (P : Int)]) ∧ Pcs W wo.heap.size (rdPs (G4 + 1) #[.slice aS vn.length cS, .slice af10 (k + 1) cf10, (if L 12 = true then f 10 else .slice aA (IN k j).a.length cA)] (.slice aS vn.length cS) (.slice af10 (k + 1) cf10) (if L 10 = true then f 10 else .slice aA (IN k j).a.length cA) vn (fs ++ [u]) (if L 10 = true then (IN k j).a ++ [⟨k, c, P⟩] else (IN k j).a) []) := ⟨_, rfl⟩
           refine wp_region_st mixed (by kernel_rfl) [[], [(0, 91)], [], [], [], [(3, 94), (4, 95)], [(5, 96)], [], [(2, 93), (6, 97), (7, 98)], [(8, 99)], [(1, 92), (9, 100)], [(0, 91), (1, 92), (2, 93), (3, 94), (4, 95), (5, 96), (6, 97), (7, 98), (8, 99), (9, 100), (10, 101)], [(11, 102), (10, 101), (10, 101), (0, 91), (1, 92), (2, 93), (3, 94), (4, 95), (5, 96), (6, 97), (7, 98), (8, 99), (9, 100), (10, 101)]] [(0, 91), (1, 92), (2, 93), (3, 94), (4, 95), (5, 96), (6, 97), (7, 98), (8, 99), (9, 100), (10, 101), (11, 102)] rfl rfl [EV ?ed0, EV ?ed1, EV ?ed2, EV ?ed3, EV ?ed4, EV ?ed5, EV ?ed6, EV ?ed7, EV ?ed8, fun v => ∃ b, v = .slice (some ⟨b, 0, none⟩) 1 1, fun v => ∃ a c, v = .slice a ((IN k j).a.length + 1) c, EV ?ed11, fun _ => True] S ?dstart ?dsteps ?drest
           case dstart =>
            intro f
            rw [hSd]
            exact ⟨HBc.out.drew, fun h => (by cases h), HPc.out.quiet (below_grows ((Below.refl _ _).drew) none)⟩
           case dsteps =>
            refine ⟨fun L f W hi hd hdn hh hS => ?_, fun L f W hi hd hdn hh hS => ?_, fun L f W hi hd hdn hh hS => ?_, fun L f W hi hd hdn hh hS => ?_, fun L f W hi hd hdn hh hS => ?_, fun L f W hi hd hdn hh hS => ?_, fun L f W hi hd hdn hh hS => ?_, fun L f W hi hd hdn hh hS => ?_, fun L f W hi hd hdn hh hS => ?_, fun L f W hi hd hdn hh hS => ?_, fun L f W hi hd hdn hh hS => ?_, fun L f W hi hd hdn hh hS => ?_, fun L f W hi hd hdn hh hS => ?_, trivial⟩
            ·
             unfold stStep
             rw [if_pos (by simp [Region.wanted])]
             intro K Q hK
             simp only [puts, foldr_nil]
             go_step
             refine st_ex hK rfl rfl (by simp only [Act.put, setIfInBounds_toArray, set_cons_succ, set_cons_zero, Array.getD_eq_getD_getElem?, List.getElem?_toArray, List.getElem?_cons_succ, List.getElem?_cons_zero, Option.getD_some] <;> rfl) rfl (by rw [hSd] at hS ⊢; exact hS)
            ·
             obtain ⟨h0, -⟩ := hh
             have g0 : f 0 = _ := h0
             have l10 : L 10 = false := Bool.eq_false_iff.2 fun h => by have q := hdn 10 _ h rfl 1 (by decide); rw [show L 1 = false from hi] at q; cases q
             have l12 : L 12 = false := Bool.eq_false_iff.2 fun h => by have q := hdn 12 _ h rfl 10 (by decide); rw [show L 10 = false from l10] at q; cases q
             unfold stStep
             rw [if_pos (by simp [Region.wanted])]
             intro K Q hK
             simp only [puts, Za, Zb, Zc, Zd, Ze, g0]
             have hS' := hS
             rw [hSd] at hS'
             simp only [l10, l12, if_false, Bool.false_eq_true] at hS'
             have x1 : W.cell? ⟨G4 + 1, 2, none⟩ = some (.slice aA (IN k j).a.length cA) := ((hS'.2.2.blk 0 rfl).2.cell 2).1
             go_step
             refine st_ex hK rfl rfl (by simp only [Act.put, setIfInBounds_toArray, set_cons_succ, set_cons_zero, Array.getD_eq_getD_getElem?, List.getElem?_toArray, List.getElem?_cons_succ, List.getElem?_cons_zero, Option.getD_some] <;> rfl) rfl (by rw [hSd] at hS ⊢; exact hS)
            ·
             unfold stStep
             rw [if_pos (by simp [Region.wanted])]
             intro K Q hK
             simp only [puts, foldr_nil]
             go_step
             refine st_ex hK rfl rfl (by simp only [Act.put, setIfInBounds_toArray, set_cons_succ, set_cons_zero, Array.getD_eq_getD_getElem?, List.getElem?_toArray, List.getElem?_cons_succ, List.getElem?_cons_zero, Option.getD_some] <;> rfl) rfl (by rw [hSd] at hS ⊢; exact hS)
            ·
             unfold stStep
             rw [if_pos (by simp [Region.wanted])]
             intro K Q hK
             simp only [puts, foldr_nil]
             go_step
             refine st_ex hK rfl rfl (by simp only [Act.put, setIfInBounds_toArray, set_cons_succ, set_cons_zero, Array.getD_eq_getD_getElem?, List.getElem?_toArray, List.getElem?_cons_succ, List.getElem?_cons_zero, Option.getD_some] <;> rfl) rfl (by rw [hSd] at hS ⊢; exact hS)
            ·
             unfold stStep
             rw [if_pos (by simp [Region.wanted])]
             intro K Q hK
             simp only [puts, foldr_nil]
             go_step
             refine st_ex hK rfl rfl (by simp only [Act.put, setIfInBounds_toArray, set_cons_succ, set_cons_zero, Array.getD_eq_getD_getElem?, List.getElem?_toArray, List.getElem?_cons_succ, List.getElem?_cons_zero, Option.getD_some] <;> rfl) rfl (by rw [hSd] at hS ⊢; exact hS)
            ·
             obtain ⟨h3, h4, -⟩ := hh
             have g3 : f 3 = _ := h3
             have g4 : f 4 = _ := h4
             unfold stStep
             rw [if_pos (by simp [Region.wanted])]
             intro K Q hK
             simp only [puts, Za, Zb, Zc, Zd, Ze, g3, g4]
             go_step
             refine st_ex hK rfl rfl (by simp only [Act.put, setIfInBounds_toArray, set_cons_succ, set_cons_zero, Array.getD_eq_getD_getElem?, List.getElem?_toArray, List.getElem?_cons_succ, List.getElem?_cons_zero, Option.getD_some] <;> rfl) rfl (by rw [hSd] at hS ⊢; exact hS)
            ·
             obtain ⟨h5, -⟩ := hh
             have g5 : f 5 = _ := h5
             unfold stStep
             rw [if_pos (by simp [Region.wanted])]
             intro K Q hK
             simp only [puts, Za, Zb, Zc, Zd, Ze, g5]
             have hS' := hS
             rw [hSd] at hS'
             obtain ⟨-, -, -, -, q3⟩ := HO3.out W hS'.1
             have q9 := (HCL.out W hS'.1)
             go_step
             refine st_ex hK rfl rfl (by simp only [Act.put, setIfInBounds_toArray, set_cons_succ, set_cons_zero, Array.getD_eq_getD_getElem?, List.getElem?_toArray, List.getElem?_cons_succ, List.getElem?_cons_zero, Option.getD_some] <;> rfl) rfl (by rw [hSd] at hS ⊢; exact hS)
            ·
             unfold stStep
             rw [if_pos (by simp [Region.wanted])]
             intro K Q hK
             simp only [puts, foldr_nil]
             go_step
             refine st_ex hK rfl rfl (by simp only [Act.put, setIfInBounds_toArray, set_cons_succ, set_cons_zero, Array.getD_eq_getD_getElem?, List.getElem?_toArray, List.getElem?_cons_succ, List.getElem?_cons_zero, Option.getD_some] <;> rfl) rfl (by rw [hSd] at hS ⊢; exact hS)
            ·
             obtain ⟨h2, h6, h7, -⟩ := hh
             have g2 : f 2 = _ := h2
             have g6 : f 6 = _ := h6
             have g7 : f 7 = _ := h7
             unfold stStep
             rw [if_pos (by simp [Region.wanted])]
             intro K Q hK
             simp only [puts, Za, Zb, Zc, Zd, Ze, g2, g6, g7]
             go_step
             refine st_ex hK rfl rfl (by simp only [Act.put, setIfInBounds_toArray, set_cons_succ, set_cons_zero, Array.getD_eq_getD_getElem?, List.getElem?_toArray, List.getElem?_cons_succ, List.getElem?_cons_zero, Option.getD_some] <;> rfl) rfl (by rw [hSd] at hS ⊢; exact hS)
            ·
             obtain ⟨h8, -⟩ := hh
             have g8 : f 8 = _ := h8
             have l10 : L 10 = false := Bool.eq_false_iff.2 fun h => by have q := hdn 10 _ h rfl 9 (by decide); rw [show L 9 = false from hi] at q; cases q
             have l12 : L 12 = false := Bool.eq_false_iff.2 fun h => by have q := hdn 12 _ h rfl 10 (by decide); rw [show L 10 = false from l10] at q; cases q
             unfold stStep
             rw [if_pos (by simp [Region.wanted])]
             intro K Q hK
             simp only [puts, Za, Zb, Zc, Zd, Ze, g8]
             rw [hSd] at hS hK
             have l9 : L 9 = false := hi
             try simp only [stage, l10, l12, l9, if_true, if_false, Bool.false_eq_true] at hS
             obtain ⟨hbW, -, hPW⟩ := hS
             have hal2 : Below W.heap.size W (W.alloc (.cells #[.int .i64 (k : Int), .int .i64 c, .int .i64 (P : Int)] 65)) := (Below.refl _ _).alloc (Nat.le_refl _) _
             go_step
             refine hK.out _ _ rfl ⟨_, rfl⟩ ?_
             refine ⟨hbW.alloc hbW.size _, fun _ _ => ⟨_, rfl, BlkAt.new W _ _⟩, ?_⟩
             simp only [l10, l12, Bool.false_eq_true, ↓reduceIte, Nat.reduceEqDiff] at hPW ⊢
             exact hPW.quiet (below_grows hal2 none)
            ·
             obtain ⟨h1, h9, -⟩ := hh
             have g1 : f 1 = _ := h1
             obtain ⟨b9, (g9 : f 9 = _)⟩ := h9
             have l9 : L 9 = true := hd 9 (by decide)
             have l12 : L 12 = false := Bool.eq_false_iff.2 fun h => by have q := hdn 12 _ h rfl 10 (by decide); rw [show L 10 = false from hi] at q; cases q
             unfold stStep
             rw [if_pos (by simp [Region.wanted])]
             intro K Q hK
             simp only [puts, Za, Zb, Zc, Zd, Ze, g1, g9]
             rw [hSd] at hS hK
             have l10 : L 10 = false := hi
             try simp only [stage, l12, l10, l9, if_true, if_false, Bool.false_eq_true] at hS
             obtain ⟨hbW, h9, hPW⟩ := hS
             obtain ⟨q, e9, hq⟩ := h9 trivial trivial
             rw [g9] at e9
             obtain rfl : b9 = q := by simpa using e9
             try simp only [l10, l12, if_false, Bool.false_eq_true] at hPW
             refine wp_app_pcs elRA _ _ rfl 3 (v := .slice aA (IN k j).a.length cA) (n := (IN k j).a.length) rfl hPW rfl (news := [.int .i64 (k : Int), .int .i64 c, .int .i64 (P : Int)]) rfl ⟨rfl, fun ad e i u' hi => by injection e with e; subst e; rw [addr_add, Nat.zero_add, (hq.cell i).1, ← hi]; simp, fun e => by cases e⟩ (by intro u' hu; simp only [List.mem_cons, List.not_mem_nil, or_false] at hu; rcases hu with rfl | rfl | rfl <;> rfl) (by omega) hbW.size ?_
             intro a' c' w' hp' hbw
             refine hK.out _ _ rfl ⟨a', c', rfl⟩ ?_
             refine ⟨hbW.trans hbw, fun _ h => (by simp at h), ?_⟩
             simp only [l12, Bool.false_eq_true, ↓reduceIte, Nat.reduceEqDiff]
             have e1 : ((IN k j).a ++ [(⟨(k : Int), c, (P : Int)⟩ : A3)]).length = (IN k j).a.length + 1 := by rw [List.length_append]; rfl
             unfold rdPs
             rw [e1, tvs_append]
             exact hp'
            ·
             obtain ⟨h0, h1, h2, h3, h4, h5, h6, h7, h8, h9, h10, -⟩ := hh
             have g0 : f 0 = _ := h0
             have g1 : f 1 = _ := h1
             have g2 : f 2 = _ := h2
             have g3 : f 3 = _ := h3
             have g4 : f 4 = _ := h4
             have g5 : f 5 = _ := h5
             have g6 : f 6 = _ := h6
             have g7 : f 7 = _ := h7
             have g8 : f 8 = _ := h8
             obtain ⟨b9, (g9 : f 9 = _)⟩ := h9
             obtain ⟨ar10, cr10, (g10 : f 10 = _)⟩ := h10
             unfold stStep
             rw [if_pos (by simp [Region.wanted])]
             intro K Q hK
             simp only [puts, Za, Zb, Zc, Zd, Ze, g0, g1, g2, g3, g4, g5, g6, g7, g8, g9, g10]
             go_step
             refine st_ex hK rfl rfl (by simp only [Act.put, setIfInBounds_toArray, set_cons_succ, set_cons_zero, Array.getD_eq_getD_getElem?, List.getElem?_toArray, List.getElem?_cons_succ, List.getElem?_cons_zero, Option.getD_some] <;> rfl) rfl (by rw [hSd] at hS ⊢; exact hS)
            ·
             obtain ⟨h11, h10, _, h0, h1, h2, h3, h4, h5, h6, h7, h8, h9, _, -⟩ := hh
             have g11 : f 11 = _ := h11
             obtain ⟨ar10, cr10, (g10 : f 10 = _)⟩ := h10
             have g0 : f 0 = _ := h0
             have g1 : f 1 = _ := h1
             have g2 : f 2 = _ := h2
             have g3 : f 3 = _ := h3
             have g4 : f 4 = _ := h4
             have g5 : f 5 = _ := h5
             have g6 : f 6 = _ := h6
             have g7 : f 7 = _ := h7
             have g8 : f 8 = _ := h8
             obtain ⟨b9, (g9 : f 9 = _)⟩ := h9
             have l10 : L 10 = true := hd 10 (by decide)
             unfold stStep
             rw [if_pos (by simp [Region.wanted])]
             intro K Q hK
             simp only [puts, Za, Zb, Zc, Zd, Ze, g11, g10, g0, g1, g2, g3, g4, g5, g6, g7, g8, g9]
             rw [hSd] at hS hK
             have l12 : L 12 = false := hi
             try simp only [stage, l12, l10, if_true, if_false, Bool.false_eq_true] at hS
             obtain ⟨hbW, -, hPW⟩ := hS
             have l10' : L 10 = true := hd 10 (by decide)
             simp only [l10', l12, if_false, if_true, Bool.false_eq_true, g10] at hPW
             have y1 := ((hPW.blk 0 rfl).2.cell 2)
             have y2 : W.cell? ⟨G4 + 1, 2, none⟩ = some (.slice aA (IN k j).a.length cA) := y1.1
             have y3 := y1.2
             go_step
             refine hK.out _ _ rfl trivial ?_
             refine ⟨Below.setCell (p := ⟨G4 + 1, 2, none⟩) hbW (hPW.blk 0 rfl).1 _, fun _ h => (by simp [l10'] at h), ?_⟩
             simp only [l10', ↓reduceIte, Nat.reduceEqDiff, g10]
             exact hPW.blkStore 0 rfl 2 _
           case drest =>
            intro L f WD hL hh hS
            rw [hSd] at hS
            clear hSd
            have l9 : L 9 = true := hL 9 (by decide)
            have l10 : L 10 = true := hL 10 (by decide)
            have l12 : L 12 = true := hL 12 (by decide)
            simp only [stage, l9, l10, l12, if_true] at hS
            clear hL l9 l10 l12
            obtain ⟨h0, h1, h2, h3, h4, h5, h6, h7, h8, h9, h10, h11, -⟩ := hh
            have g0 : f 0 = _ := h0
            have g1 : f 1 = _ := h1
            have g2 : f 2 = _ := h2
            have g3 : f 3 = _ := h3
            have g4 : f 4 = _ := h4
            have g5 : f 5 = _ := h5
            have g6 : f 6 = _ := h6
            have g7 : f 7 = _ := h7
            have g8 : f 8 = _ := h8
            obtain ⟨b9, (g9 : f 9 = _)⟩ := h9
            obtain ⟨ar10, cr10, (g10 : f 10 = _)⟩ := h10
            have g11 : f 11 = _ := h11
            simp only [puts, Za, Zb, Zc, Zd, Ze, g0, g1, g2, g3, g4, g5, g6, g7, g8, g9, g10, g11]
            clear h0 h1 h2 h3 h4 h5 h6 h7 h8 h11 g0 g1 g2 g3 g4 g5 g6 g7 g8 g11
            simp only [g10] at hS
            obtain ⟨hbD, -, hPD⟩ := hS
            have HPD := Lib.hid hPD
            clear hPD
            go_wp2_with (fail)
            go_roundw
            case rel =>
             refine ⟨j + 1, aS, cS, ar10, cr10, vn, hjl, by go_num, HVN.out, hkn, HVM.out, hbD, ?_⟩
             have h1 := HPD.out
             have e1 : (IN k (j + 1)).a.length = (IN k j).a.length + 1 := by rw [HPA2.out, List.length_append]; rfl
             rw [e1, HPA2.out]
             exact h1
            case measure => simp [intOf]; omega
      ·have t3 : decide (j < LN) = false := decide_eq_false (by omega)
       obtain rfl : j = LN := by omega
       have hbq : IN k j = BQ (k + 1) := F3.out k (by rw [← HLEN.out]; exact HLT.out)
       have HFE := Lib.hid (HFN.out j)
       rw [hbq] at hvj hP HFE
       rw [← HFE.out] at hP
       have HP := Lib.hid hP
       have HB := Lib.hid hb
       have HVJ := Lib.hid hvj
       clear hP hb hvj hbq hdr hIL
       go_wp2_with (fail)
       go_roundw
       case rel => exact ⟨k + 1, aS, cS, af10, cf10, aA, cA, vj, hkj, by go_num, HVJ.out, hlim, HB.out, HP.out⟩
       case measure => simp [intOf]; omega
   ·have t2 : decide (k < vs.length) = false := decide_eq_false (by omega)
    obtain rfl : k = vs.length := by omega
    obtain ⟨hO, hD⟩ := F9.out vs.length (by rw [← hlen]; exact Nat.le_refl _) (by rw [← hlen]; exact hlim)
    subst hO
    have HZr := Lib.hid (HO3.out wr hb).2.2.2.1
    have HWr := Lib.hid (HO3.out wr hb).2.2.1
    obtain ⟨D, hDD⟩ : ∃ D, BQ vs.length = D := ⟨_, rfl⟩
    rw [hDD] at hlen hP hvs hD
    have hq : D.q.take vs.length = D.q := List.take_of_length_le (by rw [← hlen]; exact Nat.le_refl _)
    rw [hq] at hP
    have hfl : (D.q.map (finL a.fin)).length = vs.length := by rw [List.length_map]; exact hlen.symm
    have h9 := rd_done (a := a) (D := D) (cF := cF) (aF := aF) (fs := D.q.map (finL a.fin)) (by have h := hP; rw [hfl]; exact h) (q := w.heap.size + 1) (by have := HB2.out; omega) #[.slice aS vs.length cS, .slice aF vs.length cF, .slice aA D.a.length cA] hvs rfl rfl
    rw [hfl] at h9
    have hB1 := (hP.blk 0 rfl).2
    have d0 : wr.cell? ⟨G4 + 1, 0, none⟩ = some (.slice aS vs.length cS) := (hB1.cell 0).1
    have d1 : wr.cell? ⟨G4 + 1, 1, none⟩ = some (.slice aF vs.length cF) := (hB1.cell 1).1
    have d2 : wr.cell? ⟨G4 + 1, 2, none⟩ = some (.slice aA D.a.length cA) := (hB1.cell 2).1
    have HD := Lib.hid hD
    clear hDD hP hb hB1 hvs hD hq hfl hlen hk hlim e0 hge
    obtain ⟨M, hM⟩ : ∃ M, vs.length = M := ⟨_, rfl⟩
    obtain ⟨AL, hAL⟩ : ∃ n, D.a.length = n := ⟨_, rfl⟩
    rw [hM] at h9 d0 d1 t2 ⊢
    rw [hAL] at h9 d2
    have H9 := Lib.hid h9
    clear h9 hM hAL
    go_wp2_with (show wpList _ _ _ (⟨_, .store 41 _ _, _, _, _, _⟩ :: _) _ _; refine wpList_store_row rfl 41 _ _ rfl (w.heap.size + 1) #[.slice aS M cS, .slice aF M cF, .slice aA AL cA] rfl rfl _ _ HZr.out subr_i rfl (subs_one _ _ _ _ _ _ _ _ _) ?_)
    refine bodyPost_ret (results_row2 rfl _ _ (w.heap.size + 1) _ _ _ _ rfl rfl (setRow_heap _ _ _ _ _ _ HZr.out) Tryd.underlying41 rfl subr_i) rfl ?_
    rw [HR.out.1, HR.out.2]
    simp only [↓reduceIte]
    rw [HD.out]
    exact ⟨⟨_, rfl, H9.out⟩, below_setRow HWr.out (by omega) _⟩
end Go.Proofs.YtimboglagjbdjaaDoor

set_option linter.unusedSimpArgs false
set_option linter.unusedVariables false
namespace Go.Proofs.YtimboglagjbdjaaDoor
open Go.RowKit
attribute [local go_sem] Oper.semAt_some

set_option maxRecDepth 20000 in
theorem sameBools_any (a : Option Addr) (len cap : Nat) (xs : List Bool) (a' : Option Addr) (len' cap' : Nat) (ys : List Bool) (w : World) (hs : IsBools w a len cap xs) (hs' : IsBools w a' len' cap' ys) :
  Calls Tryd.prog 11 #[.slice a len cap, .slice a' len' cap'] w fun e w' => e = .returned (.bool (decide (xs = ys))) ∧ Below w.heap.size w w' := by
 have hxl := hs.length
 have hyl := hs'.length
 have hcap := hs.capLe
 have hcap' := hs'.capLe
 unfold maxLen at hcap hcap'
 by_cases he : len = len'
 ·subst he
  have hq : ((len : Int) != (len : Int)) = false := by simp
  go_enter Tryd.func11, Tryd.ntmps11
  go_wp2
  go_loopw [5] (fun c W => ∃ k : Nat, k ≤ len ∧ c = .int .i64 (k : Int) ∧ (∀ i, i < k → gb xs i = gb ys i) ∧ Below w.heap.size w W) (fun c _ => len - (intOf c).toNat)
  case atStart => exact ⟨0, Nat.zero_le _, rfl, (fun i hi => by omega), Below.refl _ _⟩
  case round =>
   obtain ⟨k, hk, rfl, hall, hb⟩ := hrel
   have HA := Lib.hid hall
   have HB := Lib.hid hb
   clear hall hb
   rcases Nat.lt_or_ge k len with hlt | hge
   ·have t1 : decide (k < len) = true := decide_eq_true hlt
    obtain ⟨b, off, rfl, hc⟩ := hs.fix (by omega)
    obtain ⟨b', off', rfl, hc'⟩ := hs'.fix (by omega)
    obtain ⟨x, hx⟩ : ∃ x, gb xs k = x := ⟨_, rfl⟩
    obtain ⟨y, hy⟩ : ∃ y, gb ys k = y := ⟨_, rfl⟩
    have f1 := hc wr HB.out k hlt
    have f2 := hc' wr HB.out k hlt
    rw [hx] at f1
    rw [hy] at f2
    have HX := Lib.hid hx
    have HY := Lib.hid hy
    clear hc hc'
    clear hs hs' hx hy
    by_cases h0 : x = y
    ·subst h0
     go_wp2_with (fail)
     go_quiet (fail)
     go_wp2_with (fail)
     go_roundw
     case rel => exact ⟨k + 1, by omega, by go_num, (fun i hi => by rcases Nat.lt_or_ge i k with h | h; exact HA.out i h; rw [show i = k by omega, HX.out, HY.out]), below_drewN HB.out _⟩
     case measure => simp [intOf]; omega
    ·have HE : Hid (decide (xs = ys) = false) := Lib.hid (decide_eq_false (fun e => h0 (by have h := HX.out; rw [e, HY.out] at h; exact h.symm)))
     have q1 : (x == y) = false := by simpa using h0
     have q2 : (x != y) = true := by simpa using h0
     clear h0
     go_wp2_with (fail)
     go_quiet (fail)
     go_wp2_with (fail)
     go_ret
     exact ⟨by first | exact rfl | (rw [HE.out]; rfl), below_drewN HB.out _⟩
   ·have hkm : k = len := by omega
    subst hkm
    have t1 : decide (k < k) = false := decide_eq_false (by omega)
    have HE : Hid (decide (xs = ys) = true) := Lib.hid (decide_eq_true (gb_ext (by omega) (fun i hi => HA.out i (by omega))))
    go_wp2_with (fail)
    go_ret
    exact ⟨by rw [HE.out]; rfl, HB.out⟩
 ·have hq : ((len : Int) != (len' : Int)) = true := by simp; omega
  have HE : Hid (decide (xs = ys) = false) := Lib.hid (decide_eq_false (fun e => he (by rw [← hxl, ← hyl, e])))
  go_enter Tryd.func11, Tryd.ntmps11
  go_wp2
  go_ret
  exact ⟨by rw [HE.out]; rfl, Below.refl _ _⟩
set_option maxRecDepth 20000 in
theorem sameArcs_any (a : Option Addr) (len cap : Nat) (xs : List A3) (a' : Option Addr) (len' cap' : Nat) (ys : List A3) (w : World) (hs : IsArcs w a len cap xs) (hs' : IsArcs w a' len' cap' ys) :
  Calls Tryd.prog 12 #[.slice a len cap, .slice a' len' cap'] w fun e w' => e = .returned (.bool (decide (xs = ys))) ∧ Below w.heap.size w w' := by
 have hxl := hs.length
 have hyl := hs'.length
 have hcap := hs.capLe
 have hcap' := hs'.capLe
 unfold maxLen at hcap hcap'
 by_cases he : len = len'
 ·subst he
  have hq : ((len : Int) != (len : Int)) = false := by simp
  go_enter Tryd.func12, Tryd.ntmps12
  go_wp2
  go_loopw [5] (fun c W => ∃ k : Nat, k ≤ len ∧ c = .int .i64 (k : Int) ∧ (∀ i, i < k → g3 xs i = g3 ys i) ∧ Below w.heap.size w W) (fun c _ => len - (intOf c).toNat)
  case atStart => exact ⟨0, Nat.zero_le _, rfl, (fun i hi => by omega), Below.refl _ _⟩
  case round =>
   obtain ⟨k, hk, rfl, hall, hb⟩ := hrel
   have HA := Lib.hid hall
   have HB := Lib.hid hb
   clear hall hb
   rcases Nat.lt_or_ge k len with hlt | hge
   ·have t1 : decide (k < len) = true := decide_eq_true hlt
    obtain ⟨b, off, rfl, hc⟩ := hs.fix (by omega)
    obtain ⟨b', off', rfl, hc'⟩ := hs'.fix (by omega)
    obtain ⟨x1, x2, x3, hx⟩ : ∃ x1 x2 x3, g3 xs k = ⟨x1, x2, x3⟩ := ⟨_, _, _, rfl⟩
    obtain ⟨y1, y2, y3, hy⟩ : ∃ y1 y2 y3, g3 ys k = ⟨y1, y2, y3⟩ := ⟨_, _, _, rfl⟩
    obtain ⟨f1, f2, f3⟩ := hc wr HB.out k hlt
    obtain ⟨f4, f5, f6⟩ := hc' wr HB.out k hlt
    rw [hx] at f1 f2 f3
    rw [hy] at f4 f5 f6
    simp only at f1 f2 f3 f4 f5 f6
    have HX := Lib.hid hx
    have HY := Lib.hid hy
    clear hc hc'
    clear hs hs' hx hy
    by_cases h0 : x1 = y1 ∧ x2 = y2 ∧ x3 = y3
    ·obtain ⟨rfl, rfl, rfl⟩ := h0
     go_wp2_with (fail)
     go_quiet (fail)
     go_wp2_with (fail)
     go_roundw
     case rel => exact ⟨k + 1, by omega, by go_num, (fun i hi => by rcases Nat.lt_or_ge i k with h | h; exact HA.out i h; rw [show i = k by omega, HX.out, HY.out]), below_drewN HB.out _⟩
     case measure => simp [intOf]; omega
    ·have HE : Hid (decide (xs = ys) = false) := Lib.hid (decide_eq_false (fun e => h0 (by have h := HX.out; rw [e, HY.out] at h; injection h with e1 e2 e3; exact ⟨e1.symm, e2.symm, e3.symm⟩)))
     have hw : x1 ≠ y1 ∨ (x1 = y1 ∧ x2 ≠ y2) ∨ (x1 = y1 ∧ x2 = y2 ∧ x3 ≠ y3) := by omega
     clear h0
     rcases hw with hw | ⟨rfl, hw⟩ | ⟨rfl, rfl, hw⟩
     all_goals
      go_wp2_with (fail)
      go_quiet (fail)
      go_wp2_with (fail)
      go_ret
      exact ⟨by first | exact rfl | (rw [HE.out]; rfl), below_drewN HB.out _⟩
   ·have hkm : k = len := by omega
    subst hkm
    have t1 : decide (k < k) = false := decide_eq_false (by omega)
    have HE : Hid (decide (xs = ys) = true) := Lib.hid (decide_eq_true (g3_ext (by omega) (fun i hi => HA.out i (by omega))))
    go_wp2_with (fail)
    go_ret
    exact ⟨by rw [HE.out]; rfl, HB.out⟩
 ·have hq : ((len : Int) != (len' : Int)) = true := by simp; omega
  have HE : Hid (decide (xs = ys) = false) := Lib.hid (decide_eq_false (fun e => he (by rw [← hxl, ← hyl, e])))
  go_enter Tryd.func12, Tryd.ntmps12
  go_wp2
  go_ret
  exact ⟨by rw [HE.out]; rfl, Below.refl _ _⟩
theorem elRA5 : Elem Tryd.prog 24 65 (.agg #[.int .i64 0, .int .i64 0, .int .i64 0]) 3 24 := ⟨Tryd.underlying24, by kernel_rfl, rfl, by decide⟩
set_option maxRecDepth 20000 in
theorem lawArcs_any {w : World} {aa : Option Addr} {al ac : Nat} {es : List A3} (he : IsArcs w aa al ac es) (hl : al ≤ 10000000) :
  Calls Tryd.prog 13 #[.slice aa al ac] w fun e w' => (∃ a' c', e = .returned (.slice a' al c') ∧ w'.ownsRow w.heap.size 65 3 (.slice a' al c') al (tvs es)) ∧ Below w.heap.size w w' := by
 have hlen := he.length
 have HX := Lib.hid hlen
 clear hlen
 go_enter Tryd.func13, Tryd.ntmps13
 go_wp2_with (fail)
 go_loopw [3, 7] (fun v x W => ∃ (k : Nat) (ao : Option Addr) (co : Nat), k ≤ al ∧ x = .int .i64 (k : Int) ∧ v = .slice ao k co ∧ W.ownsRow w.heap.size 65 3 (.slice ao k co) k (tvs (es.take k)) ∧ Below w.heap.size w W) (fun _ x _ => al - (intOf x).toNat)
 case atStart => exact ⟨0, none, 0, Nat.zero_le _, rfl, rfl, World.ownsRow_nil _ _ _ _, Below.refl _ _⟩
 case round =>
  obtain ⟨k, ao, co, hk, rfl, rfl, ho, hb⟩ := hrel
  rcases Nat.lt_or_ge k al with hlt | hge
  ·have t1 : decide ((k : Int) < al) = true := decide_eq_true (by omega)
   obtain ⟨b, off, rfl, hcell⟩ := he.fix (by omega)
   obtain ⟨cx1, cx2, cx3⟩ := hcell wr hb k hlt
   obtain ⟨x1, x2, x3, hx⟩ : ∃ x1 x2 x3, g3 es k = ⟨x1, x2, x3⟩ := ⟨_, _, _, rfl⟩
   rw [hx] at cx1 cx2 cx3
   have HN : Hid (es.take (k + 1) = es.take k ++ [⟨x1, x2, x3⟩]) := Lib.hid (by rw [← hx]; exact take_succ_g3 _ _ (by rw [HX.out]; exact hlt))
   clear hx
   have HE := Lib.hid he
   clear hcell he
   go_wp2_with (at_builtin; refine app_arc elRA5 rfl _ _ rfl rfl ho rfl (by omega) hb.size ?_; intro a1 c1 w1 ho1 hb1 hs1)
   go_roundw
   case rel => exact ⟨k + 1, a1, c1, hlt, by go_num, rfl, by rw [HN.out]; exact ho1, hb.trans hb1⟩
   case measure => simp [intOf]; omega
  ·have t1 : decide ((k : Int) < al) = false := decide_eq_false (by omega)
   obtain rfl : k = al := by omega
   rw [List.take_of_length_le (by rw [HX.out]; exact Nat.le_refl _)] at ho
   have HO := Lib.hid ho
   clear ho
   go_wp2_with (fail)
   go_ret
   exact ⟨⟨ao, co, rfl, HO.out⟩, hb⟩
end Go.Proofs.YtimboglagjbdjaaDoor
