import Derived.Shelf.SlSortCmp.WholeK
import Derived.Test.YtbjdglopkpigbaaGreatDoorSort
import Derived.LoopN
import Derived.Test.YtbjdglopkpigbaaGreatDoorMG1
import Derived.Test.YtbjdglopkpigbaaGreatDoorMG34
/-
  Srt, DfaSr, DfaMz
-/
set_option linter.unusedSimpArgs false
set_option linter.unusedVariables false
namespace Go.Proofs.YtbjdglopkpigbaaGreatDoor
open Go.RowKit Go.Sort
theorem grew_of {w w' : World} (hb : Go.RowKit.Below w.heap.size w w') (hd : w.drawn ≤ w'.drawn) : ∃ q os', w' = Sort.grow (w.drewN q) os' := by
 refine ⟨w'.drawn - w.drawn, w'.heap.extract w.heap.size w'.heap.size, ?_⟩
 have hh : w'.heap = w.heap ++ w'.heap.extract w.heap.size w'.heap.size := by
  apply Array.ext_getElem?
  intro k
  rcases Nat.lt_or_ge k w.heap.size with h | h
  ·rw [Array.getElem?_append_left h, hb.block k h]
  ·rw [Array.getElem?_append_right h, Array.getElem?_extract]
   have hs := hb.size
   split
   ·rw [show w.heap.size + (k - w.heap.size) = k by omega]
   ·rename_i hne
    exact Array.getElem?_eq_none (by omega)
 obtain ⟨heap, tape, drawn, os, output⟩ := w'
 obtain ⟨heap0, tape0, drawn0, os0, output0⟩ := w
 have e1 := hb.os
 have e2 := hb.tape
 have e3 := hb.output
 simp only at hh hd e1 e2 e3
 subst e1 e2 e3
 simp only [Sort.grow, World.drewN]
 rw [← hh, show drawn0 + (drawn - drawn0) = drawn by omega]
def enc3 (x : A3) : List Value := [.int .i64 x.f, .int .i64 x.l, .int .i64 x.t]
theorem enc3_len (x : A3) : (enc3 x).length = 3 := rfl
theorem enc3_one (x : A3) : ∀ v ∈ enc3 x, v.oneCell' = true := by
 intro v hv
 simp only [enc3, List.mem_cons, List.not_mem_nil, or_false] at hv
 rcases hv with rfl | rfl | rfl <;> rfl
theorem flat3 (A : List A3) : (flatK enc3 3 A.toArray).toList = tvs A := by
 apply List.ext_getElem?
 intro t
 rcases Nat.lt_or_ge t (A.length * 3) with h | h
 ·obtain ⟨i, hi⟩ : ∃ i, t = i * 3 ∨ t = i * 3 + 1 ∨ t = i * 3 + 2 := ⟨t / 3, by omega⟩
  have hil : i < A.length := by omega
  obtain ⟨p0, p1, p2⟩ := tvs_get A i hil
  have hd : t / 3 = i := by omega
  have hg : (A.toArray)[i]! = g3 A i := by
   rw [getElem!_pos _ i (by simpa using hil), g3_eq _ _ hil]
   simp
  have hf : (flatK enc3 3 A.toArray).toList[t]? = some ((enc3 (g3 A i))[t % 3]!) := by
   have hs : t < (flatK enc3 3 A.toArray).size := by rw [size_flatK]; simpa using h
   rw [Array.getElem?_toList, Array.getElem?_eq_getElem hs]
   have := get_flatK enc3 3 A.toArray t (by simpa using h)
   rw [getElem!_pos _ t hs, hd, hg] at this
   rw [this]
  rw [hf]
  rcases hi with rfl | rfl | rfl
  ·rw [p0, show i * 3 % 3 = 0 by omega]; rfl
  ·rw [p1, show (i * 3 + 1) % 3 = 1 by omega]; rfl
  ·rw [p2, show (i * 3 + 2) % 3 = 2 by omega]; rfl
 ·rw [List.getElem?_eq_none (l := (flatK enc3 3 A.toArray).toList) (by rw [Array.length_toList, size_flatK]; simpa using h), List.getElem?_eq_none (l := tvs A) (by rw [tvs_length]; exact h)]
theorem putCells_take {F cur : Array Value} (h : F.size ≤ cur.size) : (putCells id 0 F cur).toList.take F.size = F.toList := by
 apply List.ext_getElem?
 intro k
 rcases Nat.lt_or_ge k F.size with hk | hk
 ·rw [List.getElem?_take_of_lt hk]
  simp only [putCells, Array.getElem?_toList, Array.getElem?_mapIdx]
  rw [Array.getElem?_eq_getElem (show k < cur.size by omega), Array.getElem?_eq_getElem hk]
  simp [hk]
 ·rw [List.getElem?_take_eq_none hk, List.getElem?_eq_none (by simpa using hk)]
theorem sortWorldK_at {enc : A3 → List Value} {w : World} {g m : Nat} {d : Array A3} {os : Array Obj} {cur : Array Value} {e : TypeId} {fr : Nat × Nat} (hg : w.heap[g]? = some (.cells cur e fr)) : (sortWorldK enc 3 w g 0 m d os).heap[g]? = some (.cells (putCells id 0 (flatK enc 3 d) cur) e fr) := by
 have hlt := (Array.getElem?_eq_some_iff.1 hg).1
 unfold sortWorldK Sort.grow putRowK putRow mapBlock
 simp only
 rw [Array.getElem?_append_left (by simp [Sort.ahead]; exact hlt), Array.getElem?_modify]
 simp [Sort.ahead, hg, onCells]
theorem sortWorldK_grown {enc : A3 → List Value} {w : World} {g m : Nat} {d : Array A3} {os : Array Obj} : w.grownBy (sortWorldK enc 3 w g 0 m d os) (some g) := by
 refine ⟨rfl, rfl, rfl, by unfold sortWorldK Sort.grow putRowK putRow mapBlock; simp [Sort.ahead], fun k hk hne => ?_⟩
 unfold sortWorldK Sort.grow putRowK putRow mapBlock
 simp only
 rw [Array.getElem?_append_left (by simp [Sort.ahead]; exact hk), Array.getElem?_modify, if_neg (fun e => hne (by rw [e]))]
 rfl
theorem sorted_row {w : World} {B e g c n m : Nat} {A A' : List A3} {os : Array Obj} (h : w.ownsRow B e 3 (.slice (some ⟨g, 0, none⟩) n c) n (tvs A)) (hl : A'.length = A.length) : (sortWorldK enc3 3 w g 0 m A'.toArray os).ownsRow B e 3 (.slice (some ⟨g, 0, none⟩) n c) n (tvs A') := by
 have hlen := h.1
 rw [tvs_length] at hlen
 rcases h.2 with ⟨e1, _⟩ | ⟨g', cap, cur, e1, hB, hg, h1, h2, h3, h4⟩
 ·cases e1
 ·injection e1 with e1 _ e2
  injection e1 with e1
  injection e1 with e1
  subst e1 e2
  refine ⟨by rw [tvs_length]; omega, .inr ⟨g, c, _, rfl, hB, sortWorldK_at hg, h1, h2, by simp [putCells]; exact h3, ?_⟩⟩
  have hs : (flatK enc3 3 A'.toArray).size = n * 3 := by rw [size_flatK]; simp; omega
  have hle : n * 3 ≤ c * 3 := Nat.mul_le_mul_right 3 h1
  have := putCells_take (F := flatK enc3 3 A'.toArray) (cur := cur) (by rw [hs, h3]; exact hle)
  rw [hs, flat3] at this
  exact this
theorem holds_row {w : World} {B e g c n : Nat} {A : List A3} (h : w.ownsRow B e 3 (.slice (some ⟨g, 0, none⟩) n c) n (tvs A)) : HoldsK enc3 3 w g 0 A.toArray ∧ g < w.heap.size ∧ A.length = n := by
 have hlen := h.1
 rw [tvs_length] at hlen
 have hn : A.length = n := by omega
 refine ⟨fun j hj => ?_, (h.lt g rfl).2, hn⟩
 rw [size_flatK] at hj
 simp only [List.size_toArray] at hj
 rw [Nat.zero_add]
 refine ⟨?_, h.frozenAt j⟩
 rw [h.cellAt j (by omega)]
 have hf := congrArg (fun l => l[j]?) (flat3 A)
 rw [← hf, Array.getElem?_toList, Array.getElem?_eq_getElem (by rw [size_flatK]; simpa using hj), getElem!_pos _ j (by rw [size_flatK]; simpa using hj)]
 rfl
theorem perm_list {lt : A3 → A3 → Bool} {A : List A3} {d' : Array A3} (hp : PermIn 0 A.toArray.size A.toArray d') (hs : SortedIn lt 0 A.toArray.size d') : d'.toList.Perm A ∧ d'.toList.Pairwise (fun x y => lt y x = false) := by
 obtain ⟨h1, _, h3⟩ := hp
 have e1 : A.toArray.extract 0 A.toArray.size = A.toArray := by simp
 have e2 : d'.extract 0 A.toArray.size = d' := by rw [← h1]; simp
 rw [e1, e2] at h3
 refine ⟨h3, List.pairwise_iff_getElem.2 fun i j hi hj hij => ?_⟩
 have hjs : j < A.toArray.size := by rw [← h1]; simpa using hj
 have := hs i j (Nat.zero_le _) hij hjs
 rw [getElem!_pos d' j (by simpa using hj), getElem!_pos d' i (by simpa using hi)] at this
 simpa using this
end Go.Proofs.YtbjdglopkpigbaaGreatDoor
namespace Go.Proofs.YtbjdglopkpigbaaGreatDoor
open Go.RowKit Go.Sort
theorem swo_ord : SWO (ltOf ordA) where
 irrefl x := by simp [ltOf, ordA_lt, LtA.irrefl]
 trans x y z h1 h2 := by simp [ltOf, ordA_lt] at *; exact LtA.trans h1 h2
 ntrans x y z h1 h2 := by
  simp [ltOf, ordA_lt] at *
  unfold LtA at *
  omega
theorem cmp_lays (blk off size : Nat) (w : World) : CmpLays Tryz.prog 25 #[] enc3 3 ordA blk off size w := fun m os dk hs x y => by
 refine (order_grew x y _).mono ?_
 rintro e w' ⟨rfl, hb, hd⟩
 exact ⟨rfl, grew_of hb hd⟩
set_option maxRecDepth 20000 in
theorem ins_nil (a : Option Addr) (c : Nat) (f : Value) (w : World) : Calls Tryz.prog 51 #[.slice a 0 c, .int .i64 0, .int .i64 0, f] w fun e w' => e = .returned (.tuple #[]) ∧ w = w' := by
 go_enter Tryz.func51, Tryz.ntmps51
 go_wp2
 refine wp_loop_rounds 1 ?_
 rw [rounds_succ]
 go_wp2
 exact ⟨rfl, _, results_none rfl _ _ _, rfl, rfl⟩
set_option maxRecDepth 20000 in
theorem pdq_nil (a : Option Addr) (c : Nat) (f : Value) (l : Int) (w : World) : Calls Tryz.prog 37 #[.slice a 0 c, .int .i64 0, .int .i64 0, .int .i64 l, f] w fun e w' => e = .returned (.tuple #[]) ∧ w = w' := by
 go_enter Tryz.func37, Tryz.ntmps37
 go_wp2
 refine wp_loop_rounds 1 ?_
 rw [rounds_succ]
 go_wp2_with (go_at_call 51; refine (ins_nil a c f w).mono ?_; rintro e w' ⟨rfl, rfl⟩)
 refine bodyPost_ret (results_none rfl _ _ _) rfl ?_
 exact ⟨rfl, rfl⟩
set_option maxRecDepth 20000 in
theorem sort_nil (a : Option Addr) (c : Nat) (w : World) : Calls Tryz.prog 24 #[.slice a 0 c, .func (.func 25) #[] #[]] w fun e w' => e = .returned (.tuple #[]) ∧ w = w' := by
 go_enter Tryz.func24, Tryz.ntmps24
 go_wp2_with (first | (go_at_call 38; refine (Tryz.bits_Len 0 w (by omega) (by omega)).mono ?_; rintro e w' ⟨rfl, hw⟩; subst hw) | (go_at_call 37; refine (pdq_nil a c _ _ _).mono ?_; rintro e w' ⟨rfl, rfl⟩))
 exact ⟨rfl, _, results_none rfl _ _ _, rfl, rfl⟩
theorem sort_arcs {w : World} {B c n : Nat} {a : Option Addr} {A : List A3} (h : w.ownsRow B 49 3 (.slice a n c) n (tvs A)) (hn : A.length ≤ 100000000) :
  Calls Tryz.prog 24 #[.slice a n c, .func (.func 25) #[] #[]] w fun e w' => e = .returned (.tuple #[]) ∧ (∃ A', A'.Perm A ∧ A'.Pairwise (fun x y => ¬ LtA y x) ∧ w'.ownsRow B 49 3 (.slice a n c) n (tvs A')) ∧ w.grownBy w' (Value.slice a n c).ownBlock := by
 rcases h.2 with ⟨e, h0⟩ | ⟨g, cap, cur, e, _⟩
 ·injection e with e1 e2 e3
  subst e1 e3 h0
  have hA : A = [] := by
   have := h.1
   rw [tvs_length] at this
   exact List.eq_nil_of_length_eq_zero (by omega)
  subst hA
  refine (sort_nil none 0 w).mono ?_
  rintro e w' ⟨rfl, rfl⟩
  exact ⟨rfl, ⟨[], .refl _, List.Pairwise.nil, h⟩, World.grownBy.refl _ _⟩
 ·injection e with e1 e2 e3
  subst e1 e3
  obtain ⟨hH, hlt, hl⟩ := holds_row h
  have eg : ∀ args w, (callFunc 25 args).run Tryz.prog w = .ok (.enter 25 args) w := enters_of Tryz.func25 (by kernel_rfl) rfl
  have hcon := AnyQ.slices_SortFunc Tryz.sortArc 3 Tryz.isAgg49 Tryz.sizeOf49 enc3 enc3_len enc3_one ordA swo_ord 25 #[] g 0 c A.toArray w eg (cmp_lays g 0 A.toArray.size w) hH hlt (by simp; omega)
  change Calls Tryz.prog 24 _ _ _ at hcon
  rw [show A.toArray.size = n by simpa using hl] at hcon
  refine hcon.mono ?_
  rintro e w' ⟨rfl, d', m, os, hp, hs, rfl⟩
  have hn' : n = A.toArray.size := by simpa using hl.symm
  rw [hn'] at hp hs
  obtain ⟨p1, p2⟩ := perm_list hp hs
  refine ⟨rfl, ⟨d'.toList, p1, List.Pairwise.imp (fun h => by simpa [ltOf, ordA_lt] using h) p2, ?_⟩, sortWorldK_grown⟩
  have := sorted_row (m := m) (os := os) h p1.length_eq
  simpa using this
end Go.Proofs.YtbjdglopkpigbaaGreatDoor
namespace Go.Proofs.YtbjdglopkpigbaaGreatDoor
open List (foldr_cons foldr_nil setIfInBounds_toArray set_cons_succ set_cons_zero)
open Go.RowKit
attribute [local go_sem] Oper.semAt_some
def minPs (vc : Value) (N : Nat) (C : List Int) (bo m : Nat) (x : Int) (gf gd : Nat) (fs ds : List Bool) (vb va : Value) (A : List A3) : List Pc :=
 [.row 3 1 vc N (ivs .i64 C), .blk bo #[.int .i64 (m : Int), .int .i64 x, .slice (some ⟨gf, 0, none⟩) m m, vb], .row 4 1 (.slice (some ⟨gf, 0, none⟩) m m) m (bvs fs), .row 4 1 (.slice (some ⟨gd, 0, none⟩) m m) m (bvs ds), .row 49 3 va A.length (tvs A)]
def blkOf : Value → Nat
 | .pointer (some a) => a.block
 | _ => 0
theorem pcs_iff {W : World} {B : Nat} {ps : List Pc} : Pcs W B ps ↔ (∀ p ∈ ps, p.At W B) ∧ ps.Pairwise (fun p q => ∀ k, p.own = some k → q.own ≠ some k) := by
 constructor
 ·intro h
  refine ⟨fun p hp => ?_, List.pairwise_iff_getElem.2 fun i j hi hj hij => h.apart i j _ _ (by omega) (List.getElem?_eq_getElem hi) (List.getElem?_eq_getElem hj)⟩
  obtain ⟨i, hi, e⟩ := List.getElem_of_mem hp
  exact h.each i p (by rw [List.getElem?_eq_getElem hi, e])
 ·rintro ⟨h1, h2⟩
  refine ⟨fun i p hp => h1 p (List.mem_of_getElem? hp), fun i j p q hne hp hq k hk e => ?_⟩
  obtain ⟨hi, ei⟩ := List.getElem?_eq_some_iff.1 hp
  obtain ⟨hj, ej⟩ := List.getElem?_eq_some_iff.1 hq
  have h3 := List.pairwise_iff_getElem.1 h2
  rcases Nat.lt_or_ge i j with h | h
  ·exact h3 i j hi hj h k (by rw [ei]; exact hk) (by rw [ej]; exact e)
  ·exact h3 j i hj hi (by omega) k (by rw [ej]; exact e) (by rw [ei]; exact hk)
theorem Pcs.setRow {W : World} {B b : Nat} {ps : List Pc} (h : Pcs W B ps) (i : Nat) {cs : Array Value} (hp : ps[i]? = some (.blk b cs)) (cs' : Array Value) : Pcs (W.setRow b cs') B (ps.set i (.blk b cs')) := by
 obtain ⟨hB, T, hZ⟩ := h.blk i hp
 have hbs := below_setRow (g := b) (Below.refl b W) (Nat.le_refl _) cs'
 refine h.put i (.blk b cs') hp ⟨hbs.os, hbs.tape, hbs.output, hbs.size, fun k _ hne => setRow_other W _ k _ (fun e => hne (by rw [e]; rfl))⟩ ⟨hB, T, setRow_heap _ _ _ _ _ _ hZ⟩ fun k e => .inl e
theorem Pcs.perm {W : World} {B : Nat} {ps qs : List Pc} (h : Pcs W B ps) (hp : ps.Perm qs) : Pcs W B qs := by
 rw [pcs_iff] at h ⊢
 exact ⟨fun p hq => h.1 p (hp.symm.subset hq), (hp.pairwise_iff (fun {a b} h k hb ha => h k ha hb)).1 h.2⟩
theorem wp_make_rows {P : Program} {T E : TypeId} {bytes : Nat} {z : Value} (el : Elem P T E z 1 bytes) (hz : z.cells = #[z]) {w : World} {o : Oper} {a : Act} {K : Act → World → Prop} {Q : Exit → Act → World → Prop} (l c : Operand)
  (ho : o.op = .makeSlice T l c) {B : Nat} {kl kc : IntKind} {n : Nat} {C C' : Int} (hl : a.eval l = .int kl C') (hc : a.eval c = .int kc C) (hC : C = n) (hC' : C' = n) (hb : n * (bytes + 1) ≤ 140737488355328) (hB : B ≤ w.heap.size)
  (h : ∀ w', w'.ownsRow B E 1 (.slice (some ⟨w.heap.size, 0, none⟩) n n) n (List.replicate n z) → Below B w w' → K (a.put o.dst (.slice (some ⟨w.heap.size, 0, none⟩) n n)) w') : o.wp P a w K Q := by
 refine wp_make_full el l c ho hl hc hC hC' hb hB fun w' h1 _ h3 => h w' ?_ h3
 rw [hz, Nat.mul_one, toList_madeCells_one] at h1
 exact h1
set_option maxRecDepth 20000 in
set_option maxHeartbeats 16000000 in
theorem minimize_yes {d : Dfa} {h : DH} {w : World} (hv : ValidD d) (hd : IsDfa w h d) : Calls Tryz.prog 12 #[vDf d h] w (GivesDE (minD d) 0 w) := by
 obtain ⟨MD, hMD⟩ : ∃ MD, minD d = MD := ⟨_, rfl⟩
 rw [hMD]
 have HV := Lib.hid hv
 have HMD := Lib.hid hMD
 clear hMD
 have hn := Lib.hid hv.1
 have HD := Lib.hid hd
 obtain ⟨W1, hW1, hs1, hb1, hO⟩ := boxDW d h w hd
 obtain ⟨W2, hW2, hb2, hs2, hZ2⟩ := box_ready hs1
 have HO : Hid (∀ W, Below (w.heap.size + 1) W2 W → (W.cell? ⟨w.heap.size, 0, none⟩ = some (.int .i64 d.n) ∧ W.cell? ⟨w.heap.size, 1, none⟩ = some (.int .i64 d.s) ∧ W.cell? ⟨w.heap.size, 2, none⟩ = some (.slice h.fa h.fl h.fc) ∧ W.cell? ⟨w.heap.size, 3, none⟩ = some (.slice h.aa h.al h.ac)) ∧ IsDfa W h d ∧ Below w.heap.size w W) := Lib.hid (fun W hb => hO W ((hb2.mono (by omega)).trans hb))
 obtain ⟨⟨c1, c2, c3, c4⟩, hd2, -⟩ := HO.out W2 (Below.refl _ _)
 have hva := valid_yes hv hd2
 have hD1 : W1.heap[w.heap.size]? = some (.cells #[.int .i64 d.n, .int .i64 d.s, .slice h.fa h.fl h.fc, .slice h.aa h.al h.ac] 37 (0, 0)) := by rw [← hW1]; exact heap_alloc_new w _
 have hD2 : W2.heap[w.heap.size]? = some (.cells #[.int .i64 d.n, .int .i64 d.s, .slice h.fa h.fl h.fc, .slice h.aa h.al h.ac] 37 (0, 0)) := by rw [hb2.block _ (by omega)]; exact hD1
 have HS2 := Lib.hid hs2
 have HZ2 := Lib.hid hZ2
 have HD2 := Lib.hid hD2
 unfold vDf at hva ⊢
 clear hO hb2 hb1 hd2 hv hs2 hZ2 hd hD1 hD2
 go_enter Tryz.func12, Tryz.ntmps12
 go_wp2_with (go_at_call 17; refine hva.mono ?_; rintro e w3 ⟨rfl, hb3⟩; obtain ⟨⟨k1, k2, k3, k4⟩, hd3, hbw3⟩ := HO.out w3 (hb3.mono (by rw [HS2.out]; omega)))
 have hZ3 : w3.heap[w.heap.size + 1]? = some (.cells #[.int .i64 0, .int .i64 0, .slice none 0 0, .slice none 0 0] 37 (0, 0)) := by rw [hb3.block _ (by rw [HS2.out]; omega)]; exact HZ2.out
 have hD3 : w3.heap[w.heap.size]? = some (.cells #[.int .i64 d.n, .int .i64 d.s, .slice h.fa h.fl h.fc, .slice h.aa h.al h.ac] 37 (0, 0)) := by rw [hb3.block _ (by rw [HS2.out]; omega)]; exact HD2.out
 have HS3 : Hid (w.heap.size + 2 ≤ w3.heap.size) := Lib.hid (by rw [← HS2.out]; exact hb3.size)
 have HZ3 := Lib.hid hZ3
 have HD3 := Lib.hid hD3
 have HB3 := Lib.hid hbw3
 clear k1 k2 k3 k4 hd3 hbw3 c1 c2 c3 c4 hva hb3 hZ3 hD3 hs1 hW1 hW2 HO HS2 HZ2 HD2
 obtain ⟨S, hSd⟩ : ∃ S : (Nat → Bool) → (Nat → Value) → World → Prop, S = fun L f W => Below w.heap.size w W ∧ w.heap.size + 2 ≤ W.heap.size ∧ W.heap[w.heap.size + 1]? = some (.cells #[.int .i64 0, .int .i64 0, .slice none 0 0, .slice none 0 0] 37 (0, 0)) ∧ (if L 4 = true then DBox w.heap.size (trimD d) W else W.heap[w.heap.size]? = some (.cells #[.int .i64 d.n, .int .i64 d.s, .slice h.fa h.fl h.fc, .slice h.aa h.al h.ac] 37 (0, 0)) ∧ (L 2 = true → ∃ a c, f 2 = .slice a d.n.toNat c ∧ IsBools W a d.n.toNat c (keepU d)) ∧ (L 3 = true → ∃ h', f 3 = vDf (trimD d) h' ∧ IsDfa W h' (trimD d))) := ⟨_, rfl⟩
 refine wp_region_st mixed (by kernel_rfl) [[], [], [(1, 21)], [(0, 20), (2, 22), (2, 22)], [(3, 23), (3, 23), (0, 20), (1, 21), (2, 22), (3, 23)]] [(0, 20), (1, 21), (2, 22), (3, 23)] rfl rfl [EV ?e0, EV ?e1, fun v => ∃ a c, v = .slice a d.n.toNat c, fun v => ∃ h', v = vDf (trimD d) h', fun _ => True] S ?start ?steps ?rest
 case start =>
  intro f
  rw [hSd]
  exact ⟨HB3.out.drew, HS3.out, HZ3.out, HD3.out, fun h => (by cases h), fun h => (by cases h)⟩
 case steps =>
  refine ⟨fun L f W hi hd hdn hh hS => ?_, fun L f W hi hd hdn hh hS => ?_, fun L f W hi hd hdn hh hS => ?_, fun L f W hi hd hdn hh hS => ?_, fun L f W hi hd hdn hh hS => ?_, trivial⟩
  ·
   have l4 : L 4 = false := Bool.eq_false_iff.2 fun h => by have q := hdn 4 _ h rfl 0 (by decide); rw [show L 0 = false from hi] at q; cases q
   unfold stStep
   rw [if_pos (by simp [Region.wanted])]
   intro K Q hK
   simp only [puts, foldr_nil]
   have hS' := hS
   rw [hSd] at hS'
   simp only [l4, if_false, Bool.false_eq_true] at hS'
   have k1 := cell_of_row W _ 0 _ _ _ hS'.2.2.2.1
   have k2 := cell_of_row W _ 1 _ _ _ hS'.2.2.2.1
   have k3 := cell_of_row W _ 2 _ _ _ hS'.2.2.2.1
   have k4 := cell_of_row W _ 3 _ _ _ hS'.2.2.2.1
   go_step
   refine st_ex hK rfl rfl (by simp only [Act.put, setIfInBounds_toArray, set_cons_succ, set_cons_zero, Array.getD_eq_getD_getElem?, List.getElem?_toArray, List.getElem?_cons_succ, List.getElem?_cons_zero, Option.getD_some] <;> rfl) rfl (by rw [hSd] at hS ⊢; exact hS)
  ·
   have l4 : L 4 = false := Bool.eq_false_iff.2 fun h => by have q := hdn 4 _ h rfl 1 (by decide); rw [show L 1 = false from hi] at q; cases q
   unfold stStep
   rw [if_pos (by simp [Region.wanted])]
   intro K Q hK
   simp only [puts, foldr_nil]
   have hS' := hS
   rw [hSd] at hS'
   simp only [l4, if_false, Bool.false_eq_true] at hS'
   have k1 := cell_of_row W _ 0 _ _ _ hS'.2.2.2.1
   have k2 := cell_of_row W _ 1 _ _ _ hS'.2.2.2.1
   have k3 := cell_of_row W _ 2 _ _ _ hS'.2.2.2.1
   have k4 := cell_of_row W _ 3 _ _ _ hS'.2.2.2.1
   go_step
   refine st_ex hK rfl rfl (by simp only [Act.put, setIfInBounds_toArray, set_cons_succ, set_cons_zero, Array.getD_eq_getD_getElem?, List.getElem?_toArray, List.getElem?_cons_succ, List.getElem?_cons_zero, Option.getD_some] <;> rfl) rfl (by rw [hSd] at hS ⊢; exact hS)
  ·
   obtain ⟨h1, -⟩ := hh;have g1 : f 1=_:=h1
   have l3 : L 3 = false := Bool.eq_false_iff.2 fun h => by have q := hdn 3 _ h rfl 2 (by decide); rw [show L 2 = false from hi] at q; cases q
   have l4 : L 4 = false := Bool.eq_false_iff.2 fun h => by have q := hdn 4 _ h rfl 3 (by decide); rw [show L 3 = false from l3] at q; cases q
   unfold stStep
   rw [if_pos (by simp [Region.wanted])]
   intro K Q hK
   simp only [puts, Za, Zb, Zc, Zd, Ze, g1]
   rw [hSd] at hS hK
   have l2 : L 2 = false := hi
   try simp only [stage, l3, l4, l2, if_true, if_false, Bool.false_eq_true] at hS
   obtain ⟨hbW, hzW, hZW, hRest⟩ := hS
   obtain ⟨hDW, -, -⟩ := hRest
   go_step
   go_at_call 21
   refine (ends_any HV.out (HD.out.later hbW)).mono ?_
   rintro e w' ⟨⟨a', c', rfl, hI⟩, hb⟩
   refine hK.out _ _ rfl ⟨a', c', rfl⟩ ?_
   refine ⟨hbW.trans (hb.mono (by omega)), Nat.le_trans hzW hb.size, by rw [hb.block _ (by omega)]; exact hZW, ?_⟩
   simp only [l3, l4, Bool.false_eq_true, ↓reduceIte, Nat.reduceEqDiff]
   exact ⟨by rw [hb.block _ (by omega)]; exact hDW, fun _ => ⟨a', c', rfl, hI⟩, fun h => (by cases h)⟩
  ·
   obtain ⟨h0, h2, _, -⟩ := hh;have g0 : f 0=_:=h0
   obtain ⟨a2, c2, (g2 : f 2 = _)⟩ := h2
   have l2 : L 2 = true := hd 2 (by decide)
   have l4 : L 4 = false := Bool.eq_false_iff.2 fun h => by have q := hdn 4 _ h rfl 3 (by decide); rw [show L 3 = false from hi] at q; cases q
   unfold stStep
   rw [if_pos (by simp [Region.wanted])]
   intro K Q hK
   simp only [puts, Za, Zb, Zc, Zd, Ze, g0, g2]
   rw [hSd] at hS hK
   have l3 : L 3 = false := hi
   try simp only [stage, l4, l3, l2, if_true, if_false, Bool.false_eq_true] at hS
   obtain ⟨hbW, hzW, hZW, hRest⟩ := hS
   obtain ⟨hDW, h2W, -⟩ := hRest
   obtain ⟨a', c', e2, hI⟩ := h2W trivial
   rw [g2] at e2
   injection e2 with e21 e22 e23
   subst e21 e23
   go_step
   go_at_call 19
   refine (canonical_any HV.out (HD.out.later hbW) hI (by have := hn.out; omega)).mono ?_
   rintro e w' ⟨⟨h', rfl, hD⟩, hb⟩
   refine hK.out _ _ rfl ⟨h', rfl⟩ ?_
   refine ⟨hbW.trans (hb.mono (by omega)), Nat.le_trans hzW hb.size, by rw [hb.block _ (by omega)]; exact hZW, ?_⟩
   simp only [l4, Bool.false_eq_true, ↓reduceIte, Nat.reduceEqDiff]
   exact ⟨by rw [hb.block _ (by omega)]; exact hDW, fun _ => ⟨_, _, g2, hI.later hb⟩, fun _ => ⟨h', rfl, hD⟩⟩
  ·
   obtain ⟨h3, _, h0, h1, h2, _, -⟩ := hh
   obtain ⟨y3, (g3 : f 3 = _)⟩ := h3
   have g0 : f 0=_:=h0;have g1 : f 1=_:=h1
   obtain ⟨a2, c2, (g2 : f 2 = _)⟩ := h2
   have l3 : L 3 = true := hd 3 (by decide)
   unfold stStep
   rw [if_pos (by simp [Region.wanted])]
   intro K Q hK
   simp only [puts, Za, Zb, Zc, Zd, Ze, g3, g0, g1, g2]
   rw [hSd] at hS hK
   have l4 : L 4 = false := hi
   try simp only [stage, l4, l3, if_true, if_false, Bool.false_eq_true] at hS
   obtain ⟨hbW, hzW, hZW, hRest⟩ := hS
   obtain ⟨hDW, -, h3W⟩ := hRest
   obtain ⟨h', e3, hD⟩ := h3W trivial
   have e3' : f 3 = .agg #[.int .i64 (trimD d).n, .int .i64 (trimD d).s, .slice h'.fa h'.fl h'.fc, .slice h'.aa h'.al h'.ac] := e3
   rw [g3] at e3'
   simp only [e3']
   refine wp_store_row 37 _ _ rfl w.heap.size #[.int .i64 (trimD d).n, .int .i64 (trimD d).s, .slice h'.fa h'.fl h'.fc, .slice h'.aa h'.al h'.ac] rfl rfl _ _ hDW dfa_i rfl (dfa_one _ _ _ _ _ _ _ _) ?_
   refine hK.out _ _ rfl trivial ?_
   refine ⟨below_setRow hbW (Nat.le_refl _) _, by simp [World.setRow]; omega, by rw [setRow_other _ _ _ _ (by omega)]; exact hZW, ?_⟩
   simp only [↓reduceIte, Nat.reduceEqDiff]
   exact DBox.put hDW hD
 case rest =>
  intro L f WA hL hh hS
  rw [hSd] at hS
  clear hSd
  have l2 : L 2 = true := hL 2 (by decide)
  have l3 : L 3 = true := hL 3 (by decide)
  have l4 : L 4 = true := hL 4 (by decide)
  simp only [stage, l2, l3, l4, if_true] at hS
  clear hL l2 l3 l4
  obtain ⟨h0, h1, h2, h3, -⟩ := hh;have g0 : f 0=_:=h0;have g1 : f 1=_:=h1
  obtain ⟨a2, c2, (g2 : f 2 = _)⟩ := h2
  obtain ⟨y3, (g3 : f 3 = _)⟩ := h3
  simp only [puts, Za, Zb, Zc, Zd, Ze, g0, g1, g2, g3]
  clear h0 h1 g0 g1
  clear g2 g3
  obtain ⟨hbA, hzA, hZA, hDB⟩ := hS
  have HMIN := Lib.hid (fun k => prog_classes (d := d) (k := k) HV.out)
  have HMIN2 := Lib.hid (fun C m => prog_minD (d := d) (C := C) (m := m) HV.out)
  rw [HMD.out] at HMIN2
  have hvt := trimD_valid HV.out
  have hut := trimD_useful HV.out
  obtain ⟨t, ht⟩ : ∃ t, trimD d = t := ⟨_, rfl⟩
  rw [ht] at hDB hvt hut HMIN HMIN2
  obtain ⟨n, s, fin, es⟩ := t
  obtain ⟨⟨fa, fl, fc, aa, al, ac⟩, hDZ, hDA⟩ := hDB
  have HVT := Lib.hid hvt
  have hnt := hvt.1
  have hst := hvt.2.1
  have hft := hvt.2.2.1
  have hffl := hDA.fin.length
  simp only at hDZ hnt hst hft hffl
  obtain ⟨N, rfl⟩ := Int.eq_ofNat_of_zero_le (show 0 ≤ n by omega)
  obtain ⟨s0, rfl⟩ := Int.eq_ofNat_of_zero_le hst.1
  have HO : Hid (∀ W, Below WA.heap.size WA W → (W.cell? ⟨w.heap.size, 0, none⟩ = some (.int .i64 (N : Int)) ∧ W.cell? ⟨w.heap.size, 1, none⟩ = some (.int .i64 (s0 : Int)) ∧ W.cell? ⟨w.heap.size, 2, none⟩ = some (.slice fa fl fc) ∧ W.cell? ⟨w.heap.size, 3, none⟩ = some (.slice aa al ac)) ∧ IsDfa W ⟨fa, fl, fc, aa, al, ac⟩ ⟨N, s0, fin, es⟩ ∧ W.heap[w.heap.size + 1]? = some (.cells #[.int .i64 0, .int .i64 0, .slice none 0 0, .slice none 0 0] 37 (0, 0)) ∧ Below w.heap.size w W) := Lib.hid (fun W hb => by
   have h0 : W.heap[w.heap.size]? = _ := (hb.block _ (by omega)).trans hDZ
   exact ⟨⟨cell_of_row W _ 0 _ _ _ h0, cell_of_row W _ 1 _ _ _ h0, cell_of_row W _ 2 _ _ _ h0, cell_of_row W _ 3 _ _ _ h0⟩, hDA.later hb, by rw [hb.block _ (by omega)]; exact hZA, hbA.trans (hb.mono (by omega))⟩)
  have HFL : Hid (fl = N ∧ fin.length = N) := Lib.hid ⟨by omega, by omega⟩
  obtain ⟨⟨c1, c2, c3, c4⟩, -, -, -⟩ := HO.out WA (Below.refl _ _)
  obtain ⟨wo, hwo⟩ : ∃ wo : World, wo = WA := ⟨_, rfl⟩
  subst hwo
  have HZA : Hid (w.heap.size + 2 ≤ wo.heap.size) := Lib.hid hzA
  clear hbA hZA hDZ hDA ht hvt hzA hst hft
  go_wp2_with (refine make_rows elI64 rfl rfl _ _ rfl rfl rfl rfl rfl (by omega) (Nat.le_refl _) ?_; intro w4 ho4 hb4; obtain ⟨⟨k1, k2, k3, k4⟩, -, -, -⟩ := HO.out w4 hb4)
  have hC4 : w4.ownsRow wo.heap.size 3 1 (.slice (some ⟨wo.heap.size, 0, none⟩) N N) N (ivs .i64 (clP fin 0)) := by
   rw [clP_zero, HFL.out.2]
   simpa [ivs] using ho4
  have HN2 : Hid ((N : Int).toNat = N) := Lib.hid (Int.toNat_natCast N)
  clear ho4 k1 k2 k3 k4 c1 c2 c3 c4 hffl
  go_loopw [30] (fun c W => ∃ i : Nat, i ≤ N ∧ c = .int .i64 (i : Int) ∧ W.ownsRow wo.heap.size 3 1 (.slice (some ⟨wo.heap.size, 0, none⟩) N N) N (ivs .i64 (clP fin i)) ∧ Below wo.heap.size wo W) (fun c _ => N - (intOf c).toNat)
  case atStart => exact ⟨0, Nat.zero_le _, rfl, hC4, hb4⟩
  case round =>
   clear hC4 hb4
   obtain ⟨i, hi, rfl, ho, hb⟩ := hrel
   obtain ⟨⟨c1, c2, c3, c4⟩, hdr, -, -⟩ := HO.out wr hb
   rcases Nat.lt_or_ge i N with hlt | hge
   ·have t1 : decide (i < fl) = true := decide_eq_true (by have := HFL.out; omega)
    have hifl : i < fl := by have := HFL.out; omega
    obtain ⟨bf, of, rfl, hfc⟩ := hdr.fin.fix (by show 0 < fl; omega)
    have cf := hfc wr (Below.refl _ _) i hifl
    simp only at cf
    obtain ⟨co1, co2⟩ := own_cell ho i hlt (by rw [clP_len (by have := HFL.out; omega)]; exact HFL.out.2)
    cases hg : gb fin i with
    | false =>
     rw [hg] at cf
     rw [clP_no (by have := HFL.out; omega) hg] at ho
     clear hfc hdr co1 co2
     go_wp2_with (fail)
     go_roundw
     case rel => exact ⟨i + 1, hlt, by go_num, ho, hb⟩
     case measure => simp [intOf]; omega
    | true =>
     rw [hg] at cf
     have ho2 := own_store ho i 1
     rw [clP_yes (by have := HFL.out; omega) hg] at ho2
     clear hfc hdr ho
     go_wp2_with (fail)
     go_roundw
     case rel => exact ⟨i + 1, hlt, by go_num, ho2, hb.setCell (Nat.le_refl _) _⟩
     case measure => simp [intOf]; omega
   ·have t1 : decide (i < fl) = false := decide_eq_false (by have := HFL.out; omega)
    obtain rfl : N = i := by omega
    have e : clP fin N = clK es N fin 0 := by
     rw [← HFL.out.2, clP_full]
     rfl
    rw [e] at ho
    have HOW := Lib.hid ho
    have HB := Lib.hid hb
    clear ho hb hdr c1 c2 c3 c4 hge hi e
    go_wp2_with (fail)
    go_loopw [4, 5] (fun cv nv W => ∃ (k : Nat) (a : Option Addr) (cc : Nat), cv = .slice a N cc ∧ nv = .int .i64 ((ctK es N fin k : Nat) : Int) ∧ W.ownsRow wo.heap.size 3 1 (.slice a N cc) N (ivs .i64 (clK es N fin k)) ∧ Below wo.heap.size wo W) (fun _ nv _ => N - (intOf nv).toNat)
    case atStart => exact ⟨0, _, _, rfl, rfl, HOW.out, HB.out⟩
    case round =>
     clear HOW HB
     obtain ⟨k, a, cc, rfl, rfl, ho, hb⟩ := hrel
     obtain ⟨⟨c1, c2, c3, c4⟩, hdr, -, -⟩ := HO.out wr hb
     have hpos : 0 < N := by omega
     have hcl := ctK_le (es := es) (fin := fin) hpos k
     have hcl1 := ctK_le (es := es) (fin := fin) hpos (k + 1)
     have hmono := ctK_mono (es := es) (fin := fin) hpos k
     have hbnd : ∀ j : Nat, (j : Int) < N → 0 ≤ gi (clK es N fin k) j ∧ gi (clK es N fin k) j ≤ 1000000 := fun j hj => by
      cases k with
      | zero =>
       have := cl0_at fin (show j < fin.length by have := HFL.out; omega)
       show 0 ≤ gi (cl0 fin) j ∧ gi (cl0 fin) j ≤ 1000000
       rw [this]
       split <;> omega
      | succ k =>
       have := clK_range (es := es) (fin := fin) (show j < N by omega) k
       omega
     have href := refine_any (cl := clK es N fin k) HVT.out hdr (by simp only [Int.toNat_natCast]; exact (IsInts.of_owns ho).1) hbnd
     simp only [Int.toNat_natCast] at href
     have HBW := Lib.hid hb
     have hsz : wo.heap.size ≤ wr.heap.size := hb.size
     clear hdr hbnd hb ho
     obtain ⟨m0, hm0⟩ : ∃ m0, ctK es N fin k = m0 := ⟨_, rfl⟩
     obtain ⟨m1, hm1⟩ : ∃ m1, ctK es N fin (k + 1) = m1 := ⟨_, rfl⟩
     have HM1 : Hid (refN es N (clK es N fin k) = m1) := Lib.hid hm1
     have HM0 := Lib.hid hm0
     have HM2 := Lib.hid hm1
     rw [hm0] at hcl hmono ⊢
     rw [hm1] at hcl1 hmono
     unfold GivesR at href
     rw [HM1.out] at href
     clear hm0 hm1
     by_cases he : m1 = m0
     ·subst he
      have t5 : ((m1 : Int) == (m1 : Int)) = true := by simp
      go_wp2_with (go_at_call 22; refine href.mono ?_; rintro e w5 ⟨⟨a5, c5, rfl, ho5⟩, hb5⟩)
      obtain ⟨hCS, hBL⟩ := HMIN.out k (by simp only [Int.toNat_natCast]; rw [HM2.out, HM0.out])
      simp only [Int.toNat_natCast] at hCS hBL
      rw [HM2.out] at hCS
      have hRES := HMIN2.out _ _ hCS hBL
      have hFN := refC_first es (clK es N fin k) N
      rw [HM1.out] at hFN
      have hCR : clK es N fin (k + 1) = refC es N (clK es N fin k) := rfl
      rw [hCR] at hCS hBL hRES
      obtain ⟨C, hC⟩ : ∃ C, refC es N (clK es N fin k) = C := ⟨_, rfl⟩
      have hClen : C.length = N := by rw [← hC]; exact refC_len _ _ _
      rw [hC] at hCS hBL hRES hFN ho5
      obtain ⟨sF, hsF⟩ : ∃ sF : Nat → Nat, (fun i => (firsts (sigs es (clK es N fin k) i)).length) = sF := ⟨_, rfl⟩
      rw [hsF] at hFN
      have HCS := Lib.hid hCS
      have HRES := Lib.hid hRES
      have HFN := Lib.hid hFN
      have HCL := Lib.hid hClen
      have HQV := Lib.hid (qD_valid HVT.out hCS)
      have hB5 := HBW.out.trans (hb5.mono hsz)
      replace ho5 := ho5.from_mono hsz
      obtain ⟨gC, rfl, -, -⟩ := owns_at ho5 hpos
      have hs0N : s0 < N := by have := HVT.out.2.1.2; simp only at this; omega
      have HP5 : Hid (Pcs w5 wo.heap.size [.row 3 1 (.slice (some ⟨gC, 0, none⟩) N c5) N (ivs .i64 C)]) := Lib.hid (Pcs.one ho5)
      have HB5 := Lib.hid hB5
      clear hCS hBL hRES hFN hC hsF hCR hClen ho5 hb5 hB5 href HM0 HM1 HM2 HMIN HMIN2 c1 c2 c3 c4 hsz HBW hcl hmono t5 t1
      go_wp2_with (fail)
      obtain ⟨S, hSd⟩ : ∃ S : (Nat → Bool) → (Nat → Value) → World → Prop, S = fun L f W => Below wo.heap.size wo W ∧ (L 8 = true → f 8 = .agg #[.int .i64 (m1 : Int), .int .i64 (gi C s0), f 7, .slice none 0 0]) ∧ Pcs W wo.heap.size (.row 3 1 (.slice (some ⟨gC, 0, none⟩) N c5) N (ivs .i64 C) :: ((if L 9 = true then [.blk (blkOf (f 9)) (if L 10 = true then #[.int .i64 (m1 : Int), .int .i64 (gi C s0), f 7, .slice none 0 0] else #[.int .i64 0, .int .i64 0, .slice none 0 0, .slice none 0 0])] else []) ++ (if L 7 = true then [.row 4 1 (f 7) m1 (bvs (List.replicate m1 false))] else []))) := ⟨_, rfl⟩
      refine wp_region_st mixed (by kernel_rfl) [[], [], [], [(2, 53)], [(1, 52), (3, 54)], [(4, 55)], [], [(6, 57), (6, 57)], [(0, 51), (5, 56), (7, 58)], [], [(9, 10), (8, 59), (0, 51), (1, 52), (2, 53), (3, 54), (4, 55), (5, 56), (6, 57), (7, 58), (8, 59), (9, 10)]] [(0, 51), (1, 52), (2, 53), (3, 54), (4, 55), (5, 56), (6, 57), (7, 58), (8, 59), (9, 10)] rfl rfl [EV ?eb0, EV ?eb1, EV ?eb2, EV ?eb3, EV ?eb4, EV ?eb5, EV ?eb6, fun v => ∃ g, v = .slice (some ⟨g, 0, none⟩) m1 m1, fun _ => True, fun v => ∃ b, v = .pointer (some ⟨b, 0, none⟩), fun _ => True] S ?bstart ?bsteps ?brest
      case bstart =>
       intro f
       rw [hSd]
       exact ⟨HB5.out.drew, fun h => (by cases h), HP5.out.quiet (below_grows ((Below.refl _ _).drew) none)⟩
      case bsteps =>
       refine ⟨fun L f W hi hd hdn hh hS => ?_, fun L f W hi hd hdn hh hS => ?_, fun L f W hi hd hdn hh hS => ?_, fun L f W hi hd hdn hh hS => ?_, fun L f W hi hd hdn hh hS => ?_, fun L f W hi hd hdn hh hS => ?_, fun L f W hi hd hdn hh hS => ?_, fun L f W hi hd hdn hh hS => ?_, fun L f W hi hd hdn hh hS => ?_, fun L f W hi hd hdn hh hS => ?_, fun L f W hi hd hdn hh hS => ?_, trivial⟩
       ·
        unfold stStep
        rw [if_pos (by simp [Region.wanted])]
        intro K Q hK
        simp only [puts, foldr_nil];go_step
        refine st_ex hK rfl rfl (by simp only [Act.put, setIfInBounds_toArray, set_cons_succ, set_cons_zero, Array.getD_eq_getD_getElem?, List.getElem?_toArray, List.getElem?_cons_succ, List.getElem?_cons_zero, Option.getD_some] <;> rfl) rfl (by rw [hSd] at hS ⊢; exact hS)
       ·
        unfold stStep
        rw [if_pos (by simp [Region.wanted])]
        intro K Q hK
        simp only [puts, foldr_nil];go_step
        refine st_ex hK rfl rfl (by simp only [Act.put, setIfInBounds_toArray, set_cons_succ, set_cons_zero, Array.getD_eq_getD_getElem?, List.getElem?_toArray, List.getElem?_cons_succ, List.getElem?_cons_zero, Option.getD_some] <;> rfl) rfl (by rw [hSd] at hS ⊢; exact hS)
       ·
        unfold stStep
        rw [if_pos (by simp [Region.wanted])]
        intro K Q hK
        simp only [puts, foldr_nil];go_step
        refine st_ex hK rfl rfl (by simp only [Act.put, setIfInBounds_toArray, set_cons_succ, set_cons_zero, Array.getD_eq_getD_getElem?, List.getElem?_toArray, List.getElem?_cons_succ, List.getElem?_cons_zero, Option.getD_some] <;> rfl) rfl (by rw [hSd] at hS ⊢; exact hS)
       ·
        obtain ⟨h2, -⟩ := hh;have g2 : f 2=_:=h2
        unfold stStep
        rw [if_pos (by simp [Region.wanted])]
        intro K Q hK
        simp only [puts, Za, Zb, Zc, Zd, Ze, g2]
        have hS' := hS
        rw [hSd] at hS'
        obtain ⟨⟨q1, q2, q3, q4⟩, -, -, -⟩ := HO.out W hS'.1
        go_step
        refine st_ex hK rfl rfl (by simp only [Act.put, setIfInBounds_toArray, set_cons_succ, set_cons_zero, Array.getD_eq_getD_getElem?, List.getElem?_toArray, List.getElem?_cons_succ, List.getElem?_cons_zero, Option.getD_some] <;> rfl) rfl (by rw [hSd] at hS ⊢; exact hS)
       ·
        obtain ⟨h1, h3, -⟩ := hh;have g1 : f 1=_:=h1;have g3 : f 3=_:=h3
        unfold stStep
        rw [if_pos (by simp [Region.wanted])]
        intro K Q hK
        simp only [puts, Za, Zb, Zc, Zd, Ze, g1, g3];go_step
        refine st_ex hK rfl rfl (by simp only [Act.put, setIfInBounds_toArray, set_cons_succ, set_cons_zero, Array.getD_eq_getD_getElem?, List.getElem?_toArray, List.getElem?_cons_succ, List.getElem?_cons_zero, Option.getD_some] <;> rfl) rfl (by rw [hSd] at hS ⊢; exact hS)
       ·
        obtain ⟨h4, -⟩ := hh;have g4 : f 4=_:=h4
        unfold stStep
        rw [if_pos (by simp [Region.wanted])]
        intro K Q hK
        simp only [puts, Za, Zb, Zc, Zd, Ze, g4]
        have hS' := hS
        rw [hSd] at hS'
        have x5 := (own_cell (hS'.2.2.row 0 rfl) s0 hs0N HCL.out).1
        go_step
        refine st_ex hK rfl rfl (by simp only [Act.put, setIfInBounds_toArray, set_cons_succ, set_cons_zero, Array.getD_eq_getD_getElem?, List.getElem?_toArray, List.getElem?_cons_succ, List.getElem?_cons_zero, Option.getD_some] <;> rfl) rfl (by rw [hSd] at hS ⊢; exact hS)
       ·
        unfold stStep
        rw [if_pos (by simp [Region.wanted])]
        intro K Q hK
        simp only [puts, foldr_nil];go_step
        refine st_ex hK rfl rfl (by simp only [Act.put, setIfInBounds_toArray, set_cons_succ, set_cons_zero, Array.getD_eq_getD_getElem?, List.getElem?_toArray, List.getElem?_cons_succ, List.getElem?_cons_zero, Option.getD_some] <;> rfl) rfl (by rw [hSd] at hS ⊢; exact hS)
       ·
        obtain ⟨h6, _, -⟩ := hh;have g6 : f 6=_:=h6
        have l8 : L 8 = false := Bool.eq_false_iff.2 fun h => by have q := hdn 8 _ h rfl 7 (by decide); rw [show L 7 = false from hi] at q; cases q
        have l10 : L 10 = false := Bool.eq_false_iff.2 fun h => by have q := hdn 10 _ h rfl 8 (by decide); rw [show L 8 = false from l8] at q; cases q
        unfold stStep
        rw [if_pos (by simp [Region.wanted])]
        intro K Q hK
        simp only [puts, Za, Zb, Zc, Zd, Ze, g6]
        rw [hSd] at hS hK
        have l7 : L 7 = false := hi
        try simp only [stage, l8, l10, l7, if_true, if_false, Bool.false_eq_true] at hS
        obtain ⟨hbW, -, hPW⟩ := hS
        refine wp_make_rows elB rfl _ _ rfl rfl rfl rfl rfl (by omega) (Nat.le_refl _) ?_
        intro w' ho' hb'
        refine hK.out _ _ rfl ⟨_, rfl⟩ ?_
        refine ⟨hbW.trans (hb'.mono hbW.size), fun h => (by simp [l8] at h), ?_⟩
        simp only [l7, l10, Bool.false_eq_true, ↓reduceIte, Nat.reduceEqDiff, List.append_nil] at hPW ⊢
        have h1 := hPW.add (.row 4 1 (.slice (some ⟨W.heap.size, 0, none⟩) m1 m1) m1 (bvs (List.replicate m1 false))) (below_grows hb' none) (by have h2 := ho'.from_mono hbW.size; show World.ownsRow _ _ _ _ _ _ _; rw [show bvs (List.replicate m1 false) = List.replicate m1 (Value.bool false) by simp [bvs]]; exact h2) (fun q e => by have e : some W.heap.size = some q := e; injection e with e; omega)
        exact h1
       ·
        obtain ⟨h0, h5, h7, -⟩ := hh;have g0 : f 0=_:=h0;have g5 : f 5=_:=h5
        obtain ⟨b7, (g7 : f 7 = _)⟩ := h7
        have l10 : L 10 = false := Bool.eq_false_iff.2 fun h => by have q := hdn 10 _ h rfl 8 (by decide); rw [show L 8 = false from hi] at q; cases q
        unfold stStep
        rw [if_pos (by simp [Region.wanted])]
        intro K Q hK
        simp only [puts, Za, Zb, Zc, Zd, Ze, g0, g5, g7]
        rw [hSd] at hS hK
        have l8 : L 8 = false := hi
        try simp only [stage, l10, l8, if_true, if_false, Bool.false_eq_true] at hS
        obtain ⟨hbW, -, hPW⟩ := hS
        go_step
        refine hK.out _ _ rfl trivial ?_
        refine ⟨hbW, fun _ => (by simp [g7, fval, Act.put]), ?_⟩
        simp only [l10, Bool.false_eq_true, ↓reduceIte, Nat.reduceEqDiff] at hPW ⊢
        exact hPW
       ·
        have l10 : L 10 = false := Bool.eq_false_iff.2 fun h => by have q := hdn 10 _ h rfl 9 (by decide); rw [show L 9 = false from hi] at q; cases q
        unfold stStep
        rw [if_pos (by simp [Region.wanted])]
        intro K Q hK
        simp only [puts, foldr_nil]
        rw [hSd] at hS hK
        have l9 : L 9 = false := hi
        try simp only [stage, l10, l9, if_true, if_false, Bool.false_eq_true] at hS
        obtain ⟨hbW, h8W, hPW⟩ := hS
        go_step
        refine hK.out _ _ rfl ⟨_, rfl⟩ ?_
        refine ⟨hbW.alloc hbW.size _, h8W, ?_⟩
        simp only [l9, l10, Bool.false_eq_true, ↓reduceIte, Nat.reduceEqDiff, List.nil_append] at hPW ⊢
        have h1 := hPW.new hbW.size #[.int .i64 0, .int .i64 0, .slice none 0 0, .slice none 0 0] 37
        exact h1.perm (.cons _ List.perm_append_comm)
       ·
        obtain ⟨h9, h8, h0, h1, h2, h3, h4, h5, h6, h7, _, _, -⟩ := hh
        obtain ⟨b9, (g9 : f 9 = _)⟩ := h9
        obtain ⟨z8, g8⟩ : ∃ z, f 8 = z := ⟨_, rfl⟩
        have g0 : f 0=_:=h0;have g1 : f 1=_:=h1;have g2 : f 2=_:=h2;have g3 : f 3=_:=h3;have g4 : f 4=_:=h4;have g5 : f 5=_:=h5;have g6 : f 6=_:=h6
        obtain ⟨b7, (g7 : f 7 = _)⟩ := h7
        have l7 : L 7 = true := hd 7 (by decide)
        have l8 : L 8 = true := hd 8 (by decide)
        have l9 : L 9 = true := hd 9 (by decide)
        unfold stStep
        rw [if_pos (by simp [Region.wanted])]
        intro K Q hK
        simp only [puts, Za, Zb, Zc, Zd, Ze, g9, g8, g0, g1, g2, g3, g4, g5, g6, g7]
        rw [hSd] at hS hK
        have l10 : L 10 = false := hi
        try simp only [stage, l10, l7, l8, l9, if_true, if_false, Bool.false_eq_true] at hS
        obtain ⟨hbW, h8W, hPW⟩ := hS
        have l7' : L 7 = true := hd 7 (by decide)
        have l8' : L 8 = true := hd 8 (by decide)
        have l9' : L 9 = true := hd 9 (by decide)
        simp only [l7', l9', l10, Bool.false_eq_true, if_true, if_false, ↓reduceIte, g7, g9] at hPW
        have h8 := h8W trivial
        rw [g8, g7] at h8
        subst h8
        obtain ⟨hB9, T9, hZ9⟩ := hPW.blk 1 rfl
        refine wp_store_row 37 _ _ rfl b9 #[.int .i64 (m1 : Int), .int .i64 (gi C s0), .slice (some ⟨b7, 0, none⟩) m1 m1, .slice none 0 0] rfl rfl _ _ hZ9 dfa_i rfl (dfa_one _ _ _ _ _ _ _ _) ?_
        refine hK.out _ _ rfl trivial ?_
        refine ⟨below_setRow hbW hB9 _, fun _ => (by simp only [Nat.reduceEqDiff, ↓reduceIte]; rw [g8, g7]), ?_⟩
        simp only [l7', l9', ↓reduceIte, Nat.reduceEqDiff, g7, g9]
        exact hPW.setRow 1 rfl _
      case brest =>
       intro L f WB hL hh hS
       rw [hSd] at hS
       clear hSd
       have l7 : L 7 = true := hL 7 (by decide)
       have l8 : L 8 = true := hL 8 (by decide)
       have l9 : L 9 = true := hL 9 (by decide)
       have l10 : L 10 = true := hL 10 (by decide)
       simp only [stage, l7, l8, l9, l10, if_true] at hS
       clear hL l7 l8 l9 l10
       obtain ⟨h0, h1, h2, h3, h4, h5, h6, h7, h8, h9, -⟩ := hh;have g0 : f 0=_:=h0;have g1 : f 1=_:=h1;have g2 : f 2=_:=h2;have g3 : f 3=_:=h3;have g4 : f 4=_:=h4;have g5 : f 5=_:=h5;have g6 : f 6=_:=h6
       obtain ⟨b7, (g7 : f 7 = _)⟩ := h7
       obtain ⟨z8, g8⟩ : ∃ z, f 8 = z := ⟨_, rfl⟩
       obtain ⟨b9, (g9 : f 9 = _)⟩ := h9
       simp only [puts, Za, Zb, Zc, Zd, Ze, g0, g1, g2, g3, g4, g5, g6, g7, g8, g9]
       clear h0 h1 h2 h3 h4 h5 h6 g0 g1 g2 g3 g4 g5 g6
       obtain ⟨hbB, -, hPB⟩ := hS
       simp only [g7, g9] at hPB
       obtain ⟨⟨k1, k2, k3, k4⟩, hdB, -, -⟩ := HO.out WB hbB
       obtain ⟨bf, of, rfl, hfc⟩ := hdB.fin.fix (by show 0 < fl; have := HFL.out; omega)
       have HFC : Hid (∀ W, Below WB.heap.size WB W → ∀ i, i < N → W.cell? ⟨bf, of + i, none⟩ = some (.bool (gb fin i))) := Lib.hid (fun W hb i hi => hfc W hb i (by show i < fl; have := HFL.out; omega))
       have HOB : Hid (∀ W, Below wo.heap.size wo W → (W.cell? ⟨w.heap.size, 0, none⟩ = some (.int .i64 (N : Int)) ∧ W.cell? ⟨w.heap.size, 1, none⟩ = some (.int .i64 (s0 : Int)) ∧ W.cell? ⟨w.heap.size, 2, none⟩ = some (.slice (some ⟨bf, of, none⟩) fl fc) ∧ W.cell? ⟨w.heap.size, 3, none⟩ = some (.slice aa al ac)) ∧ IsDfa W ⟨some ⟨bf, of, none⟩, fl, fc, aa, al, ac⟩ ⟨N, s0, fin, es⟩ ∧ W.heap[w.heap.size + 1]? = some (.cells #[.int .i64 0, .int .i64 0, .slice none 0 0, .slice none 0 0] 37 (0, 0)) ∧ Below w.heap.size w W) := HO
       have HFB : Hid (∀ W, Below wo.heap.size wo W → ∀ i, i < N → W.cell? ⟨bf, of + i, none⟩ = some (.bool (gb fin i))) := Lib.hid (fun W hb i hi => by
        have h1 := (HOB.out W hb).2.1.fin
        exact h1.get i (by have := HFL.out; show i < fl; omega))
       have HPB : Hid (Pcs WB wo.heap.size [.row 3 1 (.slice (some ⟨gC, 0, none⟩) N c5) N (ivs .i64 C), .blk b9 #[.int .i64 (m1 : Int), .int .i64 (gi C s0), .slice (some ⟨b7, 0, none⟩) m1 m1, .slice none 0 0], .row 4 1 (.slice (some ⟨b7, 0, none⟩) m1 m1) m1 (bvs (List.replicate m1 false))]) := Lib.hid hPB
       clear hPB hfc hdB HO
       go_wp2_with (refine make_rows elB rfl rfl _ _ rfl rfl rfl rfl rfl (by omega) (Nat.le_refl _) ?_; intro w7 ho7 hb7; obtain ⟨⟨q1, q2, q3, q4⟩, -, -, -⟩ := HOB.out w7 (hbB.trans (hb7.mono hbB.size)))
       obtain ⟨gd, hgd⟩ : ∃ gd, WB.heap.size = gd := ⟨_, rfl⟩
       have hP7 : Pcs w7 wo.heap.size (minPs (.slice (some ⟨gC, 0, none⟩) N c5) N C b9 m1 (gi C s0) b7 gd (finP ⟨N, s0, fin, es⟩ C m1 (sF 0)) (doneP m1 (sF 0)) (.slice none 0 0) (.slice none 0 0) ([])) := by
        have h1 := HPB.out.add (W' := w7) (.row 4 1 (.slice (some ⟨gd, 0, none⟩) m1 m1) m1 (bvs (List.replicate m1 false))) (below_grows hb7 none) (by have h2 := ho7.from_mono hbB.size; rw [hgd] at h2; show World.ownsRow _ _ _ _ _ _ _; rw [show bvs (List.replicate m1 false) = List.replicate m1 (Value.bool false) by simp [bvs]]; exact h2) (fun q e => by have e : some gd = some q := e; injection e with e; omega)
        have h2 := h1.empty 49 3
        rw [HFN.out.zero, finP_zero, doneP_zero]
        exact h2
       have HP7 := Lib.hid hP7
       have HB7 := Lib.hid (hbB.trans (hb7.mono hbB.size))
       rw [hgd]
       clear hP7 ho7 hb7 hbB HPB k1 k2 k3 k4 q1 q2 q3 q4 hgd HB5 HP5 h8 g8 g7 g9
       go_wp2_with (fail)
       go_loopw [64] (fun c W => ∃ (i : Nat) (va : Option Addr) (ca : Nat), i ≤ N ∧ c = .int .i64 (i : Int) ∧ Pcs W wo.heap.size (minPs (.slice (some ⟨gC, 0, none⟩) N c5) N C b9 m1 (gi C s0) b7 gd (finP ⟨N, s0, fin, es⟩ C m1 (sF i)) (doneP m1 (sF i)) (.slice va (arcP ⟨N, s0, fin, es⟩ C (sF i)).length ca) (.slice va (arcP ⟨N, s0, fin, es⟩ C (sF i)).length ca) (arcP ⟨N, s0, fin, es⟩ C (sF i))) ∧ Below wo.heap.size wo W) (fun c _ => N - (intOf c).toNat)
       case atStart => exact ⟨0, none, 0, Nat.zero_le _, rfl, by
        have h := HP7.out
        have e0 : arcP ⟨N, s0, fin, es⟩ C (sF 0) = [] := by rw [HFN.out.zero]; rfl
        rw [e0]
        exact h, HB7.out⟩
       case round =>
        clear HP7 HB7
        obtain ⟨i, va, ca, hi, rfl, hP, hb⟩ := hrel
        obtain ⟨⟨c1, c2, c3, c4⟩, hdr, hZr, hbw⟩ := HOB.out wr hb
        rcases Nat.lt_or_ge i N with hlt | hge
        ·have t1 : decide (i < N) = true := decide_eq_true hlt
         obtain ⟨co1, -⟩ := own_cell (hP.row 0 rfl) i hlt HCL.out
         have hle := HFN.out.le i (by omega)
         have hle1 := HFN.out.le (i + 1) (by omega)
         have hstp := HFN.out.step i hlt
         obtain ⟨s, hs⟩ : ∃ s, sF i = s := ⟨_, rfl⟩
         rw [hs] at hP hle hstp
         rcases hstp with ⟨h0, h1, h2⟩ | ⟨h1, h2, h3⟩
         ·obtain ⟨c, hc⟩ := Int.eq_ofNat_of_zero_le h0
          have hcm : c < m1 := by omega
          rw [hc] at co1
          obtain ⟨cd1, -⟩ := bown_cell (hP.row 3 rfl) hcm (doneP_len _ _)
          rw [gb_doneP hcm, decide_eq_true (show c < s by omega)] at cd1
          have HP := Lib.hid hP
          have H2 := Lib.hid h2
          clear hP h0 h1 h2 hc hdr hZr hbw hs
          go_wp2_with (fail)
          go_roundw
          case rel => exact ⟨i + 1, va, ca, hlt, by go_num, by rw [H2.out]; exact HP.out, hb⟩
          case measure => simp [intOf]; omega
         ·have hsm : s < m1 := by omega
          have hifl : i < fl := by have := HFL.out; omega
          rw [h1] at co1
          obtain ⟨cd1, -⟩ := bown_cell (hP.row 3 rfl) hsm (doneP_len _ _)
          rw [gb_doneP hsm, decide_eq_false (show ¬ s < s by omega)] at cd1
          have HP := Lib.hid hP
          have H2 := Lib.hid h2
          have H3 := Lib.hid h3
          have HB := Lib.hid hb
          clear hP h1 h2 h3 hdr hZr hbw hs c1 c2 c3 c4 hb
          go_wp2_with (fail)
          obtain ⟨S, hSd⟩ : ∃ S : (Nat → Bool) → (Nat → Value) → World → Prop, S = fun L f W => Below wo.heap.size wo W ∧ Pcs W wo.heap.size (minPs (.slice (some ⟨gC, 0, none⟩) N c5) N C b9 m1 (gi C s0) b7 gd (if L 13 = true then finP ⟨N, s0, fin, es⟩ C m1 (s + 1) else finP ⟨N, s0, fin, es⟩ C m1 s) (if L 11 = true then doneP m1 (s + 1) else doneP m1 s) (.slice va (arcP ⟨N, s0, fin, es⟩ C s).length ca) (.slice va (arcP ⟨N, s0, fin, es⟩ C s).length ca) (arcP ⟨N, s0, fin, es⟩ C s)) := ⟨_, rfl⟩
          refine wp_region_st mixed (by kernel_rfl) [[], [], [], [(2, 77)], [], [], [(5, 80)], [], [(6, 81), (7, 82)], [(8, 83)], [(0, 75), (1, 76), (0, 75), (1, 76), (9, 84)], [(10, 85), (0, 75), (1, 76), (9, 84)], [(3, 78), (4, 79), (0, 75), (1, 76), (2, 77), (3, 78), (4, 79), (5, 80), (6, 81), (7, 82), (8, 83), (9, 84), (10, 85)], [(12, 86), (9, 84), (0, 75), (1, 76), (2, 77), (3, 78), (4, 79), (5, 80), (6, 81), (7, 82), (8, 83), (9, 84), (10, 85)]] [(0, 75), (1, 76), (2, 77), (3, 78), (4, 79), (5, 80), (6, 81), (7, 82), (8, 83), (9, 84), (10, 85), (12, 86)] rfl rfl [EV ?ec0, EV ?ec1, EV ?ec2, EV ?ec3, EV ?ec4, EV ?ec5, EV ?ec6, EV ?ec7, EV ?ec8, EV ?ec9, EV ?ec10, fun _ => True, EV ?ec12, fun _ => True] S ?cstart ?csteps ?crest
          case cstart =>
           intro f
           rw [hSd]
           exact ⟨HB.out.drew, HP.out.quiet (below_grows ((Below.refl _ _).drew) none)⟩
          case csteps =>
           refine ⟨fun L f W hi hd hdn hh hS => ?_, fun L f W hi hd hdn hh hS => ?_, fun L f W hi hd hdn hh hS => ?_, fun L f W hi hd hdn hh hS => ?_, fun L f W hi hd hdn hh hS => ?_, fun L f W hi hd hdn hh hS => ?_, fun L f W hi hd hdn hh hS => ?_, fun L f W hi hd hdn hh hS => ?_, fun L f W hi hd hdn hh hS => ?_, fun L f W hi hd hdn hh hS => ?_, fun L f W hi hd hdn hh hS => ?_, fun L f W hi hd hdn hh hS => ?_, fun L f W hi hd hdn hh hS => ?_, fun L f W hi hd hdn hh hS => ?_, trivial⟩
           ·
            unfold stStep
            rw [if_pos (by simp [Region.wanted])]
            intro K Q hK
            simp only [puts, foldr_nil];go_step
            refine st_ex hK rfl rfl (by simp only [Act.put, setIfInBounds_toArray, set_cons_succ, set_cons_zero, Array.getD_eq_getD_getElem?, List.getElem?_toArray, List.getElem?_cons_succ, List.getElem?_cons_zero, Option.getD_some] <;> rfl) rfl (by rw [hSd] at hS ⊢; exact hS)
           ·
            unfold stStep
            rw [if_pos (by simp [Region.wanted])]
            intro K Q hK
            simp only [puts, foldr_nil];go_step
            refine st_ex hK rfl rfl (by simp only [Act.put, setIfInBounds_toArray, set_cons_succ, set_cons_zero, Array.getD_eq_getD_getElem?, List.getElem?_toArray, List.getElem?_cons_succ, List.getElem?_cons_zero, Option.getD_some] <;> rfl) rfl (by rw [hSd] at hS ⊢; exact hS)
           ·
            unfold stStep
            rw [if_pos (by simp [Region.wanted])]
            intro K Q hK
            simp only [puts, foldr_nil];go_step
            refine st_ex hK rfl rfl (by simp only [Act.put, setIfInBounds_toArray, set_cons_succ, set_cons_zero, Array.getD_eq_getD_getElem?, List.getElem?_toArray, List.getElem?_cons_succ, List.getElem?_cons_zero, Option.getD_some] <;> rfl) rfl (by rw [hSd] at hS ⊢; exact hS)
           ·
            obtain ⟨h2, -⟩ := hh;have g2 : f 2=_:=h2
            unfold stStep
            rw [if_pos (by simp [Region.wanted])]
            intro K Q hK
            simp only [puts, Za, Zb, Zc, Zd, Ze, g2]
            have hS' := hS
            rw [hSd] at hS'
            have x3 : W.cell? ⟨b9, 2, none⟩ = some (.slice (some ⟨b7, 0, none⟩) m1 m1) := ((hS'.2.blk 1 rfl).2.cell 2).1
            go_step
            refine st_ex hK rfl rfl (by simp only [Act.put, setIfInBounds_toArray, set_cons_succ, set_cons_zero, Array.getD_eq_getD_getElem?, List.getElem?_toArray, List.getElem?_cons_succ, List.getElem?_cons_zero, Option.getD_some] <;> rfl) rfl (by rw [hSd] at hS ⊢; exact hS)
           ·
            unfold stStep
            rw [if_pos (by simp [Region.wanted])]
            intro K Q hK
            simp only [puts, foldr_nil];go_step
            refine st_ex hK rfl rfl (by simp only [Act.put, setIfInBounds_toArray, set_cons_succ, set_cons_zero, Array.getD_eq_getD_getElem?, List.getElem?_toArray, List.getElem?_cons_succ, List.getElem?_cons_zero, Option.getD_some] <;> rfl) rfl (by rw [hSd] at hS ⊢; exact hS)
           ·
            unfold stStep
            rw [if_pos (by simp [Region.wanted])]
            intro K Q hK
            simp only [puts, foldr_nil];go_step
            refine st_ex hK rfl rfl (by simp only [Act.put, setIfInBounds_toArray, set_cons_succ, set_cons_zero, Array.getD_eq_getD_getElem?, List.getElem?_toArray, List.getElem?_cons_succ, List.getElem?_cons_zero, Option.getD_some] <;> rfl) rfl (by rw [hSd] at hS ⊢; exact hS)
           ·
            obtain ⟨h5, -⟩ := hh;have g5 : f 5=_:=h5
            unfold stStep
            rw [if_pos (by simp [Region.wanted])]
            intro K Q hK
            simp only [puts, Za, Zb, Zc, Zd, Ze, g5]
            have hS' := hS
            rw [hSd] at hS'
            obtain ⟨⟨q1, q2, q3, q4⟩, -, -, -⟩ := HOB.out W hS'.1
            go_step
            refine st_ex hK rfl rfl (by simp only [Act.put, setIfInBounds_toArray, set_cons_succ, set_cons_zero, Array.getD_eq_getD_getElem?, List.getElem?_toArray, List.getElem?_cons_succ, List.getElem?_cons_zero, Option.getD_some] <;> rfl) rfl (by rw [hSd] at hS ⊢; exact hS)
           ·
            unfold stStep
            rw [if_pos (by simp [Region.wanted])]
            intro K Q hK
            simp only [puts, foldr_nil];go_step
            refine st_ex hK rfl rfl (by simp only [Act.put, setIfInBounds_toArray, set_cons_succ, set_cons_zero, Array.getD_eq_getD_getElem?, List.getElem?_toArray, List.getElem?_cons_succ, List.getElem?_cons_zero, Option.getD_some] <;> rfl) rfl (by rw [hSd] at hS ⊢; exact hS)
           ·
            obtain ⟨h6, h7, -⟩ := hh;have g6 : f 6=_:=h6;have g7 : f 7=_:=h7
            unfold stStep
            rw [if_pos (by simp [Region.wanted])]
            intro K Q hK
            simp only [puts, Za, Zb, Zc, Zd, Ze, g6, g7];go_step
            refine st_ex hK rfl rfl (by simp only [Act.put, setIfInBounds_toArray, set_cons_succ, set_cons_zero, Array.getD_eq_getD_getElem?, List.getElem?_toArray, List.getElem?_cons_succ, List.getElem?_cons_zero, Option.getD_some] <;> rfl) rfl (by rw [hSd] at hS ⊢; exact hS)
           ·
            obtain ⟨h8, -⟩ := hh;have g8 : f 8=_:=h8
            unfold stStep
            rw [if_pos (by simp [Region.wanted])]
            intro K Q hK
            simp only [puts, Za, Zb, Zc, Zd, Ze, g8]
            have hS' := hS
            rw [hSd] at hS'
            have x9 := HFB.out W hS'.1 i hlt
            go_step
            refine st_ex hK rfl rfl (by simp only [Act.put, setIfInBounds_toArray, set_cons_succ, set_cons_zero, Array.getD_eq_getD_getElem?, List.getElem?_toArray, List.getElem?_cons_succ, List.getElem?_cons_zero, Option.getD_some] <;> rfl) rfl (by rw [hSd] at hS ⊢; exact hS)
           ·
            obtain ⟨h0, h1, _, _, h9, -⟩ := hh;have g0 : f 0=_:=h0;have g1 : f 1=_:=h1;have g9 : f 9=_:=h9
            unfold stStep
            rw [if_pos (by simp [Region.wanted])]
            intro K Q hK
            simp only [puts, Za, Zb, Zc, Zd, Ze, g0, g1, g9];go_step
            refine st_ex hK rfl rfl (by simp only [Act.put, setIfInBounds_toArray, set_cons_succ, set_cons_zero, Array.getD_eq_getD_getElem?, List.getElem?_toArray, List.getElem?_cons_succ, List.getElem?_cons_zero, Option.getD_some] <;> rfl) rfl (by rw [hSd] at hS ⊢; exact hS)
           ·
            obtain ⟨h10, h0, h1, h9, -⟩ := hh;have g10 : f 10=_:=h10;have g0 : f 0=_:=h0;have g1 : f 1=_:=h1;have g9 : f 9=_:=h9
            have l13 : L 13 = false := Bool.eq_false_iff.2 fun h => by have q := hdn 13 _ h rfl 11 (by decide); rw [show L 11 = false from hi] at q; cases q
            unfold stStep
            rw [if_pos (by simp [Region.wanted])]
            intro K Q hK
            simp only [puts, Za, Zb, Zc, Zd, Ze, g10, g0, g1, g9]
            rw [hSd] at hS hK
            have l11 : L 11 = false := hi
            try simp only [stage, l13, l11, if_true, if_false, Bool.false_eq_true] at hS
            obtain ⟨hbW, hPW⟩ := hS
            obtain ⟨-, y2⟩ := bown_cell (hPW.row 3 rfl) hsm (doneP_len _ _)
            have y1 := (bown_cell (hPW.row 3 rfl) hsm (doneP_len _ _)).1
            go_step
            refine hK.out _ _ rfl trivial ?_
            have hst := hPW.rowStore 3 rfl s (.bool true)
            refine ⟨Below.setCell (p := ⟨gd, s, none⟩) hbW ((hPW.each 3 _ rfl).lt rfl).1 _, ?_⟩
            simp only [l13, Bool.false_eq_true, ↓reduceIte, Nat.reduceEqDiff]
            unfold minPs
            rw [← doneP_set hsm, show bvs ((doneP m1 s).set s true) = (bvs (doneP m1 s)).set s (.bool true) by simp [bvs]]
            exact hst
           ·
            obtain ⟨h3, h4, h0, h1, h2, _, _, h5, h6, h7, h8, h9, h10, -⟩ := hh;have g3 : f 3=_:=h3;have g4 : f 4=_:=h4;have g0 : f 0=_:=h0;have g1 : f 1=_:=h1;have g2 : f 2=_:=h2;have g5 : f 5=_:=h5;have g6 : f 6=_:=h6;have g7 : f 7=_:=h7;have g8 : f 8=_:=h8;have g9 : f 9=_:=h9;have g10 : f 10=_:=h10
            unfold stStep
            rw [if_pos (by simp [Region.wanted])]
            intro K Q hK
            simp only [puts, Za, Zb, Zc, Zd, Ze, g3, g4, g0, g1, g2, g5, g6, g7, g8, g9, g10];go_step
            refine st_ex hK rfl rfl (by simp only [Act.put, setIfInBounds_toArray, set_cons_succ, set_cons_zero, Array.getD_eq_getD_getElem?, List.getElem?_toArray, List.getElem?_cons_succ, List.getElem?_cons_zero, Option.getD_some] <;> rfl) rfl (by rw [hSd] at hS ⊢; exact hS)
           ·
            obtain ⟨h12, h9, h0, h1, h2, h3, h4, h5, h6, h7, h8, _, h10, -⟩ := hh;have g12 : f 12=_:=h12;have g9 : f 9=_:=h9;have g0 : f 0=_:=h0;have g1 : f 1=_:=h1;have g2 : f 2=_:=h2;have g3 : f 3=_:=h3;have g4 : f 4=_:=h4;have g5 : f 5=_:=h5;have g6 : f 6=_:=h6;have g7 : f 7=_:=h7;have g8 : f 8=_:=h8;have g10 : f 10=_:=h10
            have l11 : L 11 = true := hd 11 (by decide)
            unfold stStep
            rw [if_pos (by simp [Region.wanted])]
            intro K Q hK
            simp only [puts, Za, Zb, Zc, Zd, Ze, g12, g9, g0, g1, g2, g3, g4, g5, g6, g7, g8, g10]
            rw [hSd] at hS hK
            have l13 : L 13 = false := hi
            try simp only [stage, l13, l11, if_true, if_false, Bool.false_eq_true] at hS
            obtain ⟨hbW, hPW⟩ := hS
            have l11' : L 11 = true := hd 11 (by decide)
            obtain ⟨-, y2⟩ := bown_cell (hPW.row 2 rfl) hsm (finP_len _ _ _ _)
            have y1 := (bown_cell (hPW.row 2 rfl) hsm (finP_len _ _ _ _)).1
            go_step
            refine hK.out _ _ rfl trivial ?_
            have hst := hPW.rowStore 2 rfl s (.bool (gb fin i))
            refine ⟨Below.setCell (p := ⟨b7, s, none⟩) hbW ((hPW.each 2 _ rfl).lt rfl).1 _, ?_⟩
            simp only [l11', ↓reduceIte, Nat.reduceEqDiff]
            unfold minPs
            have e : (finP ⟨N, s0, fin, es⟩ C m1 s).set s (gb fin i) = finP ⟨N, s0, fin, es⟩ C m1 (s + 1) := by
             have := finP_set (t := ⟨N, s0, fin, es⟩) (C := C) hsm
             rwa [H3.out] at this
            rw [← e, show bvs ((finP ⟨N, s0, fin, es⟩ C m1 s).set s (gb fin i)) = (bvs (finP ⟨N, s0, fin, es⟩ C m1 s)).set s (.bool (gb fin i)) by simp [bvs]]
            exact hst
          case crest =>
           intro L f WC hL hh hS
           rw [hSd] at hS
           clear hSd
           have l11 : L 11 = true := hL 11 (by decide)
           have l13 : L 13 = true := hL 13 (by decide)
           simp only [stage, l11, l13, if_true] at hS
           clear hL l11 l13
           obtain ⟨h0, h1, h2, h3, h4, h5, h6, h7, h8, h9, h10, h12, -⟩ := hh;have g0 : f 0=_:=h0;have g1 : f 1=_:=h1;have g2 : f 2=_:=h2;have g3 : f 3=_:=h3;have g4 : f 4=_:=h4;have g5 : f 5=_:=h5;have g6 : f 6=_:=h6;have g7 : f 7=_:=h7;have g8 : f 8=_:=h8;have g9 : f 9=_:=h9;have g10 : f 10=_:=h10;have g12 : f 12=_:=h12;simp only [puts, Za, Zb, Zc, Zd, Ze, g0, g1, g2, g3, g4, g5, g6, g7, g8, g9, g10, g12]
           clear h0 h1 h2 h3 h4 h5 h6 h7 h8 h9 h10 h12 g0 g1 g2 g3 g4 g5 g6 g7 g8 g9 g10 g12
           obtain ⟨hbC, hPC⟩ := hS
           obtain ⟨⟨k1, k2, k3, k4⟩, hdC, -, -⟩ := HOB.out WC hbC
           have HPC := Lib.hid hPC
           have HBC := Lib.hid hbC
           clear hPC hbC HP HB
           go_wp2_with (fail)
           go_at_call 23
           refine (out_in _ _ (i : Int) WC hdC HVT.out.sorted (fun x hx => (HVT.out.arc hx).2.1) HVT.out.2.2.2.1 (by omega)).mono ?_
           rintro e w8 ⟨⟨ao, co, rfl, hO8⟩, hb8⟩
           have HP8 := Lib.hid (HPC.out.quiet (below_grows hb8 none))
           have HB8 := Lib.hid (HBC.out.trans (hb8.mono HBC.out.size))
           have HO8 := Lib.hid hO8
           have HOA : Hid (∀ j, j < (outsD es (i : Int)).length → ∃ l T : Nat, g3 (outsD es (i : Int)) j = ⟨i, l, T⟩ ∧ T < N) := Lib.hid (fun j hj => by
            obtain ⟨l, T, h1, h2⟩ := outs_arc HVT.out hj
            exact ⟨l, T, h1, Int.ofNat_lt.1 h2⟩)
           have HAG : Hid (∀ j, j < (outsD es (i : Int)).length → (arcsQ ⟨N, s0, fin, es⟩ C s).take (j + 1) = (arcsQ ⟨N, s0, fin, es⟩ C s).take j ++ [⟨s, (g3 (outsD es (i : Int)) j).l, gi C (g3 (outsD es (i : Int)) j).t.toNat⟩]) := Lib.hid (fun j hj => by
            have := arcsQ_get (t := ⟨N, s0, fin, es⟩) (C := C) (s := s) (j := j)
            rw [H3.out] at this
            exact this hj)
           have HAF : Hid ((arcsQ ⟨N, s0, fin, es⟩ C s).length = (outsD es (i : Int)).length) := Lib.hid (by rw [arcsQ_len, H3.out])
           have hol : (outsD es (i : Int)).length ≤ 20000 := Nat.le_trans (List.length_filter_le _ _) HVT.out.2.2.2.1
           have HAL : Hid ((arcP ⟨N, s0, fin, es⟩ C s).length ≤ 20000) := Lib.hid (by
            have h1 : (qD ⟨N, s0, fin, es⟩ C m1).arcs = arcP ⟨N, s0, fin, es⟩ C m1 := rfl
            have h2 := HQV.out.2.2.2.1
            rw [h1] at h2
            refine Nat.le_trans ?_ h2
            have h3 : arcP ⟨N, s0, fin, es⟩ C s <+: arcP ⟨N, s0, fin, es⟩ C m1 := by
             have : ∀ d', arcP ⟨N, s0, fin, es⟩ C s <+: arcP ⟨N, s0, fin, es⟩ C (s + d') := by
              intro d'
              induction d' with
              | zero => exact List.prefix_refl _
              | succ d' ih => rw [← Nat.add_assoc, arcP_succ]; exact ih.trans (List.prefix_append _ _)
             have h4 := this (m1 - s)
             rwa [show s + (m1 - s) = m1 by omega] at h4
            exact h3.length_le)
           obtain ⟨AQ, hAQ⟩ : ∃ AQ, arcsQ ⟨N, s0, fin, es⟩ C s = AQ := ⟨_, rfl⟩
           have HAQ := Lib.hid hAQ
           obtain ⟨AS, hAS⟩ : ∃ AS, arcP ⟨N, s0, fin, es⟩ C s = AS := ⟨_, rfl⟩
           have HAS := Lib.hid hAS
           obtain ⟨OE, hOE⟩ : ∃ OE, outsD es (i : Int) = OE := ⟨_, rfl⟩
           simp only at HO8
           rw [hOE] at HO8 HOA HAG HAF hol ⊢
           rw [hAQ] at HAG HAF
           rw [hAS] at HAL HP8
           obtain ⟨OL, hOL⟩ : ∃ OL, OE.length = OL := ⟨_, rfl⟩
           rw [hOL] at HO8 HOA HAG HAF hol ⊢
           clear hO8 hb8 hdC k1 k2 k3 k4 hOE hOL hAQ hAS HPC HBC
           go_wp2_with (fail)
           go_loopw [91] (fun c W => ∃ (j : Nat) (va : Option Addr) (ca : Nat), j ≤ OL ∧ c = .int .i64 (j : Int) ∧ Pcs W wo.heap.size (minPs (.slice (some ⟨gC, 0, none⟩) N c5) N C b9 m1 (gi C s0) b7 gd (finP ⟨N, s0, fin, es⟩ C m1 (s + 1)) (doneP m1 (s + 1)) (.slice va (AS ++ AQ.take j).length ca) (.slice va (AS ++ AQ.take j).length ca) (AS ++ AQ.take j)) ∧ Below wo.heap.size wo W) (fun c _ => OL - (intOf c).toNat)
           case atStart => exact ⟨0, va, ca, Nat.zero_le _, rfl, by rw [List.take_zero, List.append_nil]; exact HP8.out, HB8.out⟩
           case round =>
            clear HP8 HB8
            obtain ⟨j, va, ca, hj, rfl, hP, hb⟩ := hrel
            obtain ⟨-, hdr, -, -⟩ := HOB.out wr hb
            rcases Nat.lt_or_ge j OL with hjl | hjge
            ·have t2 : decide (j < OL) = true := decide_eq_true hjl
             obtain ⟨bo, oo, rfl, hco⟩ := (HO8.out wr hdr).fix (by omega)
             obtain ⟨l, T, hx, hT⟩ := HOA.out j hjl
             obtain ⟨x1, x2, x3⟩ := hco wr (Below.refl _ _) j hjl
             rw [hx] at x1 x2 x3
             simp only at x1 x2 x3
             have hag := HAG.out j hjl
             rw [hx] at hag
             simp only [Int.toNat_natCast] at hag
             obtain ⟨p, hp⟩ : ∃ p, gi C T = p := ⟨_, rfl⟩
             rw [hp] at hag
             have HAG2 := Lib.hid hag
             have HPP := Lib.hid hp
             obtain ⟨AJ, hAJ⟩ : ∃ AJ, AS ++ AQ.take j = AJ := ⟨_, rfl⟩
             have HAJ := Lib.hid hAJ
             have hajl : AJ.length ≤ 40000 := by
              rw [← hAJ, List.length_append, List.length_take]
              have := HAL.out
              have := HAF.out
              omega
             rw [hAJ] at hP
             have HAJ2 : Hid (AS ++ AQ.take (j + 1) = AJ ++ [⟨s, l, p⟩]) := Lib.hid (by rw [hag, ← hAJ, List.append_assoc])
             have hsz := hb.size
             have hP6 := hP.new hsz #[.int .i64 (i : Int), .int .i64 (l : Int), .int .i64 (T : Int)] 49
             have hB6 : Below wo.heap.size wo (wr.alloc (.cells #[.int .i64 (i : Int), .int .i64 (l : Int), .int .i64 (T : Int)] 49)) := hb.alloc hsz _
             have HP6 := Lib.hid hP6
             have HB6 := Lib.hid hB6
             clear hP hb hdr hP6 hB6 hx hco hp hag hAJ
             go_wp2_with (fail)
             obtain ⟨S, hSd⟩ : ∃ S : (Nat → Bool) → (Nat → Value) → World → Prop, S = fun L f W => Below wo.heap.size wo W ∧ (L 11 = true → L 12 = false → ∃ q, f 11 = .slice (some ⟨q, 0, none⟩) 1 1 ∧ BlkAt W q #[.int .i64 (s : Int), .int .i64 (l : Int), .int .i64 p]) ∧ Pcs W wo.heap.size (minPs (.slice (some ⟨gC, 0, none⟩) N c5) N C b9 m1 (gi C s0) b7 gd (finP ⟨N, s0, fin, es⟩ C m1 (s + 1)) (doneP m1 (s + 1)) (if L 14 = true then f 12 else .slice va AJ.length ca) (if L 12 = true then f 12 else .slice va AJ.length ca) (if L 12 = true then AJ ++ [⟨s, l, p⟩] else AJ) ++ [.blk wr.heap.size #[.int .i64 (i : Int), .int .i64 (l : Int), .int .i64 (T : Int)]]) := ⟨_, rfl⟩
             refine wp_region_st mixed (by kernel_rfl) [[], [(0, 95)], [], [], [(3, 98)], [], [], [(6, 101)], [(5, 100), (7, 102)], [(8, 103)], [(2, 97), (4, 99), (9, 104)], [(10, 105)], [(1, 96), (11, 106)], [(0, 95), (1, 96), (2, 97), (3, 98), (4, 99), (5, 100), (6, 101), (7, 102), (8, 103), (9, 104), (10, 105), (11, 106), (12, 107)], [(13, 108), (12, 107), (12, 107), (0, 95), (1, 96), (2, 97), (3, 98), (4, 99), (5, 100), (6, 101), (7, 102), (8, 103), (9, 104), (10, 105), (11, 106), (12, 107)]] [(0, 95), (1, 96), (2, 97), (3, 98), (4, 99), (5, 100), (6, 101), (7, 102), (8, 103), (9, 104), (10, 105), (11, 106), (12, 107), (13, 108)] rfl rfl [EV ?ed0, EV ?ed1, EV ?ed2, EV ?ed3, EV ?ed4, EV ?ed5, EV ?ed6, EV ?ed7, EV ?ed8, EV ?ed9, EV ?ed10, fun v => ∃ b, v = .slice (some ⟨b, 0, none⟩) 1 1, fun v => ∃ a c, v = .slice a (AJ.length + 1) c, EV ?ed13, fun _ => True] S ?dstart ?dsteps ?drest
             case dstart =>
              intro f
              rw [hSd]
              exact ⟨HB6.out.drew, fun h => (by cases h), HP6.out.quiet (below_grows ((Below.refl _ _).drew) none)⟩
             case dsteps =>
              refine ⟨fun L f W hi hd hdn hh hS => ?_, fun L f W hi hd hdn hh hS => ?_, fun L f W hi hd hdn hh hS => ?_, fun L f W hi hd hdn hh hS => ?_, fun L f W hi hd hdn hh hS => ?_, fun L f W hi hd hdn hh hS => ?_, fun L f W hi hd hdn hh hS => ?_, fun L f W hi hd hdn hh hS => ?_, fun L f W hi hd hdn hh hS => ?_, fun L f W hi hd hdn hh hS => ?_, fun L f W hi hd hdn hh hS => ?_, fun L f W hi hd hdn hh hS => ?_, fun L f W hi hd hdn hh hS => ?_, fun L f W hi hd hdn hh hS => ?_, fun L f W hi hd hdn hh hS => ?_, trivial⟩
              ·
               unfold stStep
               rw [if_pos (by simp [Region.wanted])]
               intro K Q hK
               simp only [puts, foldr_nil];go_step
               refine st_ex hK rfl rfl (by simp only [Act.put, setIfInBounds_toArray, set_cons_succ, set_cons_zero, Array.getD_eq_getD_getElem?, List.getElem?_toArray, List.getElem?_cons_succ, List.getElem?_cons_zero, Option.getD_some] <;> rfl) rfl (by rw [hSd] at hS ⊢; exact hS)
              ·
               obtain ⟨h0, -⟩ := hh;have g0 : f 0=_:=h0
               have l12 : L 12 = false := Bool.eq_false_iff.2 fun h => by have q := hdn 12 _ h rfl 1 (by decide); rw [show L 1 = false from hi] at q; cases q
               have l14 : L 14 = false := Bool.eq_false_iff.2 fun h => by have q := hdn 14 _ h rfl 12 (by decide); rw [show L 12 = false from l12] at q; cases q
               unfold stStep
               rw [if_pos (by simp [Region.wanted])]
               intro K Q hK
               simp only [puts, Za, Zb, Zc, Zd, Ze, g0]
               have hS' := hS
               rw [hSd] at hS'
               simp only [l12, l14, if_false, Bool.false_eq_true] at hS'
               have x1 : W.cell? ⟨b9, 3, none⟩ = some (.slice va AJ.length ca) := ((hS'.2.2.blk 1 rfl).2.cell 3).1
               go_step
               refine st_ex hK rfl rfl (by simp only [Act.put, setIfInBounds_toArray, set_cons_succ, set_cons_zero, Array.getD_eq_getD_getElem?, List.getElem?_toArray, List.getElem?_cons_succ, List.getElem?_cons_zero, Option.getD_some] <;> rfl) rfl (by rw [hSd] at hS ⊢; exact hS)
              ·
               unfold stStep
               rw [if_pos (by simp [Region.wanted])]
               intro K Q hK
               simp only [puts, foldr_nil];go_step
               refine st_ex hK rfl rfl (by simp only [Act.put, setIfInBounds_toArray, set_cons_succ, set_cons_zero, Array.getD_eq_getD_getElem?, List.getElem?_toArray, List.getElem?_cons_succ, List.getElem?_cons_zero, Option.getD_some] <;> rfl) rfl (by rw [hSd] at hS ⊢; exact hS)
              ·
               unfold stStep
               rw [if_pos (by simp [Region.wanted])]
               intro K Q hK
               simp only [puts, foldr_nil];go_step
               refine st_ex hK rfl rfl (by simp only [Act.put, setIfInBounds_toArray, set_cons_succ, set_cons_zero, Array.getD_eq_getD_getElem?, List.getElem?_toArray, List.getElem?_cons_succ, List.getElem?_cons_zero, Option.getD_some] <;> rfl) rfl (by rw [hSd] at hS ⊢; exact hS)
              ·
               obtain ⟨h3, -⟩ := hh;have g3 : f 3=_:=h3
               unfold stStep
               rw [if_pos (by simp [Region.wanted])]
               intro K Q hK
               simp only [puts, Za, Zb, Zc, Zd, Ze, g3]
               have hS' := hS
               rw [hSd] at hS'
               have x4 : W.cell? ⟨wr.heap.size, 1, none⟩ = some (.int .i64 (l : Int)) := ((hS'.2.2.blk 5 rfl).2.cell 1).1
               go_step
               refine st_ex hK rfl rfl (by simp only [Act.put, setIfInBounds_toArray, set_cons_succ, set_cons_zero, Array.getD_eq_getD_getElem?, List.getElem?_toArray, List.getElem?_cons_succ, List.getElem?_cons_zero, Option.getD_some] <;> rfl) rfl (by rw [hSd] at hS ⊢; exact hS)
              ·
               unfold stStep
               rw [if_pos (by simp [Region.wanted])]
               intro K Q hK
               simp only [puts, foldr_nil];go_step
               refine st_ex hK rfl rfl (by simp only [Act.put, setIfInBounds_toArray, set_cons_succ, set_cons_zero, Array.getD_eq_getD_getElem?, List.getElem?_toArray, List.getElem?_cons_succ, List.getElem?_cons_zero, Option.getD_some] <;> rfl) rfl (by rw [hSd] at hS ⊢; exact hS)
              ·
               unfold stStep
               rw [if_pos (by simp [Region.wanted])]
               intro K Q hK
               simp only [puts, foldr_nil];go_step
               refine st_ex hK rfl rfl (by simp only [Act.put, setIfInBounds_toArray, set_cons_succ, set_cons_zero, Array.getD_eq_getD_getElem?, List.getElem?_toArray, List.getElem?_cons_succ, List.getElem?_cons_zero, Option.getD_some] <;> rfl) rfl (by rw [hSd] at hS ⊢; exact hS)
              ·
               obtain ⟨h6, -⟩ := hh;have g6 : f 6=_:=h6
               unfold stStep
               rw [if_pos (by simp [Region.wanted])]
               intro K Q hK
               simp only [puts, Za, Zb, Zc, Zd, Ze, g6]
               have hS' := hS
               rw [hSd] at hS'
               have x7 : W.cell? ⟨wr.heap.size, 2, none⟩ = some (.int .i64 (T : Int)) := ((hS'.2.2.blk 5 rfl).2.cell 2).1
               go_step
               refine st_ex hK rfl rfl (by simp only [Act.put, setIfInBounds_toArray, set_cons_succ, set_cons_zero, Array.getD_eq_getD_getElem?, List.getElem?_toArray, List.getElem?_cons_succ, List.getElem?_cons_zero, Option.getD_some] <;> rfl) rfl (by rw [hSd] at hS ⊢; exact hS)
              ·
               obtain ⟨h5, h7, -⟩ := hh;have g5 : f 5=_:=h5;have g7 : f 7=_:=h7
               unfold stStep
               rw [if_pos (by simp [Region.wanted])]
               intro K Q hK
               simp only [puts, Za, Zb, Zc, Zd, Ze, g5, g7];go_step
               refine st_ex hK rfl rfl (by simp only [Act.put, setIfInBounds_toArray, set_cons_succ, set_cons_zero, Array.getD_eq_getD_getElem?, List.getElem?_toArray, List.getElem?_cons_succ, List.getElem?_cons_zero, Option.getD_some] <;> rfl) rfl (by rw [hSd] at hS ⊢; exact hS)
              ·
               obtain ⟨h8, -⟩ := hh;have g8 : f 8=_:=h8
               unfold stStep
               rw [if_pos (by simp [Region.wanted])]
               intro K Q hK
               simp only [puts, Za, Zb, Zc, Zd, Ze, g8]
               have hS' := hS
               rw [hSd] at hS'
               have x9 := (own_cell (hS'.2.2.row 0 rfl) T hT HCL.out).1
               rw [HPP.out] at x9
               go_step
               refine st_ex hK rfl rfl (by simp only [Act.put, setIfInBounds_toArray, set_cons_succ, set_cons_zero, Array.getD_eq_getD_getElem?, List.getElem?_toArray, List.getElem?_cons_succ, List.getElem?_cons_zero, Option.getD_some] <;> rfl) rfl (by rw [hSd] at hS ⊢; exact hS)
              ·
               obtain ⟨h2, h4, h9, -⟩ := hh;have g2 : f 2=_:=h2;have g4 : f 4=_:=h4;have g9 : f 9=_:=h9
               unfold stStep
               rw [if_pos (by simp [Region.wanted])]
               intro K Q hK
               simp only [puts, Za, Zb, Zc, Zd, Ze, g2, g4, g9];go_step
               refine st_ex hK rfl rfl (by simp only [Act.put, setIfInBounds_toArray, set_cons_succ, set_cons_zero, Array.getD_eq_getD_getElem?, List.getElem?_toArray, List.getElem?_cons_succ, List.getElem?_cons_zero, Option.getD_some] <;> rfl) rfl (by rw [hSd] at hS ⊢; exact hS)
              ·
               obtain ⟨h10, -⟩ := hh;have g10 : f 10=_:=h10
               have l12 : L 12 = false := Bool.eq_false_iff.2 fun h => by have q := hdn 12 _ h rfl 11 (by decide); rw [show L 11 = false from hi] at q; cases q
               have l14 : L 14 = false := Bool.eq_false_iff.2 fun h => by have q := hdn 14 _ h rfl 12 (by decide); rw [show L 12 = false from l12] at q; cases q
               unfold stStep
               rw [if_pos (by simp [Region.wanted])]
               intro K Q hK
               simp only [puts, Za, Zb, Zc, Zd, Ze, g10]
               rw [hSd] at hS hK
               have l11 : L 11 = false := hi
               try simp only [stage, l12, l14, l11, if_true, if_false, Bool.false_eq_true] at hS
               obtain ⟨hbW, -, hPW⟩ := hS
               have hal : Below W.heap.size W (W.alloc (.cells #[.int .i64 (s : Int), .int .i64 (l : Int), .int .i64 p] 49)) := (Below.refl _ _).alloc (Nat.le_refl _) _
               go_step
               refine hK.out _ _ rfl ⟨_, rfl⟩ ?_
               refine ⟨hbW.alloc hbW.size _, fun _ _ => ⟨_, rfl, BlkAt.new W _ _⟩, ?_⟩
               simp only [l12, l14, Bool.false_eq_true, ↓reduceIte, Nat.reduceEqDiff] at hPW ⊢
               exact hPW.quiet (below_grows hal none)
              ·
               obtain ⟨h1, h11, -⟩ := hh;have g1 : f 1=_:=h1
               obtain ⟨b11, (g11 : f 11 = _)⟩ := h11
               have l11 : L 11 = true := hd 11 (by decide)
               have l14 : L 14 = false := Bool.eq_false_iff.2 fun h => by have q := hdn 14 _ h rfl 12 (by decide); rw [show L 12 = false from hi] at q; cases q
               unfold stStep
               rw [if_pos (by simp [Region.wanted])]
               intro K Q hK
               simp only [puts, Za, Zb, Zc, Zd, Ze, g1, g11]
               rw [hSd] at hS hK
               have l12 : L 12 = false := hi
               try simp only [stage, l14, l12, l11, if_true, if_false, Bool.false_eq_true] at hS
               obtain ⟨hbW, h11, hPW⟩ := hS
               obtain ⟨q, e11, hq⟩ := h11 trivial trivial
               rw [g11] at e11
               obtain rfl : b11 = q := by simpa using e11
               try simp only [l12, l14, if_false, Bool.false_eq_true] at hPW
               refine wp_app_pcs elA _ _ rfl 4 (v := .slice va AJ.length ca) (n := AJ.length) rfl hPW rfl (news := [.int .i64 (s : Int), .int .i64 (l : Int), .int .i64 p]) rfl ⟨rfl, fun ad e i u hi => by injection e with e; subst e; rw [addr_add, Nat.zero_add, (hq.cell i).1, ← hi]; simp, fun e => by cases e⟩ (by intro u hu; simp only [List.mem_cons, List.not_mem_nil, or_false] at hu; rcases hu with rfl | rfl | rfl <;> rfl) (by omega) hbW.size ?_
               intro a' c' w' hp' hbw
               refine hK.out _ _ rfl ⟨a', c', rfl⟩ ?_
               refine ⟨hbW.trans hbw, fun _ h => (by simp at h), ?_⟩
               simp only [l14, Bool.false_eq_true, ↓reduceIte, Nat.reduceEqDiff]
               have e1 : (AJ ++ [(⟨(s : Int), (l : Int), p⟩ : A3)]).length = AJ.length + 1 := by rw [List.length_append]; rfl
               unfold minPs
               rw [e1, tvs_append]
               exact hp'
              ·
               obtain ⟨h0, h1, h2, h3, h4, h5, h6, h7, h8, h9, h10, h11, h12, -⟩ := hh;have g0 : f 0=_:=h0;have g1 : f 1=_:=h1;have g2 : f 2=_:=h2;have g3 : f 3=_:=h3;have g4 : f 4=_:=h4;have g5 : f 5=_:=h5;have g6 : f 6=_:=h6;have g7 : f 7=_:=h7;have g8 : f 8=_:=h8;have g9 : f 9=_:=h9;have g10 : f 10=_:=h10
               obtain ⟨b11, (g11 : f 11 = _)⟩ := h11
               obtain ⟨a12, c12, (g12 : f 12 = _)⟩ := h12
               unfold stStep
               rw [if_pos (by simp [Region.wanted])]
               intro K Q hK
               simp only [puts, Za, Zb, Zc, Zd, Ze, g0, g1, g2, g3, g4, g5, g6, g7, g8, g9, g10, g11, g12];go_step
               refine st_ex hK rfl rfl (by simp only [Act.put, setIfInBounds_toArray, set_cons_succ, set_cons_zero, Array.getD_eq_getD_getElem?, List.getElem?_toArray, List.getElem?_cons_succ, List.getElem?_cons_zero, Option.getD_some] <;> rfl) rfl (by rw [hSd] at hS ⊢; exact hS)
              ·
               obtain ⟨h13, h12, _, h0, h1, h2, h3, h4, h5, h6, h7, h8, h9, h10, h11, _, -⟩ := hh;have g13 : f 13=_:=h13
               obtain ⟨a12, c12, (g12 : f 12 = _)⟩ := h12
               have g0 : f 0=_:=h0;have g1 : f 1=_:=h1;have g2 : f 2=_:=h2;have g3 : f 3=_:=h3;have g4 : f 4=_:=h4;have g5 : f 5=_:=h5;have g6 : f 6=_:=h6;have g7 : f 7=_:=h7;have g8 : f 8=_:=h8;have g9 : f 9=_:=h9;have g10 : f 10=_:=h10
               obtain ⟨b11, (g11 : f 11 = _)⟩ := h11
               have l12 : L 12 = true := hd 12 (by decide)
               unfold stStep
               rw [if_pos (by simp [Region.wanted])]
               intro K Q hK
               simp only [puts, Za, Zb, Zc, Zd, Ze, g13, g12, g0, g1, g2, g3, g4, g5, g6, g7, g8, g9, g10, g11]
               rw [hSd] at hS hK
               have l14 : L 14 = false := hi
               try simp only [stage, l14, l12, if_true, if_false, Bool.false_eq_true] at hS
               obtain ⟨hbW, -, hPW⟩ := hS
               have l12' : L 12 = true := hd 12 (by decide)
               simp only [l12', l14, if_false, if_true, Bool.false_eq_true, g12] at hPW
               have y1 := ((hPW.blk 1 rfl).2.cell 3)
               have y2 : W.cell? ⟨b9, 3, none⟩ = some (.slice va AJ.length ca) := y1.1
               have y3 := y1.2
               go_step
               refine hK.out _ _ rfl trivial ?_
               refine ⟨Below.setCell (p := ⟨b9, 3, none⟩) hbW (hPW.blk 1 rfl).1 _, fun _ h => (by simp [l12'] at h), ?_⟩
               simp only [l12', ↓reduceIte, Nat.reduceEqDiff, g12]
               exact hPW.blkStore 1 rfl 3 _
             case drest =>
              intro L f WD hL hh hS
              rw [hSd] at hS
              clear hSd
              have l11 : L 11 = true := hL 11 (by decide)
              have l12 : L 12 = true := hL 12 (by decide)
              have l14 : L 14 = true := hL 14 (by decide)
              simp only [stage, l11, l12, l14, if_true] at hS
              clear hL l11 l12 l14
              obtain ⟨h0, h1, h2, h3, h4, h5, h6, h7, h8, h9, h10, h11, h12, h13, -⟩ := hh;have g0 : f 0=_:=h0;have g1 : f 1=_:=h1;have g2 : f 2=_:=h2;have g3 : f 3=_:=h3;have g4 : f 4=_:=h4;have g5 : f 5=_:=h5;have g6 : f 6=_:=h6;have g7 : f 7=_:=h7;have g8 : f 8=_:=h8;have g9 : f 9=_:=h9;have g10 : f 10=_:=h10
              obtain ⟨b11, (g11 : f 11 = _)⟩ := h11
              obtain ⟨a12, c12, (g12 : f 12 = _)⟩ := h12
              have g13 : f 13=_:=h13;simp only [puts, Za, Zb, Zc, Zd, Ze, g0, g1, g2, g3, g4, g5, g6, g7, g8, g9, g10, g11, g12, g13]
              clear h0 h1 h2 h3 h4 h5 h6 h7 h8 h9 h10 h13 g0 g1 g2 g3 g4 g5 g6 g7 g8 g9 g10 g13
              simp only [g12] at hS
              obtain ⟨hbD, -, hPD⟩ := hS
              have HPD := Lib.hid hPD
              clear hPD
              go_wp2_with (fail)
              go_roundw
              case rel =>
               refine ⟨j + 1, a12, c12, hjl, by go_num, ?_, hbD⟩
               have h1 := HPD.out.init
               have e1 : (AJ ++ [(⟨(s : Int), (l : Int), p⟩ : A3)]).length = AJ.length + 1 := by rw [List.length_append]; rfl
               rw [HAJ2.out, e1]
               exact h1
              case measure => simp [intOf]; omega
            ·have t2 : decide (j < OL) = false := decide_eq_false (by omega)
             obtain rfl : j = OL := by omega
             have HPE : Hid (Pcs wr wo.heap.size (minPs (.slice (some ⟨gC, 0, none⟩) N c5) N C b9 m1 (gi C s0) b7 gd (finP ⟨N, s0, fin, es⟩ C m1 (s + 1)) (doneP m1 (s + 1)) (.slice va (arcP ⟨N, s0, fin, es⟩ C (s + 1)).length ca) (.slice va (arcP ⟨N, s0, fin, es⟩ C (s + 1)).length ca) (arcP ⟨N, s0, fin, es⟩ C (s + 1)))) := Lib.hid (by
              rw [arcP_succ, HAS.out, HAQ.out]
              have e : AQ.take j = AQ := List.take_of_length_le (by rw [HAF.out]; exact Nat.le_refl _)
              rw [e] at hP
              exact hP)
             clear hP hdr
             go_wp2_with (fail)
             go_roundw
             case rel => exact ⟨i + 1, va, _, hlt, by go_num, by rw [H2.out]; exact HPE.out, hb⟩
             case measure => simp [intOf]; omega
        ·have t1 : decide (i < N) = false := decide_eq_false (by omega)
         obtain rfl : N = i := by omega
         have hlast := HFN.out.last
         rw [hlast] at hP
         obtain ⟨AF, hAF⟩ : ∃ AF, arcP ⟨N, s0, fin, es⟩ C m1 = AF := ⟨_, rfl⟩
         have HAF : Hid ((qD ⟨N, s0, fin, es⟩ C m1).arcs = AF) := Lib.hid (by rw [← hAF]; rfl)
         have HFF : Hid (finP ⟨N, s0, fin, es⟩ C m1 m1 = (qD ⟨N, s0, fin, es⟩ C m1).fin) := Lib.hid (finP_full _ _ _)
         rw [hAF] at hP
         have x1 : wr.cell? ⟨b9, 3, none⟩ = some (.slice va AF.length ca) := ((hP.blk 1 rfl).2.cell 3).1
         have haf : AF.length ≤ 20000 := by rw [← HAF.out]; exact HQV.out.2.2.2.1
         have hsrt := sort_arcs (hP.row 4 rfl) (by omega)
         have HP := Lib.hid hP
         have HB := Lib.hid hb
         clear hP hb hdr hZr hbw hAF hlast c1 c2 c3 c4
         go_wp2_with (fail)
         go_at_call 24
         refine hsrt.mono ?_
         rintro e w9 ⟨rfl, ⟨A', hp, hs, ho9⟩, hg9⟩
         have hAe : A' = AF := sorted_same (by rw [← HAF.out]; exact HQV.out.sorted) hp hs
         rw [hAe] at ho9
         have hP9 := HP.out.put 4 (.row 49 3 (.slice va AF.length ca) AF.length (tvs AF)) rfl hg9 ho9 (fun q e => .inl e)
         have hb9 : Below wo.heap.size wo w9 := HB.out.grown hg9 HB.out.size (fun q e => (((HP.out.each 4 _ rfl).lt e)).1)
         obtain ⟨qd, hqd⟩ : ∃ qd, qD ⟨N, s0, fin, es⟩ C m1 = qd := ⟨_, rfl⟩
         have hqn : qd.n = m1 := by rw [← hqd]; rfl
         have hqs : qd.s = gi C s0 := by rw [← hqd]; show gi C (s0 : Int).toNat = gi C s0; rw [Int.toNat_natCast]
         have hPin : Hid (∀ W, Below w9.heap.size w9 W → ((W.cell? ⟨b9, 0, none⟩ = some (.int .i64 (m1 : Int)) ∧ W.cell? ⟨b9, 1, none⟩ = some (.int .i64 (gi C s0)) ∧ W.cell? ⟨b9, 2, none⟩ = some (.slice (some ⟨b7, 0, none⟩) m1 m1) ∧ W.cell? ⟨b9, 3, none⟩ = some (.slice va AF.length ca)) ∧ IsDfa W ⟨some ⟨b7, 0, none⟩, m1, m1, va, AF.length, ca⟩ qd ∧ W.heap[w.heap.size + 1]? = some (.cells #[.int .i64 0, .int .i64 0, .slice none 0 0, .slice none 0 0] 37 (0, 0)) ∧ Below w.heap.size w W ∧ w.heap.size + 2 ≤ W.heap.size)) := Lib.hid (fun W hW => by
          have hPW := hP9.quiet (below_grows hW none)
          obtain ⟨-, -, hZW, hbW⟩ := HOB.out W (hb9.trans (hW.mono hb9.size))
          have hB1 := (hPW.blk 1 rfl).2
          refine ⟨⟨(hB1.cell 0).1, (hB1.cell 1).1, (hB1.cell 2).1, (hB1.cell 3).1⟩, ⟨?_, ?_⟩, hZW, hbW, Nat.le_trans HZA.out (Nat.le_trans hb9.size hW.size)⟩
          ·have h1 := (IsBools.of_owns (hPW.row 2 rfl)).1
           rw [HFF.out, hqd] at h1
           exact h1
          ·have h1 := (IsArcs.of_owns (hPW.row 4 rfl)).1
           rw [← HAF.out, hqd] at h1 ⊢
           exact h1)
         have HRQ : Hid (canD qd (allK m1) = MD) := Lib.hid (by rw [← hqd]; exact HRES.out)
         have HVQ : Hid (ValidD qd) := Lib.hid (by rw [← hqd]; exact HQV.out)
         have HQN : Hid (qd.n = m1 ∧ qd.s = gi C s0) := Lib.hid ⟨hqn, hqs⟩
         have HM : Hid (m1 ≤ 1000 ∧ 1 ≤ m1) := Lib.hid ⟨by omega, by omega⟩
         have HQV2 : Hid ((Value.agg #[.int .i64 (m1 : Int), .int .i64 (gi C s0), .slice (some ⟨b7, 0, none⟩) m1 m1, .slice va AF.length ca]) = vDf qd ⟨some ⟨b7, 0, none⟩, m1, m1, va, AF.length, ca⟩) := Lib.hid (by unfold vDf; rw [hqn, hqs])
         clear hP9 hb9 hqd hqn hqs hp hs ho9 hg9 hsrt HP HB x1 hAe
         go_wp2_with (fail)
         obtain ⟨S, hSd⟩ : ∃ S : (Nat → Bool) → (Nat → Value) → World → Prop, S = fun L f W => (if L 4 = true then Below w.heap.size w W ∧ DBox (w.heap.size + 1) (MD) W else Below w9.heap.size w9 W ∧ (L 2 = true → ∃ a c, f 2 = .slice a m1 c ∧ IsBools W a m1 c (allK m1)) ∧ (L 3 = true → ∃ h', f 3 = vDf (MD) h' ∧ IsDfa W h' (MD))) := ⟨_, rfl⟩
         refine wp_region_st mixed (by kernel_rfl) [[], [], [(1, 115)], [(0, 114), (2, 116), (2, 116)], [(3, 117), (3, 117), (0, 114), (1, 115), (2, 116), (3, 117)], [(0, 114), (1, 115), (2, 116), (3, 117)]] [(0, 114), (1, 115), (2, 116), (3, 117), (5, 3)] rfl rfl [EV ?ee0, EV ?ee1, fun v => ∃ a c, v = .slice a m1 c, fun v => ∃ h', v = vDf (MD) h', fun _ => True, EV ?ee5] S ?estart ?esteps ?erest
         case estart =>
          intro f
          rw [hSd]
          exact ⟨(Below.refl _ _).drew, fun h => (by cases h), fun h => (by cases h)⟩
         case esteps =>
          refine ⟨fun L f W hi hd hdn hh hS => ?_, fun L f W hi hd hdn hh hS => ?_, fun L f W hi hd hdn hh hS => ?_, fun L f W hi hd hdn hh hS => ?_, fun L f W hi hd hdn hh hS => ?_, fun L f W hi hd hdn hh hS => ?_, trivial⟩
          ·
           have l4 : L 4 = false := Bool.eq_false_iff.2 fun h => by have q := hdn 4 _ h rfl 0 (by decide); rw [show L 0 = false from hi] at q; cases q
           unfold stStep
           rw [if_pos (by simp [Region.wanted])]
           intro K Q hK
           simp only [puts, foldr_nil]
           have hS' := hS
           rw [hSd] at hS'
           simp only [l4, if_false, Bool.false_eq_true] at hS'
           obtain ⟨⟨q1, q2, q3, q4⟩, -, -, -, -⟩ := hPin.out W hS'.1
           go_step
           refine st_ex hK rfl rfl (by simp only [Act.put, setIfInBounds_toArray, set_cons_succ, set_cons_zero, Array.getD_eq_getD_getElem?, List.getElem?_toArray, List.getElem?_cons_succ, List.getElem?_cons_zero, Option.getD_some] <;> rfl) rfl (by rw [hSd] at hS ⊢; exact hS)
          ·
           have l4 : L 4 = false := Bool.eq_false_iff.2 fun h => by have q := hdn 4 _ h rfl 1 (by decide); rw [show L 1 = false from hi] at q; cases q
           unfold stStep
           rw [if_pos (by simp [Region.wanted])]
           intro K Q hK
           simp only [puts, foldr_nil]
           have hS' := hS
           rw [hSd] at hS'
           simp only [l4, if_false, Bool.false_eq_true] at hS'
           obtain ⟨⟨q1, q2, q3, q4⟩, -, -, -, -⟩ := hPin.out W hS'.1
           go_step
           refine st_ex hK rfl rfl (by simp only [Act.put, setIfInBounds_toArray, set_cons_succ, set_cons_zero, Array.getD_eq_getD_getElem?, List.getElem?_toArray, List.getElem?_cons_succ, List.getElem?_cons_zero, Option.getD_some] <;> rfl) rfl (by rw [hSd] at hS ⊢; exact hS)
          ·
           obtain ⟨h1, -⟩ := hh;have g1 : f 1=_:=h1
           have l3 : L 3 = false := Bool.eq_false_iff.2 fun h => by have q := hdn 3 _ h rfl 2 (by decide); rw [show L 2 = false from hi] at q; cases q
           have l4 : L 4 = false := Bool.eq_false_iff.2 fun h => by have q := hdn 4 _ h rfl 3 (by decide); rw [show L 3 = false from l3] at q; cases q
           unfold stStep
           rw [if_pos (by simp [Region.wanted])]
           intro K Q hK
           simp only [puts, Za, Zb, Zc, Zd, Ze, g1]
           rw [hSd] at hS hK
           have l2 : L 2 = false := hi
           try simp only [stage, l3, l4, l2, if_true, if_false, Bool.false_eq_true] at hS
           obtain ⟨hbW, -, -⟩ := hS
           have hev := every_any qd ⟨some ⟨b7, 0, none⟩, m1, m1, va, AF.length, ca⟩ W (by rw [HQN.out.1]; have := HM.out; omega)
           rw [← HQV2.out, show qd.n.toNat = m1 by rw [HQN.out.1]; simp] at hev
           go_step
           go_at_call 20
           refine hev.mono ?_
           rintro e w' ⟨⟨a', c', rfl, hI⟩, hb⟩
           refine hK.out _ _ rfl ⟨a', c', rfl⟩ ?_
           simp only [l3, l4, Bool.false_eq_true, ↓reduceIte, Nat.reduceEqDiff]
           exact ⟨hbW.trans (hb.mono hbW.size), fun _ => ⟨a', c', rfl, hI⟩, fun h => (by cases h)⟩
          ·
           obtain ⟨h0, h2, _, -⟩ := hh;have g0 : f 0=_:=h0
           obtain ⟨a2, c2, (g2 : f 2 = _)⟩ := h2
           have l2 : L 2 = true := hd 2 (by decide)
           have l4 : L 4 = false := Bool.eq_false_iff.2 fun h => by have q := hdn 4 _ h rfl 3 (by decide); rw [show L 3 = false from hi] at q; cases q
           unfold stStep
           rw [if_pos (by simp [Region.wanted])]
           intro K Q hK
           simp only [puts, Za, Zb, Zc, Zd, Ze, g0, g2]
           rw [hSd] at hS hK
           have l3 : L 3 = false := hi
           try simp only [stage, l4, l3, l2, if_true, if_false, Bool.false_eq_true] at hS
           obtain ⟨hbW, h2W, -⟩ := hS
           obtain ⟨a', c', e2, hI⟩ := h2W trivial
           rw [g2] at e2
           injection e2 with e21 e22 e23
           subst e21 e23
           obtain ⟨-, hdW, -, -, -⟩ := hPin.out W hbW
           have hcn := canonical_any HVQ.out hdW hI (by rw [HQN.out.1])
           rw [HRQ.out, ← HQV2.out] at hcn
           go_step
           go_at_call 19
           refine hcn.mono ?_
           rintro e w' ⟨⟨h', rfl, hD⟩, hb⟩
           refine hK.out _ _ rfl ⟨h', rfl⟩ ?_
           simp only [l4, Bool.false_eq_true, ↓reduceIte, Nat.reduceEqDiff]
           exact ⟨hbW.trans (hb.mono hbW.size), fun _ => ⟨_, _, g2, hI.later hb⟩, fun _ => ⟨h', rfl, hD⟩⟩
          ·
           obtain ⟨h3, _, h0, h1, h2, _, -⟩ := hh
           obtain ⟨y3, (g3 : f 3 = _)⟩ := h3
           have g0 : f 0=_:=h0;have g1 : f 1=_:=h1
           obtain ⟨a2, c2, (g2 : f 2 = _)⟩ := h2
           have l3 : L 3 = true := hd 3 (by decide)
           unfold stStep
           rw [if_pos (by simp [Region.wanted])]
           intro K Q hK
           simp only [puts, Za, Zb, Zc, Zd, Ze, g3, g0, g1, g2]
           rw [hSd] at hS hK
           have l4 : L 4 = false := hi
           try simp only [stage, l4, l3, if_true, if_false, Bool.false_eq_true] at hS
           obtain ⟨hbW, -, h3W⟩ := hS
           obtain ⟨h', e3, hD⟩ := h3W trivial
           have e3' : f 3 = .agg #[.int .i64 (MD).n, .int .i64 (MD).s, .slice h'.fa h'.fl h'.fc, .slice h'.aa h'.al h'.ac] := e3
           rw [g3] at e3'
           simp only [e3']
           obtain ⟨-, -, hZW, hbw, hzw⟩ := hPin.out W hbW
           refine wp_store_row 37 _ _ rfl (w.heap.size + 1) #[.int .i64 (MD).n, .int .i64 (MD).s, .slice h'.fa h'.fl h'.fc, .slice h'.aa h'.al h'.ac] rfl rfl _ _ hZW dfa_i rfl (dfa_one _ _ _ _ _ _ _ _) ?_
           refine hK.out _ _ rfl trivial ?_
           simp only [↓reduceIte, Nat.reduceEqDiff]
           exact ⟨below_setRow hbw (by omega) _, DBox.put hZW hD⟩
          ·
           obtain ⟨h0, h1, h2, h3, -⟩ := hh;have g0 : f 0=_:=h0;have g1 : f 1=_:=h1
           obtain ⟨a2, c2, (g2 : f 2 = _)⟩ := h2
           obtain ⟨y3, (g3 : f 3 = _)⟩ := h3
           unfold stStep
           rw [if_pos (by simp [Region.wanted])]
           intro K Q hK
           simp only [puts, Za, Zb, Zc, Zd, Ze, g0, g1, g2, g3];go_step
           refine st_ex hK rfl rfl (by simp only [Act.put, setIfInBounds_toArray, set_cons_succ, set_cons_zero, Array.getD_eq_getD_getElem?, List.getElem?_toArray, List.getElem?_cons_succ, List.getElem?_cons_zero, Option.getD_some] <;> rfl) rfl (by rw [hSd] at hS ⊢; exact hS)
         case erest =>
          intro L f WE hL hh hS
          rw [hSd] at hS
          clear hSd
          have l2 : L 2 = true := hL 2 (by decide)
          have l3 : L 3 = true := hL 3 (by decide)
          have l4 : L 4 = true := hL 4 (by decide)
          simp only [stage, l2, l3, l4, if_true] at hS
          clear hL l2 l3 l4
          obtain ⟨h0, h1, h2, h3, h5, -⟩ := hh;have g0 : f 0=_:=h0;have g1 : f 1=_:=h1
          obtain ⟨a2, c2, (g2 : f 2 = _)⟩ := h2
          obtain ⟨y3, (g3 : f 3 = _)⟩ := h3
          have g5 : f 5=_:=h5;simp only [puts, Za, Zb, Zc, Zd, Ze, g0, g1, g2, g3, g5]
          clear h0 h1 h5 g0 g1 g5
          obtain ⟨hbE, hDE⟩ := hS
          obtain ⟨h', hZE, hDE⟩ := hDE
          go_wp2_with (fail)
          refine bodyPost_ret (results_cell_row2 rfl _ _ (w.heap.size + 1) _ _ _ _ rfl rfl hZE Tryz.underlying37 rfl dfa_i) rfl ?_
          exact ⟨⟨h', rfl, hDE⟩, hbE⟩
     ·have t5 : ((m1 : Int) == (m0 : Int)) = false := by simp; omega
      go_wp2_with (go_at_call 22; refine href.mono ?_; rintro e w5 ⟨⟨a5, c5, rfl, ho5⟩, hb5⟩)
      go_roundw
      case rel => exact ⟨k + 1, a5, c5, rfl, by rw [HM2.out], ho5.from_mono hsz, HBW.out.trans (hb5.mono hsz)⟩
      case measure => simp [intOf]; omega
end Go.Proofs.YtbjdglopkpigbaaGreatDoor
