import Derived.Shelf.SlSortCmp.WholeK
import Derived.Test.YtofaifeadhimjaaGreatDoorSort
import Derived.LoopN
import Derived.Test.YtofaifeadhimjaaGreatDoorMG2
import Derived.Test.YtofaifeadhimjaaGreatDoorMG46
/-
  Srt, NfaSz
-/
set_option linter.unusedVariables false
namespace Go.Proofs.YtofaifeadhimjaaGreatDoor
open Go.RowKit Go.Sort

theorem grew_of {w w' : World} (hb : Go.RowKit.Below w.heap.size w w') (hd : w.drawn ≤ w'.drawn) : ∃ q os', w' = Sort.grow (w.drewN q) os' := by
 refine ⟨w'.drawn - w.drawn, w'.heap.extract w.heap.size w'.heap.size, ?_⟩
 have hh : w'.heap = w.heap ++ w'.heap.extract w.heap.size w'.heap.size := by
  apply Array.ext_getElem?
  intro k
  rcases Nat.lt_or_ge k w.heap.size with h | h
  ·rw [Array.getElem?_append_left h, hb.block k h]
  ·rw [Array.getElem?_append_right h, Array.getElem?_extract]
   have hs := hb.size
   split
   ·rw [show w.heap.size + (k - w.heap.size) = k by omega]
   ·rename_i hne
    exact Array.getElem?_eq_none (by omega)
 obtain ⟨heap, tape, drawn, os, output⟩ := w'
 obtain ⟨heap0, tape0, drawn0, os0, output0⟩ := w
 have e1 := hb.os
 have e2 := hb.tape
 have e3 := hb.output
 simp only at hh hd e1 e2 e3
 subst e1 e2 e3
 simp only [Sort.grow, World.drewN]
 rw [← hh, show drawn0 + (drawn - drawn0) = drawn by omega]
def enc3 (x : A3) : List Value := [.int .i64 x.f, .int .i64 x.l, .int .i64 x.t]
theorem enc3_len (x : A3) : (enc3 x).length = 3 := rfl
theorem enc3_one (x : A3) : ∀ v ∈ enc3 x, v.oneCell' = true := by
 intro v hv
 simp only [enc3, List.mem_cons, List.not_mem_nil, or_false] at hv
 rcases hv with rfl | rfl | rfl <;> rfl
theorem flat3 (A : List A3) : (flatK enc3 3 A.toArray).toList = tvs A := by
 apply List.ext_getElem?
 intro t
 rcases Nat.lt_or_ge t (A.length * 3) with h | h
 ·obtain ⟨i, hi⟩ : ∃ i, t = i * 3 ∨ t = i * 3 + 1 ∨ t = i * 3 + 2 := ⟨t / 3, by omega⟩
  have hil : i < A.length := by omega
  obtain ⟨p0, p1, p2⟩ := tvs_get A i hil
  have hd : t / 3 = i := by omega
  have hg : (A.toArray)[i]! = g3 A i := by
   rw [getElem!_pos _ i (by simpa using hil), g3_eq _ _ hil]
   simp
  have hf : (flatK enc3 3 A.toArray).toList[t]? = some ((enc3 (g3 A i))[t % 3]!) := by
   have hs : t < (flatK enc3 3 A.toArray).size := by rw [size_flatK]; simpa using h
   rw [Array.getElem?_toList, Array.getElem?_eq_getElem hs]
   have := get_flatK enc3 3 A.toArray t (by simpa using h)
   rw [getElem!_pos _ t hs, hd, hg] at this
   rw [this]
  rw [hf]
  rcases hi with rfl | rfl | rfl
  ·rw [p0, show i * 3 % 3 = 0 by omega]; rfl
  ·rw [p1, show (i * 3 + 1) % 3 = 1 by omega]; rfl
  ·rw [p2, show (i * 3 + 2) % 3 = 2 by omega]; rfl
 ·rw [List.getElem?_eq_none (l := (flatK enc3 3 A.toArray).toList) (by rw [Array.length_toList, size_flatK]; simpa using h), List.getElem?_eq_none (l := tvs A) (by rw [tvs_length]; exact h)]
theorem putCells_take {F cur : Array Value} (h : F.size ≤ cur.size) : (putCells id 0 F cur).toList.take F.size = F.toList := by
 apply List.ext_getElem?
 intro k
 rcases Nat.lt_or_ge k F.size with hk | hk
 ·rw [List.getElem?_take_of_lt hk]
  simp only [putCells, Array.getElem?_toList, Array.getElem?_mapIdx]
  rw [Array.getElem?_eq_getElem (show k < cur.size by omega), Array.getElem?_eq_getElem hk]
  simp [hk]
 ·rw [List.getElem?_take_eq_none hk, List.getElem?_eq_none (by simpa using hk)]
theorem sortWorldK_at {enc : A3 → List Value} {w : World} {g m : Nat} {d : Array A3} {os : Array Obj} {cur : Array Value} {e : TypeId} {fr : Nat × Nat} (hg : w.heap[g]? = some (.cells cur e fr)) : (sortWorldK enc 3 w g 0 m d os).heap[g]? = some (.cells (putCells id 0 (flatK enc 3 d) cur) e fr) := by
 have hlt := (Array.getElem?_eq_some_iff.1 hg).1
 unfold sortWorldK Sort.grow putRowK putRow mapBlock
 simp only
 rw [Array.getElem?_append_left (by simp [Sort.ahead]; exact hlt), Array.getElem?_modify]
 simp [Sort.ahead, hg, onCells]
theorem sortWorldK_grown {enc : A3 → List Value} {w : World} {g m : Nat} {d : Array A3} {os : Array Obj} : w.grownBy (sortWorldK enc 3 w g 0 m d os) (some g) := by
 refine ⟨rfl, rfl, rfl, by unfold sortWorldK Sort.grow putRowK putRow mapBlock; simp [Sort.ahead], fun k hk hne => ?_⟩
 unfold sortWorldK Sort.grow putRowK putRow mapBlock
 simp only
 rw [Array.getElem?_append_left (by simp [Sort.ahead]; exact hk), Array.getElem?_modify, if_neg (fun e => hne (by rw [e]))]
 rfl
theorem sorted_row {w : World} {B e g c n m : Nat} {A A' : List A3} {os : Array Obj} (h : w.ownsRow B e 3 (.slice (some ⟨g, 0, none⟩) n c) n (tvs A)) (hl : A'.length = A.length) : (sortWorldK enc3 3 w g 0 m A'.toArray os).ownsRow B e 3 (.slice (some ⟨g, 0, none⟩) n c) n (tvs A') := by
 have hlen := h.1
 rw [tvs_length] at hlen
 rcases h.2 with ⟨e1, _⟩ | ⟨g', cap, cur, e1, hB, hg, h1, h2, h3, h4⟩
 ·cases e1
 ·injection e1 with e1 _ e2
  injection e1 with e1
  injection e1 with e1
  subst e1 e2
  refine ⟨by rw [tvs_length]; omega, .inr ⟨g, c, _, rfl, hB, sortWorldK_at hg, h1, h2, by simp [putCells]; exact h3, ?_⟩⟩
  have hs : (flatK enc3 3 A'.toArray).size = n * 3 := by rw [size_flatK]; simp; omega
  have hle : n * 3 ≤ c * 3 := Nat.mul_le_mul_right 3 h1
  have := putCells_take (F := flatK enc3 3 A'.toArray) (cur := cur) (by rw [hs, h3]; exact hle)
  rw [hs, flat3] at this
  exact this
theorem holds_row {w : World} {B e g c n : Nat} {A : List A3} (h : w.ownsRow B e 3 (.slice (some ⟨g, 0, none⟩) n c) n (tvs A)) : HoldsK enc3 3 w g 0 A.toArray ∧ g < w.heap.size ∧ A.length = n := by
 have hlen := h.1
 rw [tvs_length] at hlen
 have hn : A.length = n := by omega
 refine ⟨fun j hj => ?_, (h.lt g rfl).2, hn⟩
 rw [size_flatK] at hj
 simp only [List.size_toArray] at hj
 rw [Nat.zero_add]
 refine ⟨?_, h.frozenAt j⟩
 rw [h.cellAt j (by omega)]
 have hf := congrArg (fun l => l[j]?) (flat3 A)
 rw [← hf, Array.getElem?_toList, Array.getElem?_eq_getElem (by rw [size_flatK]; simpa using hj), getElem!_pos _ j (by rw [size_flatK]; simpa using hj)]
 rfl
theorem perm_list {lt : A3 → A3 → Bool} {A : List A3} {d' : Array A3} (hp : PermIn 0 A.toArray.size A.toArray d') (hs : SortedIn lt 0 A.toArray.size d') : d'.toList.Perm A ∧ d'.toList.Pairwise (fun x y => lt y x = false) := by
 obtain ⟨h1, _, h3⟩ := hp
 have e1 : A.toArray.extract 0 A.toArray.size = A.toArray := by simp
 have e2 : d'.extract 0 A.toArray.size = d' := by rw [← h1]; simp
 rw [e1, e2] at h3
 refine ⟨h3, List.pairwise_iff_getElem.2 fun i j hi hj hij => ?_⟩
 have hjs : j < A.toArray.size := by rw [← h1]; simpa using hj
 have := hs i j (Nat.zero_le _) hij hjs
 rw [getElem!_pos d' j (by simpa using hj), getElem!_pos d' i (by simpa using hi)] at this
 simpa using this
end Go.Proofs.YtofaifeadhimjaaGreatDoor

set_option linter.unusedSimpArgs false
set_option linter.unusedVariables false
namespace Go.Proofs.YtofaifeadhimjaaGreatDoor
open Go.RowKit Go.Sort

theorem swo_ord : SWO (ltOf ordN) where
 irrefl x := by simp [ltOf, ordN_lt, LtN.irrefl]
 trans x y z h1 h2 := by simp [ltOf, ordN_lt] at *; exact LtN.trans h1 h2
 ntrans x y z h1 h2 := by
  simp [ltOf, ordN_lt] at *
  unfold LtN at *
  omega
theorem cmp_lays (blk off size : Nat) (w : World) : CmpLays Tryz.prog 33 #[] enc3 3 ordN blk off size w := fun m os dk hs x y => by
 refine (order_grew x y _).mono ?_
 rintro e w' ⟨rfl, hb, hd⟩
 exact ⟨rfl, grew_of hb hd⟩
set_option maxRecDepth 20000 in
theorem ins_nil (a : Option Addr) (c : Nat) (f : Value) (w : World) : Calls Tryz.prog 67 #[.slice a 0 c, .int .i64 0, .int .i64 0, f] w fun e w' => e = .returned (.tuple #[]) ∧ w = w' := by
 go_enter Tryz.func67, Tryz.ntmps67
 go_wp2
 refine wp_loop_rounds 1 ?_
 rw [rounds_succ]
 go_wp2
 exact ⟨rfl, _, results_none rfl _ _ _, rfl, rfl⟩
set_option maxRecDepth 20000 in
theorem pdq_nil (a : Option Addr) (c : Nat) (f : Value) (l : Int) (w : World) : Calls Tryz.prog 56 #[.slice a 0 c, .int .i64 0, .int .i64 0, .int .i64 l, f] w fun e w' => e = .returned (.tuple #[]) ∧ w = w' := by
 go_enter Tryz.func56, Tryz.ntmps56
 go_wp2
 refine wp_loop_rounds 1 ?_
 rw [rounds_succ]
 go_wp2_with (go_at_call 67; refine (ins_nil a c f w).mono ?_; rintro e w' ⟨rfl, rfl⟩)
 refine bodyPost_ret (results_none rfl _ _ _) rfl ?_
 exact ⟨rfl, rfl⟩
set_option maxRecDepth 20000 in
theorem sort_nil (a : Option Addr) (c : Nat) (w : World) : Calls Tryz.prog 32 #[.slice a 0 c, .func (.func 33) #[] #[]] w fun e w' => e = .returned (.tuple #[]) ∧ w = w' := by
 go_enter Tryz.func32, Tryz.ntmps32
 go_wp2_with (first | (go_at_call 57; refine (Tryz.bits_Len 0 w (by omega) (by omega)).mono ?_; rintro e w' ⟨rfl, hw⟩; subst hw) | (go_at_call 56; refine (pdq_nil a c _ _ _).mono ?_; rintro e w' ⟨rfl, rfl⟩))
 exact ⟨rfl, _, results_none rfl _ _ _, rfl, rfl⟩
theorem sort_arcs {w : World} {B c n : Nat} {a : Option Addr} {A : List A3} (h : w.ownsRow B 50 3 (.slice a n c) n (tvs A)) (hn : A.length ≤ 100000000) :
  Calls Tryz.prog 32 #[.slice a n c, .func (.func 33) #[] #[]] w fun e w' => e = .returned (.tuple #[]) ∧ (∃ A', A'.Perm A ∧ A'.Pairwise (fun x y => ¬ LtN y x) ∧ w'.ownsRow B 50 3 (.slice a n c) n (tvs A')) ∧ w.grownBy w' (Value.slice a n c).ownBlock := by
 rcases h.2 with ⟨e, h0⟩ | ⟨g, cap, cur, e, _⟩
 ·injection e with e1 e2 e3
  subst e1 e3 h0
  have hA : A = [] := by
   have := h.1
   rw [tvs_length] at this
   exact List.eq_nil_of_length_eq_zero (by omega)
  subst hA
  refine (sort_nil none 0 w).mono ?_
  rintro e w' ⟨rfl, rfl⟩
  exact ⟨rfl, ⟨[], .refl _, List.Pairwise.nil, h⟩, World.grownBy.refl _ _⟩
 ·injection e with e1 e2 e3
  subst e1 e3
  obtain ⟨hH, hlt, hl⟩ := holds_row h
  have eg : ∀ args w, (callFunc 33 args).run Tryz.prog w = .ok (.enter 33 args) w := enters_of Tryz.func33 (by kernel_rfl) rfl
  have hcon := AnyQ.slices_SortFunc Tryz.sortArc 3 Tryz.isAgg50 Tryz.sizeOf50 enc3 enc3_len enc3_one ordN swo_ord 33 #[] g 0 c A.toArray w eg (cmp_lays g 0 A.toArray.size w) hH hlt (by simp; omega)
  change Calls Tryz.prog 32 _ _ _ at hcon
  rw [show A.toArray.size = n by simpa using hl] at hcon
  refine hcon.mono ?_
  rintro e w' ⟨rfl, d', m, os, hp, hs, rfl⟩
  have hn' : n = A.toArray.size := by simpa using hl.symm
  rw [hn'] at hp hs
  obtain ⟨p1, p2⟩ := perm_list hp hs
  refine ⟨rfl, ⟨d'.toList, p1, List.Pairwise.imp (fun h => by simpa [ltOf, ordN_lt] using h) p2, ?_⟩, sortWorldK_grown⟩
  have := sorted_row (m := m) (os := os) h p1.length_eq
  simpa using this
end Go.Proofs.YtofaifeadhimjaaGreatDoor
