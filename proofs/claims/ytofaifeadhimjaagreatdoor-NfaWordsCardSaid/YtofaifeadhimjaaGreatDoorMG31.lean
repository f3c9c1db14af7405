import Derived.Test.YtofaifeadhimjaaGreatDoorShelf
import Derived.Sort.OwnSortedInts
import Derived.Test.YtofaifeadhimjaaGreatDoorMG10
import Derived.Test.YtofaifeadhimjaaGreatDoorMG28
/-
  NfaSo, NfaLv
-/
set_option linter.unusedVariables false
namespace Go.Proofs.YtofaifeadhimjaaGreatDoor
open Go.RowKit Go.Sort Go.Lib

theorem mergeSort_asc (l : List Int) : (l.mergeSort fun x y => decide (x ≤ y)).Pairwise (· ≤ ·) := by
 have := List.pairwise_mergeSort (le := fun (x y : Int) => decide (x ≤ y)) (fun a b c h1 h2 => by simp at *; omega) (fun a b => by simp; omega) l
 exact this.imp fun h => by simpa using h
theorem sort_own {w : World} {B : Nat} {v : Value} {zs : List Int} (h : w.ownsRow B 3 1 v zs.length (ivs .i64 zs)) (hn : zs.length < 4611686018427387904) :
  Calls Tryz.prog 54 #[v] w fun e w' => e = .returned (.tuple #[]) ∧ w'.ownsRow B 3 1 v zs.length (ivs .i64 (zs.mergeSort fun x y => decide (x ≤ y))) ∧ w.grownBy w' v.ownBlock := by
 have hl : (zs.mergeSort fun x y => decide (x ≤ y)).length = zs.length := List.length_mergeSort zs
 rcases h.2 with ⟨rfl, h0⟩ | ⟨g, cap, cur, rfl, hB, hg, h1, h2, h3, h4⟩
 ·have hz : zs = [] := List.eq_nil_of_length_eq_zero h0
  subst hz
  refine (Tryz.slices_Sort_int_none none 0 w).mono ?_
  rintro e w' ⟨rfl, rfl⟩
  exact ⟨rfl, by simpa using h, World.grownBy.refl _ _⟩
 ·rw [Nat.mul_one] at h4
  refine (Tryz.slices_Sort_int g 0 cap zs w (holds_of_blockI hg (by rw [h4]; rfl)) (Array.getElem?_eq_some_iff.1 hg).1 hn).mono ?_
  rintro e w' ⟨rfl, n, os, rfl⟩
  exact ⟨rfl, ownsRow_sortedI hl hB hg h1 h2 h3, grownBy_sortedI _⟩
theorem owns_cut {w : World} {B e n cap m : Nat} {ao : Option Addr} {xs : List Value} (h : w.ownsRow B e 1 (.slice ao n cap) n xs) (hm : m ≤ n) (h0 : ao = none → m = n) : w.ownsRow B e 1 (.slice ao m cap) m (xs.take m) := by
 have hx := h.1
 rcases h.2 with ⟨e1, h0'⟩ | ⟨g, c, cur, e1, hB, hg, h1, h2, h3, h4⟩
 ·injection e1 with e1 e2 e3
  subst e1 e3
  have := h0 rfl
  subst this
  subst h0'
  have : xs = [] := List.eq_nil_of_length_eq_zero (by simpa using hx)
  subst this
  exact World.ownsRow_nil _ _ _ _
 ·injection e1 with e1 e2 e3
  subst e1 e3
  refine ⟨by simp; omega, .inr ⟨g, cap, cur, rfl, hB, hg, by omega, h2, h3, ?_⟩⟩
  rw [← h4, List.take_take, Nat.mul_one, Nat.mul_one, Nat.min_eq_left hm]
theorem compact_own {w : World} {B : Nat} {v : Value} {zs : List Int} (h : w.ownsRow B 3 1 v zs.length (ivs .i64 zs)) (hn : zs.length ≤ 9223372036854775807) :
  Calls Tryz.prog 55 #[v] w fun e w' => ∃ v', e = .returned v' ∧ w'.ownsRow B 3 1 v' (compact zs).length (ivs .i64 (compact zs)) ∧ w.grownBy w' v.ownBlock ∧ v'.ownBlock = v.ownBlock := by
 have hle := compact_length_le zs
 rcases h.2 with ⟨rfl, h0⟩ | ⟨g, cap, cur, rfl, hB, hg, h1, h2, h3, h4⟩
 ·have hz : zs = [] := List.eq_nil_of_length_eq_zero h0
  subst hz
  refine (Tryz.slices_Compact_int_empty none 0 w).mono ?_
  rintro e w' ⟨rfl, rfl⟩
  exact ⟨_, rfl, World.ownsRow_nil _ _ _ _, World.grownBy.refl _ _, rfl⟩
 ·rw [Nat.mul_one] at h4
  refine (Tryz.slices_Compact_int g 0 cap zs w (holds_of_blockI hg (by rw [h4]; rfl)) hn h1).mono ?_
  rintro e w' ⟨rfl, q, rfl⟩
  have hl : (compact zs ++ List.replicate (zs.length - (compact zs).length) 0).length = zs.length := by simp; omega
  have ho := ownsRow_sortedI (n := q) (os := #[]) hl hB hg h1 h2 h3
  have hgr := grownBy_sortedI (w := w) (g := g) (n := q) (os := #[]) (compact zs ++ List.replicate (zs.length - (compact zs).length) 0).toArray
  rw [grow_empty] at ho hgr
  have hc := owns_cut ho hle (fun e => by cases e)
  refine ⟨_, rfl, ?_, hgr, rfl⟩
  have : ((compact zs ++ List.replicate (zs.length - (compact zs).length) 0).map (Value.int .i64)).take (compact zs).length = ivs .i64 (compact zs) := by
   rw [← List.map_take, List.take_left]; rfl
  rw [this] at hc
  exact hc

theorem compact_spec (l : List Int) (hs : l.Pairwise (· ≤ ·)) : ∀ m, m ≤ l.length → (compactUpTo l.toArray m).Pairwise (· < ·) ∧ (∀ z, z ∈ compactUpTo l.toArray m ↔ z ∈ l.take m) := by
 have get : ∀ j, j < l.length → l.toArray[j]! = gi l j := fun j hj => by simp [gi, List.getD, hj]
 intro m
 induction m with
 | zero => intro _; simp [compactUpTo]
 | succ m ih =>
  intro hm
  obtain ⟨h1, h2⟩ := ih (by omega)
  have hle : ∀ i, i ≤ m → gi l i ≤ gi l m := fun i hi => by
   rcases Nat.lt_or_ge i m with h | h
   ·rw [gi_eq l i (by omega), gi_eq l m (by omega)]
    exact List.pairwise_iff_getElem.1 hs i m (by omega) (by omega) h
   ·rw [show i = m by omega]; exact Int.le_refl _
  rw [compactUpTo_succ, get m (by omega)]
  cases hk : keeps l.toArray m with
  | true =>
   rw [if_pos rfl]
   refine ⟨?_, fun z => by rw [List.mem_append, h2, take_succ_gi l m (by omega), List.mem_append]⟩
   refine List.pairwise_append.2 ⟨h1, List.pairwise_singleton _ _, fun x hx y hy => ?_⟩
   rw [List.mem_singleton.1 hy]
   obtain ⟨i, hi, e⟩ := List.getElem_of_mem ((h2 x).1 hx)
   rw [List.length_take] at hi
   rw [List.getElem_take, ← gi_eq l i (by omega)] at e
   unfold keeps at hk
   have hk := of_decide_eq_true hk
   rcases hk with h0 | h0
   ·omega
   ·rw [get m (by omega), get (m - 1) (by omega)] at h0
    have a1 := hle (m - 1) (by omega)
    have a2 : gi l i ≤ gi l (m - 1) := by
     rcases Nat.lt_or_ge i (m - 1) with h | h
     ·rw [gi_eq l i (by omega), gi_eq l (m - 1) (by omega)]
      exact List.pairwise_iff_getElem.1 hs i (m - 1) (by omega) (by omega) h
     ·rw [show i = m - 1 by omega]; exact Int.le_refl _
    omega
  | false =>
   rw [if_neg (by simp), List.append_nil]
   refine ⟨h1, fun z => ?_⟩
   rw [h2, take_succ_gi l m (by omega), List.mem_append, List.mem_singleton]
   constructor
   ·exact .inl
   ·rintro (h | rfl)
    ·exact h
    ·unfold keeps at hk
     have hk := of_decide_eq_false hk
     have hm0 : m ≠ 0 := fun h => hk (.inl h)
     have : l.toArray[m]! = l.toArray[m - 1]! := Classical.byContradiction fun h => hk (.inr h)
     rw [get m (by omega), get (m - 1) (by omega)] at this
     rw [this]
     exact List.mem_iff_getElem.2 ⟨m - 1, by rw [List.length_take]; omega, by rw [List.getElem_take, ← gi_eq l _ (by omega)]⟩
theorem compact_sorted (zs : List Int) : (compact (zs.mergeSort fun x y => decide (x ≤ y))).Pairwise (· < ·) ∧ ∀ z, z ∈ compact (zs.mergeSort fun x y => decide (x ≤ y)) ↔ z ∈ zs := by
 obtain ⟨h1, h2⟩ := compact_spec _ (mergeSort_asc zs) _ (Nat.le_refl _)
 refine ⟨h1, fun z => ?_⟩
 unfold compact
 rw [h2, List.take_of_length_le (Nat.le_refl _), List.mem_mergeSort]
end Go.Proofs.YtofaifeadhimjaaGreatDoor

set_option linter.unusedSimpArgs false
set_option linter.unusedVariables false
namespace Go.Proofs.YtofaifeadhimjaaGreatDoor
open Go.RowKit
attribute [local go_sem] Oper.semAt_some

def GivesR (l : List Int) (w : World) (e : Ending) (w' : World) : Prop := (∃ a c, e = .returned (.slice a l.length c) ∧ w'.ownsRow w.heap.size 3 1 (.slice a l.length c) l.length (ivs .i64 l)) ∧ Below w.heap.size w w'
theorem sort_compact {w : World} {B : Nat} {v : Value} {zs : List Int} (h : w.ownsRow B 3 1 v zs.length (ivs .i64 zs)) (hn : zs.length < 4611686018427387904) (hB : B ≤ w.heap.size) :
  Calls Tryz.prog 54 #[v] w fun e w' => e = .returned (.tuple #[]) ∧ Below B w w' ∧ Calls Tryz.prog 55 #[v] w' fun e' w'' => ∃ a c l, e' = .returned (.slice a l.length c) ∧ w''.ownsRow B 3 1 (.slice a l.length c) l.length (ivs .i64 l) ∧ Below B w' w'' ∧ l.Pairwise (· < ·) ∧ ∀ z, z ∈ l ↔ z ∈ zs := by
 refine (sort_own h hn).mono ?_
 rintro e w1 ⟨rfl, h1, hg1⟩
 have hb1 : Below B w w1 := (Below.refl B w).grown hg1 hB (fun k hk => (h.lt k hk).1)
 have hl : (zs.mergeSort fun x y => decide (x ≤ y)).length = zs.length := List.length_mergeSort zs
 refine ⟨rfl, hb1, ?_⟩
 rw [← hl] at h1
 refine (compact_own h1 (by omega)).mono ?_
 rintro e w2 ⟨v', rfl, h2, hg2, -⟩
 obtain ⟨a, c, rfl, -⟩ := owns_slice h2
 obtain ⟨h3, h4⟩ := compact_sorted zs
 exact ⟨a, c, _, rfl, h2, (Below.refl B w1).grown hg2 (by have := hb1.size; omega) (fun k hk => (h1.lt k hk).1), h3, h4⟩
theorem outsN_mem {ar : List A3} {q : Int} {x : A3} : x ∈ outsN ar q ↔ x ∈ ar ∧ x.f = q ∧ 1 ≤ x.l := by
 unfold outsN
 rw [List.mem_filter]
 simp
def lvT (ar : List A3) (S : List Int) : List Int := S.flatMap fun q => (outsN ar q).map A3.l
theorem lvT_take (ar : List A3) (S : List Int) {i : Nat} (hi : i < S.length) : lvT ar (S.take (i + 1)) = lvT ar (S.take i) ++ (outsN ar (gi S i)).map A3.l := by
 unfold lvT
 rw [take_succ_gi S i hi, List.flatMap_append]
 simp
theorem lvT_len (ar : List A3) : ∀ S : List Int, (lvT ar S).length ≤ S.length * ar.length
 | [] => by simp [lvT]
 | q :: S => by
  have h := lvT_len ar S
  have h2 : (outsN ar q).length ≤ ar.length := List.length_filter_le _ _
  unfold lvT at h ⊢
  rw [List.flatMap_cons, List.length_append, List.length_map, List.length_cons, Nat.succ_mul]
  omega
theorem mem_lvT {a : Nfa} (hv : ValidN a) {c : Int} {S : List Int} : c ∈ lvT a.arcs S ↔ c ∈ lvL a.arcs S := by
 rw [mem_lvL]
 unfold lvT
 rw [List.mem_flatMap]
 constructor
 ·rintro ⟨q, hq, hc⟩
  obtain ⟨x, hx, rfl⟩ := List.mem_map.1 hc
  obtain ⟨h1, h2, h3⟩ := outsN_mem.1 hx
  have := (hv.arc h1).2
  exact ⟨⟨by omega, this.2⟩, x, h1, rfl, by rw [h2]; exact hq⟩
 ·rintro ⟨⟨h1, h2⟩, x, hx, rfl, h3⟩
  exact ⟨x.f, h3, List.mem_map.2 ⟨x, outsN_mem.2 ⟨hx, rfl, by omega⟩, rfl⟩⟩
theorem part_succ (ar : List A3) {lo k : Nat} (h1 : lo ≤ k) (h2 : k < ar.length) : (ar.drop lo).take (k + 1 - lo) = (ar.drop lo).take (k - lo) ++ [g3 ar k] := by
 rw [show k + 1 - lo = (k - lo) + 1 by omega, take_succ_g3 _ _ (by rw [List.length_drop]; omega)]
 congr 2
 unfold g3
 rw [List.getD_eq_getElem?_getD, List.getD_eq_getElem?_getD, List.getElem?_drop]
 congr 2
 omega
set_option maxRecDepth 20000 in
set_option maxHeartbeats 4000000 in
theorem leaving_any {a : Nfa} {h : NH} {w : World} {aq : Option Addr} {lq cq : Nat} {zs S : List Int} (hv : ValidN a) (hd : IsNfa w h a) (hs : IsInts .u64 w aq lq cq zs) (hz : Bt.SetIs zs (inL S)) (hS : CS a S) (hT : TabW w) :
  Calls Tryz.prog 28 #[vNf a h, .slice aq lq cq] w (GivesR (lvL a.arcs S) w) := by
 have HV := Lib.hid hv
 obtain ⟨W1, hW1, hs1, hb1, hO⟩ := boxNW a h w hd
 have hls := list_S (hs.later hb1) hz hS.2.2 hS.1 (by have := hv.1; omega) (hT.later hb1)
 have hSl : S.length ≤ 200 := hS.len hv
 have HSS := Lib.hid hS
 have HO := Lib.hid hO
 have HS1 := Lib.hid hs1
 have HB1 := Lib.hid hb1
 obtain ⟨⟨c1, c2, c3, c4⟩, -, -⟩ := hO W1 (by rw [← hs1]; exact Below.refl _ _)
 have hal := hd.arcs.length
 have hal2 : h.al ≤ 2000 := by have := hv.2.2.1; omega
 have HAL := Lib.hid hal
 unfold vNf
 have HLS := Lib.hid hls
 clear hv hd hs hz hS hT hO hb1 hs1 hls hal
 go_enter Tryz.func28, Tryz.ntmps28
 go_wp2_with (go_at_call 46; refine HLS.out.mono ?_; rintro e w3 ⟨⟨aS, cS, rfl, hiS⟩, hb3⟩; have HIS := Lib.hid hiS; have HB3 := Lib.hid hb3; clear hiS hb3)
 clear hW1 c1 c2 c3 c4
 have HB31 : Hid (Below (w.heap.size + 1) W1 w3) := Lib.hid (by rw [← HS1.out]; exact HB3.out)
 have HSZ : Hid (w.heap.size + 1 ≤ w3.heap.size) := Lib.hid (by have := HB3.out.size; have := HS1.out; omega)
 obtain ⟨Ls, hLs⟩ : ∃ Ls, S.length = Ls := ⟨_, rfl⟩
 have HLs := Lib.hid hLs
 rw [hLs] at HIS hSl ⊢
 clear hLs
 go_loopw [5, 13] (fun vt c' W => ∃ (i : Nat) (at' : Option Addr) (ct : Nat), i ≤ Ls ∧ c' = .int .i64 (i : Int) ∧ vt = .slice at' (lvT a.arcs (S.take i)).length ct ∧ W.ownsRow w3.heap.size 3 1 (.slice at' (lvT a.arcs (S.take i)).length ct) (lvT a.arcs (S.take i)).length (ivs .i64 (lvT a.arcs (S.take i))) ∧ Below w3.heap.size w3 W) (fun _ c' _ => Ls - (intOf c').toNat)
 case atStart => exact ⟨0, none, 0, Nat.zero_le _, rfl, rfl, World.ownsRow_nil _ _ _ _, Below.refl _ _⟩
 case round =>
  obtain ⟨i, at', ct, hi, rfl, rfl, ho, hb⟩ := hrel
  have hBw : Below (w.heap.size + 1) W1 wr := HB31.out.trans (hb.mono HSZ.out)
  obtain ⟨⟨c1, c2, c3, c4⟩, hdr, -⟩ := HO.out wr hBw
  have hml : (lvT a.arcs (S.take i)).length ≤ 400000 := by
   have h1 := lvT_len a.arcs (S.take i)
   rw [List.length_take] at h1
   have h2 := HV.out.2.2.1
   have h3 : min i S.length * a.arcs.length ≤ 200 * 2000 := Nat.mul_le_mul (by omega) h2
   omega
  rcases Nat.lt_or_ge i Ls with hlt | hge
  ·have t3 : decide (i < Ls) = true := decide_eq_true hlt
   obtain ⟨bS, oS, rfl, hbl, hcS⟩ := HIS.out.at wr hb i hlt
   have HT := lvT_take a.arcs S (i := i) (by rw [HLs.out]; exact hlt)
   obtain ⟨q, hq⟩ : ∃ q, gi S i = q := ⟨_, rfl⟩
   rw [hq] at hcS HT
   have hse := search_any h.aa h.al h.ac a.arcs q 1 wr hdr.arcs HV.out.sorted (by omega)
   simp only [vA] at hse
   obtain ⟨lo, hlo⟩ : ∃ lo, loN a.arcs ⟨q, 1, -1⟩ = lo := ⟨_, rfl⟩
   rw [hlo] at hse
   have HLO := Lib.hid hlo
   have hlol : lo ≤ h.al := by rw [← hlo, ← HAL.out]; exact loN_le _ _
   obtain ⟨T0, hT0⟩ : ∃ T0, lvT a.arcs (S.take i) = T0 := ⟨_, rfl⟩
   rw [hT0] at ho HT hml ⊢
   have HTT := Lib.hid HT
   have HOW := Lib.hid ho
   have HB := Lib.hid hb
   clear HT hq hT0 hdr ho hb hBw hlo
   go_wp2_with (go_at_call 53; refine hse.mono ?_; rintro e w5 ⟨⟨bb, rfl⟩, hb5⟩; have HB5 := Lib.hid hb5; clear hb5)
   clear c1 c2 c3 c4 hse
   go_loopw [5, 8] (fun vt c' W => ∃ (r : Nat) (at' : Option Addr) (ct : Nat), lo ≤ r ∧ r ≤ h.al ∧ c' = .int .i64 (r : Int) ∧ vt = .slice at' (T0.length + (r - lo)) ct ∧ W.ownsRow w3.heap.size 3 1 (.slice at' (T0.length + (r - lo)) ct) (T0.length + (r - lo)) (ivs .i64 (T0 ++ ((a.arcs.drop lo).take (r - lo)).map A3.l)) ∧ Hid (∀ j, lo ≤ j → j < r → (g3 a.arcs j).f = q) ∧ Below w3.heap.size w3 W) (fun _ c' _ => h.al - (intOf c').toNat)
   case atStart => exact ⟨lo, at', ct, Nat.le_refl _, hlol, rfl, by rw [Nat.sub_self]; rfl, by rw [Nat.sub_self]; simpa using HOW.out.kept_below HB5.out, Lib.hid (fun j h1 h2 => by omega), HB.out.trans (HB5.out.mono HB.out.size)⟩
   case round =>
    clear HB5
    obtain ⟨r, at2, ct2, hr0, hr, rfl, rfl, ho, HF, hb⟩ := hrel
    obtain ⟨⟨c1, c2, c3, c4⟩, hdr, -⟩ := HO.out wr (HB31.out.trans (hb.mono HSZ.out))
    have hsz : w3.heap.size ≤ wr.heap.size := hb.size
    rcases Nat.lt_or_ge r h.al with hlt2 | hge2
    ·have t4 : decide ((r : Int) < (h.al : Int)) = true := decide_eq_true (by omega)
     have t4' : decide (r < h.al) = true := decide_eq_true hlt2
     obtain ⟨bA, oA, hA, hcA⟩ := hdr.arcs.fix (by omega)
     obtain ⟨y1, y2, y3⟩ := hcA wr (Below.refl _ _) r hlt2
     rw [hA] at c4
     have HP := part_succ a.arcs hr0 (by rw [HAL.out]; exact hlt2)
     obtain ⟨⟨x, xl, y⟩, hx⟩ : ∃ x, g3 a.arcs r = x := ⟨_, rfl⟩
     rw [hx] at y1 y2 y3 HP
     simp only at y1 y2 y3
     have HX := Lib.hid hx
     have HPP := Lib.hid HP
     have HB := Lib.hid hb
     clear HP hx hcA hdr hA hb
     by_cases hf : x = q
     ·have t5 : (x == q) = true := by simpa using hf
      have HF2 : Hid (∀ j, lo ≤ j → j < r + 1 → (g3 a.arcs j).f = q) := Lib.hid (fun j h1 h2 => by
       rcases Nat.lt_or_ge j r with h3 | h3
       ·exact HF.out j h1 h3
       ·rw [show j = r by omega, HX.out]; exact hf)
      have HE : Hid (T0 ++ ((a.arcs.drop lo).take (r + 1 - lo)).map A3.l = T0 ++ ((a.arcs.drop lo).take (r - lo)).map A3.l ++ [xl] ∧ T0.length + (r + 1 - lo) = T0.length + (r - lo) + 1) := Lib.hid ⟨by rw [HPP.out, List.map_append, List.append_assoc]; rfl, by omega⟩
      clear hf
      go_wp2_with (at_builtin; refine app_one (k := .i64) elI64 rfl _ _ rfl rfl ho rfl (by omega) hsz ?_; intro a3 c3 w6 ho6 hb6)
      go_roundw
      case rel => exact ⟨r + 1, a3, c3, by omega, hlt2, by go_num, by rw [HE.out.2], by rw [HE.out.1, HE.out.2]; exact ho6, HF2, HB.out.trans hb6⟩
      case measure => simp [intOf]; omega
     ·have t5 : (x == q) = false := by simpa using hf
      have HE : Hid (T0 ++ ((a.arcs.drop lo).take (r - lo)).map A3.l = lvT a.arcs (S.take (i + 1)) ∧ T0.length + (r - lo) = (lvT a.arcs (S.take (i + 1))).length) := Lib.hid (by
       have h1 := outsN_part HV.out.sorted (fun x hx => (HV.out.arc hx).1.2.1) q (k := r) (by rw [HAL.out]; exact hr) (by rw [HLO.out]; exact hr0) (by rw [HLO.out]; exact HF.out) (fun _ => by rw [HX.out]; exact hf)
       rw [HLO.out] at h1
       rw [HTT.out, ← h1]
       refine ⟨rfl, ?_⟩
       rw [List.length_append, List.length_map, List.length_take, List.length_drop]
       have := HAL.out
       omega)
      clear hf
      go_wp2_with (fail)
      go_roundw
      case rel => exact ⟨i + 1, at2, ct2, hlt, by go_num, by rw [HE.out.2], by rw [← HE.out.2, ← HE.out.1]; exact ho, HB.out⟩
      case measure => simp [intOf]; omega
    ·obtain rfl : r = h.al := by omega
     have t4 : decide ((h.al : Int) < (h.al : Int)) = false := decide_eq_false (by omega)
     have HE : Hid (T0 ++ ((a.arcs.drop lo).take (h.al - lo)).map A3.l = lvT a.arcs (S.take (i + 1)) ∧ T0.length + (h.al - lo) = (lvT a.arcs (S.take (i + 1))).length) := Lib.hid (by
      have h1 := outsN_part HV.out.sorted (fun x hx => (HV.out.arc hx).1.2.1) q (k := h.al) (by rw [HAL.out]; exact hr) (by rw [HLO.out]; exact hr0) (by rw [HLO.out]; exact HF.out) (fun hh => by rw [HAL.out] at hh; omega)
      rw [HLO.out] at h1
      rw [HTT.out, ← h1]
      refine ⟨rfl, ?_⟩
      rw [List.length_append, List.length_map, List.length_take, List.length_drop]
      have := HAL.out
      omega)
     have HB := Lib.hid hb
     clear hdr hb
     go_wp2_with (fail)
     go_roundw
     case rel => exact ⟨i + 1, at2, ct2, hlt, by go_num, by rw [HE.out.2], by rw [← HE.out.2, ← HE.out.1]; exact ho, HB.out⟩
     case measure => simp [intOf]; omega
  ·obtain rfl : i = Ls := by omega
   have t3 : decide (i < i) = false := decide_eq_false (by omega)
   have hall : lvT a.arcs (S.take i) = lvT a.arcs S := by rw [List.take_of_length_le (by rw [HLs.out]; exact Nat.le_refl _)]
   rw [hall] at ho hml ⊢
   have hsc := sort_compact ho (by omega) hb.size
   have HBB : Hid (Below w.heap.size w wr) := Lib.hid (HB1.out.trans (hBw.mono (by omega)))
   have HSB : Hid (w.heap.size ≤ w3.heap.size) := Lib.hid (by have := HSZ.out; omega)
   clear hall hb hBw ho hdr
   go_wp2_with (first | (go_at_call 54; refine hsc.mono ?_; rintro e w6 ⟨rfl, hb6, hsc2⟩) | (go_at_call 55; refine hsc2.mono ?_; rintro e w7 ⟨ar, cr, l, rfl, ho7, hb7, hl1, hl2⟩))
   go_ret
   have e : l = lvL a.arcs S := pairwise_ext hl1 (lvL_asc _ _) fun z => (hl2 z).trans (mem_lvT HV.out)
   rw [← e]
   exact ⟨⟨_, _, rfl, ho7.from_mono HSB.out⟩, HBB.out.trans ((hb6.trans hb7).mono HSB.out)⟩
end Go.Proofs.YtofaifeadhimjaaGreatDoor
