import Derived.Laws.ResultCell
import Derived.Test.YtbjdglopkpigbaaGreatDoorMG23
import Derived.Test.YtbjdglopkpigbaaGreatDoorMG41
/-
  NaLv, NaSb, NaDt
-/
set_option linter.unusedSimpArgs false
set_option linter.unusedVariables false
namespace Go.Proofs.YtbjdglopkpigbaaGreatDoor.Na
open Go.RowKit
attribute [local go_sem] Oper.semAt_some
def GivesR (l : List Int) (w : World) (e : Ending) (w' : World) : Prop := (∃ a c, e = .returned (.slice a l.length c) ∧ w'.ownsRow w.heap.size 3 1 (.slice a l.length c) l.length (ivs .i64 l)) ∧ Below w.heap.size w w'
theorem sort_compact {w : World} {B : Nat} {v : Value} {zs : List Int} (h : w.ownsRow B 3 1 v zs.length (ivs .i64 zs)) (hn : zs.length < 4611686018427387904) (hB : B ≤ w.heap.size) :
  Calls Tryz.prog 80 #[v] w fun e w' => e = .returned (.tuple #[]) ∧ Below B w w' ∧ Calls Tryz.prog 81 #[v] w' fun e' w'' => ∃ a c l, e' = .returned (.slice a l.length c) ∧ w''.ownsRow B 3 1 (.slice a l.length c) l.length (ivs .i64 l) ∧ Below B w' w'' ∧ l.Pairwise (· < ·) ∧ ∀ z, z ∈ l ↔ z ∈ zs := by
 refine (sort_own h hn).mono ?_
 rintro e w1 ⟨rfl, h1, hg1⟩
 have hb1 : Below B w w1 := (Below.refl B w).grown hg1 hB (fun k hk => (h.lt k hk).1)
 have hl : (zs.mergeSort fun x y => decide (x ≤ y)).length = zs.length := List.length_mergeSort zs
 refine ⟨rfl, hb1, ?_⟩
 rw [← hl] at h1
 refine (compact_own h1 (by omega)).mono ?_
 rintro e w2 ⟨v', rfl, h2, hg2, -⟩
 obtain ⟨a, c, rfl, -⟩ := owns_slice h2
 obtain ⟨h3, h4⟩ := compact_sorted zs
 exact ⟨a, c, _, rfl, h2, (Below.refl B w1).grown hg2 (by have := hb1.size; omega) (fun k hk => (h1.lt k hk).1), h3, h4⟩
theorem outsN_mem {ar : List A3} {q : Int} {x : A3} : x ∈ outsN ar q ↔ x ∈ ar ∧ x.f = q ∧ 1 ≤ x.l := by
 unfold outsN
 rw [List.mem_filter]
 simp
def lvT (ar : List A3) (S : List Int) : List Int := S.flatMap fun q => (outsN ar q).map A3.l
theorem lvT_take (ar : List A3) (S : List Int) {i : Nat} (hi : i < S.length) : lvT ar (S.take (i + 1)) = lvT ar (S.take i) ++ (outsN ar (gi S i)).map A3.l := by
 unfold lvT
 rw [take_succ_gi S i hi, List.flatMap_append]
 simp
theorem lvT_len (ar : List A3) : ∀ S : List Int, (lvT ar S).length ≤ S.length * ar.length
 | [] => by simp [lvT]
 | q :: S => by
  have h := lvT_len ar S
  have h2 : (outsN ar q).length ≤ ar.length := List.length_filter_le _ _
  unfold lvT at h ⊢
  rw [List.flatMap_cons, List.length_append, List.length_map, List.length_cons, Nat.succ_mul]
  omega
theorem mem_lvT {a : Nfa} (hv : ValidN a) {c : Int} {S : List Int} : c ∈ lvT a.arcs S ↔ c ∈ lvL a.arcs S := by
 rw [mem_lvL]
 unfold lvT
 rw [List.mem_flatMap]
 constructor
 ·rintro ⟨q, hq, hc⟩
  obtain ⟨x, hx, rfl⟩ := List.mem_map.1 hc
  obtain ⟨h1, h2, h3⟩ := outsN_mem.1 hx
  have := (hv.arc h1).2
  exact ⟨⟨by omega, this.2⟩, x, h1, rfl, by rw [h2]; exact hq⟩
 ·rintro ⟨⟨h1, h2⟩, x, hx, rfl, h3⟩
  exact ⟨x.f, h3, List.mem_map.2 ⟨x, outsN_mem.2 ⟨hx, rfl, by omega⟩, rfl⟩⟩
theorem part_succ (ar : List A3) {lo k : Nat} (h1 : lo ≤ k) (h2 : k < ar.length) : (ar.drop lo).take (k + 1 - lo) = (ar.drop lo).take (k - lo) ++ [g3 ar k] := by
 rw [show k + 1 - lo = (k - lo) + 1 by omega, take_succ_g3 _ _ (by rw [List.length_drop]; omega)]
 congr 2
 unfold g3
 rw [List.getD_eq_getElem?_getD, List.getD_eq_getElem?_getD, List.getElem?_drop]
 congr 2
 omega
set_option maxRecDepth 20000 in
set_option maxHeartbeats 4000000 in
theorem leaving_any {a : Nfa} {h : NH} {w : World} {aq : Option Addr} {lq cq : Nat} {zs S : List Int} (hv : ValidN a) (hd : IsNfa w h a) (hs : IsInts .u64 w aq lq cq zs) (hz : Bt.SetIs zs (inL S)) (hS : CS a S) (hT : TabW w) :
  Calls Tryz.prog 64 #[vNf a h, .slice aq lq cq] w (GivesR (lvL a.arcs S) w) := by
 have HV := Lib.hid hv
 obtain ⟨W1, hW1, hs1, hb1, hO⟩ := boxNW a h w hd
 have hls := list_S (hs.later hb1) hz hS.2.2 hS.1 (by have := hv.1; omega) (hT.later hb1)
 have hSl : S.length ≤ 200 := hS.len hv
 have HSS := Lib.hid hS
 have HO := Lib.hid hO
 have HS1 := Lib.hid hs1
 have HB1 := Lib.hid hb1
 obtain ⟨⟨c1, c2, c3, c4⟩, -, -⟩ := hO W1 (by rw [← hs1]; exact Below.refl _ _)
 have hal := hd.arcs.length
 have hal2 : h.al ≤ 2000 := by have := hv.2.2.1; omega
 have HAL := Lib.hid hal
 unfold vNf
 have HLS := Lib.hid hls
 clear hv hd hs hz hS hT hO hb1 hs1 hls hal
 go_enter Tryz.func64, Tryz.ntmps64
 go_wp2_with (go_at_call 47; refine HLS.out.mono ?_; rintro e w3 ⟨⟨aS, cS, rfl, hiS⟩, hb3⟩; have HIS := Lib.hid hiS; have HB3 := Lib.hid hb3; clear hiS hb3)
 clear hW1 c1 c2 c3 c4
 have HB31 : Hid (Below (w.heap.size + 1) W1 w3) := Lib.hid (by rw [← HS1.out]; exact HB3.out)
 have HSZ : Hid (w.heap.size + 1 ≤ w3.heap.size) := Lib.hid (by have := HB3.out.size; have := HS1.out; omega)
 obtain ⟨Ls, hLs⟩ : ∃ Ls, S.length = Ls := ⟨_, rfl⟩
 have HLs := Lib.hid hLs
 rw [hLs] at HIS hSl ⊢
 clear hLs
 go_loopw [5, 13] (fun vt c' W => ∃ (i : Nat) (at' : Option Addr) (ct : Nat), i ≤ Ls ∧ c' = .int .i64 (i : Int) ∧ vt = .slice at' (lvT a.arcs (S.take i)).length ct ∧ W.ownsRow w3.heap.size 3 1 (.slice at' (lvT a.arcs (S.take i)).length ct) (lvT a.arcs (S.take i)).length (ivs .i64 (lvT a.arcs (S.take i))) ∧ Below w3.heap.size w3 W) (fun _ c' _ => Ls - (intOf c').toNat)
 case atStart => exact ⟨0, none, 0, Nat.zero_le _, rfl, rfl, World.ownsRow_nil _ _ _ _, Below.refl _ _⟩
 case round =>
  obtain ⟨i, at', ct, hi, rfl, rfl, ho, hb⟩ := hrel
  have hBw : Below (w.heap.size + 1) W1 wr := HB31.out.trans (hb.mono HSZ.out)
  obtain ⟨⟨c1, c2, c3, c4⟩, hdr, -⟩ := HO.out wr hBw
  have hml : (lvT a.arcs (S.take i)).length ≤ 400000 := by
   have h1 := lvT_len a.arcs (S.take i)
   rw [List.length_take] at h1
   have h2 := HV.out.2.2.1
   have h3 : min i S.length * a.arcs.length ≤ 200 * 2000 := Nat.mul_le_mul (by omega) h2
   omega
  rcases Nat.lt_or_ge i Ls with hlt | hge
  ·have t3 : decide (i < Ls) = true := decide_eq_true hlt
   obtain ⟨bS, oS, rfl, hbl, hcS⟩ := HIS.out.at wr hb i hlt
   have HT := lvT_take a.arcs S (i := i) (by rw [HLs.out]; exact hlt)
   obtain ⟨q, hq⟩ : ∃ q, gi S i = q := ⟨_, rfl⟩
   rw [hq] at hcS HT
   have hse := search_any h.aa h.al h.ac a.arcs q 1 wr hdr.arcs HV.out.sorted (by omega)
   simp only [vA] at hse
   obtain ⟨lo, hlo⟩ : ∃ lo, loN a.arcs ⟨q, 1, -1⟩ = lo := ⟨_, rfl⟩
   rw [hlo] at hse
   have HLO := Lib.hid hlo
   have hlol : lo ≤ h.al := by rw [← hlo, ← HAL.out]; exact loN_le _ _
   obtain ⟨T0, hT0⟩ : ∃ T0, lvT a.arcs (S.take i) = T0 := ⟨_, rfl⟩
   rw [hT0] at ho HT hml ⊢
   have HTT := Lib.hid HT
   have HOW := Lib.hid ho
   have HB := Lib.hid hb
   clear HT hq hT0 hdr ho hb hBw hlo
   go_wp2_with (go_at_call 33; refine hse.mono ?_; rintro e w5 ⟨⟨bb, rfl⟩, hb5⟩; have HB5 := Lib.hid hb5; clear hb5)
   clear c1 c2 c3 c4 hse
   go_loopw [5, 8] (fun vt c' W => ∃ (r : Nat) (at' : Option Addr) (ct : Nat), lo ≤ r ∧ r ≤ h.al ∧ c' = .int .i64 (r : Int) ∧ vt = .slice at' (T0.length + (r - lo)) ct ∧ W.ownsRow w3.heap.size 3 1 (.slice at' (T0.length + (r - lo)) ct) (T0.length + (r - lo)) (ivs .i64 (T0 ++ ((a.arcs.drop lo).take (r - lo)).map A3.l)) ∧ Hid (∀ j, lo ≤ j → j < r → (g3 a.arcs j).f = q) ∧ Below w3.heap.size w3 W) (fun _ c' _ => h.al - (intOf c').toNat)
   case atStart => exact ⟨lo, at', ct, Nat.le_refl _, hlol, rfl, by rw [Nat.sub_self]; rfl, by rw [Nat.sub_self]; simpa using HOW.out.kept_below HB5.out, Lib.hid (fun j h1 h2 => by omega), HB.out.trans (HB5.out.mono HB.out.size)⟩
   case round =>
    clear HB5
    obtain ⟨r, at2, ct2, hr0, hr, rfl, rfl, ho, HF, hb⟩ := hrel
    obtain ⟨⟨c1, c2, c3, c4⟩, hdr, -⟩ := HO.out wr (HB31.out.trans (hb.mono HSZ.out))
    have hsz : w3.heap.size ≤ wr.heap.size := hb.size
    rcases Nat.lt_or_ge r h.al with hlt2 | hge2
    ·have t4 : decide ((r : Int) < (h.al : Int)) = true := decide_eq_true (by omega)
     have t4' : decide (r < h.al) = true := decide_eq_true hlt2
     obtain ⟨bA, oA, hA, hcA⟩ := hdr.arcs.fix (by omega)
     obtain ⟨y1, y2, y3⟩ := hcA wr (Below.refl _ _) r hlt2
     rw [hA] at c4
     have HP := part_succ a.arcs hr0 (by rw [HAL.out]; exact hlt2)
     obtain ⟨⟨x, xl, y⟩, hx⟩ : ∃ x, g3 a.arcs r = x := ⟨_, rfl⟩
     rw [hx] at y1 y2 y3 HP
     simp only at y1 y2 y3
     have HX := Lib.hid hx
     have HPP := Lib.hid HP
     have HB := Lib.hid hb
     clear HP hx hcA hdr hA hb
     by_cases hf : x = q
     ·have t5 : (x == q) = true := by simpa using hf
      have HF2 : Hid (∀ j, lo ≤ j → j < r + 1 → (g3 a.arcs j).f = q) := Lib.hid (fun j h1 h2 => by
       rcases Nat.lt_or_ge j r with h3 | h3
       ·exact HF.out j h1 h3
       ·rw [show j = r by omega, HX.out]; exact hf)
      have HE : Hid (T0 ++ ((a.arcs.drop lo).take (r + 1 - lo)).map A3.l = T0 ++ ((a.arcs.drop lo).take (r - lo)).map A3.l ++ [xl] ∧ T0.length + (r + 1 - lo) = T0.length + (r - lo) + 1) := Lib.hid ⟨by rw [HPP.out, List.map_append, List.append_assoc]; rfl, by omega⟩
      clear hf
      go_wp2_with (at_builtin; refine app_one (k := .i64) elI64 rfl _ _ rfl rfl ho rfl (by omega) hsz ?_; intro a3 c3 w6 ho6 hb6)
      go_roundw
      case rel => exact ⟨r + 1, a3, c3, by omega, hlt2, by go_num, by rw [HE.out.2], by rw [HE.out.1, HE.out.2]; exact ho6, HF2, HB.out.trans hb6⟩
      case measure => simp [intOf]; omega
     ·have t5 : (x == q) = false := by simpa using hf
      have HE : Hid (T0 ++ ((a.arcs.drop lo).take (r - lo)).map A3.l = lvT a.arcs (S.take (i + 1)) ∧ T0.length + (r - lo) = (lvT a.arcs (S.take (i + 1))).length) := Lib.hid (by
       have h1 := outsN_part HV.out.sorted (fun x hx => (HV.out.arc hx).1.2.1) q (k := r) (by rw [HAL.out]; exact hr) (by rw [HLO.out]; exact hr0) (by rw [HLO.out]; exact HF.out) (fun _ => by rw [HX.out]; exact hf)
       rw [HLO.out] at h1
       rw [HTT.out, ← h1]
       refine ⟨rfl, ?_⟩
       rw [List.length_append, List.length_map, List.length_take, List.length_drop]
       have := HAL.out
       omega)
      clear hf
      go_wp2_with (fail)
      go_roundw
      case rel => exact ⟨i + 1, at2, ct2, hlt, by go_num, by rw [HE.out.2], by rw [← HE.out.2, ← HE.out.1]; exact ho, HB.out⟩
      case measure => simp [intOf]; omega
    ·obtain rfl : r = h.al := by omega
     have t4 : decide ((h.al : Int) < (h.al : Int)) = false := decide_eq_false (by omega)
     have HE : Hid (T0 ++ ((a.arcs.drop lo).take (h.al - lo)).map A3.l = lvT a.arcs (S.take (i + 1)) ∧ T0.length + (h.al - lo) = (lvT a.arcs (S.take (i + 1))).length) := Lib.hid (by
      have h1 := outsN_part HV.out.sorted (fun x hx => (HV.out.arc hx).1.2.1) q (k := h.al) (by rw [HAL.out]; exact hr) (by rw [HLO.out]; exact hr0) (by rw [HLO.out]; exact HF.out) (fun hh => by rw [HAL.out] at hh; omega)
      rw [HLO.out] at h1
      rw [HTT.out, ← h1]
      refine ⟨rfl, ?_⟩
      rw [List.length_append, List.length_map, List.length_take, List.length_drop]
      have := HAL.out
      omega)
     have HB := Lib.hid hb
     clear hdr hb
     go_wp2_with (fail)
     go_roundw
     case rel => exact ⟨i + 1, at2, ct2, hlt, by go_num, by rw [HE.out.2], by rw [← HE.out.2, ← HE.out.1]; exact ho, HB.out⟩
     case measure => simp [intOf]; omega
  ·obtain rfl : i = Ls := by omega
   have t3 : decide (i < i) = false := decide_eq_false (by omega)
   have hall : lvT a.arcs (S.take i) = lvT a.arcs S := by rw [List.take_of_length_le (by rw [HLs.out]; exact Nat.le_refl _)]
   rw [hall] at ho hml ⊢
   have hsc := sort_compact ho (by omega) hb.size
   have HBB : Hid (Below w.heap.size w wr) := Lib.hid (HB1.out.trans (hBw.mono (by omega)))
   have HSB : Hid (w.heap.size ≤ w3.heap.size) := Lib.hid (by have := HSZ.out; omega)
   clear hall hb hBw ho hdr
   go_wp2_with (first | (go_at_call 80; refine hsc.mono ?_; rintro e w6 ⟨rfl, hb6, hsc2⟩) | (go_at_call 81; refine hsc2.mono ?_; rintro e w7 ⟨ar, cr, l, rfl, ho7, hb7, hl1, hl2⟩))
   go_ret
   have e : l = lvL a.arcs S := pairwise_ext hl1 (lvL_asc _ _) fun z => (hl2 z).trans (mem_lvT HV.out)
   rw [← e]
   exact ⟨⟨_, _, rfl, ho7.from_mono HSB.out⟩, HBB.out.trans ((hb6.trans hb7).mono HSB.out)⟩
end Go.Proofs.YtbjdglopkpigbaaGreatDoor.Na
namespace Go.Proofs.YtbjdglopkpigbaaGreatDoor.Na
open List (foldr_cons foldr_nil setIfInBounds_toArray set_cons_succ set_cons_zero)
open Go.RowKit
attribute [local go_sem] Oper.semAt_some
theorem bq1_qlen {α : Type} [DecidableEq α] (h : Nat) (st : Bq α) (x : Int × α) : (bq1 h st x).q.length ≤ st.q.length + 1 := by
 unfold bq1
 simp only
 split
 ·omega
 ·simp
theorem bqs_qlen {α : Type} [DecidableEq α] (h : Nat) : ∀ (l : List (Int × α)) (st : Bq α), (bqs h st l).q.length ≤ st.q.length + l.length
 | [], st => Nat.le_refl _
 | x :: l, st => by
  have h1 := bqs_qlen h l (bq1 h st x)
  have h2 := bq1_qlen h st x
  rw [bqs_cons, List.length_cons]
  omega
theorem bq1_arcs {α : Type} [DecidableEq α] (h : Nat) (st : Bq α) (c : Int) (x : α) : (bq1 h st (c, x)).a = st.a ++ [⟨h, c, (idxS (bq1 h st (c, x)).q x : Nat)⟩] := by
 unfold bq1
 simp only
 by_cases hx : x ∈ st.q
 ·rw [if_pos hx]; rfl
 ·rw [if_neg hx]
  rw [idxS_new hx]
  have : st.q.idxOf x = st.q.length := List.idxOf_eq_length hx
  rw [this]
theorem bq1_q {α : Type} [DecidableEq α] (h : Nat) (st : Bq α) (c : Int) (x : α) : (bq1 h st (c, x)).q = if x ∈ st.q then st.q else st.q ++ [x] := rfl
theorem pcs_iff' {W : World} {B : Nat} {ps : List Pc} : Pcs W B ps ↔ (∀ p ∈ ps, p.At W B) ∧ ps.Pairwise (fun p q => ∀ k, p.own = some k → q.own ≠ some k) := by
 constructor
 ·intro h
  refine ⟨fun p hp => ?_, List.pairwise_iff_getElem.2 fun i j hi hj hij => h.apart i j _ _ (by omega) (List.getElem?_eq_getElem hi) (List.getElem?_eq_getElem hj)⟩
  obtain ⟨i, hi, e⟩ := List.getElem_of_mem hp
  exact h.each i p (by rw [List.getElem?_eq_getElem hi, e])
 ·rintro ⟨h1, h2⟩
  refine ⟨fun i p hp => h1 p (List.mem_of_getElem? hp), fun i j p q hne hp hq k hk e => ?_⟩
  obtain ⟨hi, e1⟩ := List.getElem?_eq_some_iff.1 hp
  obtain ⟨hj, e2⟩ := List.getElem?_eq_some_iff.1 hq
  rcases Nat.lt_or_ge i j with hij | hij
  ·exact List.pairwise_iff_getElem.1 h2 i j hi hj hij k (by rw [e1]; exact hk) (by rw [e2]; exact e)
  ·exact List.pairwise_iff_getElem.1 h2 j i hj hi (by omega) k (by rw [e2]; exact e) (by rw [e1]; exact hk)
theorem _root_.Go.Proofs.YtbjdglopkpigbaaGreatDoor.Pcs.perm' {W : World} {B : Nat} {ps qs : List Pc} (h : Pcs W B ps) (hp : ps.Perm qs) : Pcs W B qs := by
 rw [pcs_iff'] at h ⊢
 exact ⟨fun p hq => h.1 p (hp.symm.subset hq), (hp.pairwise_iff (fun {a b} h k hb ha => h k ha hb)).1 h.2⟩
theorem gives_sp {S : List Int} {w w' : World} {e : Ending} (h : GivesS (inL S) w e w') : ∃ x : SP, e = .returned x.v ∧ x.ok ∧ x.S = S ∧ x.pc.At w' w.heap.size ∧ Below w.heap.size w w' := by
 obtain ⟨g, t, zs, h1, ⟨M, xs, h2, h3, rfl, h4⟩, h5, h6, h7⟩ := h
 exact ⟨⟨g, t, M, xs, S⟩, h1, ⟨h2, h3, h5, h6⟩, rfl, h4, h7⟩
theorem _root_.Go.Proofs.YtbjdglopkpigbaaGreatDoor.Pc.At.from' {W : World} {B B' : Nat} {p : Pc} (h : p.At W B) (hb : B' ≤ B) : p.At W B' := by
 cases p with
 | row E size v n xs => exact World.ownsRow.from_mono h hb
 | blk b cs => exact ⟨Nat.le_trans hb h.1, h.2⟩
 | obj b φ => exact ⟨Nat.le_trans hb h.1, h.2⟩
theorem sub_more {W W' : World} {B po pm mb : Nat} {cs : Array Value} {vS vF vA : Value} {vs : List SP} {fins : List Bool} {ar : List A3} {X : List Pc} (hP : Pcs W B (subPs po pm mb cs vS vF vA vs fins ar X)) {p : Pc} (hb : Below W.heap.size W W') (hB : B ≤ W.heap.size) (h1 : p.At W' W.heap.size) (h0 : p.At W' B) : Pcs W' B (subPs po pm mb cs vS vF vA vs fins ar (p :: X)) := by
 have h2 := hP.add p (below_grows hb none) h0 (fun k e => (h1.lt e).1)
 refine h2.perm' ?_
 unfold subPs
 refine .cons _ (.cons _ (.cons _ (.cons _ (.cons _ (.cons _ ?_)))))
 show ((vs.map SP.pc ++ X) ++ [p]).Perm (vs.map SP.pc ++ p :: X)
 rw [List.append_assoc]
 exact List.Perm.append_left _ List.perm_append_comm
theorem perm7 {α : Type} (a b c d e f g : α) : [a, b, c, d, e, f, g].Perm [b, e, f, g, c, d, a] := by
 have h1 : [a, b, c, d, e, f, g].Perm ([b, c, d, e, f, g] ++ [a]) := List.perm_append_comm (l₁ := [a])
 refine h1.trans ?_
 refine .cons _ ?_
 have h2 : ([c, d] ++ ([e, f, g] ++ [a])).Perm (([e, f, g] ++ [a]) ++ [c, d]) := List.perm_append_comm
 refine h2.trans ?_
 refine .cons _ (.cons _ (.cons _ ?_))
 exact List.perm_append_comm (l₁ := [a])
theorem sub_start (W : World) (T T' : TypeId) : Pcs ((((W.alloc (.cells #[.slice none 0 0, .slice none 0 0, .slice none 0 0] T)).alloc (.cells #[.slice none 0 0, .slice none 0 0, .slice none 0 0] T)).alloc (.map #[] 0)).alloc (.cells #[.map (some (W.heap.size + 2))] T')) W.heap.size (subPs (W.heap.size + 1) (W.heap.size + 3) (W.heap.size + 2) #[.slice none 0 0, .slice none 0 0, .slice none 0 0] (.slice none 0 0) (.slice none 0 0) (.slice none 0 0) [] [] [] [.blk W.heap.size #[.slice none 0 0, .slice none 0 0, .slice none 0 0]]) := by
 have h1 := (Pcs.nil W W.heap.size).new (Nat.le_refl _) #[.slice none 0 0, .slice none 0 0, .slice none 0 0] T
 have h2 := h1.new (by simp) #[.slice none 0 0, .slice none 0 0, .slice none 0 0] T
 rw [World.size_alloc] at h2
 obtain ⟨W2, hW2⟩ : ∃ W2, (W.alloc (.cells #[.slice none 0 0, .slice none 0 0, .slice none 0 0] T)).alloc (.cells #[.slice none 0 0, .slice none 0 0, .slice none 0 0] T) = W2 := ⟨_, rfl⟩
 have hs2 : W2.heap.size = W.heap.size + 2 := by rw [← hW2]; simp
 rw [hW2] at h2 ⊢
 have h3 := h2.add (W' := W2.alloc (.map #[] 0)) (.obj W2.heap.size (MapObj keyE 3 [] (idxV []))) (below_grows ((Below.refl _ _).alloc (Nat.le_refl _) _) none) ⟨by omega, _, heap_alloc_new W2 _, mapObj_made keyE 3 (idxV [])⟩ (fun k e => by injection e with e; omega)
 have h4 := h3.new (by simp; omega) #[.map (some (W.heap.size + 2))] T'
 have h5 := ((h4.empty 68 1).empty 4 1).empty 49 3
 rw [World.size_alloc, hs2] at h5
 refine h5.perm' ?_
 unfold subPs
 simp only [List.nil_append, List.cons_append, List.map_nil, List.length_nil]
 exact perm7 _ _ _ _ _ _ _
def SubI (a : Nfa) (st : Bq (List Int)) (vs : List SP) (fins : List Bool) : Prop := vs.map SP.S = st.q ∧ fins = st.q.map (finL a.fin) ∧ ∀ x ∈ vs, x.ok
theorem SubI.len {a : Nfa} {st : Bq (List Int)} {vs : List SP} {fins : List Bool} (h : SubI a st vs fins) : vs.length = st.q.length ∧ fins.length = st.q.length := ⟨by rw [← h.1, List.length_map], by rw [h.2.1, List.length_map]⟩
theorem SubI.add {a : Nfa} {st : Bq (List Int)} {vs : List SP} {fins : List Bool} (h : SubI a st vs fins) {x : SP} (hx : x.ok) (k : Nat) (c : Int) : SubI a (bq1 k st (c, x.S)) (addS vs x) (addF vs fins x (finL a.fin x.S)) := by
 obtain ⟨h1, h2, h3⟩ := h
 unfold SubI addS addF
 rw [bq1_q, h1]
 by_cases hm : x.S ∈ st.q
 ·rw [if_pos hm, if_pos hm, if_pos hm]
  exact ⟨h1, h2, h3⟩
 ·rw [if_neg hm, if_neg hm, if_neg hm]
  refine ⟨by rw [List.map_append, h1]; rfl, by rw [List.map_append, h2]; rfl, fun y hy => ?_⟩
  rcases List.mem_append.1 hy with hy | hy
  ·exact h3 y hy
  ·rw [List.mem_singleton.1 hy]; exact hx
def gsp (vs : List SP) (i : Nat) : SP := vs.getD i ⟨0, 0, 0, [], []⟩
theorem gsp_eq (vs : List SP) (i : Nat) (h : i < vs.length) : gsp vs i = vs[i] := by simp [gsp, List.getD, h]
theorem gsp_mem {vs : List SP} {i : Nat} (h : i < vs.length) : gsp vs i ∈ vs := by rw [gsp_eq vs i h]; exact List.getElem_mem h
theorem SubI.at {a : Nfa} {st : Bq (List Int)} {vs : List SP} {fins : List Bool} (h : SubI a st vs fins) {i : Nat} (hi : i < vs.length) : (gsp vs i).S = gw st.q i := by
 rw [gsp_eq vs i hi, gw_eq _ _ (by rw [← h.len.1]; exact hi)]
 have : (vs.map SP.S)[i]'(by rw [List.length_map]; exact hi) = st.q[i]'(by rw [← h.len.1]; exact hi) := by
  congr 1
  exact h.1
 rw [← this, List.getElem_map]
theorem SubI.zero (a : Nfa) : SubI a ⟨[], [], []⟩ [] [] := ⟨rfl, rfl, fun x hx => by simp at hx⟩
def IsSets (w : World) (a : Option Addr) (len cap : Nat) (Q : List (List Int)) : Prop :=
 (len = 0 ∧ cap = 0 ∧ Q = []) ∨ ∃ b off, a = some ⟨b, off, none⟩ ∧ len ≤ cap ∧ cap ≤ maxLen ∧ Q.length = len ∧ ∀ i, i < len → ∃ (g : Addr) (t c : Nat) (zs : List Int), w.cell? ⟨b, off + i, none⟩ = some (.slice (some g) t c) ∧ IsInts .u64 w (some g) t c zs ∧ Bt.SetIs zs (inL (gw Q i)) ∧ t ≤ 64
theorem IsSets.later {w w' : World} {a : Option Addr} {len cap : Nat} {Q : List (List Int)} (h : IsSets w a len cap Q) (hb : Below w.heap.size w w') : IsSets w' a len cap Q := by
 rcases h with h | ⟨b, off, h1, h2, h3, h4, h5⟩
 ·exact .inl h
 ·refine .inr ⟨b, off, h1, h2, h3, h4, fun i hi => ?_⟩
  obtain ⟨g, t, c, zs, k1, k2, k3⟩ := h5 i hi
  exact ⟨g, t, c, zs, (hb.cell (p := ⟨b, off + i, none⟩) (lt_of_cell k1)).trans k1, k2.later hb, k3⟩
theorem own_sp {w : World} {B g cap : Nat} {vs : List SP} (h : w.ownsRow B 68 1 (.slice (some ⟨g, 0, none⟩) vs.length cap) vs.length (vs.map SP.v)) {i : Nat} (hi : i < vs.length) : w.cell? ⟨g, i, none⟩ = some (gsp vs i).v := by
 have h1 := h.cells (g := g) rfl i (gsp vs i).v (by rw [List.getElem?_map, List.getElem?_eq_getElem hi, gsp_eq vs i hi]; rfl)
 rw [addr_add, Nat.zero_add] at h1
 exact h1
theorem sets_of {W : World} {B po pm mb : Nat} {cs : Array Value} {aS : Option Addr} {cS : Nat} {vF vA : Value} {vs : List SP} {fins : List Bool} {ar : List A3} {X : List Pc} {a : Nfa} {st : Bq (List Int)} (hP : Pcs W B (subPs po pm mb cs (.slice aS vs.length cS) vF vA vs fins ar X)) (hI : SubI a st vs fins) : IsSets W aS vs.length cS st.q := by
 have hr := hP.row 1 rfl
 rcases Nat.eq_zero_or_pos vs.length with h0 | h0
 ·have hv : vs = [] := List.eq_nil_of_length_eq_zero h0
  subst hv
  have hq : st.q = [] := by have := hI.1; simpa using this.symm
  rcases hr.2 with ⟨e, _⟩ | ⟨g, cap, cur, e, _, _, h1, h2, _⟩
  ·injection e with e1 e2 e3
   exact .inl ⟨rfl, e3, hq⟩
  ·injection e with e1 e2 e3
   subst e3
   exact .inr ⟨g, 0, e1, h1, h2, by rw [hq]; rfl, fun i hi => absurd hi (Nat.not_lt_zero _)⟩
 ·obtain ⟨g, rfl, -, -⟩ := owns_at hr h0
  have hcap : vs.length ≤ cS ∧ cS ≤ maxLen := by
   rcases hr.2 with ⟨e, _⟩ | ⟨g', cap, cur, e, _, _, h1, h2, _⟩
   ·injection e with e1; cases e1
   ·injection e with e1 e2 e3
    subst e3
    exact ⟨h1, h2⟩
  refine .inr ⟨g, 0, rfl, hcap.1, hcap.2, hI.len.1.symm, fun i hi => ?_⟩
  have hx := hI.2.2 _ (gsp_mem hi)
  have hp := sub_part hP (gsp_mem hi) hx
  refine ⟨_, _, _, _, by rw [Nat.zero_add]; exact own_sp hr hi, hp.ints, by rw [← hI.at hi]; exact hx.2.2.1, hx.2.2.2⟩
def SubV (a : Nfa) (D : Bq (List Int)) (v : Value) (W : World) : Prop := ∃ aS cS aF cF aA cA, v = .agg #[.slice aS D.q.length cS, .slice aF D.q.length cF, .slice aA D.a.length cA] ∧ IsSets W aS D.q.length cS D.q ∧ IsBools W aF D.q.length cF (D.q.map (finL a.fin)) ∧ IsArcs W aA D.a.length cA D.a
theorem sub_nil (a : Nfa) (W : World) : SubV a ⟨[], [], []⟩ (.agg #[.slice none 0 0, .slice none 0 0, .slice none 0 0]) W :=
 ⟨none, 0, none, 0, none, 0, rfl, .inl ⟨rfl, rfl, rfl⟩, .inl ⟨rfl, rfl, rfl⟩, .inl ⟨rfl, rfl, rfl⟩⟩
theorem cell_ap {W : World} {q : Nat} {cs : Array Value} {T : TypeId} {fr : Nat × Nat} {b j : Nat} {v : Value} (hq : W.heap[q]? = some (.cells #[.slice none 0 0, .slice none 0 0, .slice none 0 0] T fr)) (hv : v ≠ .slice none 0 0) (h : W.cell? ⟨b, j, none⟩ = some v) : (W.setRow q cs).cell? ⟨b, j, none⟩ = some v := by
 have hne : b ≠ q := by
  rintro rfl
  simp only [World.cell?, hq] at h
  match j with
  | 0 => simp at h; exact hv h.symm
  | 1 => simp at h; exact hv h.symm
  | 2 => simp at h; exact hv h.symm
  | n + 3 => simp at h
 rw [← h]
 simp only [World.cell?]
 rw [setRow_other W q b cs hne]
theorem ints_ap {W : World} {q : Nat} {cs : Array Value} {T : TypeId} {fr : Nat × Nat} {k : IntKind} {a : Option Addr} {len cap : Nat} {xs : List Int} (hq : W.heap[q]? = some (.cells #[.slice none 0 0, .slice none 0 0, .slice none 0 0] T fr)) (h : IsInts k W a len cap xs) : IsInts k (W.setRow q cs) a len cap xs := by
 rcases h with h | ⟨b, off, e, h1, h2, h3, hc⟩
 ·exact .inl h
 ·exact .inr ⟨b, off, e, h1, h2, h3, fun i hi => cell_ap hq (by simp) (hc i hi)⟩
theorem bools_ap {W : World} {q : Nat} {cs : Array Value} {T : TypeId} {fr : Nat × Nat} {a : Option Addr} {len cap : Nat} {xs : List Bool} (hq : W.heap[q]? = some (.cells #[.slice none 0 0, .slice none 0 0, .slice none 0 0] T fr)) (h : IsBools W a len cap xs) : IsBools (W.setRow q cs) a len cap xs := by
 rcases h with h | ⟨b, off, e, h1, h2, h3, hc⟩
 ·exact .inl h
 ·exact .inr ⟨b, off, e, h1, h2, h3, fun i hi => cell_ap hq (by simp) (hc i hi)⟩
theorem arcs_ap {W : World} {q : Nat} {cs : Array Value} {T : TypeId} {fr : Nat × Nat} {a : Option Addr} {len cap : Nat} {xs : List A3} (hq : W.heap[q]? = some (.cells #[.slice none 0 0, .slice none 0 0, .slice none 0 0] T fr)) (h : IsArcs W a len cap xs) : IsArcs (W.setRow q cs) a len cap xs := by
 rcases h with h | ⟨b, off, e, h1, h2, h3, hc⟩
 ·exact .inl h
 ·refine .inr ⟨b, off, e, h1, h2, h3, fun i hi => ?_⟩
  obtain ⟨p0, p1, p2⟩ := hc i hi
  exact ⟨cell_ap hq (by simp) p0, cell_ap hq (by simp) p1, cell_ap hq (by simp) p2⟩
theorem sets_ap {W : World} {q : Nat} {cs : Array Value} {T : TypeId} {fr : Nat × Nat} {a : Option Addr} {len cap : Nat} {Q : List (List Int)} (hq : W.heap[q]? = some (.cells #[.slice none 0 0, .slice none 0 0, .slice none 0 0] T fr)) (h : IsSets W a len cap Q) : IsSets (W.setRow q cs) a len cap Q := by
 rcases h with h | ⟨b, off, e, h1, h2, h3, hc⟩
 ·exact .inl h
 ·refine .inr ⟨b, off, e, h1, h2, h3, fun i hi => ?_⟩
  obtain ⟨g, t, c, zs, k1, k2, k3⟩ := hc i hi
  exact ⟨g, t, c, zs, cell_ap hq (by simp) k1, ints_ap hq k2, k3⟩
theorem SubV.later {a : Nfa} {D : Bq (List Int)} {v : Value} {W W' : World} (h : SubV a D v W) (hb : Below W.heap.size W W') : SubV a D v W' := by
 obtain ⟨aS, cS, aF, cF, aA, cA, e, h1, h2, h3⟩ := h
 exact ⟨aS, cS, aF, cF, aA, cA, e, h1.later hb, h2.later hb, h3.later hb⟩
theorem SubV.ap {a : Nfa} {D : Bq (List Int)} {v : Value} {W : World} {q : Nat} {cs : Array Value} {T : TypeId} {fr : Nat × Nat} (h : SubV a D v W) (hq : W.heap[q]? = some (.cells #[.slice none 0 0, .slice none 0 0, .slice none 0 0] T fr)) : SubV a D v (W.setRow q cs) := by
 obtain ⟨aS, cS, aF, cF, aA, cA, e, h1, h2, h3⟩ := h
 exact ⟨aS, cS, aF, cF, aA, cA, e, sets_ap hq h1, bools_ap hq h2, arcs_ap hq h3⟩
def OwnR (B : Nat) (l : List Int) : Value → World → Prop := fun v W => ∃ a c, v = .slice a l.length c ∧ W.ownsRow B 3 1 (.slice a l.length c) l.length (ivs .i64 l)
theorem stays_ownR (B : Nat) (l : List Int) : Stays (OwnR B l) := fun v W W' hb ⟨a, c, e, h⟩ => ⟨a, c, e, h.kept_below hb⟩
theorem subs_i : (Tryz.prog.info? 62).map (·.size) = some 3 := by kernel_rfl
theorem subs_one (x : Option Addr) (l c : Nat) (y : Option Addr) (m e : Nat) (z : Option Addr) (p q : Nat) : (#[Value.slice x l c, Value.slice y m e, Value.slice z p q]).all (·.oneCell') = true := by simp [Value.oneCell']
theorem results_row2 {P : Program} {fn : Func} {p u : Tmp} {ty : TypeId} (h : fn.results = #[.cell p ty, .tmp u]) (tmps : Array Value) (w : World) (g : Nat) (t : TypeId) (cs : Array Value) (fr : Nat × Nat) (d : TypeDesc) {v : Value}
  (hp : tmps.getD p undef = .pointer (some ⟨g, 0, none⟩)) (hq : tmps.getD u undef = v) (hg : w.heap[g]? = some (.cells cs t fr))
  (hu : P.underlying ty = some d) (hd : (match d with | .struct _ | .array _ _ => true | _ => false) = true) (hi : (P.info? ty).map (·.size) = some cs.size) :
  (results fn tmps).run P w = .ok (.tuple #[.agg cs, v]) w := by
 rw [results_cell_tmp h, hp, hq]
 simp [asAddr, run_loadVar_row w g t ty cs fr d hg hu hd hi, Result.andThen]
def Sub12 (B po pm mb : Nat) (cs : Array Value) (vS vF vA : Value) (vs : List SP) (fins : List Bool) (ar : List A3) (X : List Pc) (T : List Int) (v : Value) (W : World) : Prop :=
 ∃ x : SP, v = x.v ∧ x.ok ∧ x.S = T ∧ Pcs W B (subPs po pm mb cs vS vF vA vs fins ar (x.pc :: X))
def Sub13 (a : Nfa) (ST : Bq (List Int)) (B po pm mb : Nat) (vA : Value) (ar : List A3) (x : A3) (X : List Pc) (l16 l18 : Bool) (f16 : Value) (W : World) : Prop :=
 ∃ (aS : Option Addr) (cS : Nat) (aF : Option Addr) (cF : Nat) (vs : List SP) (fins : List Bool), SubI a ST vs fins ∧ Pcs W B (subPs po pm mb #[.slice aS vs.length cS, .slice aF fins.length cF, if l18 = true then f16 else vA] (.slice aS vs.length cS) (.slice aF fins.length cF) (if l16 = true then f16 else vA) vs fins (if l16 = true then ar ++ [x] else ar) X)
theorem sub_c2 {a : Nfa} {ST : Bq (List Int)} {B po pm mb : Nat} {v0 v1 vS vF vA : Value} {vs : List SP} {fins : List Bool} {ar : List A3} {x : A3} {X : List Pc} {T : List Int} {v f16 : Value} {W : World} {l12 l13 l16 : Bool}
  (h0 : l13 = false → l12 = false → Pcs W B (subPs po pm mb #[v0, v1, vA] vS vF vA vs fins ar X)) (h1 : l13 = false → l12 = true → Sub12 B po pm mb #[v0, v1, vA] vS vF vA vs fins ar X T v W) (h2 : l13 = true → Sub13 a ST B po pm mb vA ar x X l16 false f16 W) : W.cell? ⟨po, 2, none⟩ = some vA := by
 cases l13 with
 | false =>
  cases l12 with
  | false => exact (((h0 rfl rfl).blk 0 rfl).2.cell 2).1
  | true =>
   obtain ⟨y, -, -, -, h⟩ := h1 rfl rfl
   exact ((h.blk 0 rfl).2.cell 2).1
 | true =>
  obtain ⟨aS, cS, aF, cF, vs', fins', -, h⟩ := h2 rfl
  exact ((h.blk 0 rfl).2.cell 2).1
theorem sub_c0 {B po pm mb : Nat} {cS : Nat} {gS : Nat} {v1 v2 vF vA : Value} {vs : List SP} {fins : List Bool} {ar : List A3} {X : List Pc} {T : List Int} {v : Value} {W : World} {l12 l13 : Bool} (hl : l13 = false)
  (h0 : l13 = false → l12 = false → Pcs W B (subPs po pm mb #[.slice (some ⟨gS, 0, none⟩) vs.length cS, v1, v2] (.slice (some ⟨gS, 0, none⟩) vs.length cS) vF vA vs fins ar X)) (h1 : l13 = false → l12 = true → Sub12 B po pm mb #[.slice (some ⟨gS, 0, none⟩) vs.length cS, v1, v2] (.slice (some ⟨gS, 0, none⟩) vs.length cS) vF vA vs fins ar X T v W) : W.cell? ⟨po, 0, none⟩ = some (.slice (some ⟨gS, 0, none⟩) vs.length cS) ∧ ∀ i, i < vs.length → W.cell? ⟨gS, i, none⟩ = some (gsp vs i).v := by
 subst hl
 cases l12 with
 | false => exact ⟨(((h0 rfl rfl).blk 0 rfl).2.cell 0).1, fun i hi => own_sp ((h0 rfl rfl).row 1 rfl) hi⟩
 | true =>
  obtain ⟨y, -, -, -, h⟩ := h1 rfl rfl
  exact ⟨((h.blk 0 rfl).2.cell 0).1, fun i hi => own_sp (h.row 1 rfl) hi⟩
theorem subPs_drop {W : World} {B po pm mb : Nat} {cs : Array Value} {vS vF vA : Value} {vs : List SP} {fins : List Bool} {ar : List A3} {p : Pc} {X : List Pc} (h : Pcs W B (subPs po pm mb cs vS vF vA vs fins ar (p :: X))) : Pcs W B (subPs po pm mb cs vS vF vA vs fins ar X) := by
 rw [pcs_iff'] at h ⊢
 have hs : (subPs po pm mb cs vS vF vA vs fins ar X).Sublist (subPs po pm mb cs vS vF vA vs fins ar (p :: X)) := by
  unfold subPs
  refine .cons_cons _ (.cons_cons _ (.cons_cons _ (.cons_cons _ (.cons_cons _ (.cons_cons _ ?_)))))
  exact (List.Sublist.refl _).append (List.sublist_cons_self _ _)
 exact ⟨fun q hq => h.1 q (hs.subset hq), h.2.sublist hs⟩
theorem subPs_snoc (po pm mb : Nat) (cs : Array Value) (vS vF vA : Value) (vs : List SP) (fins : List Bool) (ar : List A3) (p : Pc) : subPs po pm mb cs vS vF vA vs fins ar [p] = subPs po pm mb cs vS vF vA vs fins ar [] ++ [p] := by
 unfold subPs
 simp
theorem subPs_len (po pm mb : Nat) (cs : Array Value) (vS vF vA : Value) (vs : List SP) (fins : List Bool) (ar : List A3) : (subPs po pm mb cs vS vF vA vs fins ar []).length = 6 + vs.length := by
 unfold subPs
 simp
 omega
theorem sub_blk {W : World} {B po pm mb : Nat} {cs : Array Value} {vS vF vA : Value} {vs : List SP} {fins : List Bool} {ar : List A3} {b : Nat} {cs0 : Array Value} (h : Pcs W B (subPs po pm mb cs vS vF vA vs fins ar [.blk b cs0])) : B ≤ b ∧ BlkAt W b cs0 :=
 h.each (6 + vs.length) (.blk b cs0) (by rw [subPs_snoc, ← subPs_len po pm mb cs vS vF vA vs fins ar]; simp)
theorem sub_res {W : World} {B po pm mb : Nat} {cs : Array Value} {vS vF vA : Value} {vs : List SP} {fins : List Bool} {ar : List A3} {b : Nat} {cs0 : Array Value} (h : Pcs W B (subPs po pm mb cs vS vF vA vs fins ar [.blk b cs0])) (cs1 : Array Value) : Pcs (W.setRow b cs1) B (subPs po pm mb cs vS vF vA vs fins ar [.blk b cs1]) := by
 obtain ⟨h1, T, h2⟩ := sub_blk h
 have h3 := h.put (W' := W.setRow b cs1) (6 + vs.length) (.blk b cs1) (p := .blk b cs0) (by rw [subPs_snoc, ← subPs_len po pm mb cs vS vF vA vs fins ar]; simp) ⟨rfl, rfl, rfl, by simp [World.setRow], fun k hk hne => setRow_other W b k cs1 (fun e => hne (by rw [e]; rfl))⟩ ⟨h1, T, setRow_heap W b _ cs1 T _ h2⟩ (fun k e => .inl e)
 rw [subPs_snoc] at h3
 rw [← subPs_len po pm mb cs vS vF vA vs fins ar] at h3
 rw [subPs_snoc]
 simpa using h3
set_option maxRecDepth 20000 in
set_option maxHeartbeats 8000000 in
theorem subsets_any {a : Nfa} {h : NH} {w : World} {L : Int} (hv : ValidN a) (hd : IsNfa w h a) (hT : TabW w) (hL : L ≤ 1000) :
  Calls Tryz.prog 41 #[vNf a h, .int .i64 L] w fun e w' => (∃ v D, e = .returned (.tuple #[v, .bool (detOk a L)]) ∧ (detOk a L = true → D = detF a) ∧ SubV a D v w') ∧ Below w.heap.size w w' := by
 have HV := Lib.hid hv
 obtain ⟨W1, hW1, hs1, hb1, hO⟩ := boxNW a h w hd
 have HT := Lib.hid hT
 have hO2 : ∀ W, Below W1.heap.size W1 W → (W.cell? ⟨w.heap.size, 0, none⟩ = some (.int .i64 a.n) ∧ W.cell? ⟨w.heap.size, 1, none⟩ = some (.slice h.sa h.sl h.sc) ∧ W.cell? ⟨w.heap.size, 2, none⟩ = some (.slice h.fa h.fl h.fc) ∧ W.cell? ⟨w.heap.size, 3, none⟩ = some (.slice h.aa h.al h.ac)) ∧ IsNfa W h a ∧ TabW W := fun W hB => by
  have h1 := hO W (by rw [← hs1]; exact hB)
  exact ⟨h1.1, h1.2.1, HT.out.later h1.2.2⟩
 have HO := Lib.hid hO2
 have HS1 := Lib.hid hs1
 have HB1 := Lib.hid hb1
 have hmf : ∀ (fn : Fn) (first cap : Array Value) (w : World), (Instr.makeFunc fn first cap).run Tryz.prog w = .ok (.func fn first cap) w := fun _ _ _ _ => rfl
 have hmm := @run_makeMap Tryz.prog
 obtain ⟨⟨c1, c2, c3, c4⟩, -, -⟩ := hO2 W1 (Below.refl _ _)
 unfold vNf
 clear hv hd hT hO hb1 hs1 hO2
 go_enter Tryz.func41, Tryz.ntmps41
 go_upto_region 4 with (fail)
 have hP0 := sub_start W1 62 105
 have hb0 : Below W1.heap.size W1 ((((W1.alloc (.cells #[.slice none 0 0, .slice none 0 0, .slice none 0 0] 62)).alloc (.cells #[.slice none 0 0, .slice none 0 0, .slice none 0 0] 62)).alloc (.map #[] 0)).alloc (.cells #[.map (some (W1.heap.size + 2))] 105)) := ((((Below.refl _ _).alloc (Nat.le_refl _) _).alloc (by simp) _).alloc (by simp; omega) _).alloc (by simp; omega) _
 obtain ⟨B, hB⟩ : ∃ B, W1.heap.size = B := ⟨_, rfl⟩
 have HBE := Lib.hid hB
 rw [show W1.heap.size + 1 + 1 = W1.heap.size + 2 from rfl, show W1.heap.size + 2 + 1 = W1.heap.size + 3 from rfl]
 obtain ⟨X0, hX0⟩ : ∃ X0, (((W1.alloc (.cells #[.slice none 0 0, .slice none 0 0, .slice none 0 0] 62)).alloc (.cells #[.slice none 0 0, .slice none 0 0, .slice none 0 0] 62)).alloc (.map #[] 0)).alloc (.cells #[.map (some (W1.heap.size + 2))] 105) = X0 := ⟨_, rfl⟩
 rw [hX0] at hP0 hb0 ⊢
 rw [hB] at hP0 hb0 HO ⊢
 obtain ⟨po, hpo⟩ : ∃ po, B + 1 = po := ⟨_, rfl⟩
 obtain ⟨mb, hmb⟩ : ∃ mb, B + 2 = mb := ⟨_, rfl⟩
 obtain ⟨pm, hpm⟩ : ∃ pm, B + 3 = pm := ⟨_, rfl⟩
 rw [hpo, hmb, hpm] at hP0
 rw [hpo, hmb, hpm]
 clear hX0 hpo hmb hpm hB c1 c2 c3 c4 hW1
 have HP0 := Lib.hid hP0
 have HB0 := Lib.hid hb0
 have HBX : Hid (B ≤ X0.heap.size) := Lib.hid (by rw [← HBE.out]; exact hb0.size)
 obtain ⟨⟨c1, c2, c3, c4⟩, hd0, hT0⟩ := HO.out X0 hb0
 have hcl := closed_any HV.out hd0 hd0.start HV.out.startIn
 simp only [vNf] at hcl
 clear hP0 hb0 hd0 hT0
 go_wp2_with (first
  | (go_at_call 29; refine hcl.mono ?_; go_loud (rintro e w4 hg; obtain ⟨x, rfl, hxo, hxS, hxp, hb4⟩ := gives_sp hg; have hP4 := sub_more HP0.out hb4 HBX.out hxp (hxp.from' HBX.out); have hnum := number_any (h := h) (pa := w.heap.size) (vs := []) (fins := []) (aS := none) (cS := 0) (aF := none) (cF := 0) (ar := []) (vA := .slice none 0 0) HV.out HO.out (HB0.out.trans (hb4.mono HBX.out)) (Nat.le_trans HBX.out hb4.size) hP4 hxo (by rw [hxS]; exact cs_clo HV.out HV.out.startIn) (Nat.zero_le _) rfl; clear hg hP4 hxp hcl c1 c2 c3 c4; have HXS := Lib.hid (And.intro hxo hxS); have HB4 := Lib.hid (And.intro (HB0.out.trans (hb4.mono HBX.out)) (Nat.le_trans HBX.out hb4.size)); clear hxo hxS hb4))
  | (go_at_call 62; refine hnum.mono ?_; rintro e w5 ⟨rfl, ⟨aS, cS, aF, cF, hP5⟩, hb5⟩; clear hnum; have HP5 := Lib.hid hP5; have HB5 := Lib.hid hb5; clear hP5 hb5))
 have HI0 : Hid (SubI a (detB a 0) (addS [] x) (addF [] [] x (finL a.fin x.S))) := Lib.hid (by
  obtain ⟨h1, h2⟩ := HXS.out
  have e1 : addS [] x = [x] := by unfold addS; simp
  have e2 : addF [] [] x (finL a.fin x.S) = [finL a.fin x.S] := by unfold addF; simp
  rw [e1, e2]
  have e3 : (detB a 0).q = [cloL a.arcs a.s] := by unfold detB; rw [bq]
  refine ⟨by rw [e3, ← h2]; rfl, by rw [e3, ← h2]; rfl, fun y hy => ?_⟩
  rw [List.mem_singleton.1 hy]
  exact h1)
 have HA0 : Hid ((detB a 0).a = []) := Lib.hid (by unfold detB; rw [bq])
 have HBS : Hid (Below B W1 w5 ∧ B ≤ w5.heap.size) := Lib.hid ⟨HB4.out.1.trans HB5.out, Nat.le_trans HB4.out.2 HB5.out.size⟩
 clear HB4 HB5 HP0 HB0
 go_loopw [9] (fun c W => ∃ (i : Nat) (aS : Option Addr) (cS : Nat) (aF : Option Addr) (cF : Nat) (aA : Option Addr) (cA : Nat) (vs : List SP) (fins : List Bool), i ≤ vs.length ∧ (i : Int) ≤ 1001 ∧ c = .int .i64 (i : Int) ∧ Pcs W B (subPs po pm mb #[.slice aS vs.length cS, .slice aF fins.length cF, .slice aA (detB a i).a.length cA] (.slice aS vs.length cS) (.slice aF fins.length cF) (.slice aA (detB a i).a.length cA) vs fins (detB a i).a [.blk B #[.slice none 0 0, .slice none 0 0, .slice none 0 0]]) ∧ Hid (SubI a (detB a i) vs fins) ∧ Below B W1 W ∧ B ≤ W.heap.size) (fun c _ => 1001 - (intOf c).toNat)
 case atStart => exact ⟨0, aS, cS, aF, cF, none, 0, _, _, Nat.zero_le _, by omega, rfl, by rw [HA0.out]; exact HP5.out, HI0, HBS.out.1, HBS.out.2⟩
 case round =>
  clear HP5 HI0 HA0 HBS
  obtain ⟨i, aS, cS, aF, cF, aA, cA, vs, fins, hi, hi2, rfl, hP, HI, hb, hz⟩ := hrel
  have c0 : wr.cell? ⟨po, 0, none⟩ = some (.slice aS vs.length cS) := ((hP.blk 0 rfl).2.cell 0).1
  rcases Nat.lt_or_ge i vs.length with hlt | hge
  ·have t1 : decide (i < vs.length) = true := decide_eq_true hlt
   by_cases hlim : L < (vs.length : Int)
   ·have t2 : decide (L < (vs.length : Int)) = true := decide_eq_true hlim
    have HR : Hid (detOk a L = false) := Lib.hid (detOk_no (k := i) (by rw [← HI.out.len.1]; omega))
    have hZ := (hP.each (6 + vs.length) (.blk B #[.slice none 0 0, .slice none 0 0, .slice none 0 0]) (by unfold subPs; rw [show 6 + vs.length = vs.length + 6 by omega]; simp)).2
    obtain ⟨TZ, hZ⟩ := hZ
    have HZ := Lib.hid hZ
    have HBW := Lib.hid hb
    clear hP hb hZ
    go_wp2_with (show wpList _ _ _ (⟨_, .store 62 _ _, _, _, _, _⟩ :: _) _ _; refine wpList_store_row rfl 62 _ _ rfl B #[.slice none 0 0, .slice none 0 0, .slice none 0 0] rfl rfl _ _ HZ.out subs_i rfl (subs_one _ _ _ _ _ _ _ _ _) ?_)
    refine bodyPost_ret (results_row2 rfl _ _ B _ _ _ _ rfl rfl (setRow_heap _ _ _ _ _ _ HZ.out) Tryz.underlying62 rfl subs_i) rfl ?_
    rw [HR.out]
    exact ⟨⟨_, _, rfl, fun e => (by cases e), sub_nil _ _⟩, below_setRow (HB1.out.trans (HBW.out.mono (by rw [← HBE.out, HS1.out]; omega))) (by rw [← HBE.out, HS1.out]; omega) _⟩
   ·have t2 : decide (L < (vs.length : Int)) = false := decide_eq_false hlim
    obtain ⟨gS, rfl, -, -⟩ := owns_at (hP.row 1 rfl) (by omega)
    have hvl := HI.out.len
    have hxm := gsp_mem hlt
    have hxo := HI.out.2.2 _ hxm
    have hxS := HI.out.at hlt
    obtain ⟨S, hS⟩ : ∃ S, gw (detB a i).q i = S := ⟨_, rfl⟩
    rw [hS] at hxS
    have hgq : (detB a i).q[i]'(by rw [← hvl.1]; exact hlt) = S := by rw [← hS, gw_eq _ _ (by rw [← hvl.1]; exact hlt)]
    have HSM : Hid (S ∈ (detB a i).q) := Lib.hid (by rw [← hgq]; exact List.getElem_mem _)
    have HCS : Hid (CS a S) := Lib.hid (detB_in HV.out i S HSM.out)
    have HNX : Hid (detB a (i + 1) = bqs i (detB a i) (outN a.arcs S)) := Lib.hid (by rw [detB_succ (by rw [← hvl.1]; exact hlt), hgq])
    have HALN : Hid ((detB a i).a.length ≤ i * 10000) := Lib.hid (detB_alen a i)
    have HOLN : Hid ((lvL a.arcs S).length ≤ 10000) := Lib.hid (by have := outN_len a.arcs S; unfold outN at this; simpa using this)
    have HQL : Hid ((detB a i).q.length ≤ 1000) := Lib.hid (by rw [← hvl.1]; omega)
    have HGS : Hid (IsInts .u64 wr (some ⟨(gsp vs i).g, 0, none⟩) (gsp vs i).t (gsp vs i).t ((gsp vs i).xs.take (gsp vs i).t)) := Lib.hid (sub_part hP hxm hxo).ints
    have HXO : Hid ((gsp vs i).ok ∧ (gsp vs i).S = S) := Lib.hid ⟨hxo, hxS⟩
    have hc0 : wr.cell? ⟨gS, i, none⟩ = some (gsp vs i).v := own_sp (hP.row 1 rfl) hlt
    have HP := Lib.hid hP
    have HBW := Lib.hid hb
    have hcm : ∀ W, Below wr.heap.size wr W → (W.cell? ⟨w.heap.size, 0, none⟩ = some (.int .i64 a.n) ∧ W.cell? ⟨w.heap.size, 1, none⟩ = some (.slice h.sa h.sl h.sc) ∧ W.cell? ⟨w.heap.size, 2, none⟩ = some (.slice h.fa h.fl h.fc) ∧ W.cell? ⟨w.heap.size, 3, none⟩ = some (.slice h.aa h.al h.ac)) ∧ IsNfa W h a ∧ TabW W ∧ W.cell? ⟨po, 0, none⟩ = some (.slice (some ⟨gS, 0, none⟩) vs.length cS) ∧ W.cell? ⟨gS, i, none⟩ = some (gsp vs i).v := fun W hW => by
     have h1 := HO.out W (HBW.out.trans (hW.mono hz))
     have hPW := HP.out.quiet (below_grows hW none)
     exact ⟨h1.1, h1.2.1, h1.2.2, ((hPW.blk 0 rfl).2.cell 0).1, own_sp (hPW.row 1 rfl) hlt⟩
    have HCM := Lib.hid hcm
    clear hP hb hxm hxo hxS hgq hS hvl hcm c0 hc0
    obtain ⟨xi, hxi⟩ : ∃ xi, gsp vs i = xi := ⟨_, rfl⟩
    rw [hxi] at HXO HGS HCM
    obtain ⟨d1, d2, d3, d4, d5⟩ := HCM.out wr (Below.refl _ _)
    clear d1 d2 d3 d5
    go_wp2_with (fail)
    clear d4
    unfold SP.v at HCM
    refine wp_region_grow mixed (by kernel_rfl) [[], [], [(1, 34)], [], [(2, 35), (3, 36)], [(4, 37)], [(0, 33), (5, 38)], [(6, 39)], []] [(0, 33), (1, 34), (2, 35), (3, 36), (4, 37), (5, 38), (6, 39), (7, 40), (8, 41)] rfl rfl [Ex ?eb0, Ex ?eb1, Ex ?eb2, Ex ?eb3, Ex ?eb4, Ex ?eb5, OwnR wr.heap.size (lvL a.arcs S), Ex ?eb7, Ex ?eb8] ⟨stays_ex _, stays_ex _, stays_ex _, stays_ex _, stays_ex _, stays_ex _, stays_ownR _ _, stays_ex _, stays_ex _, trivial⟩ ?bsteps ?brest
    case bsteps =>
     refine ⟨fun f W hC hh => ?_, fun f W hC hh => ?_, fun f W hC hh => ?_, fun f W hC hh => ?_, fun f W hC hh => ?_, fun f W hC hh => ?_, fun f W hC hh => ?_, fun f W hC hh => ?_, fun f W hC hh => ?_, trivial⟩
     ·
      refine tab_plain fun K Q hK => ?_;simp only [puts, foldr_nil]
      obtain ⟨⟨f1, f2, f3, f4⟩, f5, f6, f7, f8⟩ := HCM.out W hC
      go_step;exact fam_e hK rfl rfl (Below.refl _ _) hC
     ·
      refine tab_plain fun K Q hK => ?_;simp only [puts, foldr_nil];go_step;exact fam_e hK rfl rfl (Below.refl _ _) hC
     ·
      obtain ⟨h1, -⟩ := hh;have g1 : f 1=_:=h1;refine tab_plain fun K Q hK => ?_;simp only [puts, Za, Zb, Zc, Zd, Ze, g1]
      obtain ⟨⟨f1, f2, f3, f4⟩, f5, f6, f7, f8⟩ := HCM.out W hC
      go_step;exact fam_e hK rfl rfl (Below.refl _ _) hC
     ·
      refine tab_plain fun K Q hK => ?_;simp only [puts, foldr_nil];go_step;exact fam_e hK rfl rfl (Below.refl _ _) hC
     ·
      obtain ⟨h2, h3, -⟩ := hh;have g2 : f 2=_:=h2;have g3 : f 3=_:=h3;refine tab_plain fun K Q hK => ?_;simp only [puts, Za, Zb, Zc, Zd, Ze, g2, g3];go_step;exact fam_e hK rfl rfl (Below.refl _ _) hC
     ·
      obtain ⟨h4, -⟩ := hh;have g4 : f 4=_:=h4;refine tab_plain fun K Q hK => ?_;simp only [puts, Za, Zb, Zc, Zd, Ze, g4]
      obtain ⟨⟨f1, f2, f3, f4⟩, f5, f6, f7, f8⟩ := HCM.out W hC
      go_step;exact fam_e hK rfl rfl (Below.refl _ _) hC
     ·
      obtain ⟨h0, h5, -⟩ := hh;have g0 : f 0=_:=h0;have g5 : f 5=_:=h5;refine tab_plain fun K Q hK => ?_;simp only [puts, Za, Zb, Zc, Zd, Ze, g0, g5]
      obtain ⟨⟨f1, f2, f3, f4⟩, f5, f6, f7, f8⟩ := HCM.out W hC
      have hlv := leaving_any (w := W) HV.out f5 (HGS.out.later hC) (by have := HXO.out.1.2.2.1; rw [HXO.out.2] at this; exact this) HCS.out f6
      simp only [vNf] at hlv
      go_step
      go_at_call 64
      refine hlv.mono ?_
      rintro e w' ⟨⟨a', c', rfl, hI⟩, hb⟩
      exact fam_fin hK rfl ⟨a', c', rfl, hI.from_mono hC.size⟩ hb (hC.trans (hb.mono hC.size))
     ·
      obtain ⟨h6, -⟩ := hh
      obtain ⟨a6, c6, g6, s6⟩ := h6
      refine tab_plain fun K Q hK => ?_;simp only [puts, Za, Zb, Zc, Zd, Ze, g6];go_step;exact fam_e hK rfl rfl (Below.refl _ _) hC
     ·
      refine tab_plain fun K Q hK => ?_;simp only [puts, foldr_nil];go_step;exact fam_e hK rfl rfl (Below.refl _ _) hC
    case brest =>
     intro f WC hC hh
     obtain ⟨h0, h1, h2, h3, h4, h5, h6, h7, h8, -⟩ := hh;have g0 : f 0=_:=h0;have g1 : f 1=_:=h1;have g2 : f 2=_:=h2;have g3 : f 3=_:=h3;have g4 : f 4=_:=h4;have g5 : f 5=_:=h5
     obtain ⟨a6, c6, g6, s6⟩ := h6
     have g7 : f 7=_:=h7;have g8 : f 8=_:=h8;simp only [puts, Za, Zb, Zc, Zd, Ze, g0, g1, g2, g3, g4, g5, g6, g7, g8]
     clear h0 h1 h2 h3 h4 h5 h7 h8 g0 g1 g2 g3 g4 g5 g7 g8
     have hPL := sub_more HP.out hC hz (p := .row 3 1 (.slice a6 (lvL a.arcs S).length c6) (lvL a.arcs S).length (ivs .i64 (lvL a.arcs S))) s6 (World.ownsRow.from_mono s6 hz)
     obtain ⟨IN, hIN⟩ : ∃ IN : Nat → Bq (List Int), IN = fun j => bqs i (detB a i) ((outN a.arcs S).take j) := ⟨_, rfl⟩
     have hol : (outN a.arcs S).length = (lvL a.arcs S).length := by unfold outN; rw [List.length_map]
     have HI0 : Hid (IN 0 = detB a i) := Lib.hid (by rw [hIN]; rfl)
     have HIE : Hid (IN (lvL a.arcs S).length = detB a (i + 1)) := Lib.hid (by rw [hIN, HNX.out, ← hol]; simp only [List.take_length])
     have HI1 : Hid (∀ j, j < (lvL a.arcs S).length → IN (j + 1) = bq1 i (IN j) (gi (lvL a.arcs S) j, movL a.arcs S (gi (lvL a.arcs S) j))) := Lib.hid (fun j hj => by
      rw [hIN]
      show bqs i (detB a i) ((outN a.arcs S).take (j + 1)) = bq1 i (bqs i (detB a i) ((outN a.arcs S).take j)) _
      have e1 : (outN a.arcs S)[j]? = some (gi (lvL a.arcs S) j, movL a.arcs S (gi (lvL a.arcs S) j)) := by
       unfold outN
       rw [List.getElem?_map, List.getElem?_eq_getElem hj, gi_eq _ _ hj]
       rfl
      rw [List.take_add_one, e1, Option.toList_some, bqs_snoc])
     have HIA : Hid (∀ j, j ≤ (lvL a.arcs S).length → (IN j).a.length ≤ i * 10000 + j) := Lib.hid (fun j hj => by
      rw [hIN]
      simp only [bqs_alen']
      have h1 := HALN.out
      rw [List.length_take]
      omega)
     have HIQ : Hid (∀ j, (IN j).q.length ≤ 1000 + j) := Lib.hid (fun j => by
      rw [hIN]
      have h1 := bqs_qlen i ((outN a.arcs S).take j) (detB a i)
      have h2 := HQL.out
      rw [List.length_take] at h1
      show (bqs i (detB a i) ((outN a.arcs S).take j)).q.length ≤ _
      omega)
     have HIG : Hid (∀ j, i < (IN j).q.length ∧ gw (IN j).q i = S) := Lib.hid (fun j => by
      rw [hIN]
      have h1 := bqs_pre i ((outN a.arcs S).take j) (detB a i)
      have h2 : i < (detB a i).q.length := by rw [← HI.out.len.1]; exact hlt
      have h3 := h1.length_le
      have h4 : i < (bqs i (detB a i) ((outN a.arcs S).take j)).q.length := by omega
      refine ⟨h4, ?_⟩
      show gw (bqs i (detB a i) ((outN a.arcs S).take j)).q i = S
      rw [gw_eq _ _ h4, ← h1.getElem h2, ← gw_eq _ _ h2, ← HI.out.at hlt, hxi, HXO.out.2])
     obtain ⟨l, hl⟩ : ∃ l, lvL a.arcs S = l := ⟨_, rfl⟩
     have HLL : Hid (lvL a.arcs S = l) := Lib.hid hl
     rw [hl] at hPL HI1 HIA HIE HOLN ⊢
     obtain ⟨OL, hOL⟩ : ∃ OL, l.length = OL := ⟨_, rfl⟩
     rw [hOL] at hPL HI1 HIA HIE HOLN ⊢
     obtain ⟨lp, hlp⟩ : ∃ lp, Pc.row 3 1 (.slice a6 OL c6) OL (ivs .i64 l) = lp := ⟨_, rfl⟩
     rw [hlp] at hPL
     have HLP : Hid (lp = Pc.row 3 1 (.slice a6 OL c6) OL (ivs .i64 l)) := Lib.hid hlp.symm
     have HLO : Hid (l.length = OL) := Lib.hid hOL
     rw [← HI0.out] at hPL
     have HPL := Lib.hid hPL
     have HIB : Hid (SubI a (IN 0) vs fins) := Lib.hid (by rw [HI0.out]; exact HI.out)
     have HBC : Hid (Below B W1 WC ∧ B ≤ WC.heap.size) := Lib.hid ⟨HBW.out.trans (hC.mono hz), Nat.le_trans hz hC.size⟩
     have HIL : Hid (i < vs.length) := Lib.hid hlt
     clear hIN hol hl hOL hlp hPL s6 hC HP HBW HCM HGS HXO hxi t1 hlt HI HSM HNX HALN HQL HXS
     go_wp2_with (fail)
     go_loopw [41] (fun c W => ∃ (j : Nat) (aS : Option Addr) (cS : Nat) (aF : Option Addr) (cF : Nat) (aA : Option Addr) (cA : Nat) (vs : List SP) (fins : List Bool), j ≤ OL ∧ c = .int .i64 (j : Int) ∧ Pcs W B (subPs po pm mb #[.slice aS vs.length cS, .slice aF fins.length cF, .slice aA (IN j).a.length cA] (.slice aS vs.length cS) (.slice aF fins.length cF) (.slice aA (IN j).a.length cA) vs fins (IN j).a (lp :: [.blk B #[.slice none 0 0, .slice none 0 0, .slice none 0 0]])) ∧ Hid (SubI a (IN j) vs fins) ∧ Below B W1 W ∧ B ≤ W.heap.size) (fun c _ => OL - (intOf c).toNat)
     case atStart => exact ⟨0, _, _, _, _, _, _, vs, fins, Nat.zero_le _, rfl, by rw [HI0.out] at HPL ⊢; exact HPL.out, HIB, HBC.out.1, HBC.out.2⟩
     case round =>
      clear HPL HIB HBC
      obtain ⟨j, aS, cS, aF, cF, aA, cA, vs, fins, hj, rfl, hP, HI, hb, hz⟩ := hrel
      rcases Nat.lt_or_ge j OL with hlt | hge
      ·have t2 : decide (j < OL) = true := decide_eq_true hlt
       obtain ⟨gS, rfl, -, -⟩ := owns_at (hP.row 1 rfl) (by have := (HIG.out j).1; rw [← HI.out.len.1] at this; omega)
       have hiv : i < vs.length := by have := (HIG.out j).1; rw [← HI.out.len.1] at this; exact this
       have hxm := gsp_mem hiv
       have hxo := HI.out.2.2 _ hxm
       have hxS := HI.out.at hiv
       rw [(HIG.out j).2] at hxS
       obtain ⟨c, hc⟩ : ∃ c, gi l j = c := ⟨_, rfl⟩
       obtain ⟨T, hT⟩ : ∃ T, movL a.arcs S c = T := ⟨_, rfl⟩
       have hj1 := HI1.out j hlt
       rw [hc, hT] at hj1
       have HJ := Lib.hid hj1
       have HT2 : Hid (movL a.arcs S c = T) := Lib.hid hT
       have HCT : Hid (CS a T) := Lib.hid (by rw [← hT]; exact cs_mov HV.out _ c)
       have HAL : Hid ((IN j).a.length ≤ 10030000) := Lib.hid (by have := HIA.out j hj; have := HOLN.out; omega)
       have HVL : Hid (vs.length ≤ 100000 ∧ fins.length = vs.length) := Lib.hid (by have h1 := HIQ.out j; have h2 := HI.out.len; have := HOLN.out; omega)
       obtain ⟨KI, hKI⟩ : ∃ KI : Nat, idxS (IN (j + 1)).q T = KI := ⟨_, rfl⟩
       have HKI := Lib.hid hKI
       have HARC : Hid ((IN (j + 1)).a = (IN j).a ++ [⟨(i : Int), c, (KI : Int)⟩]) := Lib.hid (by rw [← hKI, hj1]; exact bq1_arcs i (IN j) c T)
       obtain ⟨X, hX⟩ : ∃ X, lp :: [Pc.blk B #[.slice none 0 0, .slice none 0 0, .slice none 0 0]] = X := ⟨_, rfl⟩
       have HX := Lib.hid hX
       have hrow := hP.each (6 + vs.length) lp (by unfold subPs; rw [show 6 + vs.length = vs.length + 6 by omega]; simp)
       rw [HLP.out] at hrow
       obtain ⟨gL, rfl, -, -⟩ := owns_at hrow (by omega)
       have cl1 : wr.cell? ⟨gL, j, none⟩ = some (.int .i64 c) := by
        have := (own_cell hrow j hlt HLO.out).1
        rw [hc] at this
        exact this
       rw [hX] at hP
       have HPJ := Lib.hid hP
       have HBJ := Lib.hid hb
       have HXI : Hid ((gsp vs i).ok ∧ (gsp vs i).S = S ∧ gsp vs i ∈ vs) := Lib.hid ⟨hxo, hxS, hxm⟩
       have HIV := Lib.hid hiv
       obtain ⟨xi, hxi⟩ : ∃ xi, gsp vs i = xi := ⟨_, rfl⟩
       have HGX := Lib.hid hxi
       rw [hxi] at HXI
       clear hP hb hxm hxo hxS hj1 hT hKI hX hrow hc hiv hxi
       go_wp2_with (fail)
       obtain ⟨S, hSd⟩ : ∃ S : (Nat → Bool) → (Nat → Value) → World → Prop, S = fun L f W => Below B W1 W ∧ B ≤ W.heap.size ∧ (L 13 = false → L 12 = false → Pcs W B (subPs po pm mb #[.slice (some ⟨gS, 0, none⟩) vs.length cS, .slice aF fins.length cF, .slice aA (IN j).a.length cA] (.slice (some ⟨gS, 0, none⟩) vs.length cS) (.slice aF fins.length cF) (.slice aA (IN j).a.length cA) vs fins (IN j).a X)) ∧ (L 13 = false → L 12 = true → Sub12 B po pm mb #[.slice (some ⟨gS, 0, none⟩) vs.length cS, .slice aF fins.length cF, .slice aA (IN j).a.length cA] (.slice (some ⟨gS, 0, none⟩) vs.length cS) (.slice aF fins.length cF) (.slice aA (IN j).a.length cA) vs fins (IN j).a X T (f 12) W) ∧ (L 13 = true → Sub13 a (IN (j + 1)) B po pm mb (.slice aA (IN j).a.length cA) (IN j).a ⟨(i : Int), c, (KI : Int)⟩ X (L 16) (L 18) (f 16) W) ∧ (L 15 = true → L 16 = false → ∃ q, f 15 = .slice (some ⟨q, 0, none⟩) 1 1 ∧ BlkAt W q #[.int .i64 (i : Int), .int .i64 c, .int .i64 (KI : Int)]) := ⟨_, rfl⟩
       refine wp_region_st mixed (by kernel_rfl) [[], [(0, 45)], [], [], [], [], [], [(6, 51)], [], [(7, 52), (8, 53)], [(9, 54)], [], [(5, 50), (10, 55), (11, 56)], [(4, 49), (12, 57), (12, 57)], [(2, 47), (3, 48), (13, 58)], [(14, 59)], [(1, 46), (15, 60), (13, 58)], [(0, 45), (1, 46), (2, 47), (3, 48), (4, 49), (5, 50), (6, 51), (7, 52), (8, 53), (9, 54), (10, 55), (11, 56), (12, 57), (13, 58), (14, 59), (15, 60), (16, 61)], [(17, 62), (16, 61), (16, 61), (0, 45), (1, 46), (2, 47), (3, 48), (4, 49), (5, 50), (6, 51), (7, 52), (8, 53), (9, 54), (10, 55), (11, 56), (12, 57), (13, 58), (14, 59), (15, 60), (16, 61)]] [(0, 45), (1, 46), (2, 47), (3, 48), (4, 49), (5, 50), (6, 51), (7, 52), (8, 53), (9, 54), (10, 55), (11, 56), (12, 57), (13, 58), (14, 59), (15, 60), (16, 61), (17, 62)] rfl rfl [EV ?ec0, EV ?ec1, EV ?ec2, EV ?ec3, EV ?ec4, EV ?ec5, EV ?ec6, EV ?ec7, EV ?ec8, EV ?ec9, EV ?ec10, EV ?ec11, fun v => ∃ x : SP, v = x.v, fun v => v = .int .i64 (KI : Int), EV ?ec14, fun v => ∃ b, v = .slice (some ⟨b, 0, none⟩) 1 1, fun v => ∃ a c, v = .slice a ((IN j).a.length + 1) c, EV ?ec17, fun _ => True] S ?cstart ?csteps ?crest
       case cstart =>
        intro f
        rw [hSd]
        exact ⟨HBJ.out.drew, hz, fun _ _ => HPJ.out.quiet (below_grows ((Below.refl _ _).drew) none), fun _ h => (by cases h), fun h => (by cases h), fun h => (by cases h)⟩
       case csteps =>
        refine ⟨fun L f W hi hd hdn hh hS => ?_, fun L f W hi hd hdn hh hS => ?_, fun L f W hi hd hdn hh hS => ?_, fun L f W hi hd hdn hh hS => ?_, fun L f W hi hd hdn hh hS => ?_, fun L f W hi hd hdn hh hS => ?_, fun L f W hi hd hdn hh hS => ?_, fun L f W hi hd hdn hh hS => ?_, fun L f W hi hd hdn hh hS => ?_, fun L f W hi hd hdn hh hS => ?_, fun L f W hi hd hdn hh hS => ?_, fun L f W hi hd hdn hh hS => ?_, fun L f W hi hd hdn hh hS => ?_, fun L f W hi hd hdn hh hS => ?_, fun L f W hi hd hdn hh hS => ?_, fun L f W hi hd hdn hh hS => ?_, fun L f W hi hd hdn hh hS => ?_, fun L f W hi hd hdn hh hS => ?_, fun L f W hi hd hdn hh hS => ?_, trivial⟩
        ·
         unfold stStep
         rw [if_pos (by simp [Region.wanted])]
         intro K Q hK
         simp only [puts, foldr_nil];go_step
         refine st_ex hK rfl rfl (by simp only [Act.put, setIfInBounds_toArray, set_cons_succ, set_cons_zero, Array.getD_eq_getD_getElem?, List.getElem?_toArray, List.getElem?_cons_succ, List.getElem?_cons_zero, Option.getD_some] <;> rfl) rfl (by rw [hSd] at hS ⊢; exact hS)
        ·
         obtain ⟨h0, -⟩ := hh;have g0 : f 0=_:=h0
         have l16 : L 16 = false := Bool.eq_false_iff.2 fun h => by have q := hdn 16 _ h rfl 1 (by decide); rw [show L 1 = false from hi] at q; cases q
         have l18 : L 18 = false := Bool.eq_false_iff.2 fun h => by have q := hdn 18 _ h rfl 16 (by decide); rw [show L 16 = false from l16] at q; cases q
         unfold stStep
         rw [if_pos (by simp [Region.wanted])]
         intro K Q hK
         simp only [puts, Za, Zb, Zc, Zd, Ze, g0]
         have hS' := hS
         rw [hSd] at hS'
         simp only [l18] at hS'
         have x1 := sub_c2 hS'.2.2.1 hS'.2.2.2.1 hS'.2.2.2.2.1
         go_step
         refine st_ex hK rfl rfl (by simp only [Act.put, setIfInBounds_toArray, set_cons_succ, set_cons_zero, Array.getD_eq_getD_getElem?, List.getElem?_toArray, List.getElem?_cons_succ, List.getElem?_cons_zero, Option.getD_some] <;> rfl) rfl (by rw [hSd] at hS ⊢; exact hS)
        ·
         unfold stStep
         rw [if_pos (by simp [Region.wanted])]
         intro K Q hK
         simp only [puts, foldr_nil];go_step
         refine st_ex hK rfl rfl (by simp only [Act.put, setIfInBounds_toArray, set_cons_succ, set_cons_zero, Array.getD_eq_getD_getElem?, List.getElem?_toArray, List.getElem?_cons_succ, List.getElem?_cons_zero, Option.getD_some] <;> rfl) rfl (by rw [hSd] at hS ⊢; exact hS)
        ·
         unfold stStep
         rw [if_pos (by simp [Region.wanted])]
         intro K Q hK
         simp only [puts, foldr_nil];go_step
         refine st_ex hK rfl rfl (by simp only [Act.put, setIfInBounds_toArray, set_cons_succ, set_cons_zero, Array.getD_eq_getD_getElem?, List.getElem?_toArray, List.getElem?_cons_succ, List.getElem?_cons_zero, Option.getD_some] <;> rfl) rfl (by rw [hSd] at hS ⊢; exact hS)
        ·
         unfold stStep
         rw [if_pos (by simp [Region.wanted])]
         intro K Q hK
         simp only [puts, foldr_nil];go_step
         refine st_ex hK rfl rfl (by simp only [Act.put, setIfInBounds_toArray, set_cons_succ, set_cons_zero, Array.getD_eq_getD_getElem?, List.getElem?_toArray, List.getElem?_cons_succ, List.getElem?_cons_zero, Option.getD_some] <;> rfl) rfl (by rw [hSd] at hS ⊢; exact hS)
        ·
         unfold stStep
         rw [if_pos (by simp [Region.wanted])]
         intro K Q hK
         simp only [puts, foldr_nil]
         have hS' := hS
         rw [hSd] at hS'
         obtain ⟨⟨f1, f2, f3, f4⟩, -, -⟩ := HO.out W hS'.1
         go_step
         refine st_ex hK rfl rfl (by simp only [Act.put, setIfInBounds_toArray, set_cons_succ, set_cons_zero, Array.getD_eq_getD_getElem?, List.getElem?_toArray, List.getElem?_cons_succ, List.getElem?_cons_zero, Option.getD_some] <;> rfl) rfl (by rw [hSd] at hS ⊢; exact hS)
        ·
         unfold stStep
         rw [if_pos (by simp [Region.wanted])]
         intro K Q hK
         simp only [puts, foldr_nil];go_step
         refine st_ex hK rfl rfl (by simp only [Act.put, setIfInBounds_toArray, set_cons_succ, set_cons_zero, Array.getD_eq_getD_getElem?, List.getElem?_toArray, List.getElem?_cons_succ, List.getElem?_cons_zero, Option.getD_some] <;> rfl) rfl (by rw [hSd] at hS ⊢; exact hS)
        ·
         obtain ⟨h6, -⟩ := hh;have g6 : f 6=_:=h6
         have l9 : L 9 = false := Bool.eq_false_iff.2 fun h => by have q := hdn 9 _ h rfl 7 (by decide); rw [show L 7 = false from hi] at q; cases q
         have l10 : L 10 = false := Bool.eq_false_iff.2 fun h => by have q := hdn 10 _ h rfl 9 (by decide); rw [show L 9 = false from l9] at q; cases q
         have l12 : L 12 = false := Bool.eq_false_iff.2 fun h => by have q := hdn 12 _ h rfl 10 (by decide); rw [show L 10 = false from l10] at q; cases q
         have l13 : L 13 = false := Bool.eq_false_iff.2 fun h => by have q := hdn 13 _ h rfl 12 (by decide); rw [show L 12 = false from l12] at q; cases q
         unfold stStep
         rw [if_pos (by simp [Region.wanted])]
         intro K Q hK
         simp only [puts, Za, Zb, Zc, Zd, Ze, g6]
         have hS' := hS
         rw [hSd] at hS'
         have x7 := (sub_c0 l13 hS'.2.2.1 hS'.2.2.2.1).1
         go_step
         refine st_ex hK rfl rfl (by simp only [Act.put, setIfInBounds_toArray, set_cons_succ, set_cons_zero, Array.getD_eq_getD_getElem?, List.getElem?_toArray, List.getElem?_cons_succ, List.getElem?_cons_zero, Option.getD_some] <;> rfl) rfl (by rw [hSd] at hS ⊢; exact hS)
        ·
         unfold stStep
         rw [if_pos (by simp [Region.wanted])]
         intro K Q hK
         simp only [puts, foldr_nil];go_step
         refine st_ex hK rfl rfl (by simp only [Act.put, setIfInBounds_toArray, set_cons_succ, set_cons_zero, Array.getD_eq_getD_getElem?, List.getElem?_toArray, List.getElem?_cons_succ, List.getElem?_cons_zero, Option.getD_some] <;> rfl) rfl (by rw [hSd] at hS ⊢; exact hS)
        ·
         obtain ⟨h7, h8, -⟩ := hh;have g7 : f 7=_:=h7;have g8 : f 8=_:=h8
         unfold stStep
         rw [if_pos (by simp [Region.wanted])]
         intro K Q hK
         simp only [puts, Za, Zb, Zc, Zd, Ze, g7, g8]
         have hiv := HIV.out
         go_step
         refine st_ex hK rfl rfl (by simp only [Act.put, setIfInBounds_toArray, set_cons_succ, set_cons_zero, Array.getD_eq_getD_getElem?, List.getElem?_toArray, List.getElem?_cons_succ, List.getElem?_cons_zero, Option.getD_some] <;> rfl) rfl (by rw [hSd] at hS ⊢; exact hS)
        ·
         obtain ⟨h9, -⟩ := hh;have g9 : f 9=_:=h9
         have l12 : L 12 = false := Bool.eq_false_iff.2 fun h => by have q := hdn 12 _ h rfl 10 (by decide); rw [show L 10 = false from hi] at q; cases q
         have l13 : L 13 = false := Bool.eq_false_iff.2 fun h => by have q := hdn 13 _ h rfl 12 (by decide); rw [show L 12 = false from l12] at q; cases q
         unfold stStep
         rw [if_pos (by simp [Region.wanted])]
         intro K Q hK
         simp only [puts, Za, Zb, Zc, Zd, Ze, g9]
         have hS' := hS
         rw [hSd] at hS'
         have x10 := (sub_c0 l13 hS'.2.2.1 hS'.2.2.2.1).2 i HIV.out
         rw [HGX.out] at x10
         unfold SP.v at x10
         go_step
         refine st_ex hK rfl rfl (by simp only [Act.put, setIfInBounds_toArray, set_cons_succ, set_cons_zero, Array.getD_eq_getD_getElem?, List.getElem?_toArray, List.getElem?_cons_succ, List.getElem?_cons_zero, Option.getD_some] <;> rfl) rfl (by rw [hSd] at hS ⊢; exact hS)
        ·
         unfold stStep
         rw [if_pos (by simp [Region.wanted])]
         intro K Q hK
         simp only [puts, foldr_nil];go_step
         refine st_ex hK rfl rfl (by simp only [Act.put, setIfInBounds_toArray, set_cons_succ, set_cons_zero, Array.getD_eq_getD_getElem?, List.getElem?_toArray, List.getElem?_cons_succ, List.getElem?_cons_zero, Option.getD_some] <;> rfl) rfl (by rw [hSd] at hS ⊢; exact hS)
        ·
         obtain ⟨h5, h10, h11, -⟩ := hh;have g5 : f 5=_:=h5;have g10 : f 10=_:=h10;have g11 : f 11=_:=h11
         have l13 : L 13 = false := Bool.eq_false_iff.2 fun h => by have q := hdn 13 _ h rfl 12 (by decide); rw [show L 12 = false from hi] at q; cases q
         have l14 : L 14 = false := Bool.eq_false_iff.2 fun h => by have q := hdn 14 _ h rfl 13 (by decide); rw [show L 13 = false from l13] at q; cases q
         have l15 : L 15 = false := Bool.eq_false_iff.2 fun h => by have q := hdn 15 _ h rfl 14 (by decide); rw [show L 14 = false from l14] at q; cases q
         have l16 : L 16 = false := Bool.eq_false_iff.2 fun h => by have q := hdn 16 _ h rfl 15 (by decide); rw [show L 15 = false from l15] at q; cases q
         have l18 : L 18 = false := Bool.eq_false_iff.2 fun h => by have q := hdn 18 _ h rfl 16 (by decide); rw [show L 16 = false from l16] at q; cases q
         unfold stStep
         rw [if_pos (by simp [Region.wanted])]
         intro K Q hK
         simp only [puts, Za, Zb, Zc, Zd, Ze, g5, g10, g11]
         rw [hSd] at hS hK
         have l12 : L 12 = false := hi
         try simp only [stage, l13, l14, l15, l16, l18, l12, if_true, if_false, Bool.false_eq_true] at hS
         obtain ⟨hbW, hzW, h0, -, -, -⟩ := hS
         have hPW := h0 trivial trivial
         obtain ⟨-, hdW, hTW⟩ := HO.out W hbW
         have hmv := moved_any (w := W) (c := c) HV.out hdW (sub_part hPW HXI.out.2.2 HXI.out.1).ints (by have := HXI.out.1.2.2.1; rw [HXI.out.2.1] at this; exact this) HCS.out hTW
         simp only [vNf] at hmv
         rw [HT2.out] at hmv
         go_step
         go_at_call 30
         refine hmv.mono ?_
         rintro e w' hg
         obtain ⟨x, rfl, hxo, hxS, hxp, hb4⟩ := gives_sp hg
         have hP4 := sub_more hPW hb4 hzW hxp (hxp.from' hzW)
         refine hK.out _ _ rfl ⟨x, rfl⟩ ?_
         exact ⟨hbW.trans (hb4.mono hzW), Nat.le_trans hzW hb4.size, fun _ h => (by simp at h), fun _ _ => ⟨x, rfl, hxo, hxS, hP4⟩, fun h => (by simp [l13] at h), fun h => (by simp [l15] at h)⟩
        ·
         obtain ⟨h4, h12, _, -⟩ := hh;have g4 : f 4=_:=h4
         obtain ⟨x12, (g12 : f 12 = _)⟩ := h12
         have l12 : L 12 = true := hd 12 (by decide)
         have l14 : L 14 = false := Bool.eq_false_iff.2 fun h => by have q := hdn 14 _ h rfl 13 (by decide); rw [show L 13 = false from hi] at q; cases q
         have l15 : L 15 = false := Bool.eq_false_iff.2 fun h => by have q := hdn 15 _ h rfl 14 (by decide); rw [show L 14 = false from l14] at q; cases q
         have l16 : L 16 = false := Bool.eq_false_iff.2 fun h => by have q := hdn 16 _ h rfl 15 (by decide); rw [show L 15 = false from l15] at q; cases q
         have l18 : L 18 = false := Bool.eq_false_iff.2 fun h => by have q := hdn 18 _ h rfl 16 (by decide); rw [show L 16 = false from l16] at q; cases q
         unfold stStep
         rw [if_pos (by simp [Region.wanted])]
         intro K Q hK
         simp only [puts, Za, Zb, Zc, Zd, Ze, g4, g12]
         rw [hSd] at hS hK
         have l13 : L 13 = false := hi
         try simp only [stage, l14, l15, l16, l18, l13, l12, if_true, if_false, Bool.false_eq_true] at hS
         obtain ⟨hbW, hzW, -, h12, -, -⟩ := hS
         obtain ⟨x, ex, hxo, hxS, hPW⟩ := h12 trivial trivial
         rw [g12] at ex
         have hnum := number_any (h := h) (pa := w.heap.size) HV.out HO.out hbW hzW hPW hxo (by rw [hxS]; exact HCT.out) HVL.out.1 HVL.out.2
         go_step
         go_at_call 62
         refine hnum.mono ?_
         rintro e w' ⟨rfl, ⟨aS', cS', aF', cF', hP'⟩, hb'⟩
         have hadd := HI.out.add hxo i c
         rw [hxS, ← HJ.out] at hadd
         rw [hxS] at hP'
         refine hK.out _ _ rfl (show Value.int .i64 ((idxS ((addS vs x).map SP.S) x.S : Nat) : Int) = .int .i64 (KI : Int) by rw [hadd.1, hxS, HKI.out]) ?_
         refine ⟨hbW.trans hb', Nat.le_trans hzW hb'.size, fun h => (by simp at h), fun h => (by simp at h), fun _ => ?_, fun h => (by simp [l15] at h)⟩
         simp only [l16, l18, Bool.false_eq_true, ↓reduceIte, Nat.reduceEqDiff]
         exact ⟨aS', cS', aF', cF', _, _, hadd, hP'⟩
        ·
         obtain ⟨h2, h3, h13, -⟩ := hh;have g2 : f 2=_:=h2;have g3 : f 3=_:=h3;have g13 : f 13=_:=h13
         unfold stStep
         rw [if_pos (by simp [Region.wanted])]
         intro K Q hK
         simp only [puts, Za, Zb, Zc, Zd, Ze, g2, g3, g13];go_step
         refine st_ex hK rfl rfl (by simp only [Act.put, setIfInBounds_toArray, set_cons_succ, set_cons_zero, Array.getD_eq_getD_getElem?, List.getElem?_toArray, List.getElem?_cons_succ, List.getElem?_cons_zero, Option.getD_some] <;> rfl) rfl (by rw [hSd] at hS ⊢; exact hS)
        ·
         obtain ⟨h14, -⟩ := hh;have g14 : f 14=_:=h14
         have l16 : L 16 = false := Bool.eq_false_iff.2 fun h => by have q := hdn 16 _ h rfl 15 (by decide); rw [show L 15 = false from hi] at q; cases q
         have l18 : L 18 = false := Bool.eq_false_iff.2 fun h => by have q := hdn 18 _ h rfl 16 (by decide); rw [show L 16 = false from l16] at q; cases q
         unfold stStep
         rw [if_pos (by simp [Region.wanted])]
         intro K Q hK
         simp only [puts, Za, Zb, Zc, Zd, Ze, g14]
         rw [hSd] at hS hK
         have l15 : L 15 = false := hi
         try simp only [stage, l16, l18, l15, if_true, if_false, Bool.false_eq_true] at hS
         have l13 : L 13 = true := hdn 14 _ (hd 14 (by decide)) rfl 13 (by decide)
         obtain ⟨hbW, hzW, -, -, h13, -⟩ := hS
         obtain ⟨aS', cS', aF', cF', vs', fins', hsi, hPW⟩ := h13 l13
         have hal : Below W.heap.size W (W.alloc (.cells #[.int .i64 (i : Int), .int .i64 c, .int .i64 (KI : Int)] 49)) := (Below.refl _ _).alloc (Nat.le_refl _) _
         go_step
         refine hK.out _ _ rfl ⟨_, rfl⟩ ?_
         refine ⟨hbW.alloc hzW _, by simp; omega, fun h => (by simp [l13] at h), fun h => (by simp [l13] at h), fun _ => ?_, fun _ _ => ⟨_, rfl, BlkAt.new W _ _⟩⟩
         simp only [l16, l18, Bool.false_eq_true, ↓reduceIte, Nat.reduceEqDiff]
         exact ⟨aS', cS', aF', cF', vs', fins', hsi, hPW.quiet (below_grows hal none)⟩
        ·
         obtain ⟨h1, h15, h13, -⟩ := hh;have g1 : f 1=_:=h1
         obtain ⟨b15, (g15 : f 15 = _)⟩ := h15
         have g13 : f 13=_:=h13
         have l15 : L 15 = true := hd 15 (by decide)
         have l18 : L 18 = false := Bool.eq_false_iff.2 fun h => by have q := hdn 18 _ h rfl 16 (by decide); rw [show L 16 = false from hi] at q; cases q
         unfold stStep
         rw [if_pos (by simp [Region.wanted])]
         intro K Q hK
         simp only [puts, Za, Zb, Zc, Zd, Ze, g1, g15, g13]
         rw [hSd] at hS hK
         have l16 : L 16 = false := hi
         try simp only [stage, l18, l16, l15, if_true, if_false, Bool.false_eq_true] at hS
         have l13 : L 13 = true := hdn 14 _ (hdn 15 _ (hd 15 (by decide)) rfl 14 (by decide)) rfl 13 (by decide)
         obtain ⟨hbW, hzW, -, -, h13, h15⟩ := hS
         obtain ⟨q, e15, hq⟩ := h15 trivial trivial
         rw [g15] at e15
         obtain rfl : b15 = q := by simpa using e15
         obtain ⟨aS', cS', aF', cF', vs', fins', hsi, hPW⟩ := h13 l13
         simp only [Bool.false_eq_true, ↓reduceIte] at hPW
         refine wp_app_pcs elA _ _ rfl 3 (v := .slice aA (IN j).a.length cA) (n := (IN j).a.length) (m := 1) rfl hPW rfl (news := [.int .i64 (i : Int), .int .i64 c, .int .i64 (KI : Int)]) rfl ⟨rfl, fun ad e j' u hj' => by injection e with e; subst e; rw [addr_add, Nat.zero_add, (hq.cell j').1, ← hj']; simp, fun e => by cases e⟩ (by simp [Value.oneCell']) (by have := HAL.out; omega) hzW ?_
         intro a' c' w' hp' hbw
         refine hK.out _ _ rfl ⟨a', c', rfl⟩ ?_
         refine ⟨hbW.trans hbw, Nat.le_trans hzW hbw.size, fun h => (by simp [l13] at h), fun h => (by simp [l13] at h), fun _ => ?_, fun _ h => (by simp at h)⟩
         simp only [l18, Bool.false_eq_true, ↓reduceIte, Nat.reduceEqDiff]
         refine ⟨aS', cS', aF', cF', vs', fins', hsi, ?_⟩
         simp only [↓reduceIte, Bool.false_eq_true]
         unfold subPs
         rw [tvs_append, List.length_append]
         exact hp'
        ·
         obtain ⟨h0, h1, h2, h3, h4, h5, h6, h7, h8, h9, h10, h11, h12, h13, h14, h15, h16, -⟩ := hh;have g0 : f 0=_:=h0;have g1 : f 1=_:=h1;have g2 : f 2=_:=h2;have g3 : f 3=_:=h3;have g4 : f 4=_:=h4;have g5 : f 5=_:=h5;have g6 : f 6=_:=h6;have g7 : f 7=_:=h7;have g8 : f 8=_:=h8;have g9 : f 9=_:=h9;have g10 : f 10=_:=h10;have g11 : f 11=_:=h11
         obtain ⟨x12, (g12 : f 12 = _)⟩ := h12
         have g13 : f 13=_:=h13;have g14 : f 14=_:=h14
         obtain ⟨b15, (g15 : f 15 = _)⟩ := h15
         obtain ⟨a16, c16, (g16 : f 16 = _)⟩ := h16
         unfold stStep
         rw [if_pos (by simp [Region.wanted])]
         intro K Q hK
         simp only [puts, Za, Zb, Zc, Zd, Ze, g0, g1, g2, g3, g4, g5, g6, g7, g8, g9, g10, g11, g12, g13, g14, g15, g16];go_step
         refine st_ex hK rfl rfl (by simp only [Act.put, setIfInBounds_toArray, set_cons_succ, set_cons_zero, Array.getD_eq_getD_getElem?, List.getElem?_toArray, List.getElem?_cons_succ, List.getElem?_cons_zero, Option.getD_some] <;> rfl) rfl (by rw [hSd] at hS ⊢; exact hS)
        ·
         obtain ⟨h17, h16, _, h0, h1, h2, h3, h4, h5, h6, h7, h8, h9, h10, h11, h12, h13, h14, h15, _, -⟩ := hh;have g17 : f 17=_:=h17
         obtain ⟨a16, c16, (g16 : f 16 = _)⟩ := h16
         have g0 : f 0=_:=h0;have g1 : f 1=_:=h1;have g2 : f 2=_:=h2;have g3 : f 3=_:=h3;have g4 : f 4=_:=h4;have g5 : f 5=_:=h5;have g6 : f 6=_:=h6;have g7 : f 7=_:=h7;have g8 : f 8=_:=h8;have g9 : f 9=_:=h9;have g10 : f 10=_:=h10;have g11 : f 11=_:=h11
         obtain ⟨x12, (g12 : f 12 = _)⟩ := h12
         have g13 : f 13=_:=h13;have g14 : f 14=_:=h14
         obtain ⟨b15, (g15 : f 15 = _)⟩ := h15
         have l16 : L 16 = true := hd 16 (by decide)
         unfold stStep
         rw [if_pos (by simp [Region.wanted])]
         intro K Q hK
         simp only [puts, Za, Zb, Zc, Zd, Ze, g17, g16, g0, g1, g2, g3, g4, g5, g6, g7, g8, g9, g10, g11, g12, g13, g14, g15]
         rw [hSd] at hS hK
         have l18 : L 18 = false := hi
         try simp only [stage, l18, l16, if_true, if_false, Bool.false_eq_true] at hS
         have l13 : L 13 = true := hdn 14 _ (hdn 15 _ (hdn 16 _ (hd 16 (by decide)) rfl 15 (by decide)) rfl 14 (by decide)) rfl 13 (by decide)
         have l16' : L 16 = true := hd 16 (by decide)
         obtain ⟨hbW, hzW, -, -, h13, -⟩ := hS
         obtain ⟨aS', cS', aF', cF', vs', fins', hsi, hPW⟩ := h13 l13
         simp only [Bool.false_eq_true, ↓reduceIte, g16] at hPW
         have y0 := (hPW.blk 0 rfl).1
         have y1 := ((hPW.blk 0 rfl).2.cell 2)
         have y2 : W.cell? ⟨po, 2, none⟩ = some (.slice aA (IN j).a.length cA) := y1.1
         have y3 := y1.2
         go_step
         refine hK.out _ _ rfl trivial ?_
         refine ⟨hbW.setCell (by show _ ≤ po; omega) _, by rw [World.size_setCell]; exact hzW, fun h => (by simp [l13] at h), fun h => (by simp [l13] at h), fun _ => ?_, fun _ h => (by simp [l16'] at h)⟩
         simp only [l16', ↓reduceIte, Nat.reduceEqDiff, g16]
         refine ⟨aS', cS', aF', cF', vs', fins', hsi, ?_⟩
         simp only [↓reduceIte]
         exact hPW.blkStore 0 rfl 2 _
       case crest =>
        intro L f WD hL hh hS
        rw [hSd] at hS
        clear hSd
        have l12 : L 12 = true := hL 12 (by decide)
        have l13 : L 13 = true := hL 13 (by decide)
        have l15 : L 15 = true := hL 15 (by decide)
        have l16 : L 16 = true := hL 16 (by decide)
        have l18 : L 18 = true := hL 18 (by decide)
        simp only [stage, l12, l13, l15, l16, l18, if_true] at hS
        clear hL l12 l13 l15 l16 l18
        obtain ⟨h0, h1, h2, h3, h4, h5, h6, h7, h8, h9, h10, h11, h12, h13, h14, h15, h16, h17, -⟩ := hh;have g0 : f 0=_:=h0;have g1 : f 1=_:=h1;have g2 : f 2=_:=h2;have g3 : f 3=_:=h3;have g4 : f 4=_:=h4;have g5 : f 5=_:=h5;have g6 : f 6=_:=h6;have g7 : f 7=_:=h7;have g8 : f 8=_:=h8;have g9 : f 9=_:=h9;have g10 : f 10=_:=h10;have g11 : f 11=_:=h11
        obtain ⟨x12, (g12 : f 12 = _)⟩ := h12
        have g13 : f 13=_:=h13;have g14 : f 14=_:=h14
        obtain ⟨b15, (g15 : f 15 = _)⟩ := h15
        obtain ⟨a16, c16, (g16 : f 16 = _)⟩ := h16
        have g17 : f 17=_:=h17;simp only [puts, Za, Zb, Zc, Zd, Ze, g0, g1, g2, g3, g4, g5, g6, g7, g8, g9, g10, g11, g12, g13, g14, g15, g16, g17]
        clear h0 h1 h2 h3 h4 h5 h6 h7 h8 h9 h10 h11 h13 h14 h17 g0 g1 g2 g3 g4 g5 g6 g7 g8 g9 g10 g11 g13 g14 g17
        obtain ⟨hbD, hzD, -, -, hS, -⟩ := hS
        have hS2 := hS trivial
        obtain ⟨aS', cS', aF', cF', vs', fins', hsi, hPD⟩ := hS2
        simp only [↓reduceIte, g16] at hPD
        have HPD : Hid (Pcs WD B (subPs po pm mb #[.slice aS' vs'.length cS', .slice aF' fins'.length cF', .slice a16 (IN (j + 1)).a.length c16] (.slice aS' vs'.length cS') (.slice aF' fins'.length cF') (.slice a16 (IN (j + 1)).a.length c16) vs' fins' (IN (j + 1)).a (lp :: [.blk B #[.slice none 0 0, .slice none 0 0, .slice none 0 0]]))) := Lib.hid (by
         rw [HARC.out, HX.out, List.length_append]
         exact hPD)
        have HSI := Lib.hid hsi
        have hOLb := HOLN.out
        clear hPD hS hsi
        go_wp2_with (fail)
        go_roundw
        case rel => exact ⟨j + 1, aS', cS', aF', cF', a16, c16, vs', fins', hlt, by go_num, HPD.out, HSI, hbD, hzD⟩
        case measure => simp [intOf]; omega
      ·have t2 : decide (j < OL) = false := decide_eq_false (by omega)
       obtain rfl : j = OL := by omega
       have hP2 := subPs_drop hP
       have HIN2 : Hid (i + 1 ≤ vs.length ∧ ((i + 1 : Nat) : Int) ≤ 1001) := Lib.hid (by
        have h1 := (HIG.out j).1
        rw [← HI.out.len.1] at h1
        omega)
       rw [HIE.out] at hP2 HI
       have HP2 := Lib.hid hP2
       clear hP hP2
       go_wp2_with (fail)
       go_roundw
       case rel => exact ⟨i + 1, aS, cS, aF, cF, aA, cA, vs, fins, HIN2.out.1, HIN2.out.2, by go_num, HP2.out, HI, hb, hz⟩
       case measure => simp [intOf]; omega
  ·have t1 : decide (i < vs.length) = false := decide_eq_false (by omega)
   have hvl := HI.out.len
   have HDK : Hid (decide ((vs.length : Int) ≤ L) = detOk a L ∧ (detOk a L = true → detB a i = detF a)) := Lib.hid (by
    by_cases hlim : (vs.length : Int) ≤ L
    ·have h1 := detB_fin (a := a) (lim := L) (k := i) (by rw [← hvl.1]; exact hge) (by rw [← hvl.1]; omega)
     rw [detOk_yes h1.1]
     exact ⟨decide_eq_true hlim, fun _ => h1.2⟩
    ·rw [detOk_no (a := a) (lim := L) (k := i) (by rw [← hvl.1]; omega)]
     exact ⟨decide_eq_false hlim, fun e => by cases e⟩)
   have HPE := Lib.hid hP
   have HBE2 := Lib.hid hb
   obtain ⟨ar, har⟩ : ∃ ar, (detB a i).a = ar := ⟨_, rfl⟩
   have HAR := Lib.hid har
   rw [har] at HPE
   have HVL := Lib.hid hvl
   clear hP hb har hvl
   go_wp2_with (fail)
   obtain ⟨S, hSd⟩ : ∃ S : (Nat → Bool) → (Nat → Value) → World → Prop, S = fun L f W => Below B W1 W ∧ B ≤ W.heap.size ∧ Pcs W B (subPs po pm mb #[.slice aS vs.length cS, .slice aF fins.length cF, .slice aA ar.length cA] (.slice aS vs.length cS) (.slice aF fins.length cF) (.slice aA ar.length cA) vs fins ar [.blk B (if L 6 = true then #[.slice aS vs.length cS, .slice aF fins.length cF, .slice aA ar.length cA] else #[.slice none 0 0, .slice none 0 0, .slice none 0 0])]) := ⟨_, rfl⟩
   refine wp_region_st mixed (by kernel_rfl) [[], [], [(1, 65)], [(2, 66)], [], [(3, 67), (4, 68)], [(0, 64), (0, 64)], [(5, 69), (0, 64), (1, 65), (2, 66), (3, 67), (4, 68), (5, 69)]] [(0, 64), (1, 65), (2, 66), (3, 67), (4, 68), (5, 69), (7, 5)] rfl rfl [EV ?ee0, EV ?ee1, EV ?ee2, EV ?ee3, EV ?ee4, EV ?ee5, fun _ => True, EV ?ee7] S ?estart ?esteps ?erest
   case estart =>
    intro f
    rw [hSd]
    exact ⟨HBE2.out.drew, hz, HPE.out.quiet (below_grows ((Below.refl _ _).drew) none)⟩
   case esteps =>
    refine ⟨fun L f W hi hd hdn hh hS => ?_, fun L f W hi hd hdn hh hS => ?_, fun L f W hi hd hdn hh hS => ?_, fun L f W hi hd hdn hh hS => ?_, fun L f W hi hd hdn hh hS => ?_, fun L f W hi hd hdn hh hS => ?_, fun L f W hi hd hdn hh hS => ?_, fun L f W hi hd hdn hh hS => ?_, trivial⟩
    ·
     unfold stStep
     rw [if_pos (by simp [Region.wanted])]
     intro K Q hK
     simp only [puts, foldr_nil]
     have hS' := hS
     rw [hSd] at hS'
     have q0 : W.cell? ⟨po, 0, none⟩ = some (.slice aS vs.length cS) := ((hS'.2.2.blk 0 rfl).2.cell 0).1
     have q1 : W.cell? ⟨po, 1, none⟩ = some (.slice aF fins.length cF) := ((hS'.2.2.blk 0 rfl).2.cell 1).1
     have q2 : W.cell? ⟨po, 2, none⟩ = some (.slice aA ar.length cA) := ((hS'.2.2.blk 0 rfl).2.cell 2).1
     go_step
     refine st_ex hK rfl rfl (by simp only [Act.put, setIfInBounds_toArray, set_cons_succ, set_cons_zero, Array.getD_eq_getD_getElem?, List.getElem?_toArray, List.getElem?_cons_succ, List.getElem?_cons_zero, Option.getD_some] <;> rfl) rfl (by rw [hSd] at hS ⊢; exact hS)
    ·
     unfold stStep
     rw [if_pos (by simp [Region.wanted])]
     intro K Q hK
     simp only [puts, foldr_nil];go_step
     refine st_ex hK rfl rfl (by simp only [Act.put, setIfInBounds_toArray, set_cons_succ, set_cons_zero, Array.getD_eq_getD_getElem?, List.getElem?_toArray, List.getElem?_cons_succ, List.getElem?_cons_zero, Option.getD_some] <;> rfl) rfl (by rw [hSd] at hS ⊢; exact hS)
    ·
     obtain ⟨h1, -⟩ := hh;have g1 : f 1=_:=h1
     unfold stStep
     rw [if_pos (by simp [Region.wanted])]
     intro K Q hK
     simp only [puts, Za, Zb, Zc, Zd, Ze, g1]
     have hS' := hS
     rw [hSd] at hS'
     have q0 : W.cell? ⟨po, 0, none⟩ = some (.slice aS vs.length cS) := ((hS'.2.2.blk 0 rfl).2.cell 0).1
     go_step
     refine st_ex hK rfl rfl (by simp only [Act.put, setIfInBounds_toArray, set_cons_succ, set_cons_zero, Array.getD_eq_getD_getElem?, List.getElem?_toArray, List.getElem?_cons_succ, List.getElem?_cons_zero, Option.getD_some] <;> rfl) rfl (by rw [hSd] at hS ⊢; exact hS)
    ·
     obtain ⟨h2, -⟩ := hh;have g2 : f 2=_:=h2
     unfold stStep
     rw [if_pos (by simp [Region.wanted])]
     intro K Q hK
     simp only [puts, Za, Zb, Zc, Zd, Ze, g2];go_step
     refine st_ex hK rfl rfl (by simp only [Act.put, setIfInBounds_toArray, set_cons_succ, set_cons_zero, Array.getD_eq_getD_getElem?, List.getElem?_toArray, List.getElem?_cons_succ, List.getElem?_cons_zero, Option.getD_some] <;> rfl) rfl (by rw [hSd] at hS ⊢; exact hS)
    ·
     unfold stStep
     rw [if_pos (by simp [Region.wanted])]
     intro K Q hK
     simp only [puts, foldr_nil];go_step
     refine st_ex hK rfl rfl (by simp only [Act.put, setIfInBounds_toArray, set_cons_succ, set_cons_zero, Array.getD_eq_getD_getElem?, List.getElem?_toArray, List.getElem?_cons_succ, List.getElem?_cons_zero, Option.getD_some] <;> rfl) rfl (by rw [hSd] at hS ⊢; exact hS)
    ·
     obtain ⟨h3, h4, -⟩ := hh;have g3 : f 3=_:=h3;have g4 : f 4=_:=h4
     unfold stStep
     rw [if_pos (by simp [Region.wanted])]
     intro K Q hK
     simp only [puts, Za, Zb, Zc, Zd, Ze, g3, g4];go_step
     refine st_ex hK rfl rfl (by simp only [Act.put, setIfInBounds_toArray, set_cons_succ, set_cons_zero, Array.getD_eq_getD_getElem?, List.getElem?_toArray, List.getElem?_cons_succ, List.getElem?_cons_zero, Option.getD_some] <;> rfl) rfl (by rw [hSd] at hS ⊢; exact hS)
    ·
     obtain ⟨h0, _, -⟩ := hh;have g0 : f 0=_:=h0
     have l0 : L 0 = true := hd 0 (by decide)
     unfold stStep
     rw [if_pos (by simp [Region.wanted])]
     intro K Q hK
     simp only [puts, Za, Zb, Zc, Zd, Ze, g0]
     rw [hSd] at hS hK
     have l6 : L 6 = false := hi
     try simp only [stage, l6, l0, if_true, if_false, Bool.false_eq_true] at hS
     obtain ⟨hbW, hzW, hPW⟩ := hS
     obtain ⟨-, TZ, hZ⟩ := sub_blk hPW
     refine wp_store_row 62 _ _ rfl B #[.slice aS vs.length cS, .slice aF fins.length cF, .slice aA ar.length cA] rfl rfl _ _ hZ subs_i rfl (subs_one _ _ _ _ _ _ _ _ _) ?_
     refine hK.out _ _ rfl trivial ?_
     refine ⟨below_setRow hbW (Nat.le_refl _) _, by simp [World.setRow]; omega, ?_⟩
     simp only [↓reduceIte, Nat.reduceEqDiff]
     exact sub_res hPW _
    ·
     obtain ⟨h5, h0, h1, h2, h3, h4, _, -⟩ := hh;have g5 : f 5=_:=h5;have g0 : f 0=_:=h0;have g1 : f 1=_:=h1;have g2 : f 2=_:=h2;have g3 : f 3=_:=h3;have g4 : f 4=_:=h4
     unfold stStep
     rw [if_pos (by simp [Region.wanted])]
     intro K Q hK
     simp only [puts, Za, Zb, Zc, Zd, Ze, g5, g0, g1, g2, g3, g4];go_step
     refine st_ex hK rfl rfl (by simp only [Act.put, setIfInBounds_toArray, set_cons_succ, set_cons_zero, Array.getD_eq_getD_getElem?, List.getElem?_toArray, List.getElem?_cons_succ, List.getElem?_cons_zero, Option.getD_some] <;> rfl) rfl (by rw [hSd] at hS ⊢; exact hS)
   case erest =>
    intro L f WE hL hh hS
    rw [hSd] at hS
    clear hSd
    have l6 : L 6 = true := hL 6 (by decide)
    simp only [stage, l6, if_true] at hS
    clear hL l6
    obtain ⟨h0, h1, h2, h3, h4, h5, h7, -⟩ := hh;have g0 : f 0=_:=h0;have g1 : f 1=_:=h1;have g2 : f 2=_:=h2;have g3 : f 3=_:=h3;have g4 : f 4=_:=h4;have g5 : f 5=_:=h5;have g7 : f 7=_:=h7;simp only [puts, Za, Zb, Zc, Zd, Ze, g0, g1, g2, g3, g4, g5, g7]
    clear h0 h1 h2 h3 h4 h5 h7 g0 g1 g2 g3 g4 g5 g7
    obtain ⟨hbE, hzE, hPE⟩ := hS
    obtain ⟨-, TZ, hZE⟩ := sub_blk hPE
    have HPF := Lib.hid hPE
    have HZF := Lib.hid hZE
    clear hPE hZE
    go_wp2_with (fail)
    refine bodyPost_ret (results_row2 rfl _ _ B _ _ _ _ rfl rfl HZF.out Tryz.underlying62 rfl subs_i) rfl ?_
    refine ⟨⟨.agg #[.slice aS vs.length cS, .slice aF fins.length cF, .slice aA ar.length cA], detB a i, (by rw [← HDK.out.1]; rfl), HDK.out.2, aS, cS, aF, cF, aA, cA, ?_, ?_, ?_, ?_⟩, HB1.out.trans (hbE.mono (by rw [← HBE.out, HS1.out]; omega))⟩
    ·rw [HVL.out.1, HVL.out.2, HAR.out]
    ·have h1 := sets_of HPF.out HI.out
     rw [HVL.out.1] at h1
     exact h1
    ·have h1 := (IsBools.of_owns (HPF.out.row 2 rfl)).1
     rw [HVL.out.2, HI.out.2.1] at h1
     exact h1
    ·have h1 := (IsArcs.of_owns (HPF.out.row 3 rfl)).1
     rw [HAR.out]
     exact h1
end Go.Proofs.YtbjdglopkpigbaaGreatDoor.Na
namespace Go.Proofs.YtbjdglopkpigbaaGreatDoor.Na
open Go.RowKit
attribute [local go_sem] Oper.semAt_some
theorem detOk_min (a : Nfa) (L : Int) : detOk a (min L 1000) = detOk a L := by
 have h : DetOk a (min L 1000) ↔ DetOk a L := by
  unfold DetOk
  have e : min (min L 1000) 1000 = min L 1000 := by omega
  rw [e]
 cases hx : detOk a L with
 | true => exact detOk_yes (h.2 (detOk_iff.1 hx))
 | false =>
  cases hy : detOk a (min L 1000) with
  | false => rfl
  | true => rw [detOk_yes (h.1 (detOk_iff.1 hy))] at hx; cases hx
noncomputable def detE (a : Nfa) (L : Int) : Int := if vN a = true then (if detOk a L = true then 0 else 6) else 1
noncomputable def detR (a : Nfa) (L : Int) : Bq (List Int) := if vN a = true then (if detOk a L = true then detF a else ⟨[], [], []⟩) else ⟨[], [], []⟩
def GivesSub (a : Nfa) (D : Bq (List Int)) (c : Int) (w : World) (e : Ending) (w' : World) : Prop := (∃ v, e = .returned (.tuple #[v, .int .i64 c]) ∧ SubV a D v w') ∧ Below w.heap.size w w'
theorem boxDt (a : Nfa) (h : NH) (w : World) (hd : IsNfa w h a) : ∃ W1 W2, w.alloc (.cells #[.int .i64 a.n, .slice h.sa h.sl h.sc, .slice h.fa h.fl h.fc, .slice h.aa h.al h.ac] 43) = W1 ∧ W1.alloc (.cells #[.slice none 0 0, .slice none 0 0, .slice none 0 0] 62) = W2 ∧ W1.heap.size = w.heap.size + 1 ∧ W2.heap.size = w.heap.size + 2 ∧ ∀ W, Below (w.heap.size + 2) W2 W → (W.cell? ⟨w.heap.size, 0, none⟩ = some (.int .i64 a.n) ∧ W.cell? ⟨w.heap.size, 1, none⟩ = some (.slice h.sa h.sl h.sc) ∧ W.cell? ⟨w.heap.size, 2, none⟩ = some (.slice h.fa h.fl h.fc) ∧ W.cell? ⟨w.heap.size, 3, none⟩ = some (.slice h.aa h.al h.ac)) ∧ IsNfa W h a ∧ Below w.heap.size w W ∧ W.heap[w.heap.size + 1]? = some (.cells #[.slice none 0 0, .slice none 0 0, .slice none 0 0] 62 (0, 0)) := by
 obtain ⟨W1, hW1, hs1, hb1, hO⟩ := boxNW a h w hd
 refine ⟨W1, _, hW1, rfl, hs1, by simp; omega, fun W hW => ?_⟩
 have hb2 : Below W1.heap.size W1 (W1.alloc (.cells #[.slice none 0 0, .slice none 0 0, .slice none 0 0] 62)) := (Below.refl _ _).alloc (Nat.le_refl _) _
 obtain ⟨k1, k2, k3⟩ := hO W ((hb2.mono (by omega)).trans (hW.mono (by omega)))
 exact ⟨k1, k2, k3, by rw [hW.block _ (by omega), ← hs1]; exact heap_alloc_new W1 _⟩
set_option maxRecDepth 20000 in
set_option maxHeartbeats 4000000 in
theorem Determinize_any {a : Nfa} {h : NH} {w : World} {L : Int} (hd : IsNfa w h a) (hT : TabW w) :
  Calls Tryz.prog 26 #[vNf a h, .int .i64 L] w (GivesSub a (detR a L) (detE a L) w) := by
 obtain ⟨W1, W2, hW1, hW2, hs1, hs2, hO⟩ := boxDt a h w hd
 have HT := Lib.hid hT
 have HO := Lib.hid hO
 have HS := Lib.hid hs2
 obtain ⟨⟨c1, c2, c3, c4⟩, hd2, -, -⟩ := hO W2 (Below.refl _ _)
 have hva := valid_any a h W2 hd2
 obtain ⟨V, hV⟩ : ∃ V, vN a = V := ⟨_, rfl⟩
 rw [hV] at hva
 have HV := Lib.hid hV
 unfold vNf at hva ⊢
 clear hd hT hO hd2 hV
 cases V with
 | false =>
  have HR : Hid (detR a L = ⟨[], [], []⟩ ∧ detE a L = 1) := Lib.hid (by unfold detR detE; rw [HV.out]; exact ⟨rfl, rfl⟩)
  go_enter Tryz.func26, Tryz.ntmps26
  go_wp2_with (first
   | (go_at_call 28; refine hva.mono ?_; rintro e w3 ⟨rfl, hb3⟩; obtain ⟨-, -, hbw3, hZ3⟩ := HO.out w3 (hb3.mono (by rw [HS.out]; omega)); have HZ3 := Lib.hid hZ3; clear hZ3)
   | (show wpList _ _ _ (⟨_, .store 62 _ _, _, _, _, _⟩ :: _) _ _; refine wpList_store_row rfl 62 _ _ rfl (w.heap.size + 1) #[.slice none 0 0, .slice none 0 0, .slice none 0 0] rfl rfl _ _ HZ3.out subs_i rfl (subs_one _ _ _ _ _ _ _ _ _) ?_))
  refine bodyPost_ret (results_row2 rfl _ _ (w.heap.size + 1) _ _ _ _ rfl rfl (setRow_heap _ _ _ _ _ _ HZ3.out) Tryz.underlying62 rfl subs_i) rfl ?_
  rw [HR.out.1, HR.out.2]
  exact ⟨⟨_, rfl, sub_nil _ _⟩, below_setRow hbw3 (by omega) _⟩
 | true =>
  have hvv : ValidN a := by
   by_cases hx : ValidN a
   ·exact hx
   ·have := HV.out; rw [vN_no hx] at this; cases this
  have HVV := Lib.hid hvv
  have hsu := fun W (hW : Below (w.heap.size + 2) W2 W) => subsets_any (a := a) (h := h) (w := W) (L := min L 1000) HVV.out (HO.out W hW).2.1 (HT.out.later (HO.out W hW).2.2.1) (by omega)
  simp only [vNf, detOk_min] at hsu
  obtain ⟨mn, hmn⟩ : ∃ mn, min L 1000 = mn := ⟨_, rfl⟩
  have hmn2 : (if L < 1000 then L else 1000) = mn := by rw [← hmn]; split <;> omega
  rw [hmn] at hsu
  have HSU := Lib.hid hsu
  obtain ⟨O, hO⟩ : ∃ O, detOk a L = O := ⟨_, rfl⟩
  rw [hO] at HSU
  have HR : Hid (detR a L = (if O = true then detF a else ⟨[], [], []⟩) ∧ detE a L = (if O = true then 0 else 6)) := Lib.hid (by unfold detR detE; rw [HV.out, hO]; exact ⟨rfl, rfl⟩)
  clear hsu hvv hO
  go_enter Tryz.func26, Tryz.ntmps26
  go_wp2_with (go_at_call 28; refine hva.mono ?_; rintro e w3 ⟨rfl, hb3⟩; have HB3 : Hid (Below (w.heap.size + 2) W2 w3) := Lib.hid (hb3.mono (by rw [HS.out]; exact Nat.le_refl _)); obtain ⟨⟨k1, k2, k3, k4⟩, -, -, -⟩ := HO.out w3 HB3.out; clear hb3 c1 c2 c3 c4)
  refine (HSU.out w3 HB3.out).mono ?_
  rintro e w4 ⟨⟨v, D, rfl, hD, hS⟩, hb4⟩
  obtain ⟨aS, cS, aF, cF, aA, cA, rfl, i1, i2, i3⟩ := hS
  obtain ⟨W5, hW5⟩ : ∃ W5, w4.alloc (.cells #[.slice aS D.q.length cS, .slice aF D.q.length cF, .slice aA D.a.length cA] 62) = W5 := ⟨_, rfl⟩
  have hb5 : Below w4.heap.size w4 W5 := by rw [← hW5]; exact (Below.refl _ _).alloc (Nat.le_refl _) _
  have hz5 : W5.heap[w4.heap.size]? = some (.cells #[.slice aS D.q.length cS, .slice aF D.q.length cF, .slice aA D.a.length cA] 62 (0, 0)) := by rw [← hW5]; exact heap_alloc_new w4 _
  have hB5 : Below (w.heap.size + 2) W2 W5 := HB3.out.trans ((hb4.mono (by have := HB3.out.size; rw [HS.out] at this; exact this)).trans (hb5.mono (Nat.le_trans (by have := HB3.out.size; rw [HS.out] at this; exact this) hb4.size)))
  have HZ5 := Lib.hid hz5
  have HZ := Lib.hid (HO.out W5 hB5).2.2.2
  have HBW := Lib.hid (HO.out W5 hB5).2.2.1
  have HSV : Hid (SubV a D (.agg #[.slice aS D.q.length cS, .slice aF D.q.length cF, .slice aA D.a.length cA]) W5) := Lib.hid ⟨aS, cS, aF, cF, aA, cA, rfl, i1.later hb5, i2.later hb5, i3.later hb5⟩
  have HW5 := Lib.hid hW5
  clear hb5 hz5 hB5 i1 i2 i3 hb4 hva k1 k2 k3 k4 hW5 hmn hmn2
  cases O
  ·go_upto_region 5 with (fail)
   rw [HW5.out]
   go_wp2_with (show wpList _ _ _ (⟨_, .store 62 _ _, _, _, _, _⟩ :: _) _ _; refine wpList_store_row rfl 62 _ _ rfl (w.heap.size + 1) #[.slice none 0 0, .slice none 0 0, .slice none 0 0] rfl rfl _ _ HZ.out subs_i rfl (subs_one _ _ _ _ _ _ _ _ _) ?_)
   refine bodyPost_ret (results_row2 rfl _ _ (w.heap.size + 1) _ _ _ _ rfl rfl (setRow_heap _ _ _ _ _ _ HZ.out) Tryz.underlying62 rfl subs_i) rfl ?_
   rw [HR.out.1, HR.out.2]
   exact ⟨⟨_, rfl, sub_nil _ _⟩, below_setRow HBW.out (by omega) _⟩
  ·have HDD := Lib.hid (hD rfl)
   clear hD
   go_upto_region 6 with (fail)
   rw [HW5.out]
   go_wp2_with (first
    | (show wpList _ _ _ (⟨_, .load 62 _, _, _, _, _⟩ :: _) _ _; refine wpList_load_row rfl 62 _ rfl w4.heap.size rfl _ _ _ _ HZ5.out Tryz.underlying62 rfl subs_i ?_)
    | (show wpList _ _ _ (⟨_, .store 62 _ _, _, _, _, _⟩ :: _) _ _; refine wpList_store_row rfl 62 _ _ rfl (w.heap.size + 1) #[.slice aS D.q.length cS, .slice aF D.q.length cF, .slice aA D.a.length cA] rfl rfl _ _ HZ.out subs_i rfl (subs_one _ _ _ _ _ _ _ _ _) ?_))
   refine bodyPost_ret (results_row2 rfl _ _ (w.heap.size + 1) _ _ _ _ rfl rfl (setRow_heap _ _ _ _ _ _ HZ.out) Tryz.underlying62 rfl subs_i) rfl ?_
   rw [HR.out.1, HR.out.2, ← HDD.out]
   exact ⟨⟨_, rfl, HSV.out.ap HZ.out⟩, below_setRow HBW.out (by omega) _⟩
end Go.Proofs.YtbjdglopkpigbaaGreatDoor.Na
