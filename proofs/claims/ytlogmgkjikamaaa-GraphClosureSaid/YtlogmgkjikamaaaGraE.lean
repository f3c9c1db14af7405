/-
  sorted: the graph of some edges.
-/
import Derived.Test.YtlogmgkjikamaaaGraD
import Derived.Test.YtlogmgkjikamaaaOrdPg
import Derived.Test.YtlogmgkjikamaaaFam2
set_option linter.unusedSimpArgs false
set_option linter.unusedVariables false
set_option maxHeartbeats 4000000
namespace Go.Proofs.Ytlogmgkjikamaaa
open Go.RowKit
attribute [local go_sem] Oper.semAt_some

theorem elG : Elem Try.prog 33 25 (.slice none 0 0) 1 24 := ⟨Try.underlying33, by kernel_rfl, rfl, by decide⟩
theorem elPr : Elem Try.prog 55 56 (.agg #[.int .i64 0, .int .i64 0]) 2 16 := ⟨Try.underlying55, by kernel_rfl, rfl, by decide⟩
/-- make of rows. -/
theorem make_rows {P : Program} {T E : TypeId} {bytes : Nat} {z : Value} (el : Elem P T E z 1 bytes) (hz : z.cells = #[z]) {w : World} {ops : Array Oper} {rest : List Oper} {o : Oper} {a : Act} {Q : Exit → Act → World → Prop} (hgd : Region.wanted o (yielded ops a.tmps) = true) (l c : Operand)
    (ho : o.op = .makeSlice T l c) {B : Nat} {kl kc : IntKind} {n : Nat} {C C' : Int} (hl : a.eval l = .int kl C') (hc : a.eval c = .int kc C) (hC : C = n) (hC' : C' = n) (hb : n * (bytes + 1) ≤ 140737488355328) (hB : B ≤ w.heap.size)
    (h : ∀ w', w'.ownsRow B E 1 (.slice (some ⟨w.heap.size, 0, none⟩) n n) n (List.replicate n z) → Below B w w' → wpList P ops Q rest (a.put o.dst (.slice (some ⟨w.heap.size, 0, none⟩) n n)) w') : wpList P ops Q (o :: rest) a w := by
  refine wpList_wanted hgd fun K hK => wp_make_full el l c ho hl hc hC hC' hb hB fun w' h1 _ h3 => hK _ _ (h w' ?_ h3)
  rw [hz, Nat.mul_one, toList_madeCells_one] at h1
  exact h1
theorem set_same {l : List Value} {i : Nat} {v : Value} (h : l[i]? = some v) : l.set i v = l := by
  apply List.ext_getElem?
  intro j
  by_cases e : j = i
  · subst e; rw [List.getElem?_set_self (List.getElem?_eq_some_iff.1 h).1, h]
  · rw [List.getElem?_set_ne (Ne.symm e)]

/-! The rows while they are laid. -/
def tgt (es : List (Int × Int)) (a : Nat) : List Int := (es.filter fun e => decide (e.1 = (a : Int))).map Prod.snd
def rowsK (es : List (Int × Int)) (N k : Nat) : List (List Int) := (List.range N).map fun a => tgt (es.take k) a
theorem rowsK_length (es : List (Int × Int)) (N k : Nat) : (rowsK es N k).length = N := by simp [rowsK]
theorem gr_rowsK {es : List (Int × Int)} {N k a : Nat} (ha : a < N) : gr (rowsK es N k) a = tgt (es.take k) a := by
  rw [gr_eq _ _ (by rw [rowsK_length]; exact ha)]
  simp [rowsK]
theorem rowsK_zero (es : List (Int × Int)) (N : Nat) : rowsK es N 0 = List.replicate N [] := by
  refine rows_ext (by simp [rowsK]) fun i hi => ?_
  rw [rowsK_length] at hi
  rw [gr_rowsK hi, gr_replicate]
  rfl
theorem tgt_len (es : List (Int × Int)) (a : Nat) : (tgt es a).length ≤ es.length := by
  unfold tgt
  rw [List.length_map]
  exact List.length_filter_le _ _
theorem tgt_snoc (es : List (Int × Int)) (e : Int × Int) (a : Nat) : tgt (es ++ [e]) a = tgt es a ++ if e.1 = (a : Int) then [e.2] else [] := by
  unfold tgt
  rw [List.filter_append, List.map_append]
  by_cases h : e.1 = (a : Int) <;> simp [h]
theorem rowsK_succ {es : List (Int × Int)} {N k A : Nat} {y : Int} (hk : k < es.length) (hA : A < N) (hx : (gp es k).1 = (A : Int)) (hy : (gp es k).2 = y) : (rowsK es N k).set A (gr (rowsK es N k) A ++ [y]) = rowsK es N (k + 1) := by
  refine rows_ext (by simp [rowsK]) fun i hi => ?_
  rw [List.length_set, rowsK_length] at hi
  rw [gr_set (by rw [rowsK_length]; exact hA), gr_rowsK hi, gr_rowsK hi, take_succ_gp es k hk, tgt_snoc, hx, hy]
  by_cases e : i = A
  · subst e; rw [if_pos rfl, if_pos rfl, gr_rowsK hA]
  · rw [if_neg e, if_neg (by omega), List.append_nil]
theorem mem_tgt {es : List (Int × Int)} {a : Nat} {z : Int} : z ∈ tgt es a ↔ ((a : Int), z) ∈ es := by
  unfold tgt
  rw [List.mem_map]
  constructor
  · rintro ⟨⟨x, y⟩, h, rfl⟩
    rw [List.mem_filter] at h
    have := of_decide_eq_true h.2
    simp only at this
    rw [← this]; exact h.1
  · intro h
    exact ⟨_, List.mem_filter.2 ⟨h, by simp⟩, rfl⟩
def rowsS (es : List (Int × Int)) (N i : Nat) : List (List Int) := (List.range N).map fun a => if a < i then rowE N (prB es a) else tgt es a
theorem rowsS_length (es : List (Int × Int)) (N i : Nat) : (rowsS es N i).length = N := by simp [rowsS]
theorem gr_rowsS {es : List (Int × Int)} {N i a : Nat} (ha : a < N) : gr (rowsS es N i) a = if a < i then rowE N (prB es a) else tgt es a := by
  rw [gr_eq _ _ (by rw [rowsS_length]; exact ha)]
  simp [rowsS]
theorem rowsS_zero {es : List (Int × Int)} {N k : Nat} (hk : es.length ≤ k) : rowsK es N k = rowsS es N 0 := by
  refine rows_ext (by simp [rowsK, rowsS]) fun i hi => ?_
  rw [rowsK_length] at hi
  rw [gr_rowsK hi, gr_rowsS hi, if_neg (by omega), List.take_of_length_le hk]
theorem rowsS_full (es : List (Int × Int)) (N : Nat) : rowsS es N N = makeG N es := by
  refine rows_ext (by rw [rowsS_length]; unfold makeG; rw [graphE_length]) fun i hi => ?_
  rw [rowsS_length] at hi
  rw [gr_rowsS hi, if_pos hi]
  unfold makeG
  rw [gr_graphE hi]
theorem comp_tgt {es : List (Int × Int)} {N a : Nat} (hin : InN N es) : Go.Lib.compact ((tgt es a).mergeSort fun x y => decide (x ≤ y)) = rowE N (prB es a) := by
  obtain ⟨h1, h2⟩ := compact_sorted (tgt es a)
  refine asc_ext h1 (asc_rowE _ _) fun z => ?_
  rw [h2, mem_tgt, mem_rowE]
  constructor
  · intro h
    have hh := hin _ h
    simp only at hh
    obtain ⟨j, rfl⟩ := Int.eq_ofNat_of_zero_le hh.2.1
    exact ⟨j, by omega, prB_iff.2 h, rfl⟩
  · rintro ⟨j, _, h, rfl⟩
    exact prB_iff.1 h
theorem rowsS_succ {es : List (Int × Int)} {N i : Nat} (hi : i < N) : (rowsS es N i).set i (rowE N (prB es i)) = rowsS es N (i + 1) := by
  refine rows_ext (by simp [rowsS]) fun j hj => ?_
  rw [List.length_set, rowsS_length] at hj
  rw [gr_set (by rw [rowsS_length]; exact hi), gr_rowsS hj, gr_rowsS hj]
  by_cases e : j = i
  · subst e; rw [if_pos rfl, if_pos (by omega)]
  · rw [if_neg e]
    by_cases h : j < i
    · rw [if_pos h, if_pos (by omega)]
    · rw [if_neg h, if_neg (by omega)]

set_option maxRecDepth 20000 in
theorem sorted_any {N : Nat} {ae : Option Addr} {le ce : Nat} {es : List (Int × Int)} {w : World} (hN : N ≤ 400) (he : IsPairs w ae le ce es) (hin : InN N es) (hle : le ≤ 1000000) :
    Calls Try.prog 37 #[.int .i64 (N : Int), .slice ae le ce] w fun e w' => ∃ ao co ms, e = .returned (.slice ao N co) ∧ OwnG w' w.heap.size 25 3 ao N co ms ms (makeG N es) ∧ Below w.heap.size w w' := by
  have HEL := Lib.hid he.length
  have HIN := Lib.hid hin
  clear hin
  go_enter Try.func37, Try.ntmps37
  go_wp2_with (refine make_rows elG rfl rfl _ _ rfl rfl rfl rfl rfl (by omega) (Nat.le_refl _) ?_; intro w1 ho1 hb1)
  have hG0 := OwnG.made (Ti := 3) ho1
  rw [← rowsK_zero es N] at hG0
  clear ho1
  have hb1' := hb1
  replace hle := Lib.hid hle
  replace hN := Lib.hid hN
  go_loopw [13] (fun c W => ∃ (k : Nat) (ms : List Value), k ≤ le ∧ c = .int .i64 (k : Int) ∧ OwnG W w.heap.size 25 3 (some ⟨w.heap.size, 0, none⟩) N N ms ms (rowsK es N k) ∧ Below w.heap.size w W) (fun c _ => le - (intOf c).toNat)
  case atStart => exact ⟨0, _, Nat.zero_le _, rfl, hG0, hb1⟩
  case round =>
    clear hG0 hb1 hb1'
    obtain ⟨k, ms, hk, rfl, hG, hB⟩ := hrel
    have hle' := hle.out
    have hN' := hN.out
    rcases Nat.lt_or_ge k le with hlt | hge
    · have t1 : decide ((k : Int) < le) = true := decide_eq_true (by omega)
      have hke : k < es.length := by rw [HEL.out]; exact hlt
      obtain ⟨bf, of, rfl, -, x0, x1⟩ := he.at wr hB k hlt
      have hr := HIN.out _ (gp_mem es k hke)
      obtain ⟨A, hA⟩ := Int.eq_ofNat_of_zero_le hr.1.1
      obtain ⟨Y, hY⟩ := Int.eq_ofNat_of_zero_le hr.2.1
      rw [hA] at hr x0
      rw [hY] at x1
      have hAN : A < N := by omega
      have hrlen : (gr (rowsK es N k) A).length ≤ 1000000 := by
        rw [gr_rowsK hAN]
        have := tgt_len (es.take k) A
        rw [List.length_take] at this
        omega
      have hnext := Lib.hid (rowsK_succ hke hAN hA hY)
      obtain ⟨v0, hv0, hrow0⟩ := hG.mem hAN
      obtain ⟨a0, c0, rfl, -⟩ := owns_slice hrow0
      obtain ⟨n0, hn0⟩ : ∃ n0, (gr (rowsK es N k) A).length = n0 := ⟨_, rfl⟩
      rw [hn0] at hv0 hrow0 hrlen
      have HN0 := Lib.hid hn0
      clear hn0 hA hY hr
      go_wp2_with (fail)
      replace hrlen := Lib.hid hrlen
      clear hle' hN'
      have hbp : Below wr.heap.size wr (wr.alloc (.cells #[.int .i64 (A : Int), .int .i64 (Y : Int)] 56)) := (Below.refl _ _).alloc (Nat.le_refl _) _
      have hP2 := BlkAt.new wr #[.int .i64 (A : Int), .int .i64 (Y : Int)] 56
      have hG2 := hG.kept hbp
      have hB2 := hB.trans (hbp.mono hB.size)
      have hblt : ∀ q, (Value.slice a0 n0 c0).ownBlock = some q → q < wr.heap.size := fun q hq => (hG.lt.2 A _ q hAN hv0 hq).2
      have HBL := Lib.hid hblt
      have HWS : Hid (w.heap.size < wr.heap.size) := Lib.hid (hG.lt.1 _ rfl).2
      clear x0 x1 hG hB hblt hbp
      generalize wr.alloc (.cells #[.int .i64 (A : Int), .int .i64 (Y : Int)] 56) = w2 at hP2 hG2 hB2 ⊢
      obtain ⟨S, hSd⟩ : ∃ S : (Nat → Bool) → (Nat → Value) → World → Prop, S = fun L f W => Below w.heap.size w W ∧ BlkAt W wr.heap.size #[.int .i64 (A : Int), .int .i64 (Y : Int)] ∧ (L 10 = true → L 11 = false → ∃ q, f 10 = .slice (some ⟨q, 0, none⟩) 1 1 ∧ BlkAt W q #[.int .i64 (Y : Int)]) ∧ OwnG W w.heap.size 25 3 (some ⟨w.heap.size, 0, none⟩) N N (if L 13 = true then ms.set A (f 11) else ms) (if L 11 = true then ms.set A (f 11) else ms) (if L 11 = true then (rowsK es N k).set A (gr (rowsK es N k) A ++ [(Y : Int)]) else rowsK es N k) := ⟨_, rfl⟩
      refine wp_region_st mixed (by kernel_rfl) [[], [], [(1, 18)], [], [], [(4, 21)], [(3, 20), (5, 22)], [(6, 23)], [], [(8, 25)], [(9, 26)], [(7, 24), (10, 27)], [(0, 17), (2, 19), (0, 17), (1, 18), (2, 19), (3, 20), (4, 21), (5, 22), (6, 23), (7, 24), (8, 25), (9, 26), (10, 27), (11, 28)], [(12, 29), (11, 28), (11, 28), (0, 17), (1, 18), (2, 19), (3, 20), (4, 21), (5, 22), (6, 23), (7, 24), (8, 25), (9, 26), (10, 27), (11, 28)]] [(0, 17), (1, 18), (2, 19), (3, 20), (4, 21), (5, 22), (6, 23), (7, 24), (8, 25), (9, 26), (10, 27), (11, 28), (12, 29)] rfl rfl [EV ?e0, EV ?e1, EV ?e2, EV ?e3, EV ?e4, EV ?e5, EV ?e6, EV ?e7, EV ?e8, EV ?e9, fun v => ∃ b, v = .slice (some ⟨b, 0, none⟩) 1 1, fun v => ∃ a c, v = .slice a (n0 + 1) c, EV ?e12, fun _ => True] S ?start ?steps ?rest
      case start =>
        intro f
        rw [hSd]
        exact ⟨hB2.drew, by obtain ⟨T, h⟩ := hP2; exact ⟨T, h⟩, fun h => (by cases h), hG2.kept ((Below.refl _ _).drew)⟩
      case steps =>
        refine ⟨fun L f W hi hd hdn hh hS => ?_, fun L f W hi hd hdn hh hS => ?_, fun L f W hi hd hdn hh hS => ?_, fun L f W hi hd hdn hh hS => ?_, fun L f W hi hd hdn hh hS => ?_, fun L f W hi hd hdn hh hS => ?_, fun L f W hi hd hdn hh hS => ?_, fun L f W hi hd hdn hh hS => ?_, fun L f W hi hd hdn hh hS => ?_, fun L f W hi hd hdn hh hS => ?_, fun L f W hi hd hdn hh hS => ?_, fun L f W hi hd hdn hh hS => ?_, fun L f W hi hd hdn hh hS => ?_, fun L f W hi hd hdn hh hS => ?_, trivial⟩
        · -- 0: Op.move (Operand.tmp 5)
          unfold stStep
          rw [if_pos (by simp [Region.wanted])]
          intro K Q hK
          simp only [puts, List.foldr_nil]
          go_step
          refine st_ex hK rfl rfl (by simp only [Act.put, List.setIfInBounds_toArray, List.set_cons_succ, List.set_cons_zero, Array.getD_eq_getD_getElem?, List.getElem?_toArray, List.getElem?_cons_succ, List.getElem?_cons_zero, Option.getD_some] <;> rfl) rfl (by rw [hSd] at hS ⊢; exact hS)
        · -- 1: Op.indexAddr 59 (Operand.tmp 7) (Operand.const (Value.int IntKind.i64 0))
          unfold stStep
          rw [if_pos (by simp [Region.wanted])]
          intro K Q hK
          simp only [puts, List.foldr_nil]
          go_step
          refine st_ex hK rfl rfl (by simp only [Act.put, List.setIfInBounds_toArray, List.set_cons_succ, List.set_cons_zero, Array.getD_eq_getD_getElem?, List.getElem?_toArray, List.getElem?_cons_succ, List.getElem?_cons_zero, Option.getD_some] <;> rfl) rfl (by rw [hSd] at hS ⊢; exact hS)
        · -- 2: Op.load 3 (Operand.tmp 18)
          obtain ⟨h1, -⟩ := hh
          have g1 : f 1 = _ := h1
          unfold stStep
          rw [if_pos (by simp [Region.wanted])]
          intro K Q hK
          simp only [puts, List.foldr_cons, List.foldr_nil, List.setIfInBounds_toArray, List.set_cons_succ, List.set_cons_zero, g1]
          have hS' := hS
          rw [hSd] at hS'
          have x0 := (hS'.2.1.cell 0).1
          have x0 : W.cell? _ = some (.int .i64 (A : Int)) := x0
          go_step
          refine st_ex hK rfl rfl (by simp only [Act.put, List.setIfInBounds_toArray, List.set_cons_succ, List.set_cons_zero, Array.getD_eq_getD_getElem?, List.getElem?_toArray, List.getElem?_cons_succ, List.getElem?_cons_zero, Option.getD_some] <;> rfl) rfl (by rw [hSd] at hS ⊢; exact hS)
        · -- 3: Op.move (Operand.tmp 5)
          unfold stStep
          rw [if_pos (by simp [Region.wanted])]
          intro K Q hK
          simp only [puts, List.foldr_nil]
          go_step
          refine st_ex hK rfl rfl (by simp only [Act.put, List.setIfInBounds_toArray, List.set_cons_succ, List.set_cons_zero, Array.getD_eq_getD_getElem?, List.getElem?_toArray, List.getElem?_cons_succ, List.getElem?_cons_zero, Option.getD_some] <;> rfl) rfl (by rw [hSd] at hS ⊢; exact hS)
        · -- 4: Op.indexAddr 59 (Operand.tmp 7) (Operand.const (Value.int IntKind.i64 0))
          unfold stStep
          rw [if_pos (by simp [Region.wanted])]
          intro K Q hK
          simp only [puts, List.foldr_nil]
          go_step
          refine st_ex hK rfl rfl (by simp only [Act.put, List.setIfInBounds_toArray, List.set_cons_succ, List.set_cons_zero, Array.getD_eq_getD_getElem?, List.getElem?_toArray, List.getElem?_cons_succ, List.getElem?_cons_zero, Option.getD_some] <;> rfl) rfl (by rw [hSd] at hS ⊢; exact hS)
        · -- 5: Op.load 3 (Operand.tmp 21)
          obtain ⟨h4, -⟩ := hh
          have g4 : f 4 = _ := h4
          unfold stStep
          rw [if_pos (by simp [Region.wanted])]
          intro K Q hK
          simp only [puts, List.foldr_cons, List.foldr_nil, List.setIfInBounds_toArray, List.set_cons_succ, List.set_cons_zero, g4]
          have hS' := hS
          rw [hSd] at hS'
          have x0 := (hS'.2.1.cell 0).1
          have x0 : W.cell? _ = some (.int .i64 (A : Int)) := x0
          go_step
          refine st_ex hK rfl rfl (by simp only [Act.put, List.setIfInBounds_toArray, List.set_cons_succ, List.set_cons_zero, Array.getD_eq_getD_getElem?, List.getElem?_toArray, List.getElem?_cons_succ, List.getElem?_cons_zero, Option.getD_some] <;> rfl) rfl (by rw [hSd] at hS ⊢; exact hS)
        · -- 6: Op.indexAddr 33 (Operand.tmp 20) (Operand.tmp 22)
          obtain ⟨h3, h5, -⟩ := hh
          have g3 : f 3 = _ := h3
          have g5 : f 5 = _ := h5
          unfold stStep
          rw [if_pos (by simp [Region.wanted])]
          intro K Q hK
          simp only [puts, List.foldr_cons, List.foldr_nil, List.setIfInBounds_toArray, List.set_cons_succ, List.set_cons_zero, g3, g5]
          go_step
          refine st_ex hK rfl rfl (by simp only [Act.put, List.setIfInBounds_toArray, List.set_cons_succ, List.set_cons_zero, Array.getD_eq_getD_getElem?, List.getElem?_toArray, List.getElem?_cons_succ, List.getElem?_cons_zero, Option.getD_some] <;> rfl) rfl (by rw [hSd] at hS ⊢; exact hS)
        · -- 7: Op.load 25 (Operand.tmp 23)
          obtain ⟨h6, -⟩ := hh
          have g6 : f 6 = _ := h6
          have l11 : L 11 = false := Bool.eq_false_iff.2 fun h => by have q := hdn 11 _ h rfl 7 (by decide); rw [show L 7 = false from hi] at q; cases q
          have l13 : L 13 = false := Bool.eq_false_iff.2 fun h => by have q := hdn 13 _ h rfl 11 (by decide); rw [show L 11 = false from l11] at q; cases q
          unfold stStep
          rw [if_pos (by simp [Region.wanted])]
          intro K Q hK
          simp only [puts, List.foldr_cons, List.foldr_nil, List.setIfInBounds_toArray, List.set_cons_succ, List.set_cons_zero, g6]
          have hS' := hS
          rw [hSd] at hS'
          simp only [l13, if_false, Bool.false_eq_true] at hS'
          obtain ⟨c7, -⟩ := hS'.2.2.2.cell hv0
          go_step
          refine st_ex hK rfl rfl (by simp only [Act.put, List.setIfInBounds_toArray, List.set_cons_succ, List.set_cons_zero, Array.getD_eq_getD_getElem?, List.getElem?_toArray, List.getElem?_cons_succ, List.getElem?_cons_zero, Option.getD_some] <;> rfl) rfl (by rw [hSd] at hS ⊢; exact hS)
        · -- 8: Op.indexAddr 59 (Operand.tmp 7) (Operand.const (Value.int IntKind.i64 1))
          unfold stStep
          rw [if_pos (by simp [Region.wanted])]
          intro K Q hK
          simp only [puts, List.foldr_nil]
          go_step
          refine st_ex hK rfl rfl (by simp only [Act.put, List.setIfInBounds_toArray, List.set_cons_succ, List.set_cons_zero, Array.getD_eq_getD_getElem?, List.getElem?_toArray, List.getElem?_cons_succ, List.getElem?_cons_zero, Option.getD_some] <;> rfl) rfl (by rw [hSd] at hS ⊢; exact hS)
        · -- 9: Op.load 3 (Operand.tmp 25)
          obtain ⟨h8, -⟩ := hh
          have g8 : f 8 = _ := h8
          unfold stStep
          rw [if_pos (by simp [Region.wanted])]
          intro K Q hK
          simp only [puts, List.foldr_cons, List.foldr_nil, List.setIfInBounds_toArray, List.set_cons_succ, List.set_cons_zero, g8]
          have hS' := hS
          rw [hSd] at hS'
          have x0 := (hS'.2.1.cell 1).1
          have x0 : W.cell? _ = some (.int .i64 (Y : Int)) := x0
          go_step
          refine st_ex hK rfl rfl (by simp only [Act.put, List.setIfInBounds_toArray, List.set_cons_succ, List.set_cons_zero, Array.getD_eq_getD_getElem?, List.getElem?_toArray, List.getElem?_cons_succ, List.getElem?_cons_zero, Option.getD_some] <;> rfl) rfl (by rw [hSd] at hS ⊢; exact hS)
        · -- 10: Op.buildSlice 25 1 #[(0, Operand.tmp 26)]
          obtain ⟨h9, -⟩ := hh
          have g9 : f 9 = _ := h9
          have l11 : L 11 = false := Bool.eq_false_iff.2 fun h => by have q := hdn 11 _ h rfl 10 (by decide); rw [show L 10 = false from hi] at q; cases q
          have l13 : L 13 = false := Bool.eq_false_iff.2 fun h => by have q := hdn 13 _ h rfl 11 (by decide); rw [show L 11 = false from l11] at q; cases q
          unfold stStep
          rw [if_pos (by simp [Region.wanted])]
          intro K Q hK
          simp only [puts, List.foldr_cons, List.foldr_nil, List.setIfInBounds_toArray, List.set_cons_succ, List.set_cons_zero, g9]
          rw [hSd] at hS hK
          have l10 : L 10 = false := hi
          try simp only [stage, l11, l13, l10, if_true, if_false, Bool.false_eq_true] at hS
          obtain ⟨hbW, hPW, -, hGW⟩ := hS
          have hal : Below W.heap.size W (W.alloc (.cells #[.int .i64 (Y : Int)] 3)) := (Below.refl _ _).alloc (Nat.le_refl _) _
          go_step
          refine hK.out _ _ rfl ⟨_, rfl⟩ ?_
          refine ⟨hbW.alloc hbW.size _, hPW.grown (World.grownBy_alloc W _ none) (by simp), fun _ _ => ⟨_, rfl, BlkAt.new W _ _⟩, ?_⟩
          simp only [l11, l13, Bool.false_eq_true, ↓reduceIte, Nat.reduceEqDiff]
          exact hGW.kept hal
        · -- 11: Op.call { callee := Callee.builtin Builtin.append, args := #[Operand.tmp 24, Operand.tmp 2
          obtain ⟨h7, h10, -⟩ := hh
          have g7 : f 7 = _ := h7
          obtain ⟨b10, (g10 : f 10 = _)⟩ := h10
          have l10 : L 10 = true := hd 10 (by decide)
          have l13 : L 13 = false := Bool.eq_false_iff.2 fun h => by have q := hdn 13 _ h rfl 11 (by decide); rw [show L 11 = false from hi] at q; cases q
          unfold stStep
          rw [if_pos (by simp [Region.wanted])]
          intro K Q hK
          simp only [puts, List.foldr_cons, List.foldr_nil, List.setIfInBounds_toArray, List.set_cons_succ, List.set_cons_zero, g7, g10]
          rw [hSd] at hS hK
          have l11 : L 11 = false := hi
          try simp only [stage, l13, l11, l10, if_true, if_false, Bool.false_eq_true] at hS
          obtain ⟨hbW, hPW, h10, hGW⟩ := hS
          obtain ⟨q, e10, hq⟩ := h10 trivial trivial
          rw [g10] at e10
          obtain rfl : b10 = q := by simpa using e10
          try simp only [l11, l13, if_false, Bool.false_eq_true] at hGW
          obtain ⟨u, hu, hrow⟩ := hGW.row A hAN
          rw [hv0] at hu
          injection hu with hu
          subst hu
          rw [HN0.out] at hrow
          refine wp_app_blk elI64 _ _ rfl rfl hrow rfl (news := [.int .i64 (Y : Int)]) ⟨rfl, fun ad e j u hj => by injection e with e; subst e; rw [addr_add, Nat.zero_add, (hq.cell j).1, ← hj]; simp, fun e => by cases e⟩ (by intro u hu; rw [List.mem_singleton.1 hu]; rfl) (by have := hrlen.out; omega) hbW.size ?_
          intro a' c' w' ho hg hbw hblk
          have ho2 : w'.ownsRow w.heap.size 3 1 (.slice a' (n0 + 1) c') (gr (rowsK es N k) A ++ [(Y : Int)]).length (ivs .i64 (gr (rowsK es N k) A ++ [(Y : Int)])) := by rw [ivs_append, List.length_append, HN0.out]; exact ho
          refine hK.out _ _ rfl ⟨a', c', rfl⟩ ?_
          refine ⟨hbW.trans hbw, hPW.grown hg (fun e => by have := HBL.out _ e; omega), fun _ h => (by simp at h), ?_⟩
          simp only [l13, Bool.false_eq_true, ↓reduceIte, Nat.reduceEqDiff]
          exact hGW.grow hAN hv0 hg ho2 (hblk.elim .inl fun h => .inr (.inl h))
        · -- 12: Op.indexAddr 33 (Operand.tmp 17) (Operand.tmp 19)
          obtain ⟨h0, h2, _, h1, _, h3, h4, h5, h6, h7, h8, h9, h10, h11, -⟩ := hh
          have g0 : f 0 = _ := h0
          have g2 : f 2 = _ := h2
          have g1 : f 1 = _ := h1
          have g3 : f 3 = _ := h3
          have g4 : f 4 = _ := h4
          have g5 : f 5 = _ := h5
          have g6 : f 6 = _ := h6
          have g7 : f 7 = _ := h7
          have g8 : f 8 = _ := h8
          have g9 : f 9 = _ := h9
          obtain ⟨b10, (g10 : f 10 = _)⟩ := h10
          obtain ⟨a11, c11, (g11 : f 11 = _)⟩ := h11
          unfold stStep
          rw [if_pos (by simp [Region.wanted])]
          intro K Q hK
          simp only [puts, List.foldr_cons, List.foldr_nil, List.setIfInBounds_toArray, List.set_cons_succ, List.set_cons_zero, g0, g2, g1, g3, g4, g5, g6, g7, g8, g9, g10, g11]
          go_step
          refine st_ex hK rfl rfl (by simp only [Act.put, List.setIfInBounds_toArray, List.set_cons_succ, List.set_cons_zero, Array.getD_eq_getD_getElem?, List.getElem?_toArray, List.getElem?_cons_succ, List.getElem?_cons_zero, Option.getD_some] <;> rfl) rfl (by rw [hSd] at hS ⊢; exact hS)
        · -- 13: Op.store 25 (Operand.tmp 29) (Operand.tmp 28)
          obtain ⟨h12, h11, _, h0, h1, h2, h3, h4, h5, h6, h7, h8, h9, h10, _, -⟩ := hh
          have g12 : f 12 = _ := h12
          obtain ⟨a11, c11, (g11 : f 11 = _)⟩ := h11
          have g0 : f 0 = _ := h0
          have g1 : f 1 = _ := h1
          have g2 : f 2 = _ := h2
          have g3 : f 3 = _ := h3
          have g4 : f 4 = _ := h4
          have g5 : f 5 = _ := h5
          have g6 : f 6 = _ := h6
          have g7 : f 7 = _ := h7
          have g8 : f 8 = _ := h8
          have g9 : f 9 = _ := h9
          obtain ⟨b10, (g10 : f 10 = _)⟩ := h10
          have l11 : L 11 = true := hd 11 (by decide)
          unfold stStep
          rw [if_pos (by simp [Region.wanted])]
          intro K Q hK
          simp only [puts, List.foldr_cons, List.foldr_nil, List.setIfInBounds_toArray, List.set_cons_succ, List.set_cons_zero, g12, g11, g0, g1, g2, g3, g4, g5, g6, g7, g8, g9, g10]
          rw [hSd] at hS hK
          have l13 : L 13 = false := hi
          try simp only [stage, l13, l11, if_true, if_false, Bool.false_eq_true] at hS
          obtain ⟨hbW, hPW, -, hGW⟩ := hS
          have l11' : L 11 = true := hd 11 (by decide)
          try simp only [l11', l13, if_false, if_true, Bool.false_eq_true] at hGW
          rw [g11] at hGW
          obtain ⟨c13, f13⟩ := hGW.cell hv0
          go_step
          refine hK.out _ _ rfl trivial ?_
          refine ⟨hbW.setCell (Nat.le_refl _) _, hPW.other _ (by have := hB2.size; have hw := HWS.out; show wr.heap.size ≠ w.heap.size; omega) _, fun _ h => (by simp [l11'] at h), ?_⟩
          simp only [l11', ↓reduceIte, Nat.reduceEqDiff, g11]
          exact hGW.put hAN _
      case rest =>
        intro L f WA hL hh hS
        rw [hSd] at hS
        clear hSd
        have l10 : L 10 = true := hL 10 (by decide)
        have l11 : L 11 = true := hL 11 (by decide)
        have l13 : L 13 = true := hL 13 (by decide)
        simp only [stage, l10, l11, l13, if_true] at hS
        clear hL l10 l11 l13
        obtain ⟨h0, h1, h2, h3, h4, h5, h6, h7, h8, h9, h10, h11, h12, -⟩ := hh
        have g0 : f 0 = _ := h0
        have g1 : f 1 = _ := h1
        have g2 : f 2 = _ := h2
        have g3 : f 3 = _ := h3
        have g4 : f 4 = _ := h4
        have g5 : f 5 = _ := h5
        have g6 : f 6 = _ := h6
        have g7 : f 7 = _ := h7
        have g8 : f 8 = _ := h8
        have g9 : f 9 = _ := h9
        obtain ⟨b10, (g10 : f 10 = _)⟩ := h10
        obtain ⟨a11, c11, (g11 : f 11 = _)⟩ := h11
        have g12 : f 12 = _ := h12
        simp only [puts, List.foldr_cons, List.foldr_nil, List.setIfInBounds_toArray, List.set_cons_succ, List.set_cons_zero, g0, g1, g2, g3, g4, g5, g6, g7, g8, g9, g10, g11, g12]
        clear h0 h1 h2 h3 h4 h5 h6 h7 h8 h9 h12 g0 g1 g2 g3 g4 g5 g6 g7 g8 g9 g12
        simp only [g11] at hS
        obtain ⟨hbW, -, -, hGW⟩ := hS
        rw [hnext.out] at hGW
        clear hG2 hP2 hB2 hrow0 hv0 HBL
        have hle' := hle.out
        go_wp2
        go_roundw
        case rel => exact ⟨k + 1, _, hlt, by go_num, hGW, hbW⟩
        case measure => simp [intOf]; omega
    · obtain rfl : k = le := by omega
      have t1 : decide ((k : Int) < k) = false := decide_eq_false (by omega)
      rw [rowsS_zero (by rw [HEL.out]; exact Nat.le_refl _)] at hG
      have HLEN : Hid (∀ a, (tgt es a).length ≤ 1000000) := Lib.hid (fun a => by have := tgt_len es a; rw [HEL.out] at this; omega)
      clear he hle'
      go_wp2_with (fail)
      go_loopw [33] (fun c W => ∃ (i : Nat) (ms : List Value), i ≤ N ∧ c = .int .i64 (i : Int) ∧ OwnG W w.heap.size 25 3 (some ⟨w.heap.size, 0, none⟩) N N ms ms (rowsS es N i) ∧ Below w.heap.size w W) (fun c _ => N - (intOf c).toNat)
      case atStart => exact ⟨0, _, Nat.zero_le _, rfl, hG, hB⟩
      case round =>
        clear hG hB
        obtain ⟨i, ms, hi, rfl, hG, hB⟩ := hrel
        rcases Nat.lt_or_ge i N with hlt | hge2
        · have t2 : decide ((i : Int) < N) = true := decide_eq_true (by omega)
          obtain ⟨v, hv, hrow⟩ := hG.mem hlt
          obtain ⟨a0, c0, rfl, -⟩ := owns_slice hrow
          rw [gr_rowsS hlt, if_neg (by omega)] at hv hrow
          have hsort := sort_own hrow (by have := HLEN.out i; omega)
          obtain ⟨cg, -⟩ := hG.cell hv
          have HSL : Hid (((tgt es i).mergeSort fun x y => decide (x ≤ y)).length = (tgt es i).length) := Lib.hid (List.length_mergeSort _)
          obtain ⟨zs, hzs⟩ : ∃ zs, (tgt es i).mergeSort (fun x y => decide (x ≤ y)) = zs := ⟨_, rfl⟩
          rw [hzs] at hsort HSL
          have HNX : Hid (Go.Lib.compact zs = rowE N (prB es i)) := Lib.hid (by rw [← hzs]; exact comp_tgt HIN.out)
          obtain ⟨n0, hn0⟩ : ∃ n0, (tgt es i).length = n0 := ⟨_, rfl⟩
          have hn0b : n0 ≤ 1000000 := by rw [← hn0]; exact HLEN.out i
          rw [hn0] at hsort hv cg HSL
          have HGR := Lib.hid (rowsS_succ (es := es) hlt)
          clear hrow hzs hn0
          go_wp2_with (fail)
          go_at_call 51
          refine hsort.mono ?_
          rintro e w2 ⟨rfl, ho2, hg2⟩
          have ho2 : w2.ownsRow w.heap.size 3 1 (.slice a0 n0 c0) zs.length (ivs .i64 zs) := by rw [HSL.out]; exact ho2
          have hG2 := hG.grow hlt hv hg2 ho2 (.inl rfl)
          rw [set_same hv] at hG2
          have hB2 := hB.grown hg2 hB.size (fun q hq => (hG.lt.1 |> fun _ => (hG.lt.2 i _ q hlt hv hq).1))
          have hcomp := compact_own ho2 (by rw [HSL.out]; omega)
          obtain ⟨cg2, -⟩ := hG2.cell hv
          clear hsort hG hB cg hg2
          go_wp2_with (fail)
          go_at_call 52
          refine hcomp.mono ?_
          rintro e w3 ⟨v', rfl, ho3, hg3, hbk⟩
          obtain ⟨a3, c3, rfl, -⟩ := owns_slice ho3
          rw [HNX.out] at ho3 hbk ⊢
          have hG3 := hG2.grow hlt hv hg3 ho3 (.inl hbk)
          rw [List.set_set] at hG3
          have hB3 := hB2.grown hg3 hB2.size (fun q hq => (hG2.lt.2 i _ q hlt hv hq).1)
          rw [HGR.out] at hG3
          obtain ⟨cg3, fg3⟩ := hG3.cell hv
          obtain ⟨m3, hm3⟩ : ∃ m3, (rowE N (prB es i)).length = m3 := ⟨_, rfl⟩
          rw [hm3] at hG3 ⊢
          have hG4 := hG3.put hlt (.slice a3 m3 c3)
          have hB4 := hB3.setCell (p := ⟨w.heap.size, i, none⟩) (Nat.le_refl _) (.slice a3 m3 c3)
          clear hcomp hG2 hB2 cg2 hG3 hB3 ho3 hg3 hbk ho2 hm3
          go_wp2
          go_roundw
          case rel => exact ⟨i + 1, _, hlt, by go_num, hG4, hB4⟩
          case measure => simp [intOf]; omega
        · obtain rfl : N = i := by omega
          have t2 : decide ((N : Int) < N) = false := decide_eq_false (by omega)
          rw [rowsS_full] at hG
          go_wp2
          go_ret
          exact ⟨_, _, _, rfl, hG, hB⟩
end Go.Proofs.Ytlogmgkjikamaaa
