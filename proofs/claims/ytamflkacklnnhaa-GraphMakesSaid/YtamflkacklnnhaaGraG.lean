/-
  The reference: Make, Back.
-/
import Derived.Test.YtamflkacklnnhaaGraF
import Derived.Test.YtamflkacklnnhaaGraCr
set_option linter.unusedSimpArgs false
set_option linter.unusedVariables false
set_option maxHeartbeats 4000000
namespace Go.Proofs.Ytamflkacklnnhaa
open Go.RowKit
attribute [local go_sem] Oper.semAt_some

variable {a : Option Addr} {len cap : Nat} {g : List (List Int)} {w : World}

theorem elG2 : Elem Try.prog 22 25 (.slice none 0 0) 1 24 := ⟨Try.underlying22, by kernel_rfl, rfl, by decide⟩
theorem withL_rowE {N : Nat} {p : Nat → Bool} {b : Nat} (hb : b < N) : withL (rowE N p) (b : Int) = rowE N fun m => p m || decide (m = b) := by
  rw [withL_asc _ _ (asc_rowE N p)]
  refine asc_ext ?_ (asc_rowE _ _) fun z => ?_
  · refine List.pairwise_append.2 ⟨(asc_rowE N p).filter _, List.pairwise_cons.2 ⟨fun y hy => by have := List.mem_filter.1 hy; simpa using this.2, (asc_rowE N p).filter _⟩, fun x hx y hy => ?_⟩
    have h1 : x < b := by simpa using (List.mem_filter.1 hx).2
    rcases List.mem_cons.1 hy with e | e
    · omega
    · have h2 : (b : Int) < y := by simpa using (List.mem_filter.1 e).2
      omega
  · rw [List.mem_append, List.mem_cons, List.mem_filter, List.mem_filter, mem_rowE, mem_rowE]
    constructor
    · rintro (⟨⟨m, h1, h2, rfl⟩, _⟩ | rfl | ⟨⟨m, h1, h2, rfl⟩, _⟩)
      · exact ⟨m, h1, by simp [h2], rfl⟩
      · exact ⟨b, hb, by simp, rfl⟩
      · exact ⟨m, h1, by simp [h2], rfl⟩
    · rintro ⟨m, h1, h2, rfl⟩
      rcases Nat.lt_trichotomy m b with h | h | h
      · exact .inl ⟨⟨m, h1, by simpa [show ¬ m = b by omega] using h2, rfl⟩, by simp; omega⟩
      · exact .inr (.inl (by omega))
      · exact .inr (.inr ⟨⟨m, h1, by simpa [show ¬ m = b by omega] using h2, rfl⟩, by simp; omega⟩)
theorem graphE_none {N : Nat} : graphE N (prB []) = List.replicate N [] := by
  refine rows_ext (by rw [graphE_length]; simp) fun i hi => ?_
  rw [graphE_length] at hi
  rw [gr_graphE hi, gr_replicate]
  simp [rowE, prB]
theorem graphE_snoc {N A Y : Nat} {es : List (Int × Int)} {e : Int × Int} (hA : A < N) (hY : Y < N) (h1 : e.1 = (A : Int)) (h2 : e.2 = (Y : Int)) : (graphE N (prB es)).set A (withL (gr (graphE N (prB es)) A) (Y : Int)) = graphE N (prB (es ++ [e])) := by
  refine rows_ext (by simp [graphE]) fun i hi => ?_
  rw [List.length_set, graphE_length] at hi
  rw [gr_set (by rw [graphE_length]; exact hA), gr_graphE hi, gr_graphE hi]
  have he : e = ((A : Int), (Y : Int)) := by rw [← h1, ← h2]
  have key : ∀ b, prB (es ++ [e]) i b = (prB es i b || decide (i = A ∧ b = Y)) := fun b => by
    rw [Bool.eq_iff_iff, Bool.or_eq_true, prB_iff, prB_iff, List.mem_append, List.mem_singleton, decide_eq_true_iff, he, Prod.mk.injEq]
    constructor
    · rintro (h | h)
      · exact .inl h
      · exact .inr (by omega)
    · rintro (h | h)
      · exact .inl h
      · exact .inr (by omega)
  by_cases e1 : i = A
  · subst e1
    rw [if_pos rfl, gr_graphE hi, withL_rowE hY]
    unfold rowE
    congr 1
    refine List.filter_congr fun b _ => ?_
    rw [key b]
    simp
  · rw [if_neg e1]
    unfold rowE
    congr 1
    refine List.filter_congr fun b _ => ?_
    rw [key b]
    simp [e1]

set_option maxRecDepth 20000 in
theorem refMake_any {n : Int} {ae : Option Addr} {le ce : Nat} {es : List (Int × Int)} (he : IsPairs w ae le ce es) (hle : le ≤ 1000000) :
    Calls Try.prog 34 #[.int .i64 n, .slice ae le ce] w fun e w' => MakeRes n es w.heap.size e w' ∧ Below w.heap.size w w' := by
  have HEL := Lib.hid he.length
  by_cases h0 : n < 0
  · have d0 : decide (n < 0) = true := decide_eq_true h0
    go_enter Try.func34, Try.ntmps34
    go_wp2_with (fail)
    go_ret2
    exact ⟨.inl ⟨fun h => by have := h.1; omega, rfl⟩, Below.refl _ _⟩
  have d0 : decide (n < 0) = false := decide_eq_false h0
  by_cases h4 : 400 < n
  · have d4 : decide (400 < n) = true := decide_eq_true h4
    go_enter Try.func34, Try.ntmps34
    go_wp2_with (fail)
    go_ret2
    exact ⟨.inl ⟨fun h => by have := h.2.1; omega, rfl⟩, Below.refl _ _⟩
  have d4 : decide (400 < n) = false := decide_eq_false h4
  obtain ⟨N, rfl⟩ := Int.eq_ofNat_of_zero_le (show 0 ≤ n by omega)
  have hN4 : N ≤ 400 := by omega
  have HN := Lib.hid hN4
  clear h0 h4
  go_enter Try.func34, Try.ntmps34
  go_wp2_with (refine make_rows elG2 rfl rfl _ _ rfl rfl rfl rfl rfl (by omega) (Nat.le_refl _) ?_; intro w1 ho1 hb1)
  have hG0 := OwnG.made (Ti := 3) ho1
  rw [← graphE_none, show ([] : List (Int × Int)) = es.take 0 from rfl] at hG0
  clear ho1 d0 d4 hN4
  go_loopw [7] (fun c W => ∃ (k : Nat) (ms : List Value), k ≤ le ∧ c = .int .i64 (k : Int) ∧ OwnG W w.heap.size 25 3 (some ⟨w.heap.size, 0, none⟩) N N ms ms (graphE N (prB (es.take k))) ∧ Hid (InN N (es.take k)) ∧ Below w.heap.size w W) (fun c _ => le - (intOf c).toNat)
  case atStart => exact ⟨0, _, Nat.zero_le _, rfl, hG0, Lib.hid (fun e h => by rw [List.take_zero] at h; cases h), hb1⟩
  case round =>
    clear hG0 hb1
    obtain ⟨k, ms, hk, rfl, hG, HI, hB⟩ := hrel
    rcases Nat.lt_or_ge k le with hlt | hge
    · have t1 : decide ((k : Int) < le) = true := decide_eq_true (by omega)
      have hke : k < es.length := by rw [HEL.out]; exact hlt
      obtain ⟨bf, of, rfl, -, x0, x1⟩ := he.at wr hB k hlt
      obtain ⟨x, hx⟩ : ∃ x, (gp es k).1 = x := ⟨_, rfl⟩
      obtain ⟨y, hy⟩ : ∃ y, (gp es k).2 = y := ⟨_, rfl⟩
      rw [hx] at x0
      rw [hy] at x1
      by_cases hin : (0 ≤ x ∧ x < (N : Int)) ∧ 0 ≤ y ∧ y < (N : Int)
      · obtain ⟨A, rfl⟩ := Int.eq_ofNat_of_zero_le hin.1.1
        obtain ⟨Y, rfl⟩ := Int.eq_ofNat_of_zero_le hin.2.1
        have d1 : decide ((A : Int) < 0) = false := decide_eq_false (by omega)
        have d2 : decide ((N : Int) ≤ A) = false := decide_eq_false (by omega)
        have d3 : decide ((Y : Int) < 0) = false := decide_eq_false (by omega)
        have d5 : decide ((N : Int) ≤ Y) = false := decide_eq_false (by omega)
        have hAN : A < N := by omega
        have hYN : Y < N := by omega
        have HI2 : Hid (InN N (es.take (k + 1))) := Lib.hid (by rw [take_succ_gp es k hke]; exact HI.out.snoc (by rw [hx, hy]; exact hin))
        have HNX := Lib.hid (graphE_snoc (es := es.take k) (e := gp es k) hAN hYN hx hy)
        rw [← take_succ_gp es k hke] at HNX
        clear hin hx hy
        go_wp2_with (fail)
        go_quiet (fail)
        have hbq := below_drewN wr nq
        have hG2 := hG.kept hbq
        have hB2 := hB.trans (hbq.mono hB.size)
        obtain ⟨v, hv, hrow⟩ := hG2.mem hAN
        obtain ⟨a0, c0, rfl, -⟩ := owns_slice hrow
        have hI := (IsInts.of_owns hrow).1
        obtain ⟨xs, hxs⟩ : ∃ xs, gr (graphE N (prB (es.take k))) A = xs := ⟨_, rfl⟩
        have hxl : xs.length ≤ 400 := by rw [← hxs, gr_graphE hAN]; have := rowE_len N (prB (es.take k) A); have := HN.out; omega
        rw [hxs] at hv hrow hI HNX
        obtain ⟨cg, -⟩ := hG2.cell hv
        have hwith := refWith_any a0 xs.length c0 xs (Y : Int) (wr.drewN nq) hI.row (by omega)
        clear x0 x1 hG hB hbq hrow hI hxs hxl
        generalize wr.drewN nq = w2 at hG2 hB2 cg hwith ⊢
        go_wp2_with (fail)
        go_at_call 41
        refine hwith.mono ?_
        rintro e w3 ⟨a3, n3, c3, rfl, ho3, hb3⟩
        have hn3 : (withL xs (Y : Int)).length = n3 := by have := ho3.1; simp [ivs] at this; exact this
        have hG3 := hG2.grow' hAN hv (below_grownBy hb3 _) (by rw [hn3]; exact ho3.from_mono hB2.size) (fun q hq => .inr (ho3.lt q hq).1)
        rw [HNX.out] at hG3
        have hB3 := hB2.trans (hb3.mono hB2.size)
        obtain ⟨cg3, fg3⟩ := hG3.cell hv
        have hG4 := hG3.put hAN (.slice a3 n3 c3)
        have hB4 := hB3.setCell (p := ⟨w.heap.size, A, none⟩) (Nat.le_refl _) (.slice a3 n3 c3)
        clear hwith hG2 hB2 cg hG3 hB3 ho3 hb3 hn3 HNX
        go_wp2
        go_roundw
        case rel => exact ⟨k + 1, _, hlt, by go_num, hG4, HI2, hB4⟩
        case measure => simp [intOf]; omega
      · have HNO : Hid (¬ OkM (N : Int) es) := Lib.hid (fun h => hin (by have := h.2.2 _ (gp_mem es k hke); rw [hx, hy, Int.toNat_natCast] at this; exact this))
        clear hx hy hG
        by_cases c1 : x < 0
        · have d1 : decide (x < 0) = true := decide_eq_true c1
          clear hin
          go_wp2_with (fail)
          go_quiet (fail)
          go_wp2
          go_ret2
          exact ⟨.inl ⟨HNO.out, rfl⟩, hB.trans ((below_drewN _ _).mono hB.size)⟩
        have d1 : decide (x < 0) = false := decide_eq_false c1
        by_cases c2 : (N : Int) ≤ x
        · have d2 : decide ((N : Int) ≤ x) = true := decide_eq_true c2
          clear hin
          go_wp2_with (fail)
          go_quiet (fail)
          go_wp2
          go_ret2
          exact ⟨.inl ⟨HNO.out, rfl⟩, hB.trans ((below_drewN _ _).mono hB.size)⟩
        have d2 : decide ((N : Int) ≤ x) = false := decide_eq_false c2
        by_cases c3 : y < 0
        · have d3 : decide (y < 0) = true := decide_eq_true c3
          clear hin
          go_wp2_with (fail)
          go_quiet (fail)
          go_wp2
          go_ret2
          exact ⟨.inl ⟨HNO.out, rfl⟩, hB.trans ((below_drewN _ _).mono hB.size)⟩
        have d3 : decide (y < 0) = false := decide_eq_false c3
        have d5 : decide ((N : Int) ≤ y) = true := decide_eq_true (by omega)
        clear hin c1 c2 c3
        go_wp2_with (fail)
        go_quiet (fail)
        go_wp2
        go_ret2
        exact ⟨.inl ⟨HNO.out, rfl⟩, hB.trans ((below_drewN _ _).mono hB.size)⟩
    · obtain rfl : k = le := by omega
      have t1 : decide ((k : Int) < k) = false := decide_eq_false (by omega)
      have ht := List.take_of_length_le (l := es) (i := k) (by rw [HEL.out]; exact Nat.le_refl _)
      rw [ht] at hG HI
      clear ht
      go_wp2
      go_ret2
      refine ⟨.inr ⟨⟨by omega, by have := HN.out; omega, by rw [Int.toNat_natCast]; exact HI.out⟩, some ⟨w.heap.size, 0, none⟩, N, ms, ?_, ?_⟩, hB⟩
      · rw [Int.toNat_natCast] <;> rfl
      · rw [Int.toNat_natCast]; exact hG

/-! The rows of Back while they are laid. -/
def rowsT (es : List (Int × Int)) (N : Nat) : List (List Int) := (List.range N).map (tgt es)
theorem rowsT_length (es : List (Int × Int)) (N : Nat) : (rowsT es N).length = N := by simp [rowsT]
theorem gr_rowsT {es : List (Int × Int)} {N a : Nat} (ha : a < N) : gr (rowsT es N) a = tgt es a := by
  rw [gr_eq _ _ (by rw [rowsT_length]; exact ha)]
  simp [rowsT]
theorem rowsT_nil (N : Nat) : rowsT [] N = List.replicate N [] := by
  refine rows_ext (by simp [rowsT]) fun i hi => ?_
  rw [rowsT_length] at hi
  rw [gr_rowsT hi, gr_replicate]
  rfl
theorem rowsT_snoc {es : List (Int × Int)} {N A : Nat} {y : Int} (hA : A < N) : (rowsT es N).set A (gr (rowsT es N) A ++ [y]) = rowsT (es ++ [((A : Int), y)]) N := by
  refine rows_ext (by simp [rowsT]) fun i hi => ?_
  rw [List.length_set, rowsT_length] at hi
  rw [gr_set (by rw [rowsT_length]; exact hA), gr_rowsT hi, gr_rowsT hi, tgt_snoc]
  by_cases e : i = A
  · subst e; rw [if_pos rfl, if_pos rfl, gr_rowsT hi]
  · rw [if_neg e, if_neg (by simp only; omega), List.append_nil]
theorem tgt_append (xs ys : List (Int × Int)) (a : Nat) : tgt (xs ++ ys) a = tgt xs a ++ tgt ys a := by simp [tgt]
theorem tgt_revRow (l : List Int) (i a : Nat) (hn : l.Nodup) : tgt (revRow l i) a = if (a : Int) ∈ l then [(i : Int)] else [] := by
  induction l with
  | nil => rfl
  | cons z l ih =>
    have hn' := List.nodup_cons.1 hn
    have e : revRow (z :: l) i = [(z, (i : Int))] ++ revRow l i := rfl
    rw [e, tgt_append, ih hn'.2]
    by_cases h : z = (a : Int)
    · subst h
      rw [if_neg hn'.1, if_pos List.mem_cons_self]
      simp [tgt]
    · have : tgt [(z, (i : Int))] a = [] := by simp [tgt, h]
      rw [this, List.nil_append]
      by_cases h2 : (a : Int) ∈ l
      · rw [if_pos h2, if_pos (List.mem_cons_of_mem _ h2)]
      · rw [if_neg h2, if_neg (fun h3 => by rcases List.mem_cons.1 h3 with h4 | h4; exact h h4.symm; exact h2 h4)]
theorem rowE_succ (N : Nat) (p : Nat → Bool) : rowE (N + 1) p = rowE N p ++ if p N = true then [(N : Int)] else [] := by
  unfold rowE
  rw [List.range_succ, List.filter_append, List.map_append]
  by_cases h : p N = true <;> simp [h]
theorem tgt_revTo {g : List (List Int)} (hv : ValidG g) (a : Nat) : ∀ i, i ≤ g.length → tgt (revTo g i) a = rowE i fun b => geB g b a
  | 0, _ => rfl
  | i + 1, hi => by
    rw [revTo_succ, tgt_append, tgt_revTo hv a i (by omega), tgt_revRow _ _ _ (hv.2 _ (gr_mem (by omega))).1.nodup, rowE_succ]
    congr 1
    by_cases h : geB g i a = true
    · rw [if_pos h, if_pos (show (a : Int) ∈ gr g i from geB_iff.1 h)]
    · rw [if_neg h, if_neg (fun h2 : (a : Int) ∈ gr g i => h (geB_iff.2 h2))]
theorem rowsT_back {g : List (List Int)} (hv : ValidG g) : rowsT (revTo g g.length) g.length = backG g := by
  refine rows_ext (by rw [rowsT_length]; unfold backG; rw [graphE_length]) fun i hi => ?_
  rw [rowsT_length] at hi
  rw [gr_rowsT hi, tgt_revTo hv i _ (Nat.le_refl _)]
  unfold backG
  rw [gr_graphE hi]
end Go.Proofs.Ytamflkacklnnhaa
