/-
  Package order: edges, the table of direct predecessors, the least list.
-/
import Derived.Test.YtofnbndpoiohhaaDoorOrdM
import Derived.Test.YtofnbndpoiohhaaDoorWord
import Derived.Test.YtofnbndpoiohhaaDoorTz
import Derived.Test.YtofnbndpoiohhaaDoorOwn
import Derived.Laws.Tables
set_option linter.unusedSimpArgs false
set_option linter.unusedVariables false
namespace Go.Proofs.YtofnbndpoiohhaaDoor
open Go.RowKit Go.Shelf

theorem mixed : Tryd.prog.follows .mixedOrders = true := by kernel_rfl
/-! What the blocks hold. -/
def PastIs (W : World) (B : Nat) (zs : List Int) : Prop := W.heap[B]? = some (.cells (ivs .u64 zs).toArray 56 (0, 0))
def zero60 : List Int := List.replicate 60 0
theorem past_u : Tryd.prog.underlying 56 = some (.array 60 54) := by kernel_rfl
theorem past_i {zs : List Int} (h : zs.length = 60) : (Tryd.prog.info? 56).map (·.size) = some (ivs .u64 zs).toArray.size := by
  have e : (Tryd.prog.info? 56).map (·.size) = some 60 := by kernel_rfl
  rw [e]; simp [ivs, h]
theorem past_one (zs : List Int) : (ivs .u64 zs).toArray.all (·.oneCell') = true := by
  rw [Array.all_eq_true_iff_forall_mem]
  intro u hu
  exact ivs_one .u64 zs u (by simpa using hu)
theorem past_size {zs : List Int} (h : zs.length = 60) : (ivs .u64 zs).toArray.size = 60 := by simp [ivs, h]
theorem PastIs.cell {W : World} {B : Nat} {zs : List Int} (h : PastIs W B zs) (j : Nat) (hj : j < zs.length) : W.cell? ⟨B, j, none⟩ = some (.int .u64 (gi zs j)) ∧ W.frozen? ⟨B, j, none⟩ = false := by
  refine ⟨?_, frozen_of_row W B j _ _ h⟩
  rw [cell_of_row W B j _ _ (0, 0) h, List.getElem?_toArray, ivs_get _ _ _ hj]
theorem PastIs.kept {W W' : World} {B B' : Nat} {zs : List Int} (h : PastIs W B zs) (hb : Below B' W W') (hB : B < B') : PastIs W' B zs := by
  unfold PastIs
  rw [hb.block B hB]; exact h
theorem PastIs.later {W W' : World} {B : Nat} {zs : List Int} (h : PastIs W B zs) (hb : Below W.heap.size W W') : PastIs W' B zs := h.kept hb (Array.getElem?_eq_some_iff.1 h).1
theorem PastIs.store {W : World} {B : Nat} {zs : List Int} (h : PastIs W B zs) (j : Nat) (v : Int) : PastIs (W.setCell ⟨B, j, none⟩ (.int .u64 v)) B (zs.set j v) := by
  unfold PastIs
  rw [heap_setCell_same W B j _ _ _ h, List.setIfInBounds_toArray, ivs_set]
theorem PastIs.other {W : World} {B : Nat} {zs : List Int} (h : PastIs W B zs) (a : Addr) (hne : B ≠ a.block) (v : Value) : PastIs (W.setCell a v) B zs := by
  unfold PastIs
  rw [heap_setCell_other _ _ _ _ hne]; exact h
theorem PastIs.row {W : World} {B : Nat} {zs : List Int} (h : PastIs W B zs) (ys : List Int) : PastIs (W.setRow B (ivs .u64 ys).toArray) B ys := setRow_heap _ _ _ _ _ _ h

theorem cell_other {W : World} {b j : Nat} {v : Value} (h : W.cell? ⟨b, j, none⟩ = some v) {a : Addr} (hne : b ≠ a.block) (u : Value) : (W.setCell a u).cell? ⟨b, j, none⟩ = some v := by
  have e := heap_setCell_other W a b u hne
  simp only [World.cell?] at h ⊢
  rw [e]
  exact h
theorem size_setCell' (W : World) (a : Addr) (u : Value) : (W.setCell a u).heap.size = W.heap.size := by simp
theorem row_setRow {W : World} {B e n g : Nat} {v : Value} {xs : List Value} (h : W.ownsRow B e 1 v n xs) (hg : g < B) (cs : Array Value) : (W.setRow g cs).ownsRow B e 1 v n xs := by
  rcases h with ⟨h1, ⟨h2, h3⟩ | ⟨g', cap, cur, h2, h3, h4, h5⟩⟩
  · exact ⟨h1, .inl ⟨h2, h3⟩⟩
  · exact ⟨h1, .inr ⟨g', cap, cur, h2, h3, by rw [setRow_other _ _ _ _ (by omega)]; exact h4, h5⟩⟩
/-! The edges. -/
def gp (es : List (Int × Int)) (i : Nat) : Int × Int := es.getD i (0, 0)
theorem gp_eq (es : List (Int × Int)) (i : Nat) (h : i < es.length) : gp es i = es[i] := by simp [gp, List.getD, h]
theorem gp_mem (es : List (Int × Int)) (i : Nat) (h : i < es.length) : gp es i ∈ es := by rw [gp_eq es i h]; exact List.getElem_mem h
theorem take_succ_gp (es : List (Int × Int)) (k : Nat) (h : k < es.length) : es.take (k + 1) = es.take k ++ [gp es k] := by
  rw [gp_eq es k h, List.take_append_getElem h]
def IsPairs (w : World) (a : Option Addr) (len cap : Nat) (es : List (Int × Int)) : Prop :=
  (a = none ∧ len = 0 ∧ cap = 0 ∧ es = []) ∨
  ∃ b off, a = some ⟨b, off, none⟩ ∧ len ≤ cap ∧ cap ≤ maxLen ∧ es.length = len ∧ ∀ i, i < len → w.cell? ⟨b, off + i * 2, none⟩ = some (.int .i64 (gp es i).1) ∧ w.cell? ⟨b, off + i * 2 + 1, none⟩ = some (.int .i64 (gp es i).2)
theorem IsPairs.length {w : World} {a : Option Addr} {len cap : Nat} {es : List (Int × Int)} (h : IsPairs w a len cap es) : es.length = len := by
  rcases h with ⟨_, h, _, rfl⟩ | ⟨_, _, _, _, _, h, _⟩
  · rw [h]; rfl
  · exact h
theorem IsPairs.later {w w' : World} {a : Option Addr} {len cap : Nat} {es : List (Int × Int)} (h : IsPairs w a len cap es) (hb : Below w.heap.size w w') : IsPairs w' a len cap es := by
  rcases h with h | ⟨b, off, h1, h2, h3, h4, h5⟩
  · exact .inl h
  · exact .inr ⟨b, off, h1, h2, h3, h4, fun i hi => ⟨(hb.cell (p := ⟨b, off + i * 2, none⟩) (lt_of_cell (h5 i hi).1)).trans (h5 i hi).1, (hb.cell (p := ⟨b, off + i * 2 + 1, none⟩) (lt_of_cell (h5 i hi).2)).trans (h5 i hi).2⟩⟩
theorem IsPairs.at {w : World} {a : Option Addr} {len cap : Nat} {es : List (Int × Int)} (h : IsPairs w a len cap es) (W : World) (hb : Below w.heap.size w W) (i : Nat) (hi : i < len) :
    ∃ b off, a = some ⟨b, off, none⟩ ∧ b < w.heap.size ∧ W.cell? ⟨b, off + i * 2, none⟩ = some (.int .i64 (gp es i).1) ∧ W.cell? ⟨b, off + i * 2 + 1, none⟩ = some (.int .i64 (gp es i).2) := by
  have h' := h.later hb
  rcases h with ⟨_, h0, _⟩ | ⟨b, off, rfl, _, _, _, hc⟩
  · omega
  · rcases h' with ⟨h0, _⟩ | ⟨b', off', e, _, _, _, hc'⟩
    · cases h0
    · injection e with e; injection e with e1 e2; subst e1; subst e2
      exact ⟨b, off, rfl, lt_of_cell (hc i hi).1, hc' i hi⟩

def InR (n : Int) (es : List (Int × Int)) : Prop := ∀ e ∈ es, (0 ≤ e.1 ∧ e.1 < n) ∧ 0 ≤ e.2 ∧ e.2 < n
def Ed (es : List (Int × Int)) (a b : Nat) : Prop := ((a : Int), (b : Int)) ∈ es
theorem InR.snoc {n : Int} {es : List (Int × Int)} {e : Int × Int} (h : InR n es) (he : (0 ≤ e.1 ∧ e.1 < n) ∧ 0 ≤ e.2 ∧ e.2 < n) : InR n (es ++ [e]) := by
  intro x hx
  rcases List.mem_append.1 hx with hx | hx
  · exact h x hx
  · rw [List.mem_singleton.1 hx]; exact he
theorem InR.ed {N : Nat} {es : List (Int × Int)} (h : InR N es) : ∀ a b, Ed es a b → a < N ∧ b < N := by
  intro a b e
  have := h _ e
  simp only at this
  omega

def dirStep (ds : List Int) (e : Int × Int) : List Int := ds.set e.2.toNat (bits .or .u64 (gi ds e.2.toNat) (IntKind.u64.wrap (2 ^ e.1.toNat)))
def dirs (es : List (Int × Int)) : List Int := es.foldl dirStep zero60
theorem dirs_snoc (es : List (Int × Int)) (k : Nat) (h : k < es.length) : dirs (es.take (k + 1)) = dirStep (dirs (es.take k)) (gp es k) := by
  rw [take_succ_gp es k h, dirs, List.foldl_append]; rfl
theorem dirStep_length (ds : List Int) (e : Int × Int) : (dirStep ds e).length = ds.length := by simp [dirStep]
theorem dirs_length (es : List (Int × Int)) : (dirs es).length = 60 := by
  unfold dirs
  suffices ∀ (es : List (Int × Int)) (ds : List Int), ds.length = 60 → (es.foldl dirStep ds).length = 60 from this es zero60 rfl
  intro es
  induction es with
  | nil => intro ds h; exact h
  | cons e es ih => intro ds h; exact ih _ (by rw [dirStep_length]; exact h)
theorem w64_zero : W64 zero60 := by
  intro z hz
  rw [List.eq_of_mem_replicate hz]
  decide
theorem gi_zero (i : Nat) : gi zero60 i = 0 := by
  by_cases h : i < 60
  · have hl : i < zero60.length := by rw [show zero60.length = 60 from rfl]; exact h
    rw [gi_eq _ _ hl]; exact List.getElem_replicate _
  · exact gi_over (by rw [show zero60.length = 60 from rfl]; omega)
theorem w64_set {ws : List Int} (h : W64 ws) (j : Nat) (v : Int) (hv : 0 ≤ v ∧ v < 18446744073709551616) : W64 (ws.set j v) := by
  intro z hz
  rcases List.mem_or_eq_of_mem_set hz with h1 | h1
  · exact h z h1
  · rw [h1]; exact hv
theorem orBit_spec {x : Int} (hx : 0 ≤ x ∧ x < 18446744073709551616) {r : Nat} (hr : r < 64) : (0 ≤ bits .or .u64 x (IntKind.u64.wrap (2 ^ r)) ∧ bits .or .u64 x (IntKind.u64.wrap (2 ^ r)) < 18446744073709551616) ∧ ∀ i, tb (bits .or .u64 x (IntKind.u64.wrap (2 ^ r))) i = (tb x i || decide (i = r)) := by
  obtain ⟨h1, h2⟩ := orBit x r hx hr
  rw [h1]
  exact ⟨by omega, fun i => tb_or x r i⟩
theorem dirs_spec : ∀ (es : List (Int × Int)) (ds : List Int), InR 60 es → W64 ds → ds.length = 60 → W64 (es.foldl dirStep ds) ∧ ∀ b a : Nat, b < 60 → tb (gi (es.foldl dirStep ds) b) a = (tb (gi ds b) a || decide (((a : Int), (b : Int)) ∈ es))
  | [], ds, _, hw, _ => ⟨hw, fun b a _ => by simp⟩
  | e :: es, ds, hr, hw, hl => by
    obtain ⟨x, y⟩ := e
    have he := hr _ List.mem_cons_self
    simp only at he
    obtain ⟨x, rfl⟩ := Int.eq_ofNat_of_zero_le he.1.1
    obtain ⟨y, rfl⟩ := Int.eq_ofNat_of_zero_le he.2.1
    have hs := orBit_spec (hw.gi y) (show x < 64 by omega)
    have hd : dirStep ds ((x : Int), (y : Int)) = ds.set y (bits .or .u64 (gi ds y) (IntKind.u64.wrap (2 ^ x))) := rfl
    have ih := dirs_spec es (dirStep ds ((x : Int), (y : Int))) (fun e h => hr e (List.mem_cons_of_mem _ h)) (by rw [hd]; exact w64_set hw _ _ hs.1) (by rw [dirStep_length]; exact hl)
    refine ⟨ih.1, fun b a hb => ?_⟩
    rw [List.foldl_cons, ih.2 b a hb, hd, gi_set _ _ _ _ (by omega)]
    by_cases e : b = y
    · subst e
      rw [if_pos rfl, hs.2, Bool.or_assoc]
      congr 1
      rw [Bool.eq_iff_iff, Bool.or_eq_true, decide_eq_true_iff, decide_eq_true_iff, decide_eq_true_iff, List.mem_cons, Prod.mk.injEq, Int.ofNat_inj]
      exact ⟨fun h => h.imp (fun h => ⟨h, rfl⟩) id, fun h => h.imp And.left id⟩
    · rw [if_neg e]
      congr 1
      rw [Bool.eq_iff_iff, decide_eq_true_iff, decide_eq_true_iff, List.mem_cons, Prod.mk.injEq, Int.ofNat_inj, Int.ofNat_inj]
      exact ⟨.inr, fun h => h.elim (fun h => absurd h.2 e) id⟩
theorem dirs_is {es : List (Int × Int)} (hr : InR 60 es) : W64 (dirs es) ∧ ∀ b a : Nat, b < 60 → tb (gi (dirs es) b) a = decide (((a : Int), (b : Int)) ∈ es) := by
  have := dirs_spec es zero60 hr w64_zero rfl
  refine ⟨this.1, fun b a hb => ?_⟩
  have h2 := this.2 b a hb
  rw [gi_zero] at h2
  rw [show tb 0 a = false by simp [tb], Bool.false_or] at h2
  exact h2

/-! The sets before the events. -/
def PastK (es : List (Int × Int)) (ls : List Nat) (ps : List Int) : Prop := ps.length = 60 ∧ W64 ps ∧ ∀ b, b < 60 → ∀ a, a < 64 → (tb (gi ps b) a = true ↔ (b ∈ ls ∧ Path (Ed es) a b))
theorem tb_zero (a : Nat) : tb 0 a = false := by simp [tb]
theorem PastK.nil (es : List (Int × Int)) : PastK es [] zero60 := ⟨rfl, w64_zero, fun b _ a _ => by rw [gi_zero, tb_zero]; simp⟩
theorem PastK.snoc {es : List (Int × Int)} {ls : List Nat} {ps : List Int} {x : Nat} {v : Int} (h : PastK es ls ps) (hx : x < 60) (hn : x ∉ ls) (hv : 0 ≤ v ∧ v < 18446744073709551616) (hb : ∀ a, a < 64 → (tb v a = true ↔ Path (Ed es) a x)) : PastK es (ls ++ [x]) (ps.set x v) := by
  obtain ⟨h1, h2, h3⟩ := h
  refine ⟨by rw [List.length_set, h1], w64_set h2 _ _ hv, fun b hb60 a ha => ?_⟩
  rw [gi_set _ _ _ _ (by omega)]
  by_cases e : b = x
  · subst e
    rw [if_pos rfl, hb a ha]
    simp
  · rw [if_neg e, h3 b hb60 a ha]
    simp [e]
theorem mem_upB {z c : Nat} : c ∈ upB 64 0 z ↔ c < 64 ∧ tb (z : Int) c = true := by
  rw [upB_filter]
  simp [tb]
theorem or_spec {x y : Int} (hx : 0 ≤ x ∧ x < 18446744073709551616) (hy : 0 ≤ y ∧ y < 18446744073709551616) : (0 ≤ bits .or .u64 x y ∧ bits .or .u64 x y < 18446744073709551616) ∧ ∀ i, tb (bits .or .u64 x y) i = (tb x i || tb y i) := by
  obtain ⟨x, rfl⟩ := Int.eq_ofNat_of_zero_le hx.1
  obtain ⟨y, rfl⟩ := Int.eq_ofNat_of_zero_le hy.1
  rw [bits_or_u64_nat x y (by omega) (by omega)]
  have := Nat.or_lt_two_pow (n := 64) (x := x) (y := y) (by omega) (by omega)
  exact ⟨by omega, fun i => by simp [tb, Nat.testBit_or]⟩
theorem and1_eq {z : Int} (hz : 0 ≤ z ∧ z < 18446744073709551616) (r : Nat) : (bits .and .u64 (z / 2 ^ r) 1 == 0) = !tb z r := by
  rw [← bitI_tb hz.1 hz.2]
  unfold bitI
  obtain ⟨n, rfl⟩ := Int.eq_ofNat_of_zero_le hz.1
  have e : ((n : Int) / 2 ^ r) = ((n / 2 ^ r : Nat) : Int) := by simp
  have hlt : n / 2 ^ r < 18446744073709551616 := Nat.lt_of_le_of_lt (Nat.div_le_self _ _) (by omega)
  rw [e, show (1 : Int) = ((1 : Nat) : Int) from rfl, bits_and_u64_nat _ _ hlt (by decide), Nat.and_one_is_mod]
  rcases Nat.mod_two_eq_zero_or_one (n / 2 ^ r) with h | h <;> rw [h] <;> rfl
theorem andNot_eq {x y : Int} (hx : 0 ≤ x ∧ x < 18446744073709551616) (hy : 0 ≤ y ∧ y < 18446744073709551616) : (bits .andNot .u64 x y == 0) = true ↔ ∀ r, r < 64 → tb x r = true → tb y r = true := by
  obtain ⟨x, rfl⟩ := Int.eq_ofNat_of_zero_le hx.1
  obtain ⟨y, rfl⟩ := Int.eq_ofNat_of_zero_le hy.1
  have e := u64_andNot (x : Int) (y : Int) hx.1 hx.2 hy.1 hy.2
  rw [e, Int.toNat_natCast, Int.toNat_natCast, beq_iff_eq]
  have hc := Nat.and_lt_two_pow (n := 64) x (y := 18446744073709551615 - y) (by omega)
  have hb : ∀ r, r < 64 → (x &&& (18446744073709551615 - y)).testBit r = (x.testBit r && !y.testBit r) := by
    intro r hr
    rw [Nat.testBit_and]
    congr 1
    have := Nat.testBit_two_pow_sub_succ (n := 64) (x := y) (by omega) r
    rw [show (2 : Nat) ^ 64 - (y + 1) = 18446744073709551615 - y by omega] at this
    rw [this]; simp [hr]
  constructor
  · intro h r hr h1
    have h0 : x &&& (18446744073709551615 - y) = 0 := by omega
    have := hb r hr
    rw [h0, Nat.zero_testBit] at this
    unfold tb at h1 ⊢
    rw [Int.toNat_natCast] at h1 ⊢
    rw [h1] at this
    simpa using this.symm
  · intro h
    have h0 : x &&& (18446744073709551615 - y) = 0 := by
      apply Nat.eq_of_testBit_eq
      intro r
      rw [Nat.zero_testBit]
      by_cases hr : r < 64
      · rw [hb r hr]
        have := h r hr
        unfold tb at this
        rw [Int.toNat_natCast, Int.toNat_natCast] at this
        cases h1 : x.testBit r with
        | false => rfl
        | true => rw [this h1]; rfl
      · exact Nat.testBit_lt_two_pow (Nat.lt_of_lt_of_le hc (Nat.pow_le_pow_right (by decide) (by omega)))
    rw [h0]; rfl

/-- The part of the set before x that is laid already, and the rest of x's direct predecessors. -/
def Acc (es : List (Int × Int)) (x z : Nat) (v : Int) : Prop := (0 ≤ v ∧ v < 18446744073709551616) ∧ ∀ a, a < 64 → ((tb v a = true ∨ ∃ c ∈ upB 64 0 z, Path (Ed es) a c) ↔ Path (Ed es) a x)
theorem Acc.start {es : List (Int × Int)} {x z : Nat} (hR : InR 60 es) (hz : z < 18446744073709551616) (hD : ∀ a : Nat, tb (z : Int) a = decide (((a : Int), (x : Int)) ∈ es)) : Acc es x z z := by
  refine ⟨by omega, fun a ha => ?_⟩
  constructor
  · rintro (h | ⟨c, hc, p⟩)
    · rw [hD, decide_eq_true_iff] at h
      exact .one h
    · have := (mem_upB.1 hc).2
      rw [hD, decide_eq_true_iff] at this
      exact p.trans (.one this)
  · intro p
    rcases p.last with h | ⟨b, h1, h2⟩
    · exact .inl (by rw [hD]; exact decide_eq_true h)
    · have hb : b < 64 := by have := hR _ h2; simp only at this; omega
      exact .inr ⟨b, mem_upB.2 ⟨hb, by rw [hD]; exact decide_eq_true h2⟩, h1⟩
theorem Acc.step {es : List (Int × Int)} {x z : Nat} {v : Int} {ls : List Nat} {ps : List Int} (h : Acc es x z v) (h0 : z ≠ 0) (hz : z < 18446744073709551616) (hps : PastK es ls ps) (hc : Lib.ctz 64 z ∈ ls) (hc60 : Lib.ctz 64 z < 60) :
    Acc es x (z &&& (z - 1)) (bits .or .u64 v (gi ps (Lib.ctz 64 z))) := by
  obtain ⟨hv, hb⟩ := h
  have ho := or_spec hv (hps.2.1.gi (Lib.ctz 64 z))
  refine ⟨ho.1, fun a ha => ?_⟩
  rw [← hb a ha, upB_ctz z h0 hz, ho.2, Bool.or_eq_true]
  have hp := hps.2.2 _ hc60 a ha
  constructor
  · rintro ((h | h) | ⟨c, h, p⟩)
    · exact .inl h
    · exact .inr ⟨_, List.mem_cons_self, (hp.1 h).2⟩
    · exact .inr ⟨c, List.mem_cons_of_mem _ h, p⟩
  · rintro (h | ⟨c, h, p⟩)
    · exact .inl (.inl h)
    · rcases List.mem_cons.1 h with rfl | h
      · exact .inl (.inr (hp.2 ⟨hc, p⟩))
      · exact .inr ⟨c, h, p⟩
theorem Acc.done {es : List (Int × Int)} {x : Nat} {v : Int} (h : Acc es x 0 v) : ∀ a, a < 64 → (tb v a = true ↔ Path (Ed es) a x) := by
  intro a ha
  rw [← h.2 a ha, upB_zero]
  simp

theorem elI64 : Elem Tryd.prog 31 3 (.int .i64 0) 1 8 := ⟨Tryd.underlying31, by kernel_rfl, rfl, by decide⟩

/-! The least list. -/
def Rdy (es : List (Int × Int)) (ls : List Nat) (i : Nat) : Prop := i ∉ ls ∧ ∀ a, Ed es a i → a ∈ ls
inductive KL (E : Nat → Nat → Prop) (N : Nat) : List Nat → Prop
  | nil : KL E N []
  | snoc {l : List Nat} {x : Nat} : KL E N l → x ∉ l → x < N → (∀ a, E a x → a ∈ l) → (∀ j, j < x → j ∉ l → ∃ a, E a j ∧ a ∉ l) → KL E N (l ++ [x])
theorem KL.topo {E : Nat → Nat → Prop} {N : Nat} {l : List Nat} (h : KL E N l) : Topo E N l := by
  induction h with
  | nil => exact .nil
  | snoc _ h1 h2 h3 _ ih => exact .snoc ih h1 h2 h3
theorem KL.uniq {E : Nat → Nat → Prop} {N : Nat} {l : List Nat} (h : KL E N l) : ∀ {l' : List Nat}, KL E N l' → l.length = l'.length → l = l' := by
  induction h with
  | nil => intro l' h' hl; exact (List.length_eq_zero_iff.1 hl.symm).symm
  | @snoc l x hk h1 h2 h3 h4 ih =>
    intro l' h' hl
    cases h' with
    | nil => simp at hl
    | @snoc l2 x2 hk' g1 g2 g3 g4 =>
      have e := ih hk' (by simpa using hl)
      subst e
      rcases Nat.lt_trichotomy x x2 with h | h | h
      · obtain ⟨a, e1, e2⟩ := g4 x h h1
        exact absurd (h3 a e1) e2
      · rw [h]
      · obtain ⟨a, e1, e2⟩ := h4 x2 h g1
        exact absurd (g3 a e1) e2
end Go.Proofs.YtofnbndpoiohhaaDoor
