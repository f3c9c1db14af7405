/-
  The walk of Append.
-/
import Derived.Test.YtpmhnmkpmkeadaaWalG
import Derived.Shelf.Abstract
import Derived.Laws.CopyRow
import Derived.Laws.CopyOwn
set_option linter.unusedSimpArgs false
set_option linter.unusedVariables false
set_option maxHeartbeats 4000000
namespace Go.Proofs.Ytpmhnmkpmkeadaa
open Go.RowKit Go.Shelf
attribute [local go_sem] Oper.semAt_some

/-- append onto a full slice that came in. -/
theorem wp_app_full {P : Program} {T E : TypeId} {z : Value} {bytes : Nat} {k : IntKind} (el : Elem P T E z 1 bytes) {w : World} {o : Oper} {a : Act} {K : Act → World → Prop} {Q : Exit → Act → World → Prop} (s x : Operand)
    (ho : o.op = .call { callee := .builtin .append, args := #[s, x], argTypes := #[T, T] })
    {B n : Nat} {ad : Option Addr} {xs : List Int} (hs : a.eval s = .slice ad n n) (hin : IsInts k w ad n n xs)
    {ao : Option Addr} {m c : Nat} {ys : List Int} (hx : a.eval x = .slice ao m c) (hsrc : IsInts k w ao m c ys) (hm : 0 < m)
    (hb : (n + m) * (bytes + 1) ≤ 70000000000000) (hB : B ≤ w.heap.size)
    (h : ∀ a' c' w', w'.ownsRow B E 1 (.slice a' (n + m) c') (n + m) (ivs k (xs ++ ys)) → w.grownBy w' none → Below w.heap.size w w' → K (a.put o.dst (.slice a' (n + m) c')) w') : o.wp P a w K Q := by
  obtain ⟨i, hi, hz, hsize, hby⟩ := info_parts el.info
  have hb1 : (n + m) * bytes + (n + m) ≤ 70000000000000 := by rw [← Nat.mul_succ]; exact hb
  rcases hin with ⟨rfl, rfl, -, rfl⟩ | ⟨b, off, rfl, h1, h2, h3, h4⟩
  · refine wp_app_ints (k := k) (B := w.heap.size) (xs := []) (v := .slice none 0 0) (n := 0) el s x ho hs (World.ownsRow_nil _ _ _ _) hx hsrc (by omega) (Nat.le_refl _) ?_
    intro a' c' w' g1 g2 g3 _
    exact h a' c' w' (g1.from_mono hB) g2 g3
  · obtain ⟨hs1, hs2, hs3⟩ := ints_src hsrc
    obtain ⟨xb, rfl⟩ : ∃ xb, ao = some xb := by
      cases ao with
      | none => have := (hs3 rfl).1; omega
      | some xb => exact ⟨xb, rfl⟩
    obtain ⟨ho1, ho2, -⟩ := ints_src (k := k) (w := w) (a := some ⟨b, off, none⟩) (len := n) (cap := n) (zs := xs) (.inr ⟨b, off, rfl, h1, h2, h3, h4⟩)
    have hrun := run_append_grow (P := P) (w := w) T o.type E i z el.ht hi hz ⟨b, off, none⟩ n n (xs.map (Value.int k)) (by rw [hsize]; exact ho1) (ho2 _ rfl) xb m c (ys.map (Value.int k)) (by rw [hsize]; exact hs1) (hs2 _ rfl) (by omega) (by omega) (growslice_fits (by omega) (by rw [hby]; omega))
    have hge := grownCap_ge w (n + m) n E
    have hle := grownCap_le_maxLen w (n + m) n E (by unfold maxLen; omega)
    obtain ⟨C, hC⟩ : ∃ C, grownCap w (n + m) n E = C := ⟨_, rfl⟩
    rw [hC] at hrun hge hle
    unfold Oper.wp execOp
    simp only [ho, resolve, invoke, builtin, Sem.run_bind, Sem.run_pure, Result.andThen_ok, List.map_toArray, List.map_cons, List.map_nil, hs, hx, hrun]
    refine h _ _ _ ⟨by simp [ivs] at ho1 hs1 ⊢; omega, .inr ⟨w.heap.size, C, _, rfl, hB, heap_alloc_new w.drew _, hge, hle, ?_, ?_⟩⟩ ?_ ?_
    · have hzc : (Builtin.zeroCells z.cells (C - (n + m))).size = (C - (n + m)) * 1 := by rw [size_zeroCells, el.cells]
      simp only [Array.size_append, List.size_toArray, hzc]
      rw [ho1, hs1]
      omega
    · simp only [Array.toList_append]
      rw [Nat.mul_one, List.take_append_of_le_length (by simp at ho1 hs1 ⊢; omega), List.take_of_length_le (by simp at ho1 hs1 ⊢; omega)]
      simp [ivs]
    · exact ⟨rfl, rfl, rfl, by simp, fun k hk _ => Below.heap_alloc w.drew _ k hk⟩
    · exact (Below.refl _ _).drew.alloc (Nat.le_refl _) _

theorem own_box1 (B b : Nat) (u : Value) : OwnFrom B (fun (_ : Nat) W => Box1 W b u) := by
  intro s W W' row hs hg hr
  obtain ⟨T, h⟩ := hs
  refine ⟨T, (hg.block b (Array.getElem?_eq_some_iff.1 h).1 ?_).trans h⟩
  intro e
  obtain ⟨_, o, ho, hc⟩ := hr b e.symm
  rw [h] at ho
  cases ho
  cases hc
theorem own_box2 (B b : Nat) (u v : Value) : OwnFrom B (fun (_ : Nat) W => Box2 W b u v) := by
  intro s W W' row hs hg hr
  obtain ⟨T, h⟩ := hs
  refine ⟨T, (hg.block b (Array.getElem?_eq_some_iff.1 h).1 ?_).trans h⟩
  intro e
  obtain ⟨_, o, ho, hc⟩ := hr b e.symm
  rw [h] at ho
  cases ho
  cases hc
theorem own_row {W W' : World} {row : Option Nat} {B e s n B' : Nat} {v : Value} {xs : List Value} (h : W.ownsRow B e s v n xs) (hg : W.grownBy W' row) (hr : ∀ r, row = some r → B' ≤ r ∧ ∃ o : Obj, W.heap[r]? = some o ∧ o.isCells = false) : W'.ownsRow B e s v n xs := by
  refine h.kept hg ?_
  rcases h.2 with ⟨rfl, _⟩ | ⟨g, cap, cur, rfl, _, hgg, _⟩
  · exact .inl rfl
  · right
    intro e
    obtain ⟨_, o, ho, hc⟩ := hr g e.symm
    rw [hgg] at ho
    cases ho
    cases hc

/-- Between two rounds of Append: k parts have been laid. -/
def AppI (w : World) (a : Option Addr) (len cap : Nat) (s : Int) (zs : List Int) (h0 : Int) (ps : List Prt) (k : Nat) (W : World) : Prop :=
  Below w.heap.size w W ∧ w.heap.size + 5 ≤ W.heap.size ∧ Box2 W w.heap.size (.slice a len cap) (.int .i64 s) ∧ Box2 W (w.heap.size + 1) (.slice none 0 0) (.int .i64 0) ∧ Box1 W (w.heap.size + 2) (.int .u64 (hashP h0 (ps.take k))) ∧
  ∃ fa fc, Box1 W (w.heap.size + 3) (.slice fa (len + 32 * k) fc) ∧ (k = 0 ∧ fa = a ∧ fc = len ∨ W.ownsRow (w.heap.size + 5) 5 1 (.slice fa (len + 32 * k) fc) (len + 32 * k) (ivs .u8 (zs ++ encP h0 (ps.take k))))
theorem AppI.own (w : World) (a : Option Addr) (len cap : Nat) (s : Int) (zs : List Int) (h0 : Int) (ps : List Prt) (B : Nat) (hB : w.heap.size ≤ B) : OwnFrom B (AppI w a len cap s zs h0 ps) := by
  rintro k W W' row ⟨h1, h2, h3, h4, h5, fa, fc, h6, h7⟩ hg hr
  refine ⟨h1.grown hg h1.size (fun r e => Nat.le_trans hB (hr r e).1), Nat.le_trans h2 hg.size, own_box2 B _ _ _ k W W' row h3 hg hr, own_box2 B _ _ _ k W W' row h4 hg hr, own_box1 B _ _ k W W' row h5 hg hr, fa, fc, own_box1 B _ _ k W W' row h6 hg hr, ?_⟩
  rcases h7 with h7 | h7
  · exact .inl h7
  · exact .inr (own_row h7 hg hr)
theorem AppI.set (w : World) (a : Option Addr) (len cap : Nat) (s : Int) (zs : List Int) (h0 : Int) (ps : List Prt) (k : Nat) (W : World) (x : Value) (h : AppI w a len cap s zs h0 ps k W) : AppI w a len cap s zs h0 ps k (W.setCell ⟨w.heap.size + 4, 0, none⟩ x) := by
  obtain ⟨h1, h2, h3, h4, h5, fa, fc, h6, h7⟩ := h
  refine ⟨h1.setCell (by show _ ≤ w.heap.size + 4; omega) _, by rw [World.size_setCell]; exact h2, h3.other _ (by show _ ≠ w.heap.size + 4; omega) _, h4.other _ (by show _ ≠ w.heap.size + 4; omega) _, h5.other _ (by show _ ≠ w.heap.size + 4; omega) _, fa, fc, h6.other _ (by show _ ≠ w.heap.size + 4; omega) _, ?_⟩
  rcases h7 with h7 | h7
  · exact .inl h7
  · exact .inr (ownsRow_setCell_below h7 (by show w.heap.size + 4 < _; omega) _)

/-- Block g holds numbers of kind u8, as an array of type T. -/
def RowT (W : World) (g : Nat) (T : TypeId) (xs : List Int) : Prop := W.heap[g]? = some (.cells (ivs .u8 xs).toArray T (0, 0))
theorem RowT.ints {W : World} {g : Nat} {T : TypeId} {xs : List Int} (h : RowT W g T xs) {n : Nat} (hn : xs.length = n) (hm : n ≤ maxLen) : IsInts .u8 W (some ⟨g, 0, none⟩) n n xs := by
  refine .inr ⟨g, 0, rfl, Nat.le_refl _, hm, hn, fun i hi => ?_⟩
  rw [Nat.zero_add, cell_of_row W g i _ _ _ h]
  simp [ivs, getElem?_gi xs i (by omega)]
theorem RowT.lt {W : World} {g : Nat} {T : TypeId} {xs : List Int} (h : RowT W g T xs) : g < W.heap.size := (Array.getElem?_eq_some_iff.1 h).1
theorem RowT.later {W W' : World} {g : Nat} {T : TypeId} {xs : List Int} (h : RowT W g T xs) (hb : Below W.heap.size W W') : RowT W' g T xs := (hb.block g h.lt).trans h
theorem RowT.grown {W W' : World} {row : Option Nat} {g : Nat} {T : TypeId} {xs : List Int} (h : RowT W g T xs) (hg : W.grownBy W' row) (hne : some g ≠ row) : RowT W' g T xs := (hg.block g h.lt hne).trans h
theorem RowT.other {W : World} {g : Nat} {T : TypeId} {xs : List Int} (h : RowT W g T xs) (a : Addr) (hne : g ≠ a.block) (x : Value) : RowT (W.setCell a x) g T xs := (heap_setCell_other _ _ _ _ hne).trans h
theorem RowT.cell {W : World} {g : Nat} {T : TypeId} {xs : List Int} (h : RowT W g T xs) (i : Nat) (hi : i < xs.length) : W.cell? ⟨g, i, none⟩ = some (.int .u8 (gi xs i)) ∧ W.frozen? ⟨g, i, none⟩ = false :=
  ⟨by rw [cell_of_row W g i _ _ _ h]; simp [ivs, getElem?_gi xs i hi], frozen_of_row W g i _ _ h⟩
theorem RowT.set {W : World} {g : Nat} {T : TypeId} {xs : List Int} (h : RowT W g T xs) (i : Nat) (v : Int) : RowT (W.setCell ⟨g, i, none⟩ (.int .u8 v)) g T (xs.set i v) := by
  unfold RowT
  rw [heap_setCell_same W g i _ _ _ h]
  congr 2
  simp [ivs, List.map_set]
/-- A row of another type is no own row of bytes. -/
theorem RowT.ne {W : World} {g : Nat} {T : TypeId} {xs : List Int} (h : RowT W g T xs) {B s n : Nat} {v : Value} {ys : List Value} (ho : W.ownsRow B 5 s v n ys) (hT : T ≠ 5) : some g ≠ v.ownBlock := by
  rcases ho.2 with ⟨rfl, _⟩ | ⟨g', cap, cur, rfl, _, hg, _⟩
  · simp [Value.ownBlock]
  · simp only [Value.ownBlock, ne_eq, Option.some.injEq]
    intro e
    subst e
    unfold RowT at h
    rw [hg] at h
    simp at h
    exact hT h.2.symm

theorem run_copy_ints {P : Program} (w : World) (T ty elem : TypeId) (g o dLen dCap : Nat) (cur : Array Value) (t : TypeId) {ao : Option Addr} {m c : Nat} {ys : List Int} (hsrc : IsRow .u8 w ao m c ys)
    (hu : P.underlying T = some (.slice elem)) (hs : (P.info? elem).map (·.size) = some 1) (hg : w.heap[g]? = some (.cells cur t (0, 0))) (hm : m ≤ dLen) (hfit : o + m ≤ cur.size) :
    (Builtin.copy_ #[T, T] ty #[.slice (some ⟨g, o, none⟩) dLen dCap, .slice ao m c]).run P w = .ok (goInt m) (w.setRow g (cur.toList.take o ++ ivs .u8 ys ++ cur.toList.drop (o + m)).toArray) := by
  have hsrc' : (m = 0 ∧ c = 0 ∧ ys = []) ∨ ∃ b off, ao = some ⟨b, off, none⟩ ∧ m ≤ c ∧ c ≤ maxLen ∧ ys.length = m ∧ (∀ i, i < m → w.cell? ⟨b, off + i, none⟩ = some (.int .u8 (gi ys i))) := by
    rcases hsrc with h | h
    · rcases h with ⟨_, h⟩ | h
      · exact .inl h
      · exact .inr h
    · exact .inl h
  clear hsrc
  rcases hsrc' with ⟨rfl, rfl, rfl⟩ | ⟨b, off, rfl, h1, h2, h3, h4⟩
  · have hc : (ivs .u8 ([] : List Int)) = [] := rfl
    rw [hc, List.append_nil, Nat.add_zero, List.take_append_drop, Array.toArray_toList, setRow_self w g cur t (0, 0) hg]
    cases hq : P.info? elem with
    | none => simp [hq] at hs
    | some i => cases ao <;> simp [Builtin.copy_, run_underlying hu, Builtin.lenOf, Builtin.firstCells, sizeOf, typeInfo, hq, storeCells, loadCellsFrom, go_sem]
  · have hl : (ivs .u8 ys).length = m := by simp [ivs, h3]
    have := run_copy_row (P := P) w T T ty elem g o dLen dCap ⟨b, off, none⟩ m c cur t (ivs .u8 ys) hu hs hg (by rw [hl]; exact (Nat.min_eq_left hm).symm) (fun j v hj => by
      have hj' : j < ys.length := by
        rcases Nat.lt_or_ge j ys.length with h | h
        · exact h
        · rw [List.getElem?_eq_none (by simp [ivs]; exact h)] at hj; cases hj
      rw [ivs_get .u8 ys j hj'] at hj
      cases hj
      rw [addr_add]
      exact h4 j (by omega)) (by omega) (ivs_one .u8 ys)
    rw [hl] at this
    exact this

theorem below_others {W W' : World} (h : Below W.heap.size W W') : KeepsOthers W W' := ⟨h.size, fun k o hk _ => (h.block k (Array.getElem?_eq_some_iff.1 hk).1).trans hk⟩
theorem others_app {W W' : World} {B e s n : Nat} {v : Value} {xs : List Value} (ho : W.ownsRow B e s v n xs) (hg : W.grownBy W' v.ownBlock) : KeepsOthers W W' :=
  KeepsOthers.of_grownBy hg fun j o e hj => by
    rcases ho.2 with ⟨rfl, _⟩ | ⟨g', cap, cur, rfl, _, hgg, _⟩
    · cases e
    · cases e
      rw [hgg] at hj
      cases hj
      rfl

/-- What a round keeps from its start W on. -/
structure Kept (w W : World) (a : Option Addr) (len cap : Nat) (s : Int) (W' : World) : Prop where
  bel : Below w.heap.size w W'
  oth : KeepsOthers W W'
  it : ∀ x, Box1 W (w.heap.size + 4) x → Box1 W' (w.heap.size + 4) x
  lg : Box2 W' w.heap.size (.slice a len cap) (.int .i64 s)
  res : Box2 W' (w.heap.size + 1) (.slice none 0 0) (.int .i64 0)
  sz : w.heap.size + 5 ≤ W'.heap.size
theorem Kept.grow {w W W' W2 : World} {a : Option Addr} {len cap : Nat} {s : Int} (h : Kept w W a len cap s W') (hb : Below (w.heap.size + 5) W' W2) (ho : KeepsOthers W' W2) : Kept w W a len cap s W2 :=
  ⟨h.bel.trans (hb.mono (by omega)), h.oth.trans ho, fun x hx => (h.it x hx).kept hb (by omega), h.lg.kept hb (by omega), h.res.kept hb (by omega), Nat.le_trans h.sz hb.size⟩
theorem Kept.later {w W W' W2 : World} {a : Option Addr} {len cap : Nat} {s : Int} (h : Kept w W a len cap s W') (hb : Below W'.heap.size W' W2) : Kept w W a len cap s W2 := h.grow (hb.mono h.sz) (below_others hb)
theorem Kept.set {w W W' : World} {a : Option Addr} {len cap : Nat} {s : Int} (h : Kept w W a len cap s W') (b : Nat) (hb : b = w.heap.size + 2 ∨ b = w.heap.size + 3 ∨ w.heap.size + 5 ≤ b) (x : Value) : Kept w W a len cap s (W'.setCell ⟨b, 0, none⟩ x) :=
  ⟨h.bel.setCell (by show _ ≤ b; omega) _, h.oth.trans (KeepsOthers.setCell _ _ _), fun x hx => (h.it x hx).other _ (by show _ ≠ b; omega) _, h.lg.other _ (by show _ ≠ b; omega) _, h.res.other _ (by show _ ≠ b; omega) _, by rw [World.size_setCell]; exact h.sz⟩
theorem Kept.setI {w W W' : World} {a : Option Addr} {len cap : Nat} {s : Int} (h : Kept w W a len cap s W') (b i : Nat) (hb : w.heap.size + 5 ≤ b) (x : Value) : Kept w W a len cap s (W'.setCell ⟨b, i, none⟩ x) :=
  ⟨h.bel.setCell (by show _ ≤ b; omega) _, h.oth.trans (KeepsOthers.setCell _ _ _), fun x hx => (h.it x hx).other _ (by show _ ≠ b; omega) _, h.lg.other _ (by show _ ≠ b; omega) _, h.res.other _ (by show _ ≠ b; omega) _, by rw [World.size_setCell]; exact h.sz⟩

theorem check_eq (seed : Int) (a : Option Addr) (len cap : Nat) (zs : List Int) (w : World) (H : Int) (E : List Int) (hs : IsInts .u8 w a len cap zs) (h0 : 0 ≤ seed) (h1 : seed < 18446744073709551616) (hH : fromH seed zs = H) (hE : eightL H = E) :
    Calls Try.prog 28 #[.int .u64 seed, .slice a len cap] w fun e w' => e = .returned (.tuple #[.int .u64 H, .agg #[.int .u8 (gi E 0), .int .u8 (gi E 1), .int .u8 (gi E 2), .int .u8 (gi E 3), .int .u8 (gi E 4), .int .u8 (gi E 5), .int .u8 (gi E 6), .int .u8 (gi E 7)]]) ∧ Below w.heap.size w w' := by
  subst hH hE
  exact (check_any seed a len cap zs w hs h0 h1).mono fun _ _ ⟨he, hb⟩ => ⟨he, hb⟩

theorem append_long (a : Option Addr) (len cap : Nat) (s : Int) (ar : Option Addr) (lr cr : Nat) (w : World) (hlr : 2000 < lr) :
    Calls Try.prog 11 #[.agg #[.slice a len cap, .int .i64 s], .slice ar lr cr] w fun e w' => e = .returned (.tuple #[.agg #[.slice none 0 0, .int .i64 0], .int .i64 6]) ∧ Below w.heap.size w w' := by
  have dl : decide ((2000 : Int) < lr) = true := decide_eq_true (by omega)
  obtain ⟨W1, hW1⟩ : ∃ W1, (w.alloc (.cells #[.slice a len cap, .int .i64 s] 26)).alloc (.cells #[.slice none 0 0, .int .i64 0] 26) = W1 := ⟨_, rfl⟩
  have hbA : Below w.heap.size w W1 := by rw [← hW1]; exact ((Below.refl _ w).alloc (Nat.le_refl _) _).alloc (by simp) _
  have hbr : Box2 W1 (w.heap.size + 1) (.slice none 0 0) (.int .i64 0) := by
    have := Box2.new (w.alloc (.cells #[.slice a len cap, .int .i64 s] 26)) (.slice none 0 0) (.int .i64 0) 26
    rw [World.size_alloc, hW1] at this
    exact this
  refine (callsIn_wide (n := 0)).1 ?_
  refine callsIn_of_wp_marks Try.func11 rfl trivial ?_ rfl
  simp only [Try.ntmps11, List.size_toArray, List.length_cons, List.length_nil, Nat.reduceAdd, Nat.reduceSub, Array.replicate_succ, Array.replicate_zero, List.push_toArray, List.append_toArray, List.nil_append, List.cons_append]
  obtain ⟨q0, q1, q2, q3⟩ := hbr.cells
  gi_wp2
  have hst := hbr.store (.slice none 0 0) (.int .i64 0)
  exact ⟨_, res_log_tmp rfl rfl rfl hst, rfl, (hbA.setCell (p := ⟨w.heap.size + 1, 0, none⟩) (Nat.le_succ _) _).setCell (p := ⟨w.heap.size + 1, 1, none⟩) (Nat.le_succ _) _⟩

theorem append_any (a : Option Addr) (len cap : Nat) (s : Int) (ps : List Prt) (ar : Option Addr) (lr cr : Nat) (r : List Int) (w : World) (hs : IsInts .u8 w a len cap (encP basis ps)) (hP : ∀ x ∈ ps, OkP x) (hr : IsRow .u8 w ar lr cr r) (hrb : Bytes r) (hlr : lr ≤ 2000) (hlen : len ≤ 100000) :
    Calls Try.prog 11 #[.agg #[.slice a len cap, .int .i64 s], .slice ar lr cr] w fun e w' => (∃ a' n' c', e = .returned (.tuple #[.agg #[.slice a' n' c', .int .i64 s], .int .i64 0]) ∧ w'.ownsRow w.heap.size 5 1 (.slice a' n' c') n' (ivs .u8 (encP basis (ps ++ partsL r))) ∧ n' = len + 32 * cellsN lr) ∧ Below w.heap.size w w' := by
  have dl : decide ((2000 : Int) < lr) = false := decide_eq_false (by omega)
  have hcap := hs.cap
  unfold maxLen at hcap
  obtain ⟨W1, hW1⟩ : ∃ W1, (w.alloc (.cells #[.slice a len cap, .int .i64 s] 26)).alloc (.cells #[.slice none 0 0, .int .i64 0] 26) = W1 := ⟨_, rfl⟩
  have hbA : Below w.heap.size w W1 := by rw [← hW1]; exact ((Below.refl _ w).alloc (Nat.le_refl _) _).alloc (by simp only [World.size_alloc]; omega) _
  have hz1 : W1.heap.size = w.heap.size + 2 := by rw [← hW1]; simp
  have hbx : Box2 W1 w.heap.size (.slice a len cap) (.int .i64 s) := by rw [← hW1]; exact (Box2.new w _ _ _).later ((Below.refl _ _).alloc (Nat.le_refl _) _)
  have hbr : Box2 W1 (w.heap.size + 1) (.slice none 0 0) (.int .i64 0) := by
    have := Box2.new (w.alloc (.cells #[.slice a len cap, .int .i64 s] 26)) (.slice none 0 0) (.int .i64 0) 26
    rw [World.size_alloc, hW1] at this
    exact this
  refine (callsIn_wide (n := 0)).1 ?_
  refine callsIn_of_wp_marks Try.func11 rfl trivial ?_ rfl
  simp only [Try.ntmps11, List.size_toArray, List.length_cons, List.length_nil, Nat.reduceAdd, Nat.reduceSub, Array.replicate_succ, Array.replicate_zero, List.push_toArray, List.append_toArray, List.nil_append, List.cons_append]
  obtain ⟨q0, q1, -, -⟩ := hbx.cells
  gi_wp2_with (fail)
  refine ⟨trivial, rfl, ?_⟩
  refine (callsIn_wide.2 (seed_any a len cap ps W1 (hs.later hbA) hP)).mono ?_
  rintro e w' ⟨rfl, rfl⟩
  clear hW1
  obtain ⟨hh0, hh1⟩ := hashP_bd (s := basis) ps basis_bd.1 basis_bd.2
  obtain ⟨h0, hh⟩ : ∃ h0, hashP basis ps = h0 := ⟨_, rfl⟩
  rw [hh] at hh0 hh1
  have HH := Lib.hid hh
  obtain ⟨zs, hzs⟩ : ∃ zs, encP basis ps = zs := ⟨_, rfl⟩
  rw [hzs] at hs
  have HZ := Lib.hid hzs
  clear hzs
  rw [hh]
  clear hh
  gi_wp2_with (fail)
  refine ⟨trivial, rfl, ?_⟩
  refine (callsIn_wide.2 (parts_any (.slice ar lr cr) _ ⟨_, _, _, rfl⟩)).mono ?_
  rintro e w' ⟨rfl, rfl⟩
  obtain ⟨W5, hW5⟩ : ∃ W5, ((W1.alloc (.cells #[.int .u64 h0] 56)).alloc (.cells #[.slice a len len] 24)).alloc (.cells #[.slice ar lr cr] 24) = W5 := ⟨_, rfl⟩
  have hb15 : Below W1.heap.size W1 W5 := by rw [← hW5]; exact (((Below.refl _ _).alloc (Nat.le_refl _) _).alloc (by simp only [World.size_alloc]; omega) _).alloc (by simp only [World.size_alloc]; omega) _
  have hz5 : W5.heap.size = w.heap.size + 5 := by rw [← hW5]; simp [hz1]
  have hB2 : Box1 W5 (w.heap.size + 2) (.int .u64 h0) := by
    rw [← hW5, ← hz1]
    exact (Box1.new W1 (.int .u64 h0) 56).later (((Below.refl _ _).alloc (Nat.le_refl _) _).alloc (by simp only [World.size_alloc]; omega) _)
  have hB3 : Box1 W5 (w.heap.size + 3) (.slice a len len) := by
    have := (Box1.new (W1.alloc (.cells #[.int .u64 h0] 56)) (.slice a len len) 24).later ((Below.refl _ _).alloc (Nat.le_refl _) (.cells #[.slice ar lr cr] 24))
    rw [hW5, World.size_alloc, hz1] at this
    exact this
  have hB4 : Box1 W5 (w.heap.size + 4) (.slice ar lr cr) := by
    have := Box1.new ((W1.alloc (.cells #[.int .u64 h0] 56)).alloc (.cells #[.slice a len len] 24)) (.slice ar lr cr) 24
    rw [hW5, World.size_alloc, World.size_alloc, hz1] at this
    exact this
  have hI0 : AppI w a len cap s zs h0 (partsL r) 0 W5 :=
    ⟨hbA.trans (hb15.mono hbA.size), by omega, hbx.later hb15, hbr.later hb15, hB2, a, len, hB3, .inl ⟨rfl, rfl, rfl⟩⟩
  have hsp : ∀ x, ar = some x → 22 < lr → x.spot = none := by
    rcases hr with (⟨rfl, _⟩ | ⟨b, off, rfl, _⟩) | ⟨rfl, _⟩
    · intro x e; cases e
    · intro x e _; cases e; rfl
    · intro x e h; omega
  have hrv : Box1 W5 (w.heap.size + 4) (recV ar lr cr 0) := by
    have e : recV ar lr cr 0 = .slice ar lr cr := by
      unfold recV
      congr 1
      cases ar with
      | none => rfl
      | some x => simp [Addr.add]
    rw [e]; exact hB4
  obtain ⟨hrl, hrc⟩ := hr.cap
  gi_wp2_with (fail)
  try rw [hW5]
  clear hW5
  refine wpIn_rangeN (gf := 38) (lb := #[.pointer (some ⟨w.heap.size + 4, 0, none⟩)]) rfl (enters_of Try.func38 (by kernel_rfl) rfl) (iter_any ar lr cr (w.heap.size + 4) hsp hrl hrc) hrv (fun _ => rfl)
    (AppI w a len cap s zs h0 (partsL r)) (AppI.own w a len cap s zs h0 (partsL r) _ (by omega)) (fun k W x h => AppI.set w a len cap s zs h0 (partsL r) k W x h) hI0 ?a1 ?assign ?body ?done
  case assign =>
    intro l k W K hK
    unfold partE
    gi_wp2
    exact hK
  case body =>
    intro l k W hl hkN hI
    obtain ⟨y1, y2, y3, y4, y5, fa, fc, y6, y7⟩ := hI
    obtain ⟨m, hm⟩ : ∃ m, lenE lr k = m := ⟨_, rfl⟩
    obtain ⟨kd, hkd⟩ : ∃ kd, kindE lr k = kd := ⟨_, rfl⟩
    obtain ⟨pl, hpl⟩ : ∃ pl, (partR r k).2 = pl := ⟨_, rfl⟩
    obtain ⟨ap, hap⟩ : ∃ ap, ar.map (·.add (22 * k)) = ap := ⟨_, rfl⟩
    have hm22 : m ≤ 22 := by rw [← hm]; unfold lenE; have := lt_cellsN (n := lr) (i := k); have := cellsN_last lr; split <;> omega
    have hkl : k < cellsN r.length := by rw [hr.length]; exact hkN
    have hpart : partR r k = (kd, pl) := by
      refine Prod.ext ?_ hpl
      rw [← hkd]
      unfold partR kindE
      rw [hr.length]
      split <;> rfl
    have hok : OkP (kd, pl) := by rw [← hpart]; exact OkP.partR hrb hkl
    have hpll : pl.length = m := by
      rw [← hpl, ← hm]
      unfold partR lenE
      rw [hr.length]
      split
      · simp [hr.length]
      · simp [hr.length]; omega
    have hsrc : IsRow .u8 w ap m (cr - 22 * k) pl := by
      have hpl2 : pl = (r.drop (22 * k)).take m := by
        rw [← hpl, ← hm]
        unfold partR lenE
        rw [hr.length]
        split
        · rw [List.take_of_length_le (by simp [hr.length])]
        · rfl
      have h1 : 22 * k ≤ lr := by have := cellsN_last lr; omega
      have h2 : 22 * k + m ≤ lr := by
        rw [← hm]; unfold lenE
        split
        · omega
        · omega
      rcases hr with hr | ⟨rfl, rfl, rfl⟩
      case inr =>
        refine .inr ⟨by omega, by omega, ?_⟩
        exact List.eq_nil_of_length_eq_zero (by omega)
      left
      have := hr.slice (22 * k) (22 * k + m) cr (by omega) h2 (by omega) (Nat.le_refl _) (a' := ap) (fun _ => by rw [← hap]) (fun h => by
        rw [← hap]
        have hk0 : k = 0 ∨ 0 < k := by omega
        rcases hk0 with rfl | hk0
        · cases ar with
          | none => rfl
          | some x => simp [Addr.add]
        · have := cellsN_last lr
          omega)
      rw [show 22 * k + m - 22 * k = m by omega, ← hpl2] at this
      exact this
    rw [hm, hkd, hap]
    obtain ⟨pc, hpc⟩ : ∃ pc, cr - 22 * k = pc := ⟨_, rfl⟩
    rw [hpc] at hsrc ⊢
    have hz24 : (W.alloc (.cells #[.int .u8 kd, .int .u8 m, .int .u8 0, .int .u8 0, .int .u8 0, .int .u8 0, .int .u8 0, .int .u8 0, .int .u8 0, .int .u8 0, .int .u8 0, .int .u8 0, .int .u8 0, .int .u8 0, .int .u8 0, .int .u8 0, .int .u8 0, .int .u8 0, .int .u8 0, .int .u8 0, .int .u8 0, .int .u8 0, .int .u8 0, .int .u8 0] 61)).heap[W.heap.size]? = some (.cells #[.int .u8 kd, .int .u8 m, .int .u8 0, .int .u8 0, .int .u8 0, .int .u8 0, .int .u8 0, .int .u8 0, .int .u8 0, .int .u8 0, .int .u8 0, .int .u8 0, .int .u8 0, .int .u8 0, .int .u8 0, .int .u8 0, .int .u8 0, .int .u8 0, .int .u8 0, .int .u8 0, .int .u8 0, .int .u8 0, .int .u8 0, .int .u8 0] 61 (0, 0)) := heap_alloc_new W _
    have hcopy := run_copy_ints (P := Try.prog) (W.alloc (.cells #[.int .u8 kd, .int .u8 m, .int .u8 0, .int .u8 0, .int .u8 0, .int .u8 0, .int .u8 0, .int .u8 0, .int .u8 0, .int .u8 0, .int .u8 0, .int .u8 0, .int .u8 0, .int .u8 0, .int .u8 0, .int .u8 0, .int .u8 0, .int .u8 0, .int .u8 0, .int .u8 0, .int .u8 0, .int .u8 0, .int .u8 0, .int .u8 0] 61)) 24 3 5 W.heap.size 2 22 22 _ _ (hsrc.later (y1.alloc y1.size _)) Try.underlying24 (by kernel_rfl) hz24 hm22 (by show 2 + m ≤ 24; omega)
    obtain ⟨W3, hW3⟩ : ∃ W3, (W.alloc (.cells #[.int .u8 kd, .int .u8 m, .int .u8 0, .int .u8 0, .int .u8 0, .int .u8 0, .int .u8 0, .int .u8 0, .int .u8 0, .int .u8 0, .int .u8 0, .int .u8 0, .int .u8 0, .int .u8 0, .int .u8 0, .int .u8 0, .int .u8 0, .int .u8 0, .int .u8 0, .int .u8 0, .int .u8 0, .int .u8 0, .int .u8 0, .int .u8 0] 61)).setRow W.heap.size ((#[.int .u8 kd, .int .u8 m, .int .u8 0, .int .u8 0, .int .u8 0, .int .u8 0, .int .u8 0, .int .u8 0, .int .u8 0, .int .u8 0, .int .u8 0, .int .u8 0, .int .u8 0, .int .u8 0, .int .u8 0, .int .u8 0, .int .u8 0, .int .u8 0, .int .u8 0, .int .u8 0, .int .u8 0, .int .u8 0, .int .u8 0, .int .u8 0] : Array Value).toList.take 2 ++ ivs .u8 pl ++ (#[.int .u8 kd, .int .u8 m, .int .u8 0, .int .u8 0, .int .u8 0, .int .u8 0, .int .u8 0, .int .u8 0, .int .u8 0, .int .u8 0, .int .u8 0, .int .u8 0, .int .u8 0, .int .u8 0, .int .u8 0, .int .u8 0, .int .u8 0, .int .u8 0, .int .u8 0, .int .u8 0, .int .u8 0, .int .u8 0, .int .u8 0, .int .u8 0] : Array Value).toList.drop (2 + m)).toArray = W3 := ⟨_, rfl⟩
    rw [hW3] at hcopy
    have hb3 : Below W.heap.size W W3 := by rw [← hW3]; exact below_setRow ((Below.refl _ _).alloc (Nat.le_refl _) _) (Nat.le_refl _) _
    have hrow : RowT W3 W.heap.size 61 (headL (kd, pl)) := by
      rw [← hW3]
      unfold RowT
      rw [setRow_heap _ _ _ _ _ _ hz24]
      congr 2
      simp only [headL, ivs, hpll]
      have e : ([.int .u8 kd, .int .u8 m, .int .u8 0, .int .u8 0, .int .u8 0, .int .u8 0, .int .u8 0, .int .u8 0, .int .u8 0, .int .u8 0, .int .u8 0, .int .u8 0, .int .u8 0, .int .u8 0, .int .u8 0, .int .u8 0, .int .u8 0, .int .u8 0, .int .u8 0, .int .u8 0, .int .u8 0, .int .u8 0, .int .u8 0, .int .u8 0] : List Value) = .int .u8 kd :: .int .u8 m :: List.replicate 22 (.int .u8 0) := rfl
      rw [e, Nat.add_comm 2 m]
      simp
      exact List.drop_replicate (i := m) (n := 22) (a := Value.int .u8 0)
    have hg0 : W.heap.size < W3.heap.size := hrow.lt
    have hK0 : Kept w W a len cap s W := ⟨y1, KeepsOthers.refl _, fun _ h => h, y3, y4, y2⟩
    have hK3 := hK0.later hb3
    clear hW3 hz24 hsrc
    gi_wp2_with (fail)
    obtain ⟨hk, hhk⟩ : ∃ hk, hashP h0 ((partsL r).take k) = hk := ⟨_, rfl⟩
    obtain ⟨hk0, hk1⟩ := hashP_bd (s := h0) ((partsL r).take k) hh0 hh1
    rw [hhk] at hk0 hk1 y5
    obtain ⟨H1, hH1⟩ : ∃ H1, fromH hk (headL (kd, pl)) = H1 := ⟨_, rfl⟩
    obtain ⟨E, hE⟩ : ∃ E, eightL H1 = E := ⟨_, rfl⟩
    have hE8 : E.length = 8 := by rw [← hE]; rfl
    have HE8 : [gi E 0, gi E 1, gi E 2, gi E 3, gi E 4, gi E 5, gi E 6, gi E 7] = E := by rw [← hE]; rfl
    have hhd := hrow.ints (headL_length hok.len) (by decide)
    have hck := fun W' (hb : Below W3.heap.size W3 W') => check_eq hk (some ⟨W.heap.size, 0, none⟩) 24 24 (headL (kd, pl)) W' H1 E (hhd.later hb) hk0 hk1 hH1 hE
    have hbx3 := y5.later hb3
    obtain ⟨S, hSd⟩ : ∃ S : (Nat → Bool) → (Nat → Value) → World → Prop, S = fun L f W' => (Below W3.heap.size W3 W' ∧ (stage L f W' (fun _ => True) [(8, fun f W' => ∃ g, f 6 = .pointer (some ⟨g, 0, none⟩) ∧ W3.heap.size ≤ g ∧ RowT W' g 62 E), (6, fun f W' => ∃ g, f 6 = .pointer (some ⟨g, 0, none⟩) ∧ W3.heap.size ≤ g ∧ RowT W' g 62 [0, 0, 0, 0, 0, 0, 0, 0])])) := ⟨_, rfl⟩
    refine wpIn_region_st (fun ⟨_, _, h⟩ => h) (by kernel_rfl) mixed (by kernel_rfl) [[], [], [(0, 43), (1, 44)], [(2, 45)], [(3, 42)], [(3, 42)], [], [(4, 46), (2, 45), (0, 43), (1, 44), (2, 45), (3, 42), (4, 46), (6, 13)], [(6, 13), (5, 47), (7, 12), (0, 43), (1, 44), (2, 45), (3, 42), (4, 46), (5, 47), (6, 13), (7, 12)]] [(0, 43), (1, 44), (2, 45), (3, 42), (4, 46), (5, 47), (6, 13), (7, 12)] rfl rfl [EV ?e0, EV ?e1, EV (.tuple #[.int .u64 H1, .agg #[.int .u8 (gi E 0), .int .u8 (gi E 1), .int .u8 (gi E 2), .int .u8 (gi E 3), .int .u8 (gi E 4), .int .u8 (gi E 5), .int .u8 (gi E 6), .int .u8 (gi E 7)]]), EV ?e3, EV ?e4, EV ?e5, fun v => ∃ g, v = .pointer (some ⟨g, 0, none⟩), EV ?e7, fun _ => True] S ?start ?steps ?rest
    case start =>
      intro f
      rw [hSd]
      exact ⟨(Below.refl _ _).drew, trivial⟩
    case steps =>
      refine ⟨fun L f W hi hd hdn hh hS => ?_, fun L f W hi hd hdn hh hS => ?_, fun L f W hi hd hdn hh hS => ?_, fun L f W hi hd hdn hh hS => ?_, fun L f W hi hd hdn hh hS => ?_, fun L f W hi hd hdn hh hS => ?_, fun L f W hi hd hdn hh hS => ?_, fun L f W hi hd hdn hh hS => ?_, fun L f W hi hd hdn hh hS => ?_, trivial⟩
      · -- 0: Op.load 56 (Operand.tmp 7)
        unfold stStep
        rw [if_pos (by simp [Region.wanted])]
        intro K Q hK
        simp only [puts, List.foldr_nil]
        have hS' := hS
        rw [hSd] at hS'
        have hc1 := (hbx3.later hS'.1).cells.1
        go_step
        refine st_ex hK rfl rfl (by simp only [Act.put, List.setIfInBounds_toArray, List.set_cons_succ, List.set_cons_zero, Array.getD_eq_getD_getElem?, List.getElem?_toArray, List.getElem?_cons_succ, List.getElem?_cons_zero, Option.getD_some] <;> rfl) rfl (by rw [hSd] at hS ⊢; exact hS)
      · -- 1: Op.slice 61 (Operand.tmp 11) none none none
        unfold stStep
        rw [if_pos (by simp [Region.wanted])]
        intro K Q hK
        simp only [puts, List.foldr_nil]
        go_step
        refine st_ex hK rfl rfl (by simp only [Act.put, List.setIfInBounds_toArray, List.set_cons_succ, List.set_cons_zero, Array.getD_eq_getD_getElem?, List.getElem?_toArray, List.getElem?_cons_succ, List.getElem?_cons_zero, Option.getD_some] <;> rfl) rfl (by rw [hSd] at hS ⊢; exact hS)
      · -- 2: Op.call { callee := Callee.value (Operand.func 28), args := #[Operand.tmp 43, Operand.tmp 
        obtain ⟨h0, h1, -⟩ := hh
        have g0 : f 0 = _ := h0
        have g1 : f 1 = _ := h1
        have l8 : L 8 = false := Bool.eq_false_iff.2 fun h => by have q := hdn 8 _ h rfl 2 (by decide); rw [show L 2 = false from hi] at q; cases q
        unfold stStep
        rw [if_pos (by simp [Region.wanted])]
        intro K Q hK
        simp only [puts, List.foldr_cons, List.foldr_nil, List.setIfInBounds_toArray, List.set_cons_succ, List.set_cons_zero, g0, g1]
        rw [hSd] at hS hK
        have l2 : L 2 = false := hi
        simp only [stage, l8, l2, if_true, if_false, Bool.false_eq_true] at hS
        obtain ⟨hC, hst⟩ := hS
        go_step
        go_at_call 28
        refine (hck W hC).mono ?_
        rintro e w' ⟨rfl, hb'⟩
        refine hK.out _ _ rfl rfl ?_
        refine ⟨hC.trans (hb'.mono hC.size), ?_⟩
        by_cases h6 : L 6 = true
        · simp only [stage, l8, h6] at hst ⊢
          obtain ⟨g, e1, e2, e3⟩ := hst
          exact ⟨g, e1, e2, e3.later hb'⟩
        · rw [Bool.not_eq_true] at h6
          simp only [stage, l8, h6]
          trivial
      · -- 3: Op.move (Operand.tmp 45)
        obtain ⟨h2, -⟩ := hh
        have g2 : f 2 = _ := h2
        unfold stStep
        rw [if_pos (by simp [Region.wanted])]
        intro K Q hK
        simp only [puts, List.foldr_cons, List.foldr_nil, List.setIfInBounds_toArray, List.set_cons_succ, List.set_cons_zero, g2]
        go_step
        refine st_ex hK rfl rfl (by simp only [Act.put, List.setIfInBounds_toArray, List.set_cons_succ, List.set_cons_zero, Array.getD_eq_getD_getElem?, List.getElem?_toArray, List.getElem?_cons_succ, List.getElem?_cons_zero, Option.getD_some] <;> rfl) rfl (by rw [hSd] at hS ⊢; exact hS)
      · -- 4: Op.extract (Operand.tmp 42) 0
        obtain ⟨h3, -⟩ := hh
        have g3 : f 3 = _ := h3
        unfold stStep
        rw [if_pos (by simp [Region.wanted])]
        intro K Q hK
        simp only [puts, List.foldr_cons, List.foldr_nil, List.setIfInBounds_toArray, List.set_cons_succ, List.set_cons_zero, g3]
        go_step
        refine st_ex hK rfl rfl (by simp only [Act.put, List.setIfInBounds_toArray, List.set_cons_succ, List.set_cons_zero, Array.getD_eq_getD_getElem?, List.getElem?_toArray, List.getElem?_cons_succ, List.getElem?_cons_zero, Option.getD_some] <;> rfl) rfl (by rw [hSd] at hS ⊢; exact hS)
      · -- 5: Op.extract (Operand.tmp 42) 1
        obtain ⟨h3, -⟩ := hh
        have g3 : f 3 = _ := h3
        unfold stStep
        rw [if_pos (by simp [Region.wanted])]
        intro K Q hK
        simp only [puts, List.foldr_cons, List.foldr_nil, List.setIfInBounds_toArray, List.set_cons_succ, List.set_cons_zero, g3]
        go_step
        refine st_ex hK rfl rfl (by simp only [Act.put, List.setIfInBounds_toArray, List.set_cons_succ, List.set_cons_zero, Array.getD_eq_getD_getElem?, List.getElem?_toArray, List.getElem?_cons_succ, List.getElem?_cons_zero, Option.getD_some] <;> rfl) rfl (by rw [hSd] at hS ⊢; exact hS)
      · -- 6: Op.alloc 62
        have l8 : L 8 = false := Bool.eq_false_iff.2 fun h => by have q := hdn 8 _ h rfl 6 (by decide); rw [show L 6 = false from hi] at q; cases q
        unfold stStep
        rw [if_pos (by simp [Region.wanted])]
        intro K Q hK
        simp only [puts, List.foldr_nil]
        rw [hSd] at hS hK
        have l6 : L 6 = false := hi
        simp only [stage, l8, l6, if_true, if_false, Bool.false_eq_true] at hS
        obtain ⟨hC, hst⟩ := hS
        go_step
        refine hK.out _ _ rfl ⟨_, rfl⟩ ?_
        simp only [stage, l8]
        exact ⟨hC.trans ((Below.refl _ _).alloc hC.size _), _, rfl, hC.size, heap_alloc_new W _⟩
      · -- 7: Op.assign (Operand.tmp 46)
        obtain ⟨h4, h2, h0, h1, _, h3, _, h6, -⟩ := hh
        have g4 : f 4 = _ := h4
        have g2 : f 2 = _ := h2
        have g0 : f 0 = _ := h0
        have g1 : f 1 = _ := h1
        have g3 : f 3 = _ := h3
        obtain ⟨q6, g6⟩ := h6
        unfold stStep
        rw [if_pos (by simp [Region.wanted])]
        intro K Q hK
        simp only [puts, List.foldr_cons, List.foldr_nil, List.setIfInBounds_toArray, List.set_cons_succ, List.set_cons_zero, g4, g2, g0, g1, g3, g6]
        go_step
        refine st_ex hK rfl rfl (by simp only [Act.put, List.setIfInBounds_toArray, List.set_cons_succ, List.set_cons_zero, Array.getD_eq_getD_getElem?, List.getElem?_toArray, List.getElem?_cons_succ, List.getElem?_cons_zero, Option.getD_some] <;> rfl) rfl (by rw [hSd] at hS ⊢; exact hS)
      · -- 8: Op.store 62 (Operand.tmp 13) (Operand.tmp 47)
        obtain ⟨h6, h5, h7, h0, h1, h2, h3, h4, _, _, _, -⟩ := hh
        obtain ⟨q6, g6⟩ := h6
        have g5 : f 5 = _ := h5
        have g7 : f 7 = _ := h7
        have g0 : f 0 = _ := h0
        have g1 : f 1 = _ := h1
        have g2 : f 2 = _ := h2
        have g3 : f 3 = _ := h3
        have g4 : f 4 = _ := h4
        have l6 : L 6 = true := hd 6 (by decide)
        have l5 : L 5 = true := hd 5 (by decide)
        unfold stStep
        rw [if_pos (by simp [Region.wanted])]
        intro K Q hK
        simp only [puts, List.foldr_cons, List.foldr_nil, List.setIfInBounds_toArray, List.set_cons_succ, List.set_cons_zero, g6, g5, g7, g0, g1, g2, g3, g4]
        rw [hSd] at hS hK
        have l8 : L 8 = false := hi
        simp only [stage, l8, l6, l5, if_true, if_false, Bool.false_eq_true] at hS
        obtain ⟨hC, g, e6, hg, hr8⟩ := hS
        have e6' : f 6 = _ := g6
        rw [e6] at e6'
        simp only [Value.pointer.injEq, Option.some.injEq, Addr.mk.injEq, and_true] at e6'
        obtain rfl := e6'
        obtain ⟨c0, d0⟩ := hr8.cell 0 (by decide)
        obtain ⟨c1, d1⟩ := hr8.cell 1 (by decide)
        obtain ⟨c2, d2⟩ := hr8.cell 2 (by decide)
        obtain ⟨c3, d3⟩ := hr8.cell 3 (by decide)
        obtain ⟨c4, d4⟩ := hr8.cell 4 (by decide)
        obtain ⟨c5, d5⟩ := hr8.cell 5 (by decide)
        obtain ⟨c6, d6⟩ := hr8.cell 6 (by decide)
        obtain ⟨c7, d7⟩ := hr8.cell 7 (by decide)
        go_step
        refine hK.out _ _ rfl trivial ?_
        refine ⟨((((((((hC.setCell (p := ⟨g, 0, none⟩) hg _).setCell (p := ⟨g, 1, none⟩) hg _).setCell (p := ⟨g, 2, none⟩) hg _).setCell (p := ⟨g, 3, none⟩) hg _).setCell (p := ⟨g, 4, none⟩) hg _).setCell (p := ⟨g, 5, none⟩) hg _).setCell (p := ⟨g, 6, none⟩) hg _).setCell (p := ⟨g, 7, none⟩) hg _), ?_⟩
        show ∃ g', f 6 = .pointer (some ⟨g', 0, none⟩) ∧ W3.heap.size ≤ g' ∧ RowT _ g' _ E
        have hrw : RowT _ g 62 [gi E 0, gi E 1, gi E 2, gi E 3, gi E 4, gi E 5, gi E 6, gi E 7] := ((((((((hr8.set 0 (gi E 0)).set 1 (gi E 1)).set 2 (gi E 2)).set 3 (gi E 3)).set 4 (gi E 4)).set 5 (gi E 5)).set 6 (gi E 6)).set 7 (gi E 7))
        rw [HE8] at hrw
        exact ⟨g, e6, hg, hrw⟩
    case rest =>
      intro L f W2 hL hh hS
      rw [hSd] at hS
      clear hSd
      have l8 : L 8 = true := hL 8 (by decide)
      simp only [stage, l8, if_true] at hS
      clear hL l8
      obtain ⟨h0, h1, h2, h3, h4, h5, h6, h7, -⟩ := hh
      have g0 : f 0 = _ := h0
      have g1 : f 1 = _ := h1
      have g2 : f 2 = _ := h2
      have g3 : f 3 = _ := h3
      have g4 : f 4 = _ := h4
      have g5 : f 5 = _ := h5
      obtain ⟨q6, g6⟩ := h6
      have g7 : f 7 = _ := h7
      simp only [puts, List.foldr_cons, List.foldr_nil, List.setIfInBounds_toArray, List.set_cons_succ, List.set_cons_zero, g0, g1, g2, g3, g4, g5, g6, g7]
      clear h0 h1 h2 h3 h4 h5 h7 g0 g1 g2 g3 g4 g5 g7
      obtain ⟨hC, g, e6, hgq, hr8⟩ := hS
      have e6' : f 6 = _ := g6
      rw [e6] at e6'
      simp only [Value.pointer.injEq, Option.some.injEq, Addr.mk.injEq, and_true] at e6'
      obtain rfl := e6'
      obtain ⟨W4, hW4⟩ : ∃ W4, W2 = W4 := ⟨_, rfl⟩
      rw [hW4] at hC hr8
      subst hW4
      have hK4 := hK3.later hC
      have hrow4 := hrow.later hC
      obtain ⟨g24, hg24⟩ : ∃ g24, W.heap.size = g24 := ⟨_, rfl⟩
      rw [hg24] at hrow4
      have hb4 : Below W.heap.size W W2 := hb3.trans (hC.mono hb3.size)
      obtain ⟨fl, hfl⟩ : ∃ fl, len + 32 * k = fl := ⟨_, rfl⟩
      obtain ⟨zk, hzk⟩ : ∃ zk, zs ++ encP h0 ((partsL r).take k) = zk := ⟨_, rfl⟩
      rw [hfl] at y6 y7
      rw [hzk] at y7
      have hb2b := hbx3.later hC
      have hb3b := y6.later hb4
      have hfs : k = 0 ∧ fa = a ∧ fc = len ∨ W2.ownsRow (w.heap.size + 5) 5 1 (.slice fa fl fc) fl (ivs .u8 zk) := by
        rcases y7 with y7 | y7
        · exact .inl y7
        · exact .inr (y7.kept_below hb4)
      have hals : ∀ W' : World, k = 0 → fa = a → fc = len → Below w.heap.size w W' → (Value.slice fa fl fc = .slice fa fl fl) ∧ IsInts .u8 W' fa fl fl zk := by
        intro W' k0 fa0 fc0 hb
        subst k0 fa0 fc0
        have hfl' : fl = fc := by omega
        subst hfl'
        refine ⟨rfl, ?_⟩
        have hz0 : zk = zs := by rw [← hzk]; simp [encP]
        rw [hz0]
        have := (hs.later hb).slice 0 fl fl (Nat.zero_le _) (Nat.le_refl _) (Nat.le_refl _) hcap.1 (a' := fa) (fun h => (by cases fa with | none => rfl | some x => simp [Addr.add])) (fun _ => rfl)
        rw [List.drop_zero, List.take_of_length_le (by rw [hs.length]; exact Nat.le_refl _)] at this
        exact this
      have hwr24 : w.heap.size + 5 ≤ g24 := by omega
      have hq6 : w.heap.size + 5 ≤ g := by omega
      have hklim : 32 * k ≤ 3000 := by have := cellsN_last lr; omega
      obtain ⟨Wr, hWr⟩ : ∃ Wr, W = Wr := ⟨_, rfl⟩
      rw [hWr] at hK4
      obtain ⟨W4, hW4⟩ : ∃ W4, W2 = W4 := ⟨_, rfl⟩
      rw [hW4] at hK4 hr8 hrow4 hb2b hb3b hfs ⊢
      simp only [hg24]
      gi_wp2_with (fail)
      obtain ⟨S, hSd⟩ : ∃ S : (Nat → Bool) → (Nat → Value) → World → Prop, S = fun L f W' => (Kept w Wr a len cap s W' ∧ (RowT W' g 62 E ∧ W4.heap.size ≤ W'.heap.size) ∧ RowT W' g24 61 (headL (kd, pl)) ∧ (stage L f W' (fun W' => Box1 W' (w.heap.size + 2) (.int .u64 hk) ∧ Box1 W' (w.heap.size + 3) (.slice fa fl fc) ∧ (k = 0 ∧ fa = a ∧ fc = len ∨ W'.ownsRow (w.heap.size + 5) 5 1 (.slice fa fl fc) fl (ivs .u8 zk))) [(7, fun f W' => Box1 W' (w.heap.size + 2) (.int .u64 H1) ∧ Box1 W' (w.heap.size + 3) (f 4) ∧ W'.ownsRow (w.heap.size + 5) 5 1 (f 4) (fl + 24 + 8) (ivs .u8 (zk ++ headL (kd, pl) ++ E))), (6, fun f W' => Box1 W' (w.heap.size + 2) (.int .u64 hk) ∧ Box1 W' (w.heap.size + 3) (f 4) ∧ W'.ownsRow (w.heap.size + 5) 5 1 (f 4) (fl + 24 + 8) (ivs .u8 (zk ++ headL (kd, pl) ++ E))), (4, fun f W' => Box1 W' (w.heap.size + 2) (.int .u64 hk) ∧ Box1 W' (w.heap.size + 3) (.slice fa fl fc) ∧ W'.ownsRow (w.heap.size + 5) 5 1 (f 4) (fl + 24 + 8) (ivs .u8 (zk ++ headL (kd, pl) ++ E))), (2, fun f W' => Box1 W' (w.heap.size + 2) (.int .u64 hk) ∧ Box1 W' (w.heap.size + 3) (.slice fa fl fc) ∧ W'.ownsRow (w.heap.size + 5) 5 1 (f 2) (fl + 24) (ivs .u8 (zk ++ headL (kd, pl))))])) := ⟨_, rfl⟩
      refine wpIn_region_st (fun ⟨_, _, h⟩ => h) (by kernel_rfl) mixed (by kernel_rfl) [[], [], [(0, 48), (1, 49)], [], [(2, 50), (3, 51), (2, 50)], [], [(4, 52), (4, 52), (0, 48), (1, 49), (2, 50), (3, 51), (4, 52)], [(5, 53), (0, 48), (1, 49), (2, 50), (3, 51), (4, 52), (5, 53)]] [(0, 48), (1, 49), (2, 50), (3, 51), (4, 52), (5, 53)] rfl rfl [EV ?ez0, EV ?ez1, fun v => ∃ a c, v = .slice a (fl + 24) c, EV ?ez3, fun v => ∃ a c, v = .slice a (fl + 24 + 8) c, EV ?ez5, fun _ => True, fun _ => True] S ?zstart ?zsteps ?zrest
      case zstart =>
        intro f
        rw [hSd]
        exact ⟨hK4.later (Below.refl _ _).drew, ⟨hr8, Nat.le_refl _⟩, hrow4, hb2b, hb3b, hfs⟩
      case zsteps =>
        refine ⟨fun L f W hi hd hdn hh hS => ?_, fun L f W hi hd hdn hh hS => ?_, fun L f W hi hd hdn hh hS => ?_, fun L f W hi hd hdn hh hS => ?_, fun L f W hi hd hdn hh hS => ?_, fun L f W hi hd hdn hh hS => ?_, fun L f W hi hd hdn hh hS => ?_, fun L f W hi hd hdn hh hS => ?_, trivial⟩
        · -- 0: Op.load 24 (Operand.tmp 8)
          have l2 : L 2 = false := Bool.eq_false_iff.2 fun h => by have q := hdn 2 _ h rfl 0 (by decide); rw [show L 0 = false from hi] at q; cases q
          have l4 : L 4 = false := Bool.eq_false_iff.2 fun h => by have q := hdn 4 _ h rfl 2 (by decide); rw [show L 2 = false from l2] at q; cases q
          have l6 : L 6 = false := Bool.eq_false_iff.2 fun h => by have q := hdn 6 _ h rfl 4 (by decide); rw [show L 4 = false from l4] at q; cases q
          have l7 : L 7 = false := Bool.eq_false_iff.2 fun h => by have q := hdn 7 _ h rfl 6 (by decide); rw [show L 6 = false from l6] at q; cases q
          unfold stStep
          rw [if_pos (by simp [Region.wanted])]
          intro K Q hK
          simp only [puts, List.foldr_nil]
          have hS' := hS
          rw [hSd] at hS'
          simp only [stage, l2, l4, l6, l7, if_false, Bool.false_eq_true] at hS'
          have hc1 := hS'.2.2.2.2.1.cells.1
          go_step
          refine st_ex hK rfl rfl (by simp only [Act.put, List.setIfInBounds_toArray, List.set_cons_succ, List.set_cons_zero, Array.getD_eq_getD_getElem?, List.getElem?_toArray, List.getElem?_cons_succ, List.getElem?_cons_zero, Option.getD_some] <;> rfl) rfl (by rw [hSd] at hS ⊢; exact hS)
        · -- 1: Op.slice 61 (Operand.tmp 11) none none none
          unfold stStep
          rw [if_pos (by simp [Region.wanted])]
          intro K Q hK
          simp only [puts, List.foldr_nil]
          go_step
          refine st_ex hK rfl rfl (by simp only [Act.put, List.setIfInBounds_toArray, List.set_cons_succ, List.set_cons_zero, Array.getD_eq_getD_getElem?, List.getElem?_toArray, List.getElem?_cons_succ, List.getElem?_cons_zero, Option.getD_some] <;> rfl) rfl (by rw [hSd] at hS ⊢; exact hS)
        · -- 2: Op.call { callee := Callee.builtin Builtin.append, args := #[Operand.tmp 48, Operand.tmp 4
          obtain ⟨h0, h1, -⟩ := hh
          have g0 : f 0 = _ := h0
          have g1 : f 1 = _ := h1
          have l4 : L 4 = false := Bool.eq_false_iff.2 fun h => by have q := hdn 4 _ h rfl 2 (by decide); rw [show L 2 = false from hi] at q; cases q
          have l6 : L 6 = false := Bool.eq_false_iff.2 fun h => by have q := hdn 6 _ h rfl 4 (by decide); rw [show L 4 = false from l4] at q; cases q
          have l7 : L 7 = false := Bool.eq_false_iff.2 fun h => by have q := hdn 7 _ h rfl 6 (by decide); rw [show L 6 = false from l6] at q; cases q
          unfold stStep
          rw [if_pos (by simp [Region.wanted])]
          intro K Q hK
          simp only [puts, List.foldr_cons, List.foldr_nil, List.setIfInBounds_toArray, List.set_cons_succ, List.set_cons_zero, g0, g1]
          rw [hSd] at hS hK
          have l2 : L 2 = false := hi
          simp only [stage, l4, l6, l7, l2, if_true, if_false, Bool.false_eq_true] at hS
          obtain ⟨hKp, ⟨hr8, hsz4⟩, hr24, hb2, hb3, hfs⟩ := hS
          have hsr := hr24.ints (headL_length hok.len) (by decide)
          rcases hfs with ⟨k0, fa0, fc0⟩ | ho
          · have hal := hals W k0 fa0 fc0 hKp.bel
            refine wp_app_full (k := .u8) (B := w.heap.size + 5) elU8 _ _ rfl hal.1 hal.2 rfl hsr (by decide) (by omega) hKp.sz ?_
            intro a' c' W2 g1 g2 g3
            refine hK.out _ _ rfl ⟨_, _, rfl⟩ ?_
            simp only [stage, l4, l6, l7]
            exact ⟨hKp.later g3, ⟨hr8.later g3, Nat.le_trans hsz4 g3.size⟩, hr24.later g3, hb2.later g3, hb3.later g3, g1⟩
          · refine wp_app_ints (k := .u8) (B := w.heap.size + 5) (xs := zk) (n := fl) elU8 _ _ rfl rfl ho rfl hsr (by omega) hKp.sz ?_
            intro a' c' W2 g1 g2 g3 _
            refine hK.out _ _ rfl ⟨_, _, rfl⟩ ?_
            simp only [stage, l4, l6, l7]
            exact ⟨hKp.grow g3 (others_app ho g2), ⟨hr8.grown g2 (hr8.ne ho (by decide)), Nat.le_trans hsz4 g2.size⟩, hr24.grown g2 (hr24.ne ho (by decide)), hb2.kept g3 (by omega), hb3.kept g3 (by omega), g1⟩
        · -- 3: Op.slice 62 (Operand.tmp 13) none none none
          unfold stStep
          rw [if_pos (by simp [Region.wanted])]
          intro K Q hK
          simp only [puts, List.foldr_nil]
          go_step
          refine st_ex hK rfl rfl (by simp only [Act.put, List.setIfInBounds_toArray, List.set_cons_succ, List.set_cons_zero, Array.getD_eq_getD_getElem?, List.getElem?_toArray, List.getElem?_cons_succ, List.getElem?_cons_zero, Option.getD_some] <;> rfl) rfl (by rw [hSd] at hS ⊢; exact hS)
        · -- 4: Op.call { callee := Callee.builtin Builtin.append, args := #[Operand.tmp 50, Operand.tmp 5
          obtain ⟨h2, h3, _, -⟩ := hh
          obtain ⟨a2, c2, g2⟩ := h2
          have g3 : f 3 = _ := h3
          have l2 : L 2 = true := hd 2 (by decide)
          have l6 : L 6 = false := Bool.eq_false_iff.2 fun h => by have q := hdn 6 _ h rfl 4 (by decide); rw [show L 4 = false from hi] at q; cases q
          have l7 : L 7 = false := Bool.eq_false_iff.2 fun h => by have q := hdn 7 _ h rfl 6 (by decide); rw [show L 6 = false from l6] at q; cases q
          unfold stStep
          rw [if_pos (by simp [Region.wanted])]
          intro K Q hK
          simp only [puts, List.foldr_cons, List.foldr_nil, List.setIfInBounds_toArray, List.set_cons_succ, List.set_cons_zero, g2, g3]
          rw [hSd] at hS hK
          have l4 : L 4 = false := hi
          simp only [stage, l6, l7, l4, l2, if_true, if_false, Bool.false_eq_true] at hS
          obtain ⟨hKp, ⟨hr8, hsz4⟩, hr24, hb2, hb3, ho⟩ := hS
          have e2 : f 2 = _ := g2
          rw [e2] at ho
          have hsr := hr8.ints hE8 (by decide)
          refine wp_app_ints (k := .u8) (B := w.heap.size + 5) (xs := zk ++ headL (kd, pl)) (n := fl + 24) elU8 _ _ rfl rfl ho rfl hsr (by omega) hKp.sz ?_
          intro a' c' W2 j1 j2 j3 _
          refine hK.out _ _ rfl ⟨_, _, rfl⟩ ?_
          simp only [stage, l6, l7]
          exact ⟨hKp.grow j3 (others_app ho j2), ⟨hr8.grown j2 (hr8.ne ho (by decide)), Nat.le_trans hsz4 j2.size⟩, hr24.grown j2 (hr24.ne ho (by decide)), hb2.kept j3 (by omega), hb3.kept j3 (by omega), j1⟩
        · -- 5: Op.move (Operand.tmp 12)
          unfold stStep
          rw [if_pos (by simp [Region.wanted])]
          intro K Q hK
          simp only [puts, List.foldr_nil]
          go_step
          refine st_ex hK rfl rfl (by simp only [Act.put, List.setIfInBounds_toArray, List.set_cons_succ, List.set_cons_zero, Array.getD_eq_getD_getElem?, List.getElem?_toArray, List.getElem?_cons_succ, List.getElem?_cons_zero, Option.getD_some] <;> rfl) rfl (by rw [hSd] at hS ⊢; exact hS)
        · -- 6: Op.store 24 (Operand.tmp 8) (Operand.tmp 52)
          obtain ⟨h4, _, h0, h1, h2, h3, _, -⟩ := hh
          obtain ⟨a4, c4, g4⟩ := h4
          have g0 : f 0 = _ := h0
          have g1 : f 1 = _ := h1
          obtain ⟨a2, c2, g2⟩ := h2
          have g3 : f 3 = _ := h3
          have l4 : L 4 = true := hd 4 (by decide)
          have l7 : L 7 = false := Bool.eq_false_iff.2 fun h => by have q := hdn 7 _ h rfl 6 (by decide); rw [show L 6 = false from hi] at q; cases q
          unfold stStep
          rw [if_pos (by simp [Region.wanted])]
          intro K Q hK
          simp only [puts, List.foldr_cons, List.foldr_nil, List.setIfInBounds_toArray, List.set_cons_succ, List.set_cons_zero, g4, g0, g1, g2, g3]
          rw [hSd] at hS hK
          have l6 : L 6 = false := hi
          simp only [stage, l7, l6, l4, if_true, if_false, Bool.false_eq_true] at hS
          obtain ⟨hKp, ⟨hr8, hsz4⟩, hr24, hb2, hb3, ho⟩ := hS
          have e4 : f 4 = _ := g4
          rw [e4] at ho
          obtain ⟨c3, d3⟩ := hb3.cells
          go_step
          refine hK.out _ _ rfl trivial ?_
          refine ⟨hKp.set (w.heap.size + 3) (.inr (.inl rfl)) _, ⟨hr8.other _ (by show g ≠ w.heap.size + 3; omega) _, by rw [World.size_setCell]; exact hsz4⟩, hr24.other _ (by show g24 ≠ w.heap.size + 3; omega) _, ?_⟩
          simp only [stage, l7]
          show Box1 _ _ _ ∧ Box1 _ _ (f 4) ∧ World.ownsRow _ _ _ _ (f 4) _ _
          rw [e4]
          exact ⟨hb2.other _ (by show w.heap.size + 2 ≠ w.heap.size + 3; omega) _, hb3.set _, ownsRow_setCell_below ho (by show w.heap.size + 3 < _; omega) _⟩
        · -- 7: Op.store 56 (Operand.tmp 7) (Operand.tmp 53)
          obtain ⟨h5, h0, h1, h2, h3, h4, _, -⟩ := hh
          have g5 : f 5 = _ := h5
          have g0 : f 0 = _ := h0
          have g1 : f 1 = _ := h1
          obtain ⟨a2, c2, g2⟩ := h2
          have g3 : f 3 = _ := h3
          obtain ⟨a4, c4, g4⟩ := h4
          have l6 : L 6 = true := hd 6 (by decide)
          unfold stStep
          rw [if_pos (by simp [Region.wanted])]
          intro K Q hK
          simp only [puts, List.foldr_cons, List.foldr_nil, List.setIfInBounds_toArray, List.set_cons_succ, List.set_cons_zero, g5, g0, g1, g2, g3, g4]
          rw [hSd] at hS hK
          have l7 : L 7 = false := hi
          simp only [stage, l7, l6, if_true, if_false, Bool.false_eq_true] at hS
          obtain ⟨hKp, ⟨hr8, hsz4⟩, hr24, hb2, hb3, ho⟩ := hS
          obtain ⟨c2, d2⟩ := hb2.cells
          go_step
          refine hK.out _ _ rfl trivial ?_
          refine ⟨hKp.set (w.heap.size + 2) (.inl rfl) _, ⟨hr8.other _ (by show g ≠ w.heap.size + 2; omega) _, by rw [World.size_setCell]; exact hsz4⟩, hr24.other _ (by show g24 ≠ w.heap.size + 2; omega) _, ?_⟩
          show Box1 _ _ _ ∧ Box1 _ _ (f 4) ∧ World.ownsRow _ _ _ _ (f 4) _ _
          exact ⟨hb2.set _, hb3.other _ (by show w.heap.size + 3 ≠ w.heap.size + 2; omega) _, ownsRow_setCell_below ho (by show w.heap.size + 2 < _; omega) _⟩
      case zrest =>
        intro L f W2 hL hh hS
        rw [hSd] at hS
        clear hSd
        have l7 : L 7 = true := hL 7 (by decide)
        simp only [stage, l7, if_true] at hS
        clear hL l7
        obtain ⟨h0, h1, h2, h3, h4, h5, -⟩ := hh
        have g0 : f 0 = _ := h0
        have g1 : f 1 = _ := h1
        obtain ⟨a2, c2, g2⟩ := h2
        have g3 : f 3 = _ := h3
        obtain ⟨a4, c4, g4⟩ := h4
        have g5 : f 5 = _ := h5
        simp only [puts, List.foldr_cons, List.foldr_nil, List.setIfInBounds_toArray, List.set_cons_succ, List.set_cons_zero, g0, g1, g2, g3, g4, g5]
        clear h0 h1 h3 h5 g0 g1 g3 g5
        obtain ⟨hKp, -, -, hb2, hb3, ho⟩ := hS
        have e4 : f 4 = _ := g4
        rw [e4] at hb3 ho
        have hpk : (partsL r).take (k + 1) = (partsL r).take k ++ [(kd, pl)] := by
          rw [List.take_succ_eq_append_getElem (by rw [partsL_length]; exact hkl), partsL_get, hpart]
        have hH : hashP h0 ((partsL r).take (k + 1)) = H1 := by rw [hpk, hashP_snoc, hhk, hH1]
        have hZk : zs ++ encP h0 ((partsL r).take (k + 1)) = zk ++ headL (kd, pl) ++ E := by
          rw [hpk, encP_append, hhk, ← List.append_assoc, hzk]
          simp only [encP, cellL, hH1, hE, List.append_nil, List.append_assoc]
        have hfl2 : len + 32 * (k + 1) = fl + 24 + 8 := by omega
        gi_wp2
        subst hWr
        exact ⟨hKp.oth.from _, hKp.it, hKp.bel, hKp.sz, hKp.lg, hKp.res, by rw [hH]; exact hb2, a4, c4, by rw [hfl2]; exact hb3, .inr (by rw [hfl2, hZk]; exact ho)⟩
  case done =>
    intro D W hD hI hK
    obtain ⟨g1, g2, g3, g4, g5, fa, fc, g6, g7⟩ := hI
    obtain ⟨u0, u1, -, -⟩ := g3.cells
    obtain ⟨v0, v1, v2, v3⟩ := g4.cells
    obtain ⟨x0, x1⟩ := g6.cells
    have hcn := cellsN_pos lr
    have hrow : W.ownsRow (w.heap.size + 5) 5 1 (.slice fa (len + 32 * cellsN lr) fc) (len + 32 * cellsN lr) (ivs .u8 (zs ++ encP h0 (partsL r))) := by
      rcases g7 with g7 | g7
      · omega
      · rw [List.take_of_length_le (by rw [partsL_length, hr.length]; exact Nat.le_refl _)] at g7
        exact g7
    obtain ⟨fl, hfl⟩ : ∃ fl, len + 32 * cellsN lr = fl := ⟨_, rfl⟩
    rw [hfl] at x0 hrow
    have hfin : encP basis (ps ++ partsL r) = zs ++ encP h0 (partsL r) := by rw [encP_append, HZ.out, HH.out]
    gi_wp2
    have hst := g4.store (.slice fa fl fc) (.int .i64 s)
    have hK2 := ((KeepsOthers.setCell W ⟨w.heap.size + 1, 0, none⟩ (.slice fa fl fc)).trans (KeepsOthers.setCell _ ⟨w.heap.size + 1, 1, none⟩ (.int .i64 s))).same D _ hK rfl
    refine ⟨by simp, .inl ⟨_, _, rfl, run_takeDeferred hK2, ?_⟩⟩
    have hrow2 := ownsRow_putObj (ownsRow_setCell_below (ownsRow_setCell_below hrow (a := ⟨w.heap.size + 1, 0, none⟩) (by show w.heap.size + 1 < _; omega) (.slice fa fl fc)) (a := ⟨w.heap.size + 1, 1, none⟩) (by show w.heap.size + 1 < _; omega) (.int .i64 s)) (.deferred none) hK2 rfl
    have hb5 : Below w.heap.size w ((W.setCell ⟨w.heap.size + 1, 0, none⟩ (.slice fa fl fc)).setCell ⟨w.heap.size + 1, 1, none⟩ (.int .i64 s)) := (g1.setCell (p := ⟨w.heap.size + 1, 0, none⟩) (Nat.le_succ _) _).setCell (p := ⟨w.heap.size + 1, 1, none⟩) (Nat.le_succ _) _
    have hst2 : Box2 (((W.setCell ⟨w.heap.size + 1, 0, none⟩ (.slice fa fl fc)).setCell ⟨w.heap.size + 1, 1, none⟩ (.int .i64 s)).putObj D (.deferred none)) (w.heap.size + 1) (.slice fa fl fc) (.int .i64 s) := by
      obtain ⟨T, h⟩ := hst
      exact ⟨T, (World.putObj_heap_other (by omega)).trans h⟩
    refine ⟨_, res_log_tmp rfl rfl rfl hst2, ⟨fa, fl, fc, rfl, ?_, hfl.symm⟩, hb5.trans (belowK_b (w := w) (Nat.le_refl _) _ D _ _ (by omega) hK2 rfl rfl)⟩
    rw [hfin]
    exact hrow2.from_mono (by omega)
end Go.Proofs.Ytpmhnmkpmkeadaa
