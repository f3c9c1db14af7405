/-
  Package order: Reduce.
-/
import Derived.Test.YtofnbndpoiohhaaDoorOrdW
import Derived.Test.YtofnbndpoiohhaaDoorOrdP
import Derived.Test.YtofnbndpoiohhaaDoorOrdI
import Derived.OpenShut
set_option linter.unusedSimpArgs false
set_option linter.unusedVariables false
set_option maxHeartbeats 8000000
namespace Go.Proofs.YtofnbndpoiohhaaDoor
open Go.RowKit Go.Shelf
attribute [local go_sem] Oper.semAt_some

variable {n : Int} {a : Option Addr} {len cap : Nat} {es : List (Int × Int)} {w : World}

theorem elPair : Elem Tryd.prog 22 39 (.agg #[.int .i64 0, .int .i64 0]) 2 16 := ⟨Tryd.underlying22, by kernel_rfl, rfl, by decide⟩
theorem BoxIs.setRow {W : World} {b : Nat} {u v : Value} (h : BoxIs W b u v) (u' v' : Value) : BoxIs (W.setRow b #[u', v']) b u' v' := by
  obtain ⟨T, h⟩ := h
  exact ⟨T, setRow_heap _ _ _ _ _ _ h⟩
theorem ord_load {W : World} {b : Nat} {u v : Value} (h : BoxIs W b u v) : (loadVar 27 ⟨b, 0, none⟩).run Tryd.prog W = .ok (.agg #[u, v]) W := by
  obtain ⟨T, h⟩ := h
  exact run_loadVar_row W b T 27 #[u, v] (0, 0) _ h Tryd.underlying27 rfl (by kernel_rfl)
theorem red_res {W : World} {tmps : Array Value} {b : Nat} {u v v3 : Value} (hp : tmps[2]?.getD undef = .pointer (some ⟨b, 0, none⟩)) (h3 : tmps[3]?.getD undef = v3) (hg : BoxIs W b u v) :
    (results Tryd.f28 tmps).run Tryd.prog W = .ok (.tuple #[.agg #[u, v], v3]) W := by
  have hl := ord_load hg
  simp [results, show Tryd.f28.results = #[.cell 2 27, .tmp 3] from rfl, hp, h3, asAddr, hl]

theorem reduce_no (he : IsPairs w a len cap es) (hT : TabAt 0 Lib.deBruijn64tab w) (hv : ¬ ValidO n es) :
    Calls Tryd.prog 28 #[.agg #[.int .i64 n, .slice a len cap]] w fun e w' => e = .returned (.tuple #[.agg #[.int .i64 0, .slice none 0 0], .int .i64 1]) ∧ Below w.heap.size w w' := by
  obtain ⟨hb1, hs1, hO⟩ := boxO n a len cap w
  obtain ⟨W1, hW1⟩ : ∃ W1, w.alloc (.cells #[.int .i64 n, .slice a len cap] 27) = W1 := ⟨_, rfl⟩
  rw [hW1] at hb1 hs1 hO
  obtain ⟨W2, hW2⟩ : ∃ W2, W1.alloc (.cells #[.int .i64 0, .slice none 0 0] 27) = W2 := ⟨_, rfl⟩
  have hs2 : W2.heap.size = w.heap.size + 2 := by rw [← hW2]; simp [hs1]
  have hR2 : BoxIs W2 (w.heap.size + 1) (.int .i64 0) (.slice none 0 0) := by rw [← hW2, ← hs1]; exact BoxIs.new W1 _ _ _
  have hb2 : Below (w.heap.size + 1) W1 W2 := by rw [← hW2]; exact (Below.refl _ _).alloc (by omega) _
  have he2 := (he.later hb1).later (hb2.mono (by omega))
  have hT2 := tab_later (tab_later hT hb1) (hb2.mono (by omega))
  have hc := closed_no he2 hT2 hv
  obtain ⟨c0, c1⟩ := hO _ hb2
  have H1 := Lib.hid hW1
  have H2 := Lib.hid hW2
  clear hv he hT he2 hT2 hW1 hW2
  go_enter Tryd.func28, Tryd.ntmps28
  go_wp2_with (fail)
  rw [H1.out, H2.out]
  go_at_call 33
  refine hc.mono ?_
  rintro e w3 ⟨ps, rfl, hpl, hb3⟩
  clear hc c0 c1
  have hR3 := hR2.later hb3
  go_wp2_with (show wpList _ _ _ (⟨_, .store 56 _ _, _, _, _, _⟩ :: _) _ _; refine store_past rfl _ _ rfl rfl rfl rfl hpl ?_; intro w4 hs4 hb4 hP4; have hR4 := hR3.later hb4; obtain ⟨⟨e0, f0⟩, e1, f1⟩ := hR4.cells)
  refine bodyPost_ret (red_res (u := .int .i64 0) (v := .slice none 0 0) rfl rfl ((hR4.store0 _).store1 _)) rfl ?_
  have hb24 := hb3.trans (hb4.mono hb3.size)
  exact ⟨rfl, (hb1.trans ((hb2.trans (hb24.mono (by omega))).mono (by omega))).setCell (by show _ ≤ w.heap.size + 1; omega) _ |>.setCell (by show _ ≤ w.heap.size + 1; omega) _⟩

/-- A struct of a number and a slice into the block that was made last. -/
theorem store_box {T : TypeId} (hi : (Tryd.prog.info? T).map (·.size) = some 2) {ops : Array Oper} {rest : List Oper} {o : Oper} {a : Act} {w2 : World} {Q : Exit → Act → World → Prop} (hgd : o.guard = none) (x y : Operand) (ho : o.op = .store T x y) {C : Array Value} {u v : Value}
    (hx : a.eval x = .pointer (some ⟨w2.heap.size, 0, none⟩)) (hy : a.eval y = .agg #[u, v]) (hC : C.size = 2) (hu : u.oneCell' = true) (hv : v.oneCell' = true)
    (h : ∀ w3, w3.heap.size = w2.heap.size + 1 → Below w2.heap.size w2 w3 → BoxIs w3 w2.heap.size u v → wpList Tryd.prog ops Q rest (a.put o.dst undef) w3) : wpList Tryd.prog ops Q (o :: rest) a (w2.alloc (.cells C T)) := by
  refine wpList_store_row hgd T x y ho w2.heap.size #[u, v] hx hy _ _ (heap_alloc_new w2 _) hi (by rw [hC]; rfl) (by simp [hu, hv]) ?_
  rw [World.setRow_alloc_new]
  exact h _ (by simp) ((Below.refl _ _).alloc (Nat.le_refl _) _) ⟨_, heap_alloc_new w2 _⟩
theorem iOrd : (Tryd.prog.info? 27).map (·.size) = some 2 := by kernel_rfl

/-- The result so far: a box of the number of events and the edges. -/
def RedSt (B N : Nat) (ps : List (Int × Int)) (W0 W : World) : Prop := ∃ ao co, BoxIs W B (.int .i64 N) (.slice ao ps.length co) ∧ W.ownsRow (B + 1) 39 2 (.slice ao ps.length co) ps.length (pvs ps) ∧ B + 1 ≤ W.heap.size ∧ Below B W0 W
theorem RedSt.below {B N : Nat} {ps : List (Int × Int)} {W0 W : World} (h : RedSt B N ps W0 W) : Below B W0 W := by
  obtain ⟨_, _, _, _, _, h⟩ := h
  exact h
theorem RedSt.upto {B N : Nat} {ps : List (Int × Int)} {W0 W W' : World} (h : RedSt B N ps W0 W) (hb : Below W.heap.size W W') : Below B W0 W' := by
  obtain ⟨_, _, _, _, h1, h2⟩ := h
  exact h2.trans (hb.mono (by omega))
theorem RedSt.later {B N : Nat} {ps : List (Int × Int)} {W0 W W' : World} (h : RedSt B N ps W0 W) (hb : Below W.heap.size W W') : RedSt B N ps W0 W' := by
  obtain ⟨ao, co, h1, h2, h3, h4⟩ := h
  exact ⟨ao, co, h1.later hb, h2.kept_below hb, Nat.le_trans h3 hb.size, h4.trans (hb.mono (by omega))⟩

theorem red_get {ps : List (Int × Int)} {x : Int × Int} {qs : List (Int × Int)} (e : ps ++ [x] = qs) : qs.length = ps.length + 1 := by rw [← e]; simp

end Go.Proofs.YtofnbndpoiohhaaDoor
