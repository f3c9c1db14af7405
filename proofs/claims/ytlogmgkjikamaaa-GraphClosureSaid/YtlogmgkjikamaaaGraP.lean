/-
  finished: the memory of the search.
-/
import Derived.Test.YtlogmgkjikamaaaGraN
import Derived.Test.YtlogmgkjikamaaaGraK
import Derived.Deep.LoopGhost
import Derived.WalkSmall
import Derived.WalkMore
set_option linter.unusedSimpArgs false
set_option linter.unusedVariables false
set_option maxHeartbeats 4000000
namespace Go.Proofs.Ytlogmgkjikamaaa
open Go.RowKit
attribute [local go_sem] Oper.semAt_some

def bvs (ss : List Bool) : List Value := ss.map .bool
def gb (ss : List Bool) (i : Nat) : Bool := ss.getD i false
theorem gb_eq (ss : List Bool) (i : Nat) (h : i < ss.length) : gb ss i = ss[i] := by simp [gb, List.getD, h]
theorem gb_put {ss : List Bool} {v : Nat} (hv : v < ss.length) (c : Bool) (n : Nat) : gb (ss.set v c) n = if n = v then c else gb ss n := by
  by_cases e : n = v
  · subst e; rw [if_pos rfl]; simp [gb, List.getD, hv]
  · rw [if_neg e]; simp [gb, List.getD, List.getElem?_set_ne (Ne.symm e)]
def zst (st : List (Nat × Nat)) : List (Int × Int) := st.map fun p => ((p.1 : Int), (p.2 : Int))
theorem zst_snoc (s0 : List (Nat × Nat)) (u k : Nat) : zst (s0 ++ [(u, k)]) = zst s0 ++ [((u : Int), (k : Int))] := by simp [zst]
theorem zst_length (st : List (Nat × Nat)) : (zst st).length = st.length := by simp [zst]

structure FinW (W : World) (B N : Nat) (ss : List Bool) (out : List Nat) (vo : Value) (st : List (Nat × Nat)) (vs : Value) : Prop where
  len : ss.length = N
  seen : W.ownsRow B 4 1 (.slice (some ⟨B, 0, none⟩) N N) N (bvs ss)
  out : W.ownsRow (B + 1) 3 1 vo out.length (ivs .i64 (out.map Int.ofNat))
  st : W.ownsRow (B + 1) 70 2 vs st.length (pvs (zst st))
  apart : ∀ k, vo.ownBlock = some k → vs.ownBlock ≠ some k
section
variable {W W' : World} {B N : Nat} {ss : List Bool} {out : List Nat} {vo vs : Value} {st s0 : List (Nat × Nat)} {u k : Nat}
theorem FinW.size (h : FinW W B N ss out vo st vs) : B + 1 ≤ W.heap.size := (h.seen.lt B rfl).2
theorem FinW.kept (h : FinW W B N ss out vo st vs) (hb : Below W.heap.size W W') : FinW W' B N ss out vo st vs :=
  ⟨h.len, owns_same h.seen fun k hk => hb.block k (h.seen.lt k hk).2, owns_same h.out fun k hk => hb.block k (h.out.lt k hk).2, owns_same h.st fun k hk => hb.block k (h.st.lt k hk).2, h.apart⟩
theorem FinW.cell (h : FinW W B N ss out vo st vs) {x : Nat} (hx : x < N) : W.cell? ⟨B, x, none⟩ = some (.bool (gb ss x)) ∧ W.frozen? ⟨B, x, none⟩ = false := by
  refine ⟨?_, h.seen.frozenAt x⟩
  rw [h.seen.cellAt x (by omega), gb_eq ss x (by rw [h.len]; exact hx)]
  simp [bvs, h.len, hx]
theorem FinW.see (h : FinW W B N ss out vo st vs) (x : Nat) : FinW (W.setCell ⟨B, x, none⟩ (.bool true)) B N (ss.set x true) out vo st vs := by
  refine ⟨by rw [List.length_set]; exact h.len, ?_, ownsRow_setCell_below h.out (a := ⟨B, x, none⟩) (Nat.lt_succ_self _) _, ownsRow_setCell_below h.st (a := ⟨B, x, none⟩) (Nat.lt_succ_self _) _, h.apart⟩
  have := (h.seen.stored x (.bool true)).1
  rwa [show (bvs ss).set x (.bool true) = bvs (ss.set x true) by simp [bvs]] at this
theorem FinW.top (h : FinW W B N ss out vo (s0 ++ [(u, k)]) vs) : ∃ gs cs, vs = .slice (some ⟨gs, 0, none⟩) (s0.length + 1) cs ∧ B + 1 ≤ gs ∧
    W.cell? ⟨gs, s0.length * 2, none⟩ = some (.int .i64 (u : Int)) ∧ W.cell? ⟨gs, s0.length * 2 + 1, none⟩ = some (.int .i64 (k : Int)) ∧ W.frozen? ⟨gs, s0.length * 2 + 1, none⟩ = false := by
  have h1 := h.st
  rw [show (s0 ++ [(u, k)]).length = s0.length + 1 by simp] at h1
  obtain ⟨gs, cs, rfl⟩ : ∃ gs cs, vs = .slice (some ⟨gs, 0, none⟩) (s0.length + 1) cs := by
    rcases h1.2 with ⟨_, h0⟩ | ⟨g, c, cur, e, _⟩
    · omega
    · exact ⟨g, c, e⟩
  have hp := pvs_get (zst (s0 ++ [(u, k)])) s0.length (by rw [zst_length]; simp)
  have e : gp (zst (s0 ++ [(u, k)])) s0.length = ((u : Int), (k : Int)) := by
    rw [gp_eq _ _ (by rw [zst_length]; simp)]
    simp [zst]
  rw [e] at hp
  exact ⟨gs, cs, rfl, (h1.lt gs rfl).1, (h1.cellAt _ (by omega)).trans hp.1, (h1.cellAt _ (by omega)).trans hp.2, h1.frozenAt _⟩
theorem FinW.next {gs cs : Nat} (h : FinW W B N ss out vo (s0 ++ [(u, k)]) (.slice (some ⟨gs, 0, none⟩) (s0.length + 1) cs)) :
    FinW (W.setCell ⟨gs, s0.length * 2 + 1, none⟩ (.int .i64 ((k : Int) + 1))) B N ss out vo (s0 ++ [(u, k + 1)]) (.slice (some ⟨gs, 0, none⟩) (s0.length + 1) cs) := by
  have h1 := h.st
  rw [show (s0 ++ [(u, k)]).length = s0.length + 1 by simp] at h1
  obtain ⟨h2, h3⟩ := h1.stored (s0.length * 2 + 1) (.int .i64 ((k : Int) + 1))
  have hgs := (h1.lt gs rfl).1
  refine ⟨h.len, h.seen.kept h3 (.inr fun e => ?_), h.out.kept h3 ?_, ?_, h.apart⟩
  · have : B = gs := by injection e
    omega
  · cases e : vo.ownBlock with
    | none => exact .inl rfl
    | some k => exact .inr fun e2 => h.apart k e (by rw [e2]; rfl)
  · rw [show (s0 ++ [(u, k + 1)]).length = s0.length + 1 by simp]
    have e : (pvs (zst (s0 ++ [(u, k)]))).set (s0.length * 2 + 1) (.int .i64 ((k : Int) + 1)) = pvs (zst (s0 ++ [(u, k + 1)])) := by
      rw [zst_snoc, zst_snoc, pvs_append, pvs_append, List.set_append, if_neg (by rw [pvs_length, zst_length]; omega), pvs_length, zst_length, show s0.length * 2 + 1 - s0.length * 2 = 1 by omega]
      rfl
    rwa [e] at h2
theorem FinW.pop {gs cs : Nat} (h : FinW W B N ss out vo (s0 ++ [(u, k)]) (.slice (some ⟨gs, 0, none⟩) (s0.length + 1) cs)) : FinW W B N ss out vo s0 (.slice (some ⟨gs, 0, none⟩) s0.length cs) := by
  have h1 := h.st
  rw [show (s0 ++ [(u, k)]).length = s0.length + 1 by simp, zst_snoc, pvs_append] at h1
  exact ⟨h.len, h.seen, h.out, ownsRow_pop (by rw [pvs_length, zst_length]) h1, h.apart⟩
theorem FinW.start (h : FinW W B N ss out vo st vs) (x : Nat) : FinW (W.alloc (.cells #[.int .i64 (x : Int), .int .i64 0] 70)) B N ss out vo [(x, 0)] (.slice (some ⟨W.heap.size, 0, none⟩) 1 1) := by
  refine ⟨h.len, h.seen.alloc _, h.out.alloc _, ?_, fun k hk e => ?_⟩
  · exact World.ownsRow_lit (size := 2) W #[.int .i64 (x : Int), .int .i64 0] 1 h.size (by decide) rfl
  · have := (h.out.lt k hk).2
    have : W.heap.size = k := by injection e
    omega
theorem FinW.init {g : Nat} (h : W.ownsRow g 4 1 (.slice (some ⟨g, 0, none⟩) N N) N (List.replicate N (.bool false))) : FinW W g N (List.replicate N false) [] (.slice none 0 0) [] (.slice none 0 0) :=
  ⟨List.length_replicate, by rw [show bvs (List.replicate N false) = List.replicate N (.bool false) by simp [bvs]]; exact h, World.ownsRow_nil _ _ _ _, World.ownsRow_nil _ _ _ _, fun k hk => by cases hk⟩
end

theorem elPl : Elem Try.prog 71 70 (.agg #[.int .i64 0, .int .i64 0]) 2 16 := ⟨Try.underlying71, by kernel_rfl, rfl, by decide⟩
theorem elBo : Elem Try.prog 40 4 (.bool false) 1 1 := ⟨Try.underlying40, by kernel_rfl, rfl, by decide⟩

theorem push_st {P : Program} {T : TypeId} {z0 : Value} (el : Elem P T 70 z0 2 16) {w0 : World} {ops : Array Oper} {rest : List Oper} {o : Oper} {a : Act} {Q : Exit → Act → World → Prop} (hgd : Region.wanted o (yielded ops a.tmps) = true) (s x : Operand)
    (ho : o.op = .call { callee := .builtin .append, args := #[s, x], argTypes := #[T, T] })
    {B N : Nat} {ss : List Bool} {out : List Nat} {vo vs : Value} {st : List (Nat × Nat)} (hF : FinW w0 B N ss out vo st vs) (hs : a.eval s = vs) {n : Nat} (hx : a.eval x = .slice (some ⟨w0.heap.size, 0, none⟩) 1 1) (hl : st.length ≤ 1000)
    (h : ∀ az cs w', FinW w' B N ss out vo (st ++ [(n, 0)]) (.slice az (st.length + 1) cs) → Below B w0 w' → wpList P ops Q rest (a.put o.dst (.slice az (st.length + 1) cs)) w') : wpList P ops Q (o :: rest) a (w0.alloc (.cells #[.int .i64 (n : Int), .int .i64 0] 70)) := by
  refine wpList_wanted hgd fun K hK => wp_app_blk el s x ho hs (hF.st.alloc _) hx (news := pvs [((n : Int), 0)]) ⟨rfl, ?_, fun e => by cases e⟩ (pvs_one _) (by omega) (by have := hF.size; simp; omega) ?_
  · rintro ad e j u hj
    injection e with e
    subst e
    have hn := heap_alloc_new w0 (.cells #[.int .i64 (n : Int), .int .i64 0] 70)
    rw [addr_add, Nat.zero_add, cell_of_row _ _ j _ _ _ hn]
    rw [← hj]
    simp [pvs]
  · intro a' c' w' h1 h2 h3 h4
    refine hK _ _ (h a' c' w' ⟨hF.len, (hF.seen.alloc _).kept h2 (.inr fun e => ?_), (hF.out.alloc _).kept h2 ?_, ?_, fun k hk e => ?_⟩ (((Below.refl _ _).alloc (by have := hF.size; omega) _).trans (h3.mono (Nat.le_succ B))))
    · have := (hF.st.lt B e.symm).1
      omega
    · cases e : vo.ownBlock with
      | none => exact .inl rfl
      | some k => exact .inr fun e2 => hF.apart k e e2.symm
    · rw [List.length_append, zst_snoc, pvs_append]
      exact h1
    · rcases h4 with h4 | h4
      · exact hF.apart k hk (h4 ▸ e)
      · rw [h4] at e
        have h5 := (hF.out.lt k hk).2
        have : (w0.alloc (.cells #[.int .i64 (n : Int), .int .i64 0] 70)).heap.size = k := by injection e
        simp at this
        omega

theorem leave_out {P : Program} {T : TypeId} {z0 : Value} (el : Elem P T 3 z0 1 8) {w0 : World} {ops : Array Oper} {rest : List Oper} {o : Oper} {a : Act} {Q : Exit → Act → World → Prop} (hgd : Region.wanted o (yielded ops a.tmps) = true) (s x : Operand)
    (ho : o.op = .call { callee := .builtin .append, args := #[s, x], argTypes := #[T, T] })
    {B N : Nat} {ss : List Bool} {out : List Nat} {vo vs : Value} {st : List (Nat × Nat)} (hF : FinW w0 B N ss out vo st vs) (hs : a.eval s = vo) {n : Nat} (hx : a.eval x = .slice (some ⟨w0.heap.size, 0, none⟩) 1 1) (hl : out.length ≤ 1000)
    (h : ∀ az cs w', FinW w' B N ss (out ++ [n]) (.slice az (out.length + 1) cs) st vs → Below B w0 w' → wpList P ops Q rest (a.put o.dst (.slice az (out.length + 1) cs)) w') : wpList P ops Q (o :: rest) a (w0.alloc (.cells #[.int .i64 (n : Int)] 3)) := by
  refine wpList_wanted hgd fun K hK => wp_app_blk el s x ho hs (hF.out.alloc _) hx (news := ivs .i64 [(n : Int)]) ⟨rfl, ?_, fun e => by cases e⟩ (by intro u hu; simp [ivs] at hu; subst hu; rfl) (by omega) (by have := hF.size; simp; omega) ?_
  · rintro ad e j u hj
    injection e with e
    subst e
    have hn := heap_alloc_new w0 (.cells #[.int .i64 (n : Int)] 3)
    rw [addr_add, Nat.zero_add, cell_of_row _ _ j _ _ _ hn]
    rw [← hj]
    simp [ivs]
  · intro a' c' w' h1 h2 h3 h4
    refine hK _ _ (h a' c' w' ⟨hF.len, (hF.seen.alloc _).kept h2 (.inr fun e => ?_), ?_, (hF.st.alloc _).kept h2 ?_, fun k hk e => ?_⟩ (((Below.refl _ _).alloc (by have := hF.size; omega) _).trans (h3.mono (Nat.le_succ B))))
    · have := (hF.out.lt B e.symm).1
      omega
    · rw [List.length_append, List.map_append, show ivs .i64 (out.map Int.ofNat ++ [n].map Int.ofNat) = ivs .i64 (out.map Int.ofNat) ++ ivs .i64 [(n : Int)] by simp [ivs]]
      exact h1
    · cases e : vs.ownBlock with
      | none => exact .inl rfl
      | some k => exact .inr fun e2 => hF.apart k e2.symm e
    · rcases h4 with h4 | h4
      · exact hF.apart k (h4 ▸ hk) e
      · rw [h4] at hk
        have h5 := (hF.st.lt k e).2
        have : (w0.alloc (.cells #[.int .i64 (n : Int)] 3)).heap.size = k := by injection hk
        simp at this
        omega
end Go.Proofs.Ytlogmgkjikamaaa
