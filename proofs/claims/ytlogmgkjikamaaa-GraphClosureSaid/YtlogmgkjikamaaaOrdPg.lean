/-
  Slices of pairs of integers: those that came in, and rows that the call itself has made.
-/
import Derived.Test.YtlogmgkjikamaaaGraB
set_option linter.unusedVariables false
namespace Go.Proofs.Ytlogmgkjikamaaa
open Go.RowKit

def gp (es : List (Int × Int)) (i : Nat) : Int × Int := es.getD i (0, 0)
theorem gp_eq (es : List (Int × Int)) (i : Nat) (h : i < es.length) : gp es i = es[i] := by simp [gp, List.getD, h]
theorem gp_mem (es : List (Int × Int)) (i : Nat) (h : i < es.length) : gp es i ∈ es := by rw [gp_eq es i h]; exact List.getElem_mem h
theorem take_succ_gp (es : List (Int × Int)) (k : Nat) (h : k < es.length) : es.take (k + 1) = es.take k ++ [gp es k] := by
  rw [gp_eq es k h, List.take_append_getElem h]
def IsPairs (w : World) (a : Option Addr) (len cap : Nat) (es : List (Int × Int)) : Prop :=
  (a = none ∧ len = 0 ∧ cap = 0 ∧ es = []) ∨
  ∃ b off, a = some ⟨b, off, none⟩ ∧ len ≤ cap ∧ cap ≤ maxLen ∧ es.length = len ∧ ∀ i, i < len → w.cell? ⟨b, off + i * 2, none⟩ = some (.int .i64 (gp es i).1) ∧ w.cell? ⟨b, off + i * 2 + 1, none⟩ = some (.int .i64 (gp es i).2)
theorem IsPairs.length {w : World} {a : Option Addr} {len cap : Nat} {es : List (Int × Int)} (h : IsPairs w a len cap es) : es.length = len := by
  rcases h with ⟨_, h, _, rfl⟩ | ⟨_, _, _, _, _, h, _⟩
  · rw [h]; rfl
  · exact h
theorem IsPairs.later {w w' : World} {a : Option Addr} {len cap : Nat} {es : List (Int × Int)} (h : IsPairs w a len cap es) (hb : Below w.heap.size w w') : IsPairs w' a len cap es := by
  rcases h with h | ⟨b, off, h1, h2, h3, h4, h5⟩
  · exact .inl h
  · exact .inr ⟨b, off, h1, h2, h3, h4, fun i hi => ⟨(hb.cell (p := ⟨b, off + i * 2, none⟩) (lt_of_cell (h5 i hi).1)).trans (h5 i hi).1, (hb.cell (p := ⟨b, off + i * 2 + 1, none⟩) (lt_of_cell (h5 i hi).2)).trans (h5 i hi).2⟩⟩
theorem IsPairs.at {w : World} {a : Option Addr} {len cap : Nat} {es : List (Int × Int)} (h : IsPairs w a len cap es) (W : World) (hb : Below w.heap.size w W) (i : Nat) (hi : i < len) :
    ∃ b off, a = some ⟨b, off, none⟩ ∧ b < w.heap.size ∧ W.cell? ⟨b, off + i * 2, none⟩ = some (.int .i64 (gp es i).1) ∧ W.cell? ⟨b, off + i * 2 + 1, none⟩ = some (.int .i64 (gp es i).2) := by
  have h' := h.later hb
  rcases h with ⟨_, h0, _⟩ | ⟨b, off, rfl, _, _, _, hc⟩
  · omega
  · rcases h' with ⟨h0, _⟩ | ⟨b', off', e, _, _, _, hc'⟩
    · cases h0
    · injection e with e; injection e with e1 e2; subst e1; subst e2
      exact ⟨b, off, rfl, lt_of_cell (hc i hi).1, hc' i hi⟩

def pvs (ps : List (Int × Int)) : List Value := ps.flatMap fun e => [.int .i64 e.1, .int .i64 e.2]
theorem pvs_nil : pvs [] = [] := rfl
theorem pvs_cons (e : Int × Int) (ps : List (Int × Int)) : pvs (e :: ps) = .int .i64 e.1 :: .int .i64 e.2 :: pvs ps := rfl
theorem pvs_append (xs ys : List (Int × Int)) : pvs (xs ++ ys) = pvs xs ++ pvs ys := by simp [pvs]
theorem pvs_length : ∀ ps : List (Int × Int), (pvs ps).length = ps.length * 2
  | [] => rfl
  | e :: ps => by
    have := pvs_length ps
    rw [pvs_cons, List.length_cons, List.length_cons, List.length_cons]
    omega
theorem pvs_get : ∀ (ps : List (Int × Int)) (i : Nat), i < ps.length → (pvs ps)[i * 2]? = some (.int .i64 (gp ps i).1) ∧ (pvs ps)[i * 2 + 1]? = some (.int .i64 (gp ps i).2)
  | [], i, h => absurd h (Nat.not_lt_zero _)
  | e :: ps, 0, _ => ⟨rfl, rfl⟩
  | e :: ps, i + 1, h => by
    have ih := pvs_get ps i (by simpa using h)
    rw [show (i + 1) * 2 = i * 2 + 1 + 1 by omega, pvs_cons]
    exact ih
theorem pvs_one (ps : List (Int × Int)) : ∀ u ∈ pvs ps, u.oneCell' = true := by
  intro u h
  obtain ⟨e, _, he⟩ := List.mem_flatMap.1 h
  rcases List.mem_cons.1 he with rfl | he
  · rfl
  · rw [List.mem_singleton.1 he]; rfl
theorem IsPairs.of_owns {w : World} {B e : Nat} {a : Option Addr} {len cap n : Nat} {ps : List (Int × Int)} (h : w.ownsRow B e 2 (.slice a len cap) n (pvs ps)) : IsPairs w a len cap ps ∧ len = n := by
  obtain ⟨hl, h⟩ := h
  rw [pvs_length] at hl
  rcases h with ⟨e1, rfl⟩ | ⟨g, c, cur, e1, hg, hh, hn, hc, hs, ht⟩
  · cases e1
    have : ps = [] := List.eq_nil_of_length_eq_zero (by omega)
    exact ⟨.inl ⟨rfl, rfl, rfl, this⟩, rfl⟩
  · cases e1
    have hps : ps.length = len := by omega
    have key : ∀ j, j < len * 2 → w.cell? ⟨g, 0 + j, none⟩ = (pvs ps)[j]? := fun j hj => by
      have := congrArg (fun l => l[j]?) ht
      simp only [List.getElem?_take, if_pos hj] at this
      simp only [World.cell?, hh, Nat.zero_add]
      simpa using this
    refine ⟨.inr ⟨g, 0, rfl, hn, hc, hps, fun i hi => ?_⟩, rfl⟩
    have hp := pvs_get ps i (by omega)
    exact ⟨(key _ (by omega)).trans hp.1, (key _ (by omega)).trans hp.2⟩

/-- append of one pair, which lies in a new block, onto a row of the call's own. -/
theorem app_pair {P : Program} {T E : TypeId} {z0 : Value} {bytes : Nat} (el : Elem P T E z0 2 bytes) {w0 : World} {ops : Array Oper} {rest : List Oper} {o : Oper} {a : Act} {Q : Exit → Act → World → Prop} (hgd : Region.wanted o (yielded ops a.tmps) = true) (s x : Operand)
    (ho : o.op = .call { callee := .builtin .append, args := #[s, x], argTypes := #[T, T] })
    {B : Nat} {v : Value} {n : Nat} {ps : List (Int × Int)} (hs : a.eval s = v) (hown : w0.ownsRow B E 2 v n (pvs ps)) {y z : Int} (hx : a.eval x = .slice (some ⟨w0.heap.size, 0, none⟩) 1 1)
    (hb : (n + 1) * (bytes + 1) ≤ 140737488355328) (hB : B ≤ w0.heap.size)
    (h : ∀ a' c' w', w'.ownsRow B E 2 (.slice a' (n + 1) c') (n + 1) (pvs (ps ++ [(y, z)])) → Below B w0 w' → w0.heap.size ≤ w'.heap.size → wpList P ops Q rest (a.put o.dst (.slice a' (n + 1) c')) w') : wpList P ops Q (o :: rest) a (w0.alloc (.cells #[.int .i64 y, .int .i64 z] E)) := by
  refine app_own el hgd s x ho hs (hown.kept_below ((Below.refl _ _).alloc (Nat.le_refl _) _)) hx (news := pvs [(y, z)]) ⟨rfl, ?_, fun e => by cases e⟩ (pvs_one _) hb (by simp; omega) ?_
  · rintro ad e j u hj
    injection e with e
    subst e
    have hn := heap_alloc_new w0 (.cells #[.int .i64 y, .int .i64 z] E)
    rw [addr_add, Nat.zero_add, cell_of_row _ _ j _ _ _ hn]
    rw [← hj]
    simp [pvs]
  · intro a' c' w' h1 _ h3 _
    rw [← pvs_append] at h1
    have h4 := ((Below.refl _ _).alloc hB (.cells #[.int .i64 y, .int .i64 z] E)).trans h3
    exact h a' c' w' h1 h4 h4.size

end Go.Proofs.Ytlogmgkjikamaaa
