import Derived.Test.YtpcbmhfnefhenaaMG1
/-
  Tri, DfaM
-/
set_option linter.unusedVariables false
namespace Go.Proofs.Ytpcbmhfnefhenaa
open Go.RowKit

structure A3 where
 f : Int
 l : Int
 t : Int
 deriving DecidableEq, Inhabited
def g3 (es : List A3) (i : Nat) : A3 := es.getD i ⟨0, 0, 0⟩
theorem g3_eq (es : List A3) (i : Nat) (h : i < es.length) : g3 es i = es[i] := by simp [g3, List.getD, h]
theorem g3_mem (es : List A3) (i : Nat) (h : i < es.length) : g3 es i ∈ es := by rw [g3_eq es i h]; exact List.getElem_mem h
theorem take_succ_g3 (es : List A3) (k : Nat) (h : k < es.length) : es.take (k + 1) = es.take k ++ [g3 es k] := by
 rw [g3_eq es k h, List.take_append_getElem h]
theorem g3_ext {xs ys : List A3} (hl : xs.length = ys.length) (h : ∀ i, i < xs.length → g3 xs i = g3 ys i) : xs = ys := by
 apply List.ext_getElem hl
 intro i h1 h2
 have := h i h1
 rwa [g3_eq _ _ h1, g3_eq _ _ h2] at this
def IsArcs (w : World) (a : Option Addr) (len cap : Nat) (es : List A3) : Prop :=
 (len = 0 ∧ cap = 0 ∧ es = []) ∨
 ∃ b off, a = some ⟨b, off, none⟩ ∧ len ≤ cap ∧ cap ≤ maxLen ∧ es.length = len ∧ ∀ i, i < len → w.cell? ⟨b, off + i * 3, none⟩ = some (.int .i64 (g3 es i).f) ∧ w.cell? ⟨b, off + i * 3 + 1, none⟩ = some (.int .i64 (g3 es i).l) ∧ w.cell? ⟨b, off + i * 3 + 2, none⟩ = some (.int .i64 (g3 es i).t)
section
variable {w w' : World} {a : Option Addr} {len cap : Nat} {es : List A3}
theorem IsArcs.length (h : IsArcs w a len cap es) : es.length = len := by
 rcases h with ⟨h, _, rfl⟩ | ⟨_, _, _, _, _, h, _⟩
 ·rw [h]; rfl
 ·exact h
theorem IsArcs.capLe (h : IsArcs w a len cap es) : len ≤ cap ∧ cap ≤ maxLen := by
 rcases h with ⟨rfl, rfl, _⟩ | ⟨_, _, _, h1, h2, _⟩
 ·exact ⟨Nat.le_refl _, Nat.zero_le _⟩
 ·exact ⟨h1, h2⟩
theorem IsArcs.later (h : IsArcs w a len cap es) (hb : Below w.heap.size w w') : IsArcs w' a len cap es := by
 rcases h with h | ⟨b, off, h1, h2, h3, h4, h5⟩
 ·exact .inl h
 ·refine .inr ⟨b, off, h1, h2, h3, h4, fun i hi => ?_⟩
  obtain ⟨c1, c2, c3⟩ := h5 i hi
  exact ⟨(hb.cell (p := ⟨b, off + i * 3, none⟩) (lt_of_cell c1)).trans c1, (hb.cell (p := ⟨b, off + i * 3 + 1, none⟩) (lt_of_cell c2)).trans c2, (hb.cell (p := ⟨b, off + i * 3 + 2, none⟩) (lt_of_cell c3)).trans c3⟩
theorem IsArcs.fix (h : IsArcs w a len cap es) (h0 : 0 < len) : ∃ b off, a = some ⟨b, off, none⟩ ∧ ∀ W, Below w.heap.size w W → ∀ i, i < len → W.cell? ⟨b, off + i * 3, none⟩ = some (.int .i64 (g3 es i).f) ∧ W.cell? ⟨b, off + i * 3 + 1, none⟩ = some (.int .i64 (g3 es i).l) ∧ W.cell? ⟨b, off + i * 3 + 2, none⟩ = some (.int .i64 (g3 es i).t) := by
 rcases h with ⟨h, _⟩ | ⟨b, off, h1, h2, h3, h4, h5⟩
 ·omega
 ·refine ⟨b, off, h1, fun W hb i hi => ?_⟩
  obtain ⟨c1, c2, c3⟩ := h5 i hi
  exact ⟨(hb.cell (p := ⟨b, off + i * 3, none⟩) (lt_of_cell c1)).trans c1, (hb.cell (p := ⟨b, off + i * 3 + 1, none⟩) (lt_of_cell c2)).trans c2, (hb.cell (p := ⟨b, off + i * 3 + 2, none⟩) (lt_of_cell c3)).trans c3⟩
theorem IsArcs.get {b off : Nat} (h : IsArcs w (some ⟨b, off, none⟩) len cap es) (i : Nat) (hi : i < len) : w.cell? ⟨b, off + i * 3, none⟩ = some (.int .i64 (g3 es i).f) ∧ w.cell? ⟨b, off + i * 3 + 1, none⟩ = some (.int .i64 (g3 es i).l) ∧ w.cell? ⟨b, off + i * 3 + 2, none⟩ = some (.int .i64 (g3 es i).t) := by
 obtain ⟨b', off', e, hc⟩ := h.fix (by omega)
 injection e with e; injection e with e1 e2; subst e1; subst e2
 exact hc w (Below.refl _ _) i hi
theorem isArcs_nil (w : World) : IsArcs w none 0 0 [] := .inl ⟨rfl, rfl, rfl⟩
end
def tvs (ps : List A3) : List Value := ps.flatMap fun e => [.int .i64 e.f, .int .i64 e.l, .int .i64 e.t]
theorem tvs_nil : tvs [] = [] := rfl
theorem tvs_cons (e : A3) (ps : List A3) : tvs (e :: ps) = .int .i64 e.f :: .int .i64 e.l :: .int .i64 e.t :: tvs ps := rfl
theorem tvs_append (xs ys : List A3) : tvs (xs ++ ys) = tvs xs ++ tvs ys := by simp [tvs]
theorem tvs_length : ∀ ps : List A3, (tvs ps).length = ps.length * 3
 | [] => rfl
 | e :: ps => by
  have := tvs_length ps
  rw [tvs_cons, List.length_cons, List.length_cons, List.length_cons, List.length_cons]
  omega
theorem tvs_get : ∀ (ps : List A3) (i : Nat), i < ps.length → (tvs ps)[i * 3]? = some (.int .i64 (g3 ps i).f) ∧ (tvs ps)[i * 3 + 1]? = some (.int .i64 (g3 ps i).l) ∧ (tvs ps)[i * 3 + 2]? = some (.int .i64 (g3 ps i).t)
 | [], i, h => absurd h (Nat.not_lt_zero _)
 | e :: ps, 0, _ => ⟨rfl, rfl, rfl⟩
 | e :: ps, i + 1, h => by
  have ih := tvs_get ps i (by simpa using h)
  rw [show (i + 1) * 3 = i * 3 + 1 + 1 + 1 by omega, tvs_cons]
  exact ih
theorem tvs_one (ps : List A3) : ∀ u ∈ tvs ps, u.oneCell' = true := by
 intro u h
 obtain ⟨e, _, he⟩ := List.mem_flatMap.1 h
 simp only [List.mem_cons, List.not_mem_nil, or_false] at he
 rcases he with rfl | rfl | rfl <;> rfl
theorem IsArcs.of_owns {w : World} {B e : Nat} {a : Option Addr} {len cap n : Nat} {ps : List A3} (h : w.ownsRow B e 3 (.slice a len cap) n (tvs ps)) : IsArcs w a len cap ps ∧ len = n := by
 obtain ⟨hl, h⟩ := h
 rw [tvs_length] at hl
 rcases h with ⟨e1, rfl⟩ | ⟨g, c, cur, e1, hg, hh, hn, hc, hs, ht⟩
 ·cases e1
  have : ps = [] := List.eq_nil_of_length_eq_zero (by omega)
  exact ⟨.inl ⟨rfl, rfl, this⟩, rfl⟩
 ·cases e1
  have hps : ps.length = len := by omega
  have key : ∀ j, j < len * 3 → w.cell? ⟨g, 0 + j, none⟩ = (tvs ps)[j]? := fun j hj => by
   have := congrArg (fun l => l[j]?) ht
   simp only [List.getElem?_take, if_pos hj] at this
   simp only [World.cell?, hh, Nat.zero_add]
   simpa using this
  refine ⟨.inr ⟨g, 0, rfl, hn, hc, hps, fun i hi => ?_⟩, rfl⟩
  have hp := tvs_get ps i (by omega)
  exact ⟨(key _ (by omega)).trans hp.1, (key _ (by omega)).trans hp.2.1, (key _ (by omega)).trans hp.2.2⟩
theorem arcs_src {k : Nat} {w : World} {a : Option Addr} {len cap : Nat} {es : List A3} (h : IsArcs w a len cap es) (h0 : a = none → len = 0 ∧ cap = 0) :
  (tvs es).length = len * 3 ∧ (∀ ad, a = some ad → ∀ j u, (tvs es)[j]? = some u → w.cell? (ad.add j) = some u) ∧ (a = none → len = 0 ∧ cap = 0) := by
 refine ⟨by rw [tvs_length, h.length], fun ad e j u hj => ?_, h0⟩
 rcases h with ⟨rfl, rfl, rfl⟩ | ⟨b, off, rfl, _, _, hz, hc⟩
 ·cases hj
 ·cases e
  have hl : j < len * 3 := by
   have := (List.getElem?_eq_some_iff.1 hj).1
   rw [tvs_length, hz] at this
   exact this
  obtain ⟨i, hi⟩ : ∃ i, j = i * 3 ∨ j = i * 3 + 1 ∨ j = i * 3 + 2 := ⟨j / 3, by omega⟩
  have hil : i < es.length := by omega
  obtain ⟨p0, p1, p2⟩ := tvs_get es i hil
  obtain ⟨c0, c1, c2⟩ := hc i (by omega)
  rw [addr_add]
  rcases hi with rfl | rfl | rfl
  ·rw [p0] at hj; rw [← hj]; exact c0
  ·rw [p1] at hj; rw [← hj, ← Nat.add_assoc]; exact c1
  ·rw [p2] at hj; rw [← hj, ← Nat.add_assoc]; exact c2
theorem app_arc {P : Program} {T E : TypeId} {z0 : Value} {bytes : Nat} (el : Elem P T E z0 3 bytes) {w0 : World} {ops : Array Oper} {rest : List Oper} {o : Oper} {a : Act} {Q : Exit → Act → World → Prop} (hgd : Region.wanted o (yielded ops a.tmps) = true) (s x : Operand)
  (ho : o.op = .call { callee := .builtin .append, args := #[s, x], argTypes := #[T, T] })
  {B : Nat} {v : Value} {n : Nat} {ps : List A3} (hs : a.eval s = v) (hown : w0.ownsRow B E 3 v n (tvs ps)) {x1 x2 x3 : Int} (hx : a.eval x = .slice (some ⟨w0.heap.size, 0, none⟩) 1 1)
  (hb : (n + 1) * (bytes + 1) ≤ 140737488355328) (hB : B ≤ w0.heap.size)
  (h : ∀ a' c' w', w'.ownsRow B E 3 (.slice a' (n + 1) c') (n + 1) (tvs (ps ++ [⟨x1, x2, x3⟩])) → Below B w0 w' → w0.heap.size ≤ w'.heap.size → wpList P ops Q rest (a.put o.dst (.slice a' (n + 1) c')) w') : wpList P ops Q (o :: rest) a (w0.alloc (.cells #[.int .i64 x1, .int .i64 x2, .int .i64 x3] E)) := by
 refine app_own el hgd s x ho hs (hown.kept_below ((Below.refl _ _).alloc (Nat.le_refl _) _)) hx (news := tvs [⟨x1, x2, x3⟩]) ⟨rfl, ?_, fun e => by cases e⟩ (tvs_one _) hb (by simp; omega) ?_
 ·rintro ad e j u hj
  injection e with e
  subst e
  have hn := heap_alloc_new w0 (.cells #[.int .i64 x1, .int .i64 x2, .int .i64 x3] E)
  rw [addr_add, Nat.zero_add, cell_of_row _ _ j _ _ _ hn]
  rw [← hj]
  simp [tvs]
 ·intro a' c' w' h1 _ h3 _
  rw [← tvs_append] at h1
  have h4 := ((Below.refl _ _).alloc hB (.cells #[.int .i64 x1, .int .i64 x2, .int .i64 x3] E)).trans h3
  exact h a' c' w' h1 h4 h4.size

/-! Booleans. -/
def bvs (ss : List Bool) : List Value := ss.map .bool
def gb (ss : List Bool) (i : Nat) : Bool := ss.getD i false
theorem gb_eq (ss : List Bool) (i : Nat) (h : i < ss.length) : gb ss i = ss[i] := by simp [gb, List.getD, h]
theorem gb_over {ss : List Bool} {i : Nat} (h : ss.length ≤ i) : gb ss i = false := by simp [gb, List.getD, h]
theorem gb_put {ss : List Bool} {v : Nat} (hv : v < ss.length) (c : Bool) (n : Nat) : gb (ss.set v c) n = if n = v then c else gb ss n := by
 by_cases e : n = v
 ·subst e; rw [if_pos rfl]; simp [gb, List.getD, hv]
 ·rw [if_neg e]; simp [gb, List.getD, List.getElem?_set_ne (Ne.symm e)]
theorem gb_ext {xs ys : List Bool} (hl : xs.length = ys.length) (h : ∀ i, i < xs.length → gb xs i = gb ys i) : xs = ys := by
 apply List.ext_getElem hl
 intro i h1 h2
 have := h i h1
 rwa [gb_eq _ _ h1, gb_eq _ _ h2] at this
theorem take_succ_gb (es : List Bool) (k : Nat) (h : k < es.length) : es.take (k + 1) = es.take k ++ [gb es k] := by
 rw [gb_eq es k h, List.take_append_getElem h]
def IsBools (w : World) (a : Option Addr) (len cap : Nat) (ss : List Bool) : Prop :=
 (len = 0 ∧ cap = 0 ∧ ss = []) ∨ ∃ b off, a = some ⟨b, off, none⟩ ∧ len ≤ cap ∧ cap ≤ maxLen ∧ ss.length = len ∧ ∀ i, i < len → w.cell? ⟨b, off + i, none⟩ = some (.bool (gb ss i))
section
variable {w w' : World} {a : Option Addr} {len cap : Nat} {ss : List Bool}
theorem IsBools.length (h : IsBools w a len cap ss) : ss.length = len := by
 rcases h with ⟨h, _, rfl⟩ | ⟨_, _, _, _, _, h, _⟩
 ·rw [h]; rfl
 ·exact h
theorem IsBools.capLe (h : IsBools w a len cap ss) : len ≤ cap ∧ cap ≤ maxLen := by
 rcases h with ⟨rfl, rfl, _⟩ | ⟨_, _, _, h1, h2, _⟩
 ·exact ⟨Nat.le_refl _, Nat.zero_le _⟩
 ·exact ⟨h1, h2⟩
theorem IsBools.fix (h : IsBools w a len cap ss) (h0 : 0 < len) : ∃ b off, a = some ⟨b, off, none⟩ ∧ ∀ W, Below w.heap.size w W → ∀ i, i < len → W.cell? ⟨b, off + i, none⟩ = some (.bool (gb ss i)) := by
 rcases h with ⟨h, _⟩ | ⟨b, off, h1, h2, h3, h4, h5⟩
 ·omega
 ·exact ⟨b, off, h1, fun W hb i hi => (hb.cell (p := ⟨b, off + i, none⟩) (lt_of_cell (h5 i hi))).trans (h5 i hi)⟩
theorem IsBools.later (h : IsBools w a len cap ss) (hb : Below w.heap.size w w') : IsBools w' a len cap ss := by
 rcases h with h | ⟨b, off, h1, h2, h3, h4, h5⟩
 ·exact .inl h
 ·exact .inr ⟨b, off, h1, h2, h3, h4, fun i hi => (hb.cell (p := ⟨b, off + i, none⟩) (lt_of_cell (h5 i hi))).trans (h5 i hi)⟩
theorem IsBools.get {b off : Nat} (h : IsBools w (some ⟨b, off, none⟩) len cap ss) (i : Nat) (hi : i < len) : w.cell? ⟨b, off + i, none⟩ = some (.bool (gb ss i)) := by
 obtain ⟨b', off', e, hc⟩ := h.fix (by omega)
 injection e with e; injection e with e1 e2; subst e1; subst e2
 exact hc w (Below.refl _ _) i hi
theorem isBools_nil (w : World) : IsBools w none 0 0 [] := .inl ⟨rfl, rfl, rfl⟩
theorem IsBools.of_owns {B e n : Nat} (h : w.ownsRow B e 1 (.slice a len cap) n (bvs ss)) : IsBools w a len cap ss ∧ len = n := by
 obtain ⟨hl, h⟩ := h
 have hl : ss.length = n := by simpa [bvs] using hl
 rcases h with ⟨e1, rfl⟩ | ⟨g, c, cur, e1, hg, hh, hn, hc, hs, ht⟩
 ·cases e1
  exact ⟨.inl ⟨rfl, rfl, List.eq_nil_of_length_eq_zero hl⟩, rfl⟩
 ·cases e1
  refine ⟨.inr ⟨g, 0, rfl, hn, hc, hl, fun i hi => ?_⟩, rfl⟩
  have := congrArg (fun l => l[i]?) ht
  simp only [Nat.mul_one, List.getElem?_take, if_pos hi] at this
  simp only [World.cell?, hh, Nat.zero_add]
  have hb : (bvs ss)[i]? = some (.bool (gb ss i)) := by rw [gb_eq ss i (by omega)]; simp [bvs, hl, hi]
  rw [hb] at this
  simpa using this
end
theorem bown_cell {W : World} {B e g N c x : Nat} {ss : List Bool} (h : W.ownsRow B e 1 (.slice (some ⟨g, 0, none⟩) N c) N (bvs ss)) (hx : x < N) (hl : ss.length = N) : W.cell? ⟨g, x, none⟩ = some (.bool (gb ss x)) ∧ W.frozen? ⟨g, x, none⟩ = false := by
 refine ⟨?_, h.frozenAt x⟩
 rw [h.cellAt x (by omega), gb_eq ss x (by omega)]
 simp [bvs, hl, hx]
theorem bown_store {W : World} {B e g N c : Nat} {ss : List Bool} (h : W.ownsRow B e 1 (.slice (some ⟨g, 0, none⟩) N c) N (bvs ss)) (x : Nat) (r : Bool) : (W.setCell ⟨g, x, none⟩ (.bool r)).ownsRow B e 1 (.slice (some ⟨g, 0, none⟩) N c) N (bvs (ss.set x r)) := by
 have := (h.stored x (.bool r)).1
 rwa [show (bvs ss).set x (.bool r) = bvs (ss.set x r) by simp [bvs]] at this
end Go.Proofs.Ytpcbmhfnefhenaa

set_option linter.unusedVariables false
namespace Go.Proofs.Ytpcbmhfnefhenaa

structure Dfa where
 n : Int
 s : Int
 fin : List Bool
 arcs : List A3
def LtA (x y : A3) : Prop := x.f < y.f ∨ (x.f = y.f ∧ x.l < y.l)
instance (x y : A3) : Decidable (LtA x y) := by unfold LtA; infer_instance
theorem LtA.trans {x y z : A3} (h : LtA x y) (h' : LtA y z) : LtA x z := by unfold LtA at *; omega
theorem LtA.irrefl {x : A3} : ¬ LtA x x := by unfold LtA; omega
def ArcOk (n : Int) (ar : List A3) (i : Nat) : Prop := ((0 ≤ (g3 ar i).f ∧ (g3 ar i).f < n) ∧ (0 ≤ (g3 ar i).t ∧ (g3 ar i).t < n)) ∧ (1 ≤ (g3 ar i).l ∧ (g3 ar i).l ≤ 10000) ∧ (0 < i → LtA (g3 ar (i - 1)) (g3 ar i))
def ValidD (d : Dfa) : Prop := (1 ≤ d.n ∧ d.n ≤ 1000) ∧ (0 ≤ d.s ∧ d.s < d.n) ∧ (d.fin.length : Int) = d.n ∧ d.arcs.length ≤ 20000 ∧ ∀ i, i < d.arcs.length → ArcOk d.n d.arcs i
theorem validD_no {d : Dfa} {i : Nat} (hi : i < d.arcs.length) (h : ¬ ArcOk d.n d.arcs i) : ¬ ValidD d := fun hv => h (hv.2.2.2.2 i hi)
open Classical in
noncomputable def vD (d : Dfa) : Bool := decide (ValidD d)
open Classical in
theorem vD_yes {d : Dfa} (h : ValidD d) : vD d = true := by unfold vD; exact decide_eq_true h
open Classical in
theorem vD_no {d : Dfa} (h : ¬ ValidD d) : vD d = false := by unfold vD; exact decide_eq_false h
open Classical in
theorem vD_iff {d : Dfa} : vD d = true ↔ ValidD d := by unfold vD; exact decide_eq_true_iff
def SortedA (ar : List A3) : Prop := ar.Pairwise LtA
theorem sorted_of_steps {ar : List A3} (h : ∀ i, 0 < i → i < ar.length → LtA (g3 ar (i - 1)) (g3 ar i)) : SortedA ar := by
 have up : ∀ d i, i + (d + 1) < ar.length → LtA (g3 ar i) (g3 ar (i + (d + 1))) := by
  intro d
  induction d with
  | zero => intro i hi; have := h (i + 1) (by omega) hi; simpa using this
  | succ d ih =>
   intro i hi
   have h1 := ih i (by omega)
   have h2 := h (i + (d + 1) + 1) (by omega) hi
   rw [show i + (d + 1) + 1 - 1 = i + (d + 1) by omega] at h2
   rw [show i + (d + 1 + 1) = i + (d + 1) + 1 by omega]
   exact h1.trans h2
 refine List.pairwise_iff_getElem.2 fun i j hi hj hij => ?_
 have := up (j - i - 1) i (by omega)
 rw [show i + (j - i - 1 + 1) = j by omega, g3_eq _ i hi, g3_eq _ j hj] at this
 exact this
theorem ValidD.sorted {d : Dfa} (h : ValidD d) : SortedA d.arcs := sorted_of_steps fun i h0 hi => (h.2.2.2.2 i hi).2.2 h0
theorem SortedA.lt {ar : List A3} (h : SortedA ar) {i j : Nat} (hij : i < j) (hj : j < ar.length) : LtA (g3 ar i) (g3 ar j) := by
 rw [g3_eq _ _ (by omega), g3_eq _ _ hj]
 exact List.pairwise_iff_getElem.1 h i j (by omega) hj hij
theorem ValidD.arc {d : Dfa} (h : ValidD d) {x : A3} (hx : x ∈ d.arcs) : ((0 ≤ x.f ∧ x.f < d.n) ∧ (0 ≤ x.t ∧ x.t < d.n)) ∧ (1 ≤ x.l ∧ x.l ≤ 10000) := by
 obtain ⟨i, hi, e⟩ := List.getElem_of_mem hx
 have := h.2.2.2.2 i hi
 unfold ArcOk at this
 rw [g3_eq _ i hi, e] at this
 exact ⟨this.1, this.2.1⟩
def loP (ar : List A3) (y : A3) : Nat := (ar.filter fun x => decide (LtA x y)).length
theorem loP_le (ar : List A3) (y : A3) : loP ar y ≤ ar.length := List.length_filter_le _ _
theorem loP_iff {ar : List A3} (h : SortedA ar) (y : A3) : ∀ i, i < ar.length → (i < loP ar y ↔ LtA (g3 ar i) y) := by
 induction ar with
 | nil => intro i hi; exact absurd hi (Nat.not_lt_zero _)
 | cons x l ih =>
  intro i hi
  have h' := List.pairwise_cons.1 h
  by_cases hx : LtA x y
  ·have e : loP (x :: l) y = loP l y + 1 := by unfold loP; rw [List.filter_cons_of_pos (by exact decide_eq_true hx)]; rfl
   rw [e]
   cases i with
   | zero => exact ⟨fun _ => hx, fun _ => by omega⟩
   | succ i =>
    have := ih h'.2 i (by simpa using hi)
    rw [show g3 (x :: l) (i + 1) = g3 l i from rfl, ← this]
    omega
  ·have hall : ∀ z ∈ l, ¬ LtA z y := fun z hz hzy => hx ((h'.1 z hz).trans hzy)
   have e : loP (x :: l) y = 0 := by
    unfold loP
    rw [List.filter_cons_of_neg (by simpa using hx), List.length_eq_zero_iff, List.filter_eq_nil_iff]
    intro z hz
    simpa using hall z hz
   rw [e]
   refine ⟨fun h => absurd h (Nat.not_lt_zero _), fun hl => ?_⟩
   cases i with
   | zero => exact absurd hl hx
   | succ i =>
    have hi' : i < l.length := by simpa using hi
    exact absurd hl (hall _ (g3_mem l i hi'))
theorem loP_eq {ar : List A3} (h : SortedA ar) (y : A3) {p : Nat} (hp : p ≤ ar.length) (h1 : ∀ i, i < p → LtA (g3 ar i) y) (h2 : ∀ i, p ≤ i → i < ar.length → ¬ LtA (g3 ar i) y) : p = loP ar y := by
 have hl := loP_le ar y
 rcases Nat.lt_trichotomy p (loP ar y) with h3 | h3 | h3
 ·exact absurd ((loP_iff h y p (by omega)).1 h3) (h2 p (Nat.le_refl _) (by omega))
 ·exact h3
 ·have := (loP_iff h y (loP ar y) (by omega)).2 (h1 _ h3)
  omega
def nxtD (ar : List A3) (q c : Int) : Option A3 := ar.find? fun x => decide (x.f = q) && decide (x.l = c)
def hasAt (ar : List A3) (q c : Int) : Prop := loP ar ⟨q, c, 0⟩ < ar.length ∧ (g3 ar (loP ar ⟨q, c, 0⟩)).f = q ∧ (g3 ar (loP ar ⟨q, c, 0⟩)).l = c
theorem nxtD_some {ar : List A3} (h : SortedA ar) {q c : Int} (hh : hasAt ar q c) : nxtD ar q c = some (g3 ar (loP ar ⟨q, c, 0⟩)) := by
 unfold nxtD
 obtain ⟨h1, h2, h3⟩ := hh
 rw [List.find?_eq_some_iff_append]
 refine ⟨by simp [h2, h3], ar.take (loP ar ⟨q, c, 0⟩), ar.drop (loP ar ⟨q, c, 0⟩ + 1), ?_, fun x hx => ?_⟩
 ·rw [g3_eq _ _ h1, ← List.drop_eq_getElem_cons h1, List.take_append_drop]
 ·obtain ⟨i, hi, e⟩ := List.getElem_of_mem hx
  rw [List.length_take] at hi
  rw [List.getElem_take] at e
  have := (loP_iff h ⟨q, c, 0⟩ i (by omega)).1 (by omega)
  rw [g3_eq _ i (by omega), e] at this
  unfold LtA at this
  simp at this ⊢
  omega
theorem nxtD_none {ar : List A3} (h : SortedA ar) {q c : Int} (hh : ¬ hasAt ar q c) : nxtD ar q c = none := by
 unfold nxtD
 rw [List.find?_eq_none]
 intro x hx hc
 simp at hc
 obtain ⟨i, hi, e⟩ := List.getElem_of_mem hx
 have e' : g3 ar i = x := by rw [g3_eq _ i hi]; exact e
 refine hh ?_
 have : loP ar ⟨q, c, 0⟩ = i := by
  refine (loP_eq h ⟨q, c, 0⟩ (p := i) (by omega) (fun j hj => ?_) (fun j hj hjl => ?_)).symm
  ·have := h.lt hj hi
   rw [e'] at this
   unfold LtA at this ⊢
   simp
   omega
  ·intro hl
   rcases Nat.lt_or_ge i j with h2 | h2
   ·have := h.lt h2 hjl
    rw [e'] at this
    unfold LtA at this hl
    simp at hl
    omega
   ·rw [show j = i by omega, e'] at hl
    unfold LtA at hl
    simp at hl
    omega
 unfold hasAt
 rw [this, e']
 exact ⟨hi, hc⟩
def outsD (ar : List A3) (q : Int) : List A3 := ar.filter fun x => decide (x.f = q)
theorem outsD_part {ar : List A3} (h : SortedA ar) (hl : ∀ x ∈ ar, 1 ≤ x.l) (q : Int) : loP ar ⟨q, 0, 0⟩ ≤ loP ar ⟨q + 1, 0, 0⟩ ∧ (ar.drop (loP ar ⟨q, 0, 0⟩)).take (loP ar ⟨q + 1, 0, 0⟩ - loP ar ⟨q, 0, 0⟩) = outsD ar q := by
 have lt0 : ∀ x ∈ ar, (LtA x ⟨q, 0, 0⟩ ↔ x.f < q) := fun x hx => by
  have := hl x hx
  unfold LtA
  simp
  omega
 have lt1 : ∀ x ∈ ar, (LtA x ⟨q + 1, 0, 0⟩ ↔ x.f < q + 1) := fun x hx => by
  have := hl x hx
  unfold LtA
  simp
  omega
 have hle : loP ar ⟨q, 0, 0⟩ ≤ loP ar ⟨q + 1, 0, 0⟩ := by
  refine Nat.le_of_not_lt fun hlt => ?_
  have h1 := loP_le ar ⟨q, 0, 0⟩
  have hi : loP ar ⟨q + 1, 0, 0⟩ < ar.length := by omega
  have h2 := (lt0 _ (g3_mem ar _ hi)).1 ((loP_iff h ⟨q, 0, 0⟩ _ hi).1 hlt)
  have h3 := (loP_iff h ⟨q + 1, 0, 0⟩ _ hi).2 ((lt1 _ (g3_mem ar _ hi)).2 (by omega))
  omega
 refine ⟨hle, ?_⟩
 have h1 := loP_le ar ⟨q + 1, 0, 0⟩
 have split : ar = ar.take (loP ar ⟨q, 0, 0⟩) ++ ((ar.drop (loP ar ⟨q, 0, 0⟩)).take (loP ar ⟨q + 1, 0, 0⟩ - loP ar ⟨q, 0, 0⟩) ++ ar.drop (loP ar ⟨q + 1, 0, 0⟩)) := by
  have e : (ar.drop (loP ar ⟨q, 0, 0⟩)).drop (loP ar ⟨q + 1, 0, 0⟩ - loP ar ⟨q, 0, 0⟩) = ar.drop (loP ar ⟨q + 1, 0, 0⟩) := by rw [List.drop_drop]; congr 1; omega
  rw [← e, List.take_append_drop, List.take_append_drop]
 have key : ∀ i, i < ar.length → ((g3 ar i).f = q ↔ loP ar ⟨q, 0, 0⟩ ≤ i ∧ i < loP ar ⟨q + 1, 0, 0⟩) := fun i hi => by
  have e0 := (loP_iff h ⟨q, 0, 0⟩ i hi).trans (lt0 _ (g3_mem ar i hi))
  have e1 := (loP_iff h ⟨q + 1, 0, 0⟩ i hi).trans (lt1 _ (g3_mem ar i hi))
  omega
 unfold outsD
 conv => rhs; rw [split]
 rw [List.filter_append, List.filter_append]
 have f1 : (ar.take (loP ar ⟨q, 0, 0⟩)).filter (fun x => decide (x.f = q)) = [] := by
  rw [List.filter_eq_nil_iff]
  intro x hx
  obtain ⟨i, hi, e⟩ := List.getElem_of_mem hx
  rw [List.length_take] at hi
  rw [List.getElem_take] at e
  have := key i (by omega)
  rw [g3_eq _ i (by omega), e] at this
  simp
  omega
 have f3 : (ar.drop (loP ar ⟨q + 1, 0, 0⟩)).filter (fun x => decide (x.f = q)) = [] := by
  rw [List.filter_eq_nil_iff]
  intro x hx
  obtain ⟨i, hi, e⟩ := List.getElem_of_mem hx
  rw [List.length_drop] at hi
  rw [List.getElem_drop] at e
  have := key (loP ar ⟨q + 1, 0, 0⟩ + i) (by omega)
  rw [g3_eq _ _ (by omega), e] at this
  simp
  omega
 have f2 : ((ar.drop (loP ar ⟨q, 0, 0⟩)).take (loP ar ⟨q + 1, 0, 0⟩ - loP ar ⟨q, 0, 0⟩)).filter (fun x => decide (x.f = q)) = (ar.drop (loP ar ⟨q, 0, 0⟩)).take (loP ar ⟨q + 1, 0, 0⟩ - loP ar ⟨q, 0, 0⟩) := by
  rw [List.filter_eq_self]
  intro x hx
  obtain ⟨i, hi, e⟩ := List.getElem_of_mem hx
  rw [List.length_take, List.length_drop] at hi
  rw [List.getElem_take, List.getElem_drop] at e
  have := key (loP ar ⟨q, 0, 0⟩ + i) (by omega)
  rw [g3_eq _ _ (by omega), e] at this
  simp
  omega
 rw [f1, f2, f3]
 simp
end Go.Proofs.Ytpcbmhfnefhenaa
