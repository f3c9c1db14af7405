/-
  Lists of byte strings in memory; what reading has laid.
-/
import Derived.Test.YtpmhnmkpmkeadaaWalB
set_option linter.unusedSimpArgs false
set_option linter.unusedVariables false
namespace Go.Proofs.Ytpmhnmkpmkeadaa
open Go.RowKit

theorem elRec : Elem Try.prog 30 24 (.slice none 0 0) 1 24 := ⟨Try.underlying30, by kernel_rfl, rfl, by decide⟩
theorem elInt : Elem Try.prog 65 3 (.int .i64 0) 1 8 := ⟨Try.underlying65, by kernel_rfl, rfl, by decide⟩

/-- append of one value, which lies in a new block, onto a row of the call's own. -/
theorem app_val {P : Program} {T E : TypeId} {z0 : Value} {bytes : Nat} (el : Elem P T E z0 1 bytes) {w0 : World} {ops : Array Oper} {rest : List Oper} {o : Oper} {a : Act} {Q : Exit → Act → World → Prop} (hgd : Region.wanted o (yielded ops a.tmps) = true) (s x : Operand)
    (ho : o.op = .call { callee := .builtin .append, args := #[s, x], argTypes := #[T, T] })
    {B : Nat} {v : Value} {n : Nat} {xs : List Value} (hs : a.eval s = v) (hown : w0.ownsRow B E 1 v n xs) {u : Value} (hu : u.oneCell' = true) (hx : a.eval x = .slice (some ⟨w0.heap.size, 0, none⟩) 1 1)
    (hb : (n + 1) * (bytes + 1) ≤ 140737488355328) (hB : B ≤ w0.heap.size)
    (h : ∀ a' c' w', w'.ownsRow B E 1 (.slice a' (n + 1) c') (n + 1) (xs ++ [u]) → (w0.alloc (.cells #[u] E)).grownBy w' v.ownBlock → Below B w0 w' → wpList P ops Q rest (a.put o.dst (.slice a' (n + 1) c')) w') : wpList P ops Q (o :: rest) a (w0.alloc (.cells #[u] E)) := by
  refine app_own (xs := xs) (news := [u]) el hgd s x ho hs (hown.kept_below ((Below.refl _ _).alloc (Nat.le_refl _) _)) hx ⟨rfl, ?_, fun h => (by cases h)⟩ (by simp [hu]) hb (by simp; omega) ?_
  · intro ad e j u' hj
    cases e
    cases j with
    | zero =>
      simp only [List.getElem?_cons_zero, Option.some.injEq] at hj
      rw [addr_add, Nat.zero_add, cell_of_row _ w0.heap.size 0 #[u] E (0, 0) (heap_alloc_new w0 _), hj.symm]
      rfl
    | succ j => simp at hj
  · intro a' c' w' h1 h2 h3 _
    exact h a' c' w' h1 h2 (((Below.refl _ _).alloc hB _).trans h3)

/-- Rows of different element types lie in different blocks. -/
theorem owns_ne {w : World} {B B' e e' s s' n n' : Nat} {v v' : Value} {xs xs' : List Value} (h : w.ownsRow B e s v n xs) (h' : w.ownsRow B' e' s' v' n' xs') (hne : e ≠ e') : v.ownBlock = none ∨ v.ownBlock ≠ v'.ownBlock := by
  rcases h.2 with ⟨rfl, _⟩ | ⟨g, cap, cur, rfl, _, hg, _⟩
  · exact .inl rfl
  · rcases h'.2 with ⟨rfl, _⟩ | ⟨g', cap', cur', rfl, _, hg', _⟩
    · right; simp [Value.ownBlock]
    · right
      simp only [Value.ownBlock, ne_eq, Option.some.injEq]
      intro e
      subst e
      rw [hg] at hg'
      simp at hg'
      exact hne hg'.2
theorem owns_lt_ne {w : World} {B B' e e' s s' n n' : Nat} {v v' : Value} {xs xs' : List Value} (h : w.ownsRow B e s v n xs) (hlt : ∀ g, v.ownBlock = some g → g < B') (h' : w.ownsRow B' e' s' v' n' xs') : v.ownBlock = none ∨ v.ownBlock ≠ v'.ownBlock := by
  cases hv : v.ownBlock with
  | none => exact .inl rfl
  | some g =>
    right
    intro e
    have := (h'.lt g e.symm).1
    have := hlt g hv
    omega

/-- What reading has laid: the records and the ends; the records' own rows lie below T. -/
def RecSt (W : World) (n0 T : Nat) (rv : Value) (rs : List (List Int)) (ev : Value) (es : List Int) : Prop :=
  (∃ vs, W.ownsRow n0 24 1 rv rs.length vs ∧ vs.length = rs.length ∧ ∀ i v, vs[i]? = some v → W.ownsRow n0 5 1 v (gl rs i).length (ivs .u8 (gl rs i)) ∧ ∀ g, v.ownBlock = some g → g < T) ∧
  W.ownsRow n0 3 1 ev es.length (ivs .i64 es)
theorem RecSt.nil (W : World) (n0 T : Nat) : RecSt W n0 T (.slice none 0 0) [] (.slice none 0 0) [] :=
  ⟨⟨[], World.ownsRow_nil _ _ _ _, rfl, fun i v h => (by simp at h)⟩, World.ownsRow_nil _ _ _ _⟩
theorem RecSt.later {W W' : World} {n0 T : Nat} {rv ev : Value} {rs : List (List Int)} {es : List Int} (h : RecSt W n0 T rv rs ev es) (hb : Below W.heap.size W W') : RecSt W' n0 T rv rs ev es := by
  obtain ⟨⟨vs, h1, h2, h3⟩, h4⟩ := h
  exact ⟨⟨vs, h1.kept_below hb, h2, fun i v hv => ⟨(h3 i v hv).1.kept_below hb, (h3 i v hv).2⟩⟩, h4.kept_below hb⟩
theorem RecSt.mono {W : World} {n0 T T' : Nat} {rv ev : Value} {rs : List (List Int)} {es : List Int} (h : RecSt W n0 T rv rs ev es) (ht : T ≤ T') : RecSt W n0 T' rv rs ev es := by
  obtain ⟨⟨vs, h1, h2, h3⟩, h4⟩ := h
  exact ⟨⟨vs, h1, h2, fun i v hv => ⟨(h3 i v hv).1, fun g hg => Nat.lt_of_lt_of_le ((h3 i v hv).2 g hg) ht⟩⟩, h4⟩
theorem RecSt.now {W W' : World} {n0 T : Nat} {rv ev : Value} {rs : List (List Int)} {es : List Int} (h : RecSt W n0 T rv rs ev es) {nv : Value} {n : Nat} {xs : List Value} (hn : W.ownsRow T 5 1 nv n xs) (hg : W.grownBy W' nv.ownBlock) : RecSt W' n0 T rv rs ev es := by
  obtain ⟨⟨vs, h1, h2, h3⟩, h4⟩ := h
  exact ⟨⟨vs, h1.kept hg (owns_ne h1 hn (by decide)), h2, fun i v hv => ⟨(h3 i v hv).1.kept hg (owns_lt_ne (h3 i v hv).1 (h3 i v hv).2 hn), (h3 i v hv).2⟩⟩, h4.kept hg (owns_ne h4 hn (by decide))⟩
theorem RecSt.recRow {W : World} {n0 T : Nat} {rv ev : Value} {rs : List (List Int)} {es : List Int} (h : RecSt W n0 T rv rs ev es) : ∃ vs, W.ownsRow n0 24 1 rv rs.length vs ∧ vs.length = rs.length ∧ ∀ i v, vs[i]? = some v → W.ownsRow n0 5 1 v (gl rs i).length (ivs .u8 (gl rs i)) ∧ ∀ g, v.ownBlock = some g → g < T := h.1
/-- One record more. -/
theorem RecSt.push {W W' : World} {n0 T : Nat} {rv ev : Value} {rs : List (List Int)} {es : List Int} (h : RecSt W n0 T rv rs ev es) {vs : List Value}
    (h1 : W.ownsRow n0 24 1 rv rs.length vs) (h2 : vs.length = rs.length) (h3 : ∀ i v, vs[i]? = some v → W.ownsRow n0 5 1 v (gl rs i).length (ivs .u8 (gl rs i)) ∧ ∀ g, v.ownBlock = some g → g < T)
    {u : Value} {r : List Int} (hr : W.ownsRow n0 5 1 u r.length (ivs .u8 r)) {o : Obj} (hg : (W.alloc o).grownBy W' rv.ownBlock) {rv' : Value} (hn : W'.ownsRow n0 24 1 rv' (rs.length + 1) (vs ++ [u])) : RecSt W' n0 W'.heap.size rv' (rs ++ [r]) ev es := by
  have hal : Below W.heap.size W (W.alloc o) := (Below.refl _ _).alloc (Nat.le_refl _) _
  have keep : ∀ {B e s n : Nat} {v : Value} {xs : List Value}, e ≠ 24 → W.ownsRow B e s v n xs → W'.ownsRow B e s v n xs := fun hne hh => (hh.kept_below hal).kept hg (owns_ne (hh.kept_below hal) (h1.kept_below hal) hne)
  refine ⟨⟨vs ++ [u], by rw [List.length_append]; exact hn, by simp [h2], fun i v hv => ?_⟩, keep (by decide) h.2⟩
  have hown : W'.ownsRow n0 5 1 v (gl (rs ++ [r]) i).length (ivs .u8 (gl (rs ++ [r]) i)) := by
    rcases Nat.lt_or_ge i vs.length with hi | hi
    · rw [List.getElem?_append_left hi] at hv
      rw [show gl (rs ++ [r]) i = gl rs i by simp [gl, List.getD, List.getElem?_append_left (show i < rs.length by omega)]]
      exact keep (by decide) (h3 i v hv).1
    · rw [List.getElem?_append_right hi] at hv
      have hi0 : i - vs.length = 0 := by
        rcases Nat.eq_zero_or_pos (i - vs.length) with h | h
        · exact h
        · rw [List.getElem?_eq_none (by simp; omega)] at hv; cases hv
      rw [hi0] at hv
      cases hv
      have hi1 : i = rs.length := by omega
      subst hi1
      rw [show gl (rs ++ [r]) rs.length = r by simp [gl, List.getD]]
      exact keep (by decide) hr
  exact ⟨hown, fun g hg => (hown.lt g hg).2⟩
/-- One end more. -/
theorem RecSt.pushEnd {W W' : World} {n0 T : Nat} {rv ev : Value} {rs : List (List Int)} {es : List Int} (h : RecSt W n0 T rv rs ev es) {o : Obj} (hg : (W.alloc o).grownBy W' ev.ownBlock) {ev' : Value} {x : Int} (hn : W'.ownsRow n0 3 1 ev' (es.length + 1) (ivs .i64 (es ++ [x]))) : RecSt W' n0 W'.heap.size rv rs ev' (es ++ [x]) := by
  obtain ⟨⟨vs, h1, h2, h3⟩, h4⟩ := h
  have hal : Below W.heap.size W (W.alloc o) := (Below.refl _ _).alloc (Nat.le_refl _) _
  have keep : ∀ {B e s n : Nat} {v : Value} {xs : List Value}, e ≠ 3 → W.ownsRow B e s v n xs → W'.ownsRow B e s v n xs := fun hne hh => (hh.kept_below hal).kept hg (owns_ne (hh.kept_below hal) (h4.kept_below hal) hne)
  refine ⟨⟨vs, keep (by decide) h1, h2, fun i v hv => ?_⟩, by rw [List.length_append]; exact hn⟩
  have hown := keep (by decide) (h3 i v hv).1
  exact ⟨hown, fun g hg => (hown.lt g hg).2⟩

/-- A row of a slice of slices: an empty one without room may have any address. -/
def IsRow (k : IntKind) (w : World) (a : Option Addr) (len cap : Nat) (zs : List Int) : Prop := IsInts k w a len cap zs ∨ (len = 0 ∧ cap = 0 ∧ zs = [])
theorem IsRow.length {k : IntKind} {w : World} {a : Option Addr} {len cap : Nat} {zs : List Int} (h : IsRow k w a len cap zs) : zs.length = len := by
  rcases h with h | ⟨rfl, _, rfl⟩
  · exact h.length
  · rfl
theorem IsRow.cap {k : IntKind} {w : World} {a : Option Addr} {len cap : Nat} {zs : List Int} (h : IsRow k w a len cap zs) : len ≤ cap ∧ cap ≤ maxLen := by
  rcases h with h | ⟨rfl, rfl, _⟩
  · exact h.cap
  · simp
theorem IsRow.later {k : IntKind} {w w' : World} {a : Option Addr} {len cap : Nat} {zs : List Int} (h : IsRow k w a len cap zs) (hb : Below w.heap.size w w') : IsRow k w' a len cap zs := by
  rcases h with h | h
  · exact .inl (h.later hb)
  · exact .inr h
theorem row_toString {P : Program} (w : World) (T S e : TypeId) (hs : P.underlying T = some (.slice e)) (he : P.underlying e = some (.int .u8)) (hd : P.underlying S = some .string)
    (a : Option Addr) (len cap : Nat) (zs : List Int) (h : IsRow .u8 w a len cap zs) : (convert T S (.slice a len cap)).run P w = .ok (.string (bsOf zs)) w := by
  rcases h with h | ⟨rfl, rfl, rfl⟩
  · exact run_toString w T S e hs he hd a len cap zs h
  · rw [run_convert_bytes_string w T S e a 0 0 hs he hd]
    cases a with
    | none => simp [Conv.bytesToString, Sem.run_pure, bsOf]; rfl
    | some x =>
      have := run_loadCells_list (P := P) (w := w) x [] (fun j v hj => by simp at hj)
      rw [run_bytesToString w _ 0 0 [] this, push_fold]
      simp [bsOf]
/-- A value that reads as bytes. -/
def RdB (w : World) (v : Value) (r : List Int) : Prop := ∃ a n c, v = .slice a n c ∧ IsRow .u8 w a n c r
/-- A slice that reads as a list of byte strings. -/
def IsRecs (w : World) (a : Option Addr) (len cap : Nat) (rs : List (List Int)) : Prop :=
  rs.length = len ∧ ((a = none ∧ len = 0 ∧ cap = 0) ∨ ∃ b off, a = some ⟨b, off, none⟩ ∧ len ≤ cap ∧ cap ≤ maxLen ∧ ∀ i, i < len → ∃ v, w.cell? ⟨b, off + i, none⟩ = some v ∧ RdB w v (gl rs i))
theorem RdB.later {w w' : World} {v : Value} {r : List Int} (h : RdB w v r) (hb : Below w.heap.size w w') : RdB w' v r := by
  obtain ⟨a, n, c, rfl, h⟩ := h
  exact ⟨a, n, c, rfl, h.later hb⟩
theorem IsRecs.later {w w' : World} {a : Option Addr} {len cap : Nat} {rs : List (List Int)} (h : IsRecs w a len cap rs) (hb : Below w.heap.size w w') : IsRecs w' a len cap rs := by
  obtain ⟨hl, h⟩ := h
  refine ⟨hl, ?_⟩
  rcases h with h | ⟨b, off, rfl, h1, h2, h3⟩
  · exact .inl h
  · refine .inr ⟨b, off, rfl, h1, h2, fun i hi => ?_⟩
    obtain ⟨v, hv, hr⟩ := h3 i hi
    exact ⟨v, by rw [hb.cell (p := ⟨b, off + i, none⟩) (lt_of_cell hv)]; exact hv, hr.later hb⟩
theorem IsRecs.cap {w : World} {a : Option Addr} {len cap : Nat} {rs : List (List Int)} (h : IsRecs w a len cap rs) : len ≤ cap ∧ cap ≤ maxLen := by
  rcases h.2 with ⟨_, rfl, rfl⟩ | ⟨_, _, _, h1, h2, _⟩
  · simp [maxLen]
  · exact ⟨h1, h2⟩
/-- An element, in a later world. -/
theorem IsRecs.at {w : World} {a : Option Addr} {len cap : Nat} {rs : List (List Int)} (h : IsRecs w a len cap rs) (W : World) (hb : Below w.heap.size w W) (i : Nat) (hi : i < len) :
    ∃ b off ai ci, a = some ⟨b, off, none⟩ ∧ b < w.heap.size ∧ W.cell? ⟨b, off + i, none⟩ = some (.slice ai (gl rs i).length ci) ∧ IsRow .u8 W ai (gl rs i).length ci (gl rs i) := by
  rcases h.2 with ⟨_, h0, _⟩ | ⟨b, off, rfl, _, _, hc⟩
  · omega
  · obtain ⟨v, hv, ai, n, ci, rfl, hr⟩ := hc i hi
    have hl := lt_of_cell hv
    have hn := hr.length
    subst hn
    exact ⟨b, off, ai, ci, rfl, hl, by rw [hb.cell (p := ⟨b, off + i, none⟩) hl]; exact hv, hr.later hb⟩
theorem IsRecs.slice {w : World} {a : Option Addr} {len cap : Nat} {rs : List (List Int)} (h : IsRecs w a len cap rs) (n : Nat) (hn : n ≤ len) : IsRecs w a n cap (rs.take n) := by
  have hcap := h.cap
  obtain ⟨hl, h⟩ := h
  refine ⟨by simp; omega, ?_⟩
  rcases h with ⟨rfl, rfl, rfl⟩ | ⟨b, off, rfl, h1, h2, h3⟩
  · exact .inl ⟨rfl, by omega, rfl⟩
  · refine .inr ⟨b, off, rfl, by omega, h2, fun i hi => ?_⟩
    have : gl (rs.take n) i = gl rs i := by simp [gl, List.getD, hi]
    rw [this]
    exact h3 i (by omega)
/-- Rows of the call's own, each an own row: a list of byte strings. -/
theorem RecSt.recs {W : World} {n0 T : Nat} {rv ev : Value} {rs : List (List Int)} {es : List Int} (h : RecSt W n0 T rv rs ev es) : ∃ a c, rv = .slice a rs.length c ∧ IsRecs W a rs.length c rs := by
  obtain ⟨⟨vs, h1, h2, h3⟩, _⟩ := h
  rcases h1.2 with ⟨rfl, hn⟩ | ⟨g, cap, cur, rfl, hb, hg, hn, hc, hs, ht⟩
  · exact ⟨none, 0, by rw [hn], rfl, .inl ⟨rfl, hn, rfl⟩⟩
  · refine ⟨_, _, rfl, rfl, .inr ⟨g, 0, rfl, hn, hc, fun i hi => ?_⟩⟩
    have hv : vs[i]? = some vs[i] := List.getElem?_eq_getElem (by omega)
    have hrow := (h3 i _ hv).1
    obtain ⟨a', c', e', _⟩ := owns_slice hrow
    refine ⟨vs[i], ?_, a', _, c', e', ?_⟩
    · have := h1.cells (g := g) rfl i _ hv
      rwa [addr_add] at this
    · rw [e'] at hrow
      exact .inl (IsInts.of_owns hrow).1
theorem ends_len (b : List Int) (k : Nat) : (stB b k).ends.length ≤ k ∧ (stB b k).recs.length = (stB b k).ends.length ∧ (stB b k).now.length ≤ 22 * k := by
  refine ⟨?_, stP_lens _, ?_⟩
  · induction k with
    | zero => exact Nat.le_refl _
    | succ k ih =>
      rw [stB_succ, RS.step]
      split
      · simp; omega
      · simp only; omega
  · induction k with
    | zero => exact Nat.le_refl _
    | succ k ih =>
      rw [stB_succ, RS.step]
      have : (decP b k).2.length ≤ 22 := by simp [decP, hdB]; omega
      split
      · simp
      · simp only [List.length_append]; omega
end Go.Proofs.Ytpmhnmkpmkeadaa
