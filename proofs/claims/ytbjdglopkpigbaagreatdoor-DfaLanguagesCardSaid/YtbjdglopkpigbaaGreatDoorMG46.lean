import Derived.Test.YtbjdglopkpigbaaGreatDoorRows
import Derived.WalkKit
import Derived.ProofKit
import Derived.OpenShut
import Derived.ShutString
import Derived.ChangeOld
import Derived.Below
import Derived.ChangeSlices
import Derived.Lib.SmallJoins
import Derived.SizedLaws
import Derived.Test.YtbjdglopkpigbaaGreatDoorCards
import Derived.Test.YtbjdglopkpigbaaGreatDoorTie
import Derived.Deep.DeepHandedRow
import Derived.Lib.LaidTab
import Derived.Test.YtbjdglopkpigbaaGreatDoorMG0
import Derived.Test.YtbjdglopkpigbaaGreatDoorMG3
import Derived.Test.YtbjdglopkpigbaaGreatDoorMG23
import Derived.Test.YtbjdglopkpigbaaGreatDoorMG24
/-
  Top, NaTop, DfaTop
-/
set_option linter.unusedVariables false
namespace Go.Proofs.YtbjdglopkpigbaaGreatDoor
open Go.ChangeShapes Go.WideShapes Go.ChangeAt Go.RowKit
theorem own : ownKnob Tryz.prog.godebug = none := by kernel_rfl
theorem laidOut : laidOutB Tryz.prog = true := by kernel_rfl
theorem blocks_lt {H : Type} {enc : TypeId × Value → H} {P : Program} {W : World} {s : Nat → Bool} {hd : Bool} {t : TypeId} {v : Value} {d : DataW H} {p : List MemPlace} (h : DataW.Trod enc P W 0 s hd t v d p) : ∀ x ∈ p, x.block < W.heap.size := by
 obtain ⟨m, hm⟩ := h
 exact DataW.trod_lt m _ _ _ hm
theorem ints_in {H : Type} {enc : TypeId × Value → H} {P : Program} {W : World} {t e : TypeId} {k : IntKind} {v : Value} {d : DataW H} {p : List MemPlace} {r : Reach} {b0 : Nat}
  (ht : P.underlying t = some (.slice e)) (he : P.underlying e = some (.int k)) (hc : P.cellsOf e = 1) (hv : Value.okWide P W r b0 t v) (h : DataW.Trod enc P W 0 (fun _ => true) true t v d p)
  {ts : List TypeId} {ds : List (DataW H)} (hsz : (DataW.weightsEach P ts ds).all (· ≤ reachBytes) = true) (j : Nat) (hj : ts[j]? = some t) (hd : ds[j]? = some d) (n : Nat) (hn : P.bytesOf e = n) :
  ∃ a len cap zs, v = .slice a len cap ∧ IsInts k W a len cap zs ∧ (∀ n ∈ zs, (Lit.int k n).wf = true) ∧ cap * n ≤ 140737488351232 := by
 obtain ⟨a, len, cap, rfl⟩ := okWide_slice ht hv
 obtain ⟨fuel, hf⟩ := h
 rcases open_ints ht he hc hf with ⟨hcs, _⟩ | ⟨x, l, c, zs, hcs, _, hl, hm, hz, hx, hcell, hwz⟩
 ·simp [Value.cells] at hcs
  obtain ⟨rfl, rfl, rfl⟩ := hcs
  exact ⟨_, _, _, [], rfl, .inl ⟨rfl, rfl, rfl, rfl⟩, (fun n hn => by cases hn), by omega⟩
 ·simp [Value.cells] at hcs
  obtain ⟨rfl, rfl, rfl⟩ := hcs
  have hsp : x.spot = none := by
   simp only [Value.okWide, ht, Cell.okWide, Cell.ok, World.has] at hv
   exact hv.2.2.2.1
  obtain ⟨b, off, s⟩ := x
  simp only at hsp
  subst hsp
  have hz' : zs.length = cap := by simpa using hz
  have hcap : cap * n ≤ 140737488351232 := by
   cases hx
   have := sized_slice hsz hj hd ht
   rw [hn] at this
   simp only [lits, List.length_map, List.length_take, List.length_drop, reachBytes] at this
   rw [show min len zs.length + (zs.length - len) = cap from by omega] at this
   exact this
  refine ⟨_, _, _, zs.take len, rfl, .inr ⟨b, off, rfl, hl, hm, by simp; omega, fun i hi => ?_⟩, (fun n hn => hwz n (List.mem_of_mem_take hn)), hcap⟩
  have := hcell i (by omega)
  rw [addr_add] at this
  rw [this, gi_take _ _ _ hi, gi]
end Go.Proofs.YtbjdglopkpigbaaGreatDoor
namespace Go.Proofs.YtbjdglopkpigbaaGreatDoor.Na
open Go.ChangeShapes Go.WideShapes Go.ChangeAt Go.RowKit Go.Shelf Go.Deep
theorem gTab : Tryz.prog.globalNamed "math/bits.deBruijn64tab" = some 0 := by kernel_rfl
theorem gTabType : (Tryz.prog.globals[0]?).map (·.type) = some 141 := by kernel_rfl
theorem cellsTab : Tryz.prog.cellsOf 141 = 64 := by kernel_rfl
theorem cellsByte : Tryz.prog.cellsOf 5 = 1 := by kernel_rfl
def tabZ : List Int := Lib.deBruijn64tab.map fun n : Nat => (n : Int)
def t32 : List Int := [0, 1, 28, 2, 29, 14, 24, 3, 30, 22, 20, 15, 25, 17, 4, 8, 31, 27, 13, 23, 21, 19, 16, 7, 26, 12, 18, 6, 11, 5, 10, 9]
def t10 : List Int := (List.range 20).map fun n : Nat => ((10 ^ n : Nat) : Int)
theorem tabIs_of_second {P : Program} {W : World} {name n0 : String} {d0 : DataW Unit} {k : IntKind} {zs : List Int} {rest : List (String × DataW Unit)} {g : Nat} {t e : TypeId} {n : Nat}
  (hg : P.globalNamed name = some g) (hty : (P.globals[g]?).map (·.type) = some t) (ht : P.underlying t = some (.array n e)) (he : P.underlying e = some (.int k)) (hce : P.cellsOf e = 1) (hct : P.cellsOf t = n)
  (h : laidMet P ((n0, d0) :: (name, Lib.tabData k zs) :: rest) W) : Lib.TabIs P W name k zs := by
 obtain ⟨ps, ⟨_, _, _, _, _, _, _, _, _, _, hr, _⟩, _⟩ := h
 obtain ⟨g', t', cs, fuel, p, q, hg', ht', hvar, hd, _, _⟩ := hr
 obtain rfl := Option.some.inj (hg.symm.trans hg')
 obtain rfl := Option.some.inj (hty.symm.trans ht')
 unfold Lib.TabIs
 rw [hvar, ← Lib.cells_of_tab ht he hce hct hd]
theorem table {W : World} {laid : List (String × DataW Unit)} (hl : laid = [("math/bits.deBruijn32tab", Rows.laid_math_bits_deBruijn32tab), ("math/bits.deBruijn64tab", Rows.laid_math_bits_deBruijn64tab), ("internal/strconv.uint64pow10", Rows.laid_internal_strconv_uint64pow10)]) (h : laidMetH Tryz.prog laid W) : TabAt 0 Lib.deBruijn64tab W := by
 subst hl
 have t : Lib.TabIs Tryz.prog W "math/bits.deBruijn64tab" .u8 tabZ :=
  tabIs_of_second (rest := [("internal/strconv.uint64pow10", Rows.laid_internal_strconv_uint64pow10)]) gTab gTabType Tryz.underlying141 Tryz.underlying5 cellsByte cellsTab h
 intro j hj
 have := t.cell gTab j (by simpa [tabZ] using hj)
 rw [this]
 congr 2
 simp [tabZ, List.getD, List.getElem?_map]
 cases Lib.deBruijn64tab[j]? <;> rfl
def setTab (h : Array Obj) (g : Nat) (vs : List Value) : Array Obj := h.modify g fun o => match o with
 | .cells _ t frozen => .cells vs.toArray t frozen
 | o => o
noncomputable def laidWorld (os : Os) : World :=
 { World.holding Tryz.prog os ⟨#[], #[], []⟩ with heap := setTab (setTab (setTab (World.holding Tryz.prog os ⟨#[], #[], []⟩).heap 0 (tabZ.map (Value.int .u8))) 2 (t32.map (Value.int .u8))) 1 (t10.map (Value.int .u64)) }
theorem spot_none {w : World} {a : Addr} {v : Value} (h : w.cell? a = some v) : a.spot = none := by
 obtain ⟨b, o, s⟩ := a
 cases s with
 | none => rfl
 | some x =>
  exfalso
  unfold World.cell? at h
  split at h
  ·simp at h
  ·cases h
section
variable {H : Type} {enc : TypeId × Value → H} {P : Program} {W : World}
theorem bools_trod {t e : TypeId} {fuel : Nat} {v : Value} {x : DataW H × List MemPlace} (ht : P.underlying t = some (.slice e)) (he : P.underlying e = some .bool) (ce : P.cellsOf e = 1)
  (h : DataW.trod enc P W 0 (fun _ => true) true fuel t [v] = some x) : ∃ a len cap ss, v = .slice a len cap ∧ IsBools W a len cap ss := by
 rcases Go.Deep.open_slice ht h with ⟨h2, _⟩ | ⟨x, len, cap, m, n, D, Pl, h2, hb, hl, hm, hmm, _, hx⟩
 ·simp at h2
  exact ⟨_, _, _, [], h2, isBools_nil W⟩
 ·simp only [List.cons.injEq, and_true] at h2
  have hm2 : m = cap := by simpa using hmm
  subst hm2
  rcases Nat.eq_zero_or_pos m with h0 | h0
  ·exact ⟨_, _, _, [], h2, .inl ⟨by omega, h0, rfl⟩⟩
  have hsp : x.spot = none := by
   obtain ⟨cs', g1, g2⟩ := hx 0 h0
   rw [ce] at g1
   obtain ⟨_, hlen, hc⟩ := World.cells?_some g1
   match cs', hlen with
   | [u0], _ =>
    have f0 := hc 0 (by omega)
    simp [Addr.add] at f0
    exact spot_none f0
  obtain ⟨b, off, s⟩ := x
  simp only at hsp
  subst hsp
  have each : ∀ i, i < len → ∃ q : Bool, W.cell? ⟨b, off + i, none⟩ = some (.bool q) := by
   intro i hi
   obtain ⟨cs', g1, g2⟩ := hx i (by omega)
   rw [ce, Nat.mul_one] at g1
   obtain ⟨_, hlen, hc⟩ := World.cells?_some g1
   match cs', hlen with
   | [u0], _ =>
    obtain ⟨q, e0, -⟩ := DataW.trod_bool he g2
    simp only [List.cons.injEq, and_true] at e0
    subst e0
    have f0 := hc 0 (by omega)
    rw [addr_add, addr_add] at f0
    exact ⟨q, by simpa using f0⟩
  obtain ⟨q, hq⟩ := Go.Deep.choose_lt each
  have hg : ∀ i, i < len → gb ((List.range len).map q) i = q i := by
   intro i hi
   rw [gb_eq _ _ (by simpa using hi)]
   simp
  exact ⟨_, len, m, (List.range len).map q, h2, .inr ⟨b, off, rfl, hl, hm, by simp, fun i hi => by rw [hg i hi]; exact hq i hi⟩⟩
theorem ints_trod {t e : TypeId} {fuel : Nat} {v : Value} {x : DataW H × List MemPlace} (ht : P.underlying t = some (.slice e)) (he : P.underlying e = some (.int .i64)) (ce : P.cellsOf e = 1)
  (h : DataW.trod enc P W 0 (fun _ => true) true fuel t [v] = some x) : ∃ a len cap ss, v = .slice a len cap ∧ ((∀ x, a = some x → x.spot = none) → IsInts .i64 W a len cap ss) := by
 rcases Go.Deep.open_slice ht h with ⟨h2, _⟩ | ⟨x, len, cap, m, n, D, Pl, h2, hb, hl, hm, hmm, _, hx⟩
 ·simp at h2
  exact ⟨_, _, _, [], h2, fun _ => .inl ⟨rfl, rfl, rfl, rfl⟩⟩
 ·simp only [List.cons.injEq, and_true] at h2
  have hm2 : m = cap := by simpa using hmm
  subst hm2
  rcases Nat.eq_zero_or_pos m with h0 | h0
  ·refine ⟨_, len, m, [], h2, fun hsp => .inr ?_⟩
   obtain ⟨b, off, s⟩ := x
   have hs := hsp _ rfl
   simp only at hs
   subst hs
   exact ⟨b, off, rfl, hl, hm, by simp; omega, fun i hi => absurd hi (by omega)⟩
  have hsp : x.spot = none := by
   obtain ⟨cs', g1, g2⟩ := hx 0 h0
   rw [ce] at g1
   obtain ⟨_, hlen, hc⟩ := World.cells?_some g1
   match cs', hlen with
   | [u0], _ =>
    have f0 := hc 0 (by omega)
    simp [Addr.add] at f0
    exact spot_none f0
  obtain ⟨b, off, s⟩ := x
  simp only at hsp
  subst hsp
  have each : ∀ i, i < len → ∃ q : Int, W.cell? ⟨b, off + i, none⟩ = some (.int .i64 q) := by
   intro i hi
   obtain ⟨cs', g1, g2⟩ := hx i (by omega)
   rw [ce, Nat.mul_one] at g1
   obtain ⟨_, hlen, hc⟩ := World.cells?_some g1
   match cs', hlen with
   | [u0], _ =>
    obtain ⟨q, e0, -⟩ := DataW.trod_int he g2
    simp only [List.cons.injEq, and_true] at e0
    subst e0
    have f0 := hc 0 (by omega)
    rw [addr_add, addr_add] at f0
    exact ⟨q, by simpa using f0⟩
  obtain ⟨q, hq⟩ := Go.Deep.choose_lt each
  have hg : ∀ i, i < len → gi ((List.range len).map q) i = q i := by
   intro i hi
   rw [gi_eq _ _ (by simpa using hi)]
   simp
  exact ⟨_, len, m, (List.range len).map q, h2, fun _ => .inr ⟨b, off, rfl, hl, hm, by simp, fun i hi => by rw [hg i hi]; exact hq i hi⟩⟩
theorem arcs_trod {t e : TypeId} {f0 f1 f2 : Field} {fuel : Nat} {v : Value} {x : DataW H × List MemPlace} (ht : P.underlying t = some (.slice e)) (he : P.underlying e = some (.struct #[f0, f1, f2])) (hone : oneCellFields P #[f0, f1, f2] = true) (ce : P.cellsOf e = 3)
  (k0 : P.underlying f0.type = some (.int .i64)) (k1 : P.underlying f1.type = some (.int .i64)) (k2 : P.underlying f2.type = some (.int .i64))
  (h : DataW.trod enc P W 0 (fun _ => true) true fuel t [v] = some x) : ∃ a len cap es, v = .slice a len cap ∧ IsArcs W a len cap es := by
 rcases Go.Deep.open_slice ht h with ⟨h2, _⟩ | ⟨x, len, cap, m, n, D, Pl, h2, hb, hl, hm, hmm, _, hx⟩
 ·simp at h2
  exact ⟨_, _, _, [], h2, isArcs_nil W⟩
 ·simp only [List.cons.injEq, and_true] at h2
  have hm2 : m = cap := by simpa using hmm
  subst hm2
  rcases Nat.eq_zero_or_pos m with h0 | h0
  ·exact ⟨_, _, _, [], h2, .inl ⟨by omega, h0, rfl⟩⟩
  have hsp : x.spot = none := by
   obtain ⟨cs', g1, g2⟩ := hx 0 h0
   rw [ce] at g1
   obtain ⟨_, hlen, hc⟩ := World.cells?_some g1
   match cs', hlen with
   | [u0, u1, u2], _ =>
    have f0 := hc 0 (by omega)
    simp [Addr.add] at f0
    exact spot_none f0
  obtain ⟨b, off, s⟩ := x
  simp only at hsp
  subst hsp
  obtain ⟨o0, c0⟩ := hone_of hone 0 f0 rfl
  obtain ⟨o1, c1⟩ := hone_of hone 1 f1 rfl
  obtain ⟨o2, c2⟩ := hone_of hone 2 f2 rfl
  have each : ∀ i, i < len → ∃ q : A3, W.cell? ⟨b, off + i * 3, none⟩ = some (.int .i64 q.f) ∧ W.cell? ⟨b, off + i * 3 + 1, none⟩ = some (.int .i64 q.l) ∧ W.cell? ⟨b, off + i * 3 + 2, none⟩ = some (.int .i64 q.t) := by
   intro i hi
   obtain ⟨cs', g1, g2⟩ := hx i (by omega)
   rw [ce] at g1
   obtain ⟨_, hlen, hc⟩ := World.cells?_some g1
   match cs', hlen with
   | [u0, u1, u2], _ =>
    obtain ⟨y0, y1, y2, n, _, _, t0, t1, t2⟩ := Go.Deep.trod_struct3 he g2
    rw [o0, c0] at t0
    rw [o1, c1] at t1
    rw [o2, c2] at t2
    obtain ⟨q0, e0, -⟩ := DataW.trod_int k0 t0
    obtain ⟨q1, e1, -⟩ := DataW.trod_int k1 t1
    obtain ⟨q2, e2, -⟩ := DataW.trod_int k2 t2
    simp at e0 e1 e2
    subst e0 e1 e2
    have f0 := hc 0 (by omega)
    have f1 := hc 1 (by omega)
    have f2 := hc 2 (by omega)
    rw [addr_add, addr_add] at f0 f1 f2
    exact ⟨⟨q0, q1, q2⟩, by simpa using f0, by simpa using f1, by simpa using f2⟩
  obtain ⟨q, hq⟩ := Go.Deep.choose_lt each
  have hg : ∀ i, i < len → g3 ((List.range len).map q) i = q i := by
   intro i hi
   rw [g3_eq _ _ (by simpa using hi)]
   simp
  exact ⟨_, len, m, (List.range len).map q, h2, .inr ⟨b, off, rfl, hl, hm, by simp, fun i hi => by rw [hg i hi]; exact hq i hi⟩⟩
theorem start_spot {t u0 u1 u2 u3 e : TypeId} {v0 v2 v3 : Value} {x : Addr} {l c : Nat} {r : Reach} {b0 : Nat} {fs : Array Field} (hs : P.underlying t = some (.struct fs)) (hts : P.cellTypes P.depth t = some [u0, u1, u2, u3]) (hu : P.underlying u1 = some (.slice e))
  (hv : Value.okWide P W r b0 t (.agg #[v0, .slice (some x) l c, v2, v3])) : x.spot = none := by
 unfold Value.okWide at hv
 rw [hs] at hv
 obtain ⟨cs, e1, -, ts, h1, -, h2⟩ := hv
 injection e1 with e1
 subst e1
 rw [hts] at h1
 injection h1 with h1
 subst h1
 obtain ⟨u, hu1, hc⟩ := h2 1 _ rfl
 have hu2 : u1 = u := by simpa using hu1
 subst hu2
 simp only [Cell.okWide, hu, Cell.ok, World.has] at hc
 exact hc.2.2.2.1
theorem nfa_in {t st bt at' u0 u1 u2 u3 e1 : TypeId} {f0 f1 f2 f3 g0 g1 g2 : Field} {v : Value} {d : DataW H} {p : List MemPlace} {r : Reach} {b0 : Nat} (hs : P.underlying t = some (.struct #[f0, f1, f2, f3])) (hone : oneCellFields P #[f0, f1, f2, f3] = true) (hC : P.cellsOf t = 4) (hts : P.cellTypes P.depth t = some [u0, u1, u2, u3]) (hu : P.underlying u1 = some (.slice e1))
  (k0 : P.underlying f0.type = some (.int .i64)) (k1 : P.underlying f1.type = some (.slice st)) (ks : P.underlying st = some (.int .i64)) (cs : P.cellsOf st = 1) (k2 : P.underlying f2.type = some (.slice bt)) (kb : P.underlying bt = some .bool) (cb : P.cellsOf bt = 1)
  (k3 : P.underlying f3.type = some (.slice at')) (ka : P.underlying at' = some (.struct #[g0, g1, g2])) (honeA : oneCellFields P #[g0, g1, g2] = true) (ca : P.cellsOf at' = 3)
  (m0 : P.underlying g0.type = some (.int .i64)) (m1 : P.underlying g1.type = some (.int .i64)) (m2 : P.underlying g2.type = some (.int .i64))
  (hv : Value.okWide P W r b0 t v) (h : DataW.Trod enc P W 0 (fun _ => true) true t v d p) : ∃ D H', v = vNf D H' ∧ IsNfa W H' D := by
 obtain ⟨v0, v1, v2, v3, y0, y1, y2, y3, n, rfl, -, -, t0, t1, t2, t3⟩ := Go.Joins.open_agg4 hs hone hC hv h
 obtain ⟨q0, e0, -⟩ := DataW.trod_int k0 t0
 simp only [List.cons.injEq, and_true] at e0
 subst e0
 obtain ⟨sa, sl, sc, zs, rfl, h1⟩ := ints_trod k1 ks cs t1
 obtain ⟨fa, fl, fc, ss, rfl, h2⟩ := bools_trod k2 kb cb t2
 obtain ⟨aa, al, ac, es, rfl, h3⟩ := arcs_trod k3 ka honeA ca m0 m1 m2 t3
 exact ⟨⟨q0, zs, ss, es⟩, ⟨sa, sl, sc, fa, fl, fc, aa, al, ac⟩, rfl, ⟨h1 (fun x hx => by subst hx; exact start_spot hs hts hu hv), h2, h3⟩⟩
end
end Go.Proofs.YtbjdglopkpigbaaGreatDoor.Na
namespace Go.Proofs.YtbjdglopkpigbaaGreatDoor
open Go.ChangeShapes Go.WideShapes Go.ChangeAt Go.RowKit Go.Deep
theorem spot_none {w : World} {a : Addr} {v : Value} (h : w.cell? a = some v) : a.spot = none := by
 obtain ⟨b, o, s⟩ := a
 cases s with
 | none => rfl
 | some x =>
  exfalso
  unfold World.cell? at h
  split at h
  ·simp at h
  ·cases h
section
variable {H : Type} {enc : TypeId × Value → H} {P : Program} {W : World}
theorem bools_trod {t e : TypeId} {fuel : Nat} {v : Value} {x : DataW H × List MemPlace} (ht : P.underlying t = some (.slice e)) (he : P.underlying e = some .bool) (ce : P.cellsOf e = 1)
  (h : DataW.trod enc P W 0 (fun _ => true) true fuel t [v] = some x) : ∃ a len cap ss, v = .slice a len cap ∧ IsBools W a len cap ss := by
 rcases Go.Deep.open_slice ht h with ⟨h2, _⟩ | ⟨x, len, cap, m, n, D, Pl, h2, hb, hl, hm, hmm, _, hx⟩
 ·simp at h2
  exact ⟨_, _, _, [], h2, isBools_nil W⟩
 ·simp only [List.cons.injEq, and_true] at h2
  have hm2 : m = cap := by simpa using hmm
  subst hm2
  rcases Nat.eq_zero_or_pos m with h0 | h0
  ·exact ⟨_, _, _, [], h2, .inl ⟨by omega, h0, rfl⟩⟩
  have hsp : x.spot = none := by
   obtain ⟨cs', g1, g2⟩ := hx 0 h0
   rw [ce] at g1
   obtain ⟨_, hlen, hc⟩ := World.cells?_some g1
   match cs', hlen with
   | [u0], _ =>
    have f0 := hc 0 (by omega)
    simp [Addr.add] at f0
    exact spot_none f0
  obtain ⟨b, off, s⟩ := x
  simp only at hsp
  subst hsp
  have each : ∀ i, i < len → ∃ q : Bool, W.cell? ⟨b, off + i, none⟩ = some (.bool q) := by
   intro i hi
   obtain ⟨cs', g1, g2⟩ := hx i (by omega)
   rw [ce, Nat.mul_one] at g1
   obtain ⟨_, hlen, hc⟩ := World.cells?_some g1
   match cs', hlen with
   | [u0], _ =>
    obtain ⟨q, e0, -⟩ := DataW.trod_bool he g2
    simp only [List.cons.injEq, and_true] at e0
    subst e0
    have f0 := hc 0 (by omega)
    rw [addr_add, addr_add] at f0
    exact ⟨q, by simpa using f0⟩
  obtain ⟨q, hq⟩ := Go.Deep.choose_lt each
  have hg : ∀ i, i < len → gb ((List.range len).map q) i = q i := by
   intro i hi
   rw [gb_eq _ _ (by simpa using hi)]
   simp
  exact ⟨_, len, m, (List.range len).map q, h2, .inr ⟨b, off, rfl, hl, hm, by simp, fun i hi => by rw [hg i hi]; exact hq i hi⟩⟩
theorem arcs_trod {t e : TypeId} {f0 f1 f2 : Field} {fuel : Nat} {v : Value} {x : DataW H × List MemPlace} (ht : P.underlying t = some (.slice e)) (he : P.underlying e = some (.struct #[f0, f1, f2])) (hone : oneCellFields P #[f0, f1, f2] = true) (ce : P.cellsOf e = 3)
  (k0 : P.underlying f0.type = some (.int .i64)) (k1 : P.underlying f1.type = some (.int .i64)) (k2 : P.underlying f2.type = some (.int .i64))
  (h : DataW.trod enc P W 0 (fun _ => true) true fuel t [v] = some x) : ∃ a len cap es, v = .slice a len cap ∧ IsArcs W a len cap es := by
 rcases Go.Deep.open_slice ht h with ⟨h2, _⟩ | ⟨x, len, cap, m, n, D, Pl, h2, hb, hl, hm, hmm, _, hx⟩
 ·simp at h2
  exact ⟨_, _, _, [], h2, isArcs_nil W⟩
 ·simp only [List.cons.injEq, and_true] at h2
  have hm2 : m = cap := by simpa using hmm
  subst hm2
  rcases Nat.eq_zero_or_pos m with h0 | h0
  ·exact ⟨_, _, _, [], h2, .inl ⟨by omega, h0, rfl⟩⟩
  have hsp : x.spot = none := by
   obtain ⟨cs', g1, g2⟩ := hx 0 h0
   rw [ce] at g1
   obtain ⟨_, hlen, hc⟩ := World.cells?_some g1
   match cs', hlen with
   | [u0, u1, u2], _ =>
    have f0 := hc 0 (by omega)
    simp [Addr.add] at f0
    exact spot_none f0
  obtain ⟨b, off, s⟩ := x
  simp only at hsp
  subst hsp
  obtain ⟨o0, c0⟩ := hone_of hone 0 f0 rfl
  obtain ⟨o1, c1⟩ := hone_of hone 1 f1 rfl
  obtain ⟨o2, c2⟩ := hone_of hone 2 f2 rfl
  have each : ∀ i, i < len → ∃ q : A3, W.cell? ⟨b, off + i * 3, none⟩ = some (.int .i64 q.f) ∧ W.cell? ⟨b, off + i * 3 + 1, none⟩ = some (.int .i64 q.l) ∧ W.cell? ⟨b, off + i * 3 + 2, none⟩ = some (.int .i64 q.t) := by
   intro i hi
   obtain ⟨cs', g1, g2⟩ := hx i (by omega)
   rw [ce] at g1
   obtain ⟨_, hlen, hc⟩ := World.cells?_some g1
   match cs', hlen with
   | [u0, u1, u2], _ =>
    obtain ⟨y0, y1, y2, n, _, _, t0, t1, t2⟩ := Go.Deep.trod_struct3 he g2
    rw [o0, c0] at t0
    rw [o1, c1] at t1
    rw [o2, c2] at t2
    obtain ⟨q0, e0, -⟩ := DataW.trod_int k0 t0
    obtain ⟨q1, e1, -⟩ := DataW.trod_int k1 t1
    obtain ⟨q2, e2, -⟩ := DataW.trod_int k2 t2
    simp at e0 e1 e2
    subst e0 e1 e2
    have f0 := hc 0 (by omega)
    have f1 := hc 1 (by omega)
    have f2 := hc 2 (by omega)
    rw [addr_add, addr_add] at f0 f1 f2
    exact ⟨⟨q0, q1, q2⟩, by simpa using f0, by simpa using f1, by simpa using f2⟩
  obtain ⟨q, hq⟩ := Go.Deep.choose_lt each
  have hg : ∀ i, i < len → g3 ((List.range len).map q) i = q i := by
   intro i hi
   rw [g3_eq _ _ (by simpa using hi)]
   simp
  exact ⟨_, len, m, (List.range len).map q, h2, .inr ⟨b, off, rfl, hl, hm, by simp, fun i hi => by rw [hg i hi]; exact hq i hi⟩⟩
theorem dfa_in {t bt at' : TypeId} {f0 f1 f2 f3 g0 g1 g2 : Field} {v : Value} {d : DataW H} {p : List MemPlace} {r : Reach} {b0 : Nat} (hs : P.underlying t = some (.struct #[f0, f1, f2, f3])) (hone : oneCellFields P #[f0, f1, f2, f3] = true) (hC : P.cellsOf t = 4)
  (k0 : P.underlying f0.type = some (.int .i64)) (k1 : P.underlying f1.type = some (.int .i64)) (k2 : P.underlying f2.type = some (.slice bt)) (kb : P.underlying bt = some .bool) (cb : P.cellsOf bt = 1)
  (k3 : P.underlying f3.type = some (.slice at')) (ka : P.underlying at' = some (.struct #[g0, g1, g2])) (honeA : oneCellFields P #[g0, g1, g2] = true) (ca : P.cellsOf at' = 3)
  (m0 : P.underlying g0.type = some (.int .i64)) (m1 : P.underlying g1.type = some (.int .i64)) (m2 : P.underlying g2.type = some (.int .i64))
  (hv : Value.okWide P W r b0 t v) (h : DataW.Trod enc P W 0 (fun _ => true) true t v d p) : ∃ D H', v = vDf D H' ∧ IsDfa W H' D := by
 obtain ⟨v0, v1, v2, v3, y0, y1, y2, y3, n, rfl, -, -, t0, t1, t2, t3⟩ := Go.Joins.open_agg4 hs hone hC hv h
 obtain ⟨q0, e0, -⟩ := DataW.trod_int k0 t0
 obtain ⟨q1, e1, -⟩ := DataW.trod_int k1 t1
 simp only [List.cons.injEq, and_true] at e0 e1
 subst e0 e1
 obtain ⟨fa, fl, fc, ss, rfl, h2⟩ := bools_trod k2 kb cb t2
 obtain ⟨aa, al, ac, es, rfl, h3⟩ := arcs_trod k3 ka honeA ca m0 m1 m2 t3
 exact ⟨⟨q0, q1, ss, es⟩, ⟨fa, fl, fc, aa, al, ac⟩, rfl, h2, h3⟩
end
end Go.Proofs.YtbjdglopkpigbaaGreatDoor
