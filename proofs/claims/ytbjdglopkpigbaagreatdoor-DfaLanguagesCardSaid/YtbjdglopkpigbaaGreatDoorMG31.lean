import Derived.Test.YtbjdglopkpigbaaGreatDoorMG27
import Derived.Test.YtbjdglopkpigbaaGreatDoorMG30
import Derived.Test.YtbjdglopkpigbaaGreatDoorMG50
/-
  OrdPg, DfaEa, DfaEb
-/
set_option linter.unusedSimpArgs false
set_option linter.unusedVariables false
namespace Go.Proofs.YtbjdglopkpigbaaGreatDoor
open Go.RowKit
def gp (es : List (Int × Int)) (i : Nat) : Int × Int := es.getD i (0, 0)
theorem gp_eq (es : List (Int × Int)) (i : Nat) (h : i < es.length) : gp es i = es[i] := by simp [gp, List.getD, h]
theorem take_succ_gp (es : List (Int × Int)) (k : Nat) (h : k < es.length) : es.take (k + 1) = es.take k ++ [gp es k] := by
 rw [gp_eq es k h, List.take_append_getElem h]
def IsPairs (w : World) (a : Option Addr) (len cap : Nat) (es : List (Int × Int)) : Prop :=
 (a = none ∧ len = 0 ∧ cap = 0 ∧ es = []) ∨
 ∃ b off, a = some ⟨b, off, none⟩ ∧ len ≤ cap ∧ cap ≤ maxLen ∧ es.length = len ∧ ∀ i, i < len → w.cell? ⟨b, off + i * 2, none⟩ = some (.int .i64 (gp es i).1) ∧ w.cell? ⟨b, off + i * 2 + 1, none⟩ = some (.int .i64 (gp es i).2)
theorem IsPairs.length {w : World} {a : Option Addr} {len cap : Nat} {es : List (Int × Int)} (h : IsPairs w a len cap es) : es.length = len := by
 rcases h with ⟨_, h, _, rfl⟩ | ⟨_, _, _, _, _, h, _⟩
 ·rw [h]; rfl
 ·exact h
theorem IsPairs.later {w w' : World} {a : Option Addr} {len cap : Nat} {es : List (Int × Int)} (h : IsPairs w a len cap es) (hb : Below w.heap.size w w') : IsPairs w' a len cap es := by
 rcases h with h | ⟨b, off, h1, h2, h3, h4, h5⟩
 ·exact .inl h
 ·exact .inr ⟨b, off, h1, h2, h3, h4, fun i hi => ⟨(hb.cell (p := ⟨b, off + i * 2, none⟩) (lt_of_cell (h5 i hi).1)).trans (h5 i hi).1, (hb.cell (p := ⟨b, off + i * 2 + 1, none⟩) (lt_of_cell (h5 i hi).2)).trans (h5 i hi).2⟩⟩
theorem IsPairs.at {w : World} {a : Option Addr} {len cap : Nat} {es : List (Int × Int)} (h : IsPairs w a len cap es) (W : World) (hb : Below w.heap.size w W) (i : Nat) (hi : i < len) :
  ∃ b off, a = some ⟨b, off, none⟩ ∧ b < w.heap.size ∧ W.cell? ⟨b, off + i * 2, none⟩ = some (.int .i64 (gp es i).1) ∧ W.cell? ⟨b, off + i * 2 + 1, none⟩ = some (.int .i64 (gp es i).2) := by
 have h' := h.later hb
 rcases h with ⟨_, h0, _⟩ | ⟨b, off, rfl, _, _, _, hc⟩
 ·omega
 ·rcases h' with ⟨h0, _⟩ | ⟨b', off', e, _, _, _, hc'⟩
  ·cases h0
  ·injection e with e; injection e with e1 e2; subst e1; subst e2
   exact ⟨b, off, rfl, lt_of_cell (hc i hi).1, hc' i hi⟩
def pvs (ps : List (Int × Int)) : List Value := ps.flatMap fun e => [.int .i64 e.1, .int .i64 e.2]
theorem pvs_cons (e : Int × Int) (ps : List (Int × Int)) : pvs (e :: ps) = .int .i64 e.1 :: .int .i64 e.2 :: pvs ps := rfl
theorem pvs_length : ∀ ps : List (Int × Int), (pvs ps).length = ps.length * 2
 | [] => rfl
 | e :: ps => by
  have := pvs_length ps
  rw [pvs_cons, List.length_cons, List.length_cons, List.length_cons]
  omega
theorem pvs_get : ∀ (ps : List (Int × Int)) (i : Nat), i < ps.length → (pvs ps)[i * 2]? = some (.int .i64 (gp ps i).1) ∧ (pvs ps)[i * 2 + 1]? = some (.int .i64 (gp ps i).2)
 | [], i, h => absurd h (Nat.not_lt_zero _)
 | e :: ps, 0, _ => ⟨rfl, rfl⟩
 | e :: ps, i + 1, h => by
  have ih := pvs_get ps i (by simpa using h)
  rw [show (i + 1) * 2 = i * 2 + 1 + 1 by omega, pvs_cons]
  exact ih
theorem IsPairs.of_owns {w : World} {B e : Nat} {a : Option Addr} {len cap n : Nat} {ps : List (Int × Int)} (h : w.ownsRow B e 2 (.slice a len cap) n (pvs ps)) : IsPairs w a len cap ps ∧ len = n := by
 obtain ⟨hl, h⟩ := h
 rw [pvs_length] at hl
 rcases h with ⟨e1, rfl⟩ | ⟨g, c, cur, e1, hg, hh, hn, hc, hs, ht⟩
 ·cases e1
  have : ps = [] := List.eq_nil_of_length_eq_zero (by omega)
  exact ⟨.inl ⟨rfl, rfl, rfl, this⟩, rfl⟩
 ·cases e1
  have hps : ps.length = len := by omega
  have key : ∀ j, j < len * 2 → w.cell? ⟨g, 0 + j, none⟩ = (pvs ps)[j]? := fun j hj => by
   have := congrArg (fun l => l[j]?) ht
   simp only [List.getElem?_take, if_pos hj] at this
   simp only [World.cell?, hh, Nat.zero_add]
   simpa using this
  refine ⟨.inr ⟨g, 0, rfl, hn, hc, hps, fun i hi => ?_⟩, rfl⟩
  have hp := pvs_get ps i (by omega)
  exact ⟨(key _ (by omega)).trans hp.1, (key _ (by omega)).trans hp.2⟩
end Go.Proofs.YtbjdglopkpigbaaGreatDoor
namespace Go.Proofs.YtbjdglopkpigbaaGreatDoor
open Go.RowKit
theorem rows_ext {xs ys : List (List Int)} (hl : xs.length = ys.length) (h : ∀ i, i < xs.length → gr xs i = gr ys i) : xs = ys := by
 apply List.ext_getElem hl
 intro i h1 h2
 have := h i h1
 simpa [gr, List.getD, h1, h2] using this
theorem gr_set {g : List (List Int)} {i : Nat} (hi : i < g.length) (l : List Int) (j : Nat) : gr (g.set i l) j = if j = i then l else gr g j := by
 by_cases e : j = i
 ·subst e; rw [if_pos rfl]; simp [gr, List.getD, hi]
 ·rw [if_neg e]; simp [gr, List.getD, List.getElem?_set_ne (Ne.symm e)]
theorem gr_replicate (N i : Nat) : gr (List.replicate N ([] : List Int)) i = [] := by
 by_cases h : i < N
 ·simp [gr, List.getD, h]
 ·simp [gr, List.getD, h]
theorem make_rows {P : Program} {T E : TypeId} {bytes : Nat} {z : Value} (el : Elem P T E z 1 bytes) (hz : z.cells = #[z]) {w : World} {ops : Array Oper} {rest : List Oper} {o : Oper} {a : Act} {Q : Exit → Act → World → Prop} (hgd : Region.wanted o (yielded ops a.tmps) = true) (l c : Operand)
  (ho : o.op = .makeSlice T l c) {B : Nat} {kl kc : IntKind} {n : Nat} {C C' : Int} (hl : a.eval l = .int kl C') (hc : a.eval c = .int kc C) (hC : C = n) (hC' : C' = n) (hb : n * (bytes + 1) ≤ 140737488355328) (hB : B ≤ w.heap.size)
  (h : ∀ w', w'.ownsRow B E 1 (.slice (some ⟨w.heap.size, 0, none⟩) n n) n (List.replicate n z) → Below B w w' → wpList P ops Q rest (a.put o.dst (.slice (some ⟨w.heap.size, 0, none⟩) n n)) w') : wpList P ops Q (o :: rest) a w := by
 refine wpList_wanted hgd fun K hK => wp_make_full el l c ho hl hc hC hC' hb hB fun w' h1 _ h3 => hK _ _ (h w' ?_ h3)
 rw [hz, Nat.mul_one, toList_madeCells_one] at h1
 exact h1
/-! The rows while they are laid. -/
def tgt (es : List (Int × Int)) (a : Nat) : List Int := (es.filter fun e => decide (e.1 = (a : Int))).map Prod.snd
def rowsK (es : List (Int × Int)) (N k : Nat) : List (List Int) := (List.range N).map fun a => tgt (es.take k) a
theorem rowsK_length (es : List (Int × Int)) (N k : Nat) : (rowsK es N k).length = N := by simp [rowsK]
theorem gr_rowsK {es : List (Int × Int)} {N k a : Nat} (ha : a < N) : gr (rowsK es N k) a = tgt (es.take k) a := by
 rw [gr_eq _ _ (by rw [rowsK_length]; exact ha)]
 simp [rowsK]
theorem rowsK_zero (es : List (Int × Int)) (N : Nat) : rowsK es N 0 = List.replicate N [] := by
 refine rows_ext (by simp [rowsK]) fun i hi => ?_
 rw [rowsK_length] at hi
 rw [gr_rowsK hi, gr_replicate]
 rfl
theorem tgt_len (es : List (Int × Int)) (a : Nat) : (tgt es a).length ≤ es.length := by
 unfold tgt
 rw [List.length_map]
 exact List.length_filter_le _ _
theorem tgt_snoc (es : List (Int × Int)) (e : Int × Int) (a : Nat) : tgt (es ++ [e]) a = tgt es a ++ if e.1 = (a : Int) then [e.2] else [] := by
 unfold tgt
 rw [List.filter_append, List.map_append]
 by_cases h : e.1 = (a : Int) <;> simp [h]
theorem rowsK_succ {es : List (Int × Int)} {N k A : Nat} {y : Int} (hk : k < es.length) (hA : A < N) (hx : (gp es k).1 = (A : Int)) (hy : (gp es k).2 = y) : (rowsK es N k).set A (gr (rowsK es N k) A ++ [y]) = rowsK es N (k + 1) := by
 refine rows_ext (by simp [rowsK]) fun i hi => ?_
 rw [List.length_set, rowsK_length] at hi
 rw [gr_set (by rw [rowsK_length]; exact hA), gr_rowsK hi, gr_rowsK hi, take_succ_gp es k hk, tgt_snoc, hx, hy]
 by_cases e : i = A
 ·subst e; rw [if_pos rfl, if_pos rfl, gr_rowsK hA]
 ·rw [if_neg e, if_neg (by omega), List.append_nil]
theorem mem_tgt {es : List (Int × Int)} {a : Nat} {z : Int} : z ∈ tgt es a ↔ ((a : Int), z) ∈ es := by
 unfold tgt
 rw [List.mem_map]
 constructor
 ·rintro ⟨⟨x, y⟩, h, rfl⟩
  rw [List.mem_filter] at h
  have := of_decide_eq_true h.2
  simp only at this
  rw [← this]; exact h.1
 ·intro h
  exact ⟨_, List.mem_filter.2 ⟨h, by simp⟩, rfl⟩
def backP (es : List A3) : List (Int × Int) := es.map fun x => (x.t, x.f)
theorem gp_backP {es : List A3} {k : Nat} (hk : k < es.length) : gp (backP es) k = ((g3 es k).t, (g3 es k).f) := by
 rw [g3_eq _ _ hk]
 simp [gp, backP, List.getD, hk]
theorem mem_backP {es : List A3} {a z : Int} : (a, z) ∈ backP es ↔ ∃ x ∈ es, x.t = a ∧ x.f = z := by
 unfold backP
 rw [List.mem_map]
 constructor
 ·rintro ⟨x, hx, e⟩
  injection e with e1 e2
  exact ⟨x, hx, e1, e2⟩
 ·rintro ⟨x, hx, e1, e2⟩
  exact ⟨x, hx, by rw [e1, e2]⟩
theorem set_gb {os : List Bool} {n : Nat} (h : gb os n = true) : os.set n true = os := by
 have hl : n < os.length := Nat.lt_of_not_le fun hle => by rw [gb_over hle] at h; cases h
 refine gb_ext (by simp) fun i hi => ?_
 rw [gb_put hl]
 by_cases e : i = n
 ·subst e; rw [if_pos rfl, h]
 ·rw [if_neg e]
def tdV (os : List Bool) (td : List Int) (n : Nat) : List Int := if gb os n = true then td else td ++ [(n : Int)]
def UsefulAt (d : Dfa) (n : Nat) : Prop := ∃ w, accQ d n w = true
structure EndI (d : Dfa) (os : List Bool) (td : List Int) : Prop where
 len : (os.length : Int) = d.n
 nd : td.Nodup
 iff : ∀ i : Nat, (i : Int) < d.n → (gb os i = true ↔ (i : Int) ∈ td)
 rng : ∀ z ∈ td, 0 ≤ z ∧ z < d.n
 use : ∀ i : Nat, gb os i = true → UsefulAt d i
section
variable {d : Dfa} {os : List Bool} {td : List Int}
theorem EndI.start (hv : ValidD d) : EndI d (List.replicate d.n.toNat false) [] := by
 have h1 := hv.1
 have h0 : ∀ i, gb (List.replicate d.n.toNat false) i = false := fun i => by
  rcases Nat.lt_or_ge i d.n.toNat with h | h
  ·rw [gb_eq _ _ (by simpa using h)]; simp
  ·exact gb_over (by simpa using h)
 refine ⟨by rw [List.length_replicate]; omega, List.nodup_nil, fun i _ => by rw [h0]; simp, fun z hz => by simp at hz, fun i h => by rw [h0] at h; cases h⟩
theorem EndI.tlen (h : EndI d os td) : td.length ≤ d.n.toNat := ints_le h.nd h.rng
theorem EndI.visit (h : EndI d os td) {n : Nat} (hn : (n : Int) < d.n) (hu : UsefulAt d n) : EndI d (os.set n true) (tdV os td n) := by
 have hl := h.len
 unfold tdV
 by_cases hg : gb os n = true
 ·rw [if_pos hg, set_gb hg]; exact h
 ·have hno : (n : Int) ∉ td := fun hm => hg ((h.iff n hn).2 hm)
  rw [if_neg hg]
  refine ⟨by rw [List.length_set]; exact hl, ?_, fun i hi => ?_, fun z hz => ?_, fun i hi => ?_⟩
  ·rw [List.nodup_append]
   refine ⟨h.nd, by simp, fun a ha b hb => ?_⟩
   rw [List.mem_singleton.1 hb]
   rintro rfl
   exact hno ha
  ·rw [gb_put (by omega), List.mem_append, List.mem_singleton, ← h.iff i hi]
   by_cases e : i = n
   ·subst e; simp
   ·rw [if_neg e]
    exact ⟨.inl, fun h => h.elim id fun e' => absurd (by omega) e⟩
  ·rcases List.mem_append.1 hz with hz | hz
   ·exact h.rng z hz
   ·rw [List.mem_singleton.1 hz]; omega
  ·rw [gb_put (by omega)] at hi
   by_cases e : i = n
   ·subst e; exact hu
   ·rw [if_neg e] at hi; exact h.use i hi
theorem tdV_pre (os : List Bool) (td : List Int) (n : Nat) : td <+: tdV os td n := by
 unfold tdV
 split
 ·exact List.prefix_refl _
 ·exact List.prefix_append _ _
theorem set_mono {os : List Bool} {n i : Nat} (h : gb os i = true) : gb (os.set n true) i = true := by
 rcases Nat.lt_or_ge n os.length with hn | hn
 ·rw [gb_put hn]
  split
  ·rfl
  ·exact h
 ·rw [List.set_eq_of_length_le hn]; exact h
theorem set_self {os : List Bool} {n : Nat} (hn : n < os.length) : gb (os.set n true) n = true := by rw [gb_put hn, if_pos rfl]
theorem gi_pre {xs ys : List Int} (h : xs <+: ys) {i : Nat} (hi : i < xs.length) : gi ys i = gi xs i := by
 obtain ⟨h', e⟩ := get_pre h hi
 rw [gi_eq _ _ h', gi_eq _ _ hi, e]
theorem UsefulAt.fin {n : Nat} (h : gb d.fin n = true) : UsefulAt d n := ⟨[], by rw [accQ_nil, Int.toNat_natCast]; exact h⟩
theorem UsefulAt.arc (hv : ValidD d) {x : A3} (hx : x ∈ d.arcs) (h : UsefulAt d x.t.toNat) : UsefulAt d x.f.toNat := by
 obtain ⟨w, hw⟩ := h
 have ha := (hv.arc hx).1
 rw [Int.toNat_of_nonneg ha.2.1] at hw
 exact ⟨x.l :: w, by rw [Int.toNat_of_nonneg ha.1.1, accQ_some (nxtD_unique hv.sorted hx)]; exact hw⟩
def DoneAt (d : Dfa) (os : List Bool) (a : Int) : Prop := ∀ x ∈ d.arcs, x.t = a → gb os x.f.toNat = true
theorem ends_fin (hv : ValidD d) (h : EndI d os td) (hf : ∀ i : Nat, (i : Int) < d.n → gb d.fin i = true → gb os i = true) (hd : ∀ j, j < td.length → DoneAt d os (gi td j)) : os = keepU d := by
 refine keepU_eq hv h.len hf (fun x hx hg => ?_) fun i _ hi => h.use i hi
 have ha := (hv.arc hx).1.2
 have hm := (h.iff x.t.toNat (by omega)).1 hg
 rw [Int.toNat_of_nonneg ha.1] at hm
 have hl := List.idxOf_lt_length_of_mem hm
 refine hd _ hl x hx ?_
 rw [gi_eq _ _ hl, List.getElem_idxOf]
end
end Go.Proofs.YtbjdglopkpigbaaGreatDoor
namespace Go.Proofs.YtbjdglopkpigbaaGreatDoor
open Go.RowKit
attribute [local go_sem] Oper.semAt_some
def endPs (po pt gr N : Nat) (os : List Bool) (td : List Int) (vt : Value) : List Pc :=
 [.row 4 1 (.slice (some ⟨gr, 0, none⟩) N N) N (bvs os), .blk po #[.slice (some ⟨gr, 0, none⟩) N N], .blk pt #[vt], .row 3 1 vt td.length (ivs .i64 td)]
def Visited (B po pt gr N : Nat) (os : List Bool) (td : List Int) (n : Nat) (W W' : World) : Prop := (∃ a' c', Pcs W' B (endPs po pt gr N (os.set n true) (tdV os td n) (.slice a' (tdV os td n).length c'))) ∧ Below B W W'
theorem visit_any {W : World} {B po pt gr N n : Nat} {os : List Bool} {td : List Int} {at' : Option Addr} {ct : Nat} (hP : Pcs W B (endPs po pt gr N os td (.slice at' td.length ct))) (hos : os.length = N) (hn : n < N) (htd : td.length ≤ 1000) (hB : B ≤ W.heap.size) :
  Calls Tryz.prog 35 #[.int .i64 (n : Int), .pointer (some ⟨po, 0, none⟩), .pointer (some ⟨pt, 0, none⟩)] W fun e W' => e = .returned (.tuple #[]) ∧ Visited B po pt gr N os td n W W' := by
 have c0 : W.cell? ⟨po, 0, none⟩ = some (.slice (some ⟨gr, 0, none⟩) N N) := ((hP.blk 1 rfl).2.cell 0).1
 obtain ⟨k0, f0⟩ := bown_cell (hP.row 0 rfl) hn hos
 cases hg : gb os n with
 | true =>
  rw [hg] at k0
  have HV : Hid (Visited B po pt gr N os td n W W) := Lib.hid ⟨⟨at', ct, by unfold tdV; rw [if_pos hg, set_gb hg]; exact hP⟩, Below.refl _ _⟩
  clear hP
  go_enter Tryz.func35, Tryz.ntmps35
  go_wp2
  exact ⟨rfl, _, results_none rfl _ _ _, rfl, HV.out⟩
 | false =>
  rw [hg] at k0
  have hT : Hid (tdV os td n = td ++ [(n : Int)]) := Lib.hid (by unfold tdV; rw [hg]; rfl)
  have hP1 := hP.rowStore 0 rfl n (.bool true)
  obtain ⟨W1, hW1⟩ : ∃ W1, W.setCell ⟨gr, n, none⟩ (.bool true) = W1 := ⟨_, rfl⟩
  rw [hW1] at hP1
  have hgB : B ≤ gr := ((hP.each 0 _ rfl).lt rfl).1
  have hb1 : Below B W W1 := by rw [← hW1]; exact (Below.refl _ _).setCell hgB _
  have hs1 : W1.heap.size = W.heap.size := by rw [← hW1, World.size_setCell]
  have c1 : W1.cell? ⟨pt, 0, none⟩ = some (.slice at' td.length ct) := ((hP1.blk 2 rfl).2.cell 0).1
  have hb2 : Below B W (W1.alloc (.cells #[.int .i64 (n : Int)] 3)) := hb1.alloc (by omega) _
  have hP2 := hP1.quiet (below_grows ((Below.refl _ _).alloc (Nat.le_refl _) (.cells #[.int .i64 (n : Int)] 3)) none)
  have HP2 := Lib.hid hP2
  have HB2 := Lib.hid hb2
  have HW1 := Lib.hid hW1
  have hsz : Hid (B ≤ (W1.alloc (.cells #[.int .i64 (n : Int)] 3)).heap.size ∧ W.heap.size = W1.heap.size) := Lib.hid ⟨by simp; omega, hs1.symm⟩
  clear hP hP1 hP2 hb1 hb2 hs1 hgB
  go_enter Tryz.func35, Tryz.ntmps35
  subst hW1
  go_wp2_with (at_builtin; refine app_pcs elI64 rfl _ _ rfl 3 rfl HP2.out rfl rfl (by rw [hsz.out.2]; exact new_src _ #[.int .i64 (n : Int)] _ rfl) (by intro u hu; rw [List.mem_singleton.1 hu]; rfl) (by omega) hsz.out.1 ?_; intro a9 c9 w9 hp9 hb9; have z9 := (hp9.blk 2 rfl).2.cell 0; have z9a : w9.cell? ⟨pt, 0, none⟩ = some (.slice at' td.length ct) := z9.1; have z9b : w9.frozen? ⟨pt, 0, none⟩ = false := z9.2; clear z9)
  refine ⟨rfl, _, results_none rfl _ _ _, rfl, ⟨a9, c9, ?_⟩, Below.setCell (p := ⟨pt, 0, none⟩) (HB2.out.trans hb9) (hp9.blk 2 rfl).1 _⟩
  have h1 := hp9.blkStore 2 rfl 0 (.slice a9 (td.length + 1) c9)
  have e1 : (td ++ [(n : Int)]).length = td.length + 1 := by simp
  have e2 : bvs (os.set n true) = (bvs os).set n (.bool true) := by simp [bvs]
  have e3 : ivs .i64 (td ++ [(n : Int)]) = ivs .i64 td ++ [.int .i64 (n : Int)] := by simp [ivs]
  unfold endPs
  rw [hT.out, e1, e2, e3]
  exact h1
end Go.Proofs.YtbjdglopkpigbaaGreatDoor
