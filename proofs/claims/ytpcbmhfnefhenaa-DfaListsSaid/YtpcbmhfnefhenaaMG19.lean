import Derived.Test.YtpcbmhfnefhenaaMG10
import Derived.Test.YtpcbmhfnefhenaaMG16
import Derived.Test.YtpcbmhfnefhenaaMG18
/-
  DfaEa, DfaWm
-/
set_option linter.unusedVariables false
namespace Go.Proofs.Ytpcbmhfnefhenaa
open Go.RowKit

theorem rows_ext {xs ys : List (List Int)} (hl : xs.length = ys.length) (h : ∀ i, i < xs.length → gr xs i = gr ys i) : xs = ys := by
 apply List.ext_getElem hl
 intro i h1 h2
 have := h i h1
 simpa [gr, List.getD, h1, h2] using this
theorem gr_set {g : List (List Int)} {i : Nat} (hi : i < g.length) (l : List Int) (j : Nat) : gr (g.set i l) j = if j = i then l else gr g j := by
 by_cases e : j = i
 ·subst e; rw [if_pos rfl]; simp [gr, List.getD, hi]
 ·rw [if_neg e]; simp [gr, List.getD, List.getElem?_set_ne (Ne.symm e)]
theorem gr_replicate (N i : Nat) : gr (List.replicate N ([] : List Int)) i = [] := by
 by_cases h : i < N
 ·simp [gr, List.getD, h]
 ·simp [gr, List.getD, h]
theorem make_rows {P : Program} {T E : TypeId} {bytes : Nat} {z : Value} (el : Elem P T E z 1 bytes) (hz : z.cells = #[z]) {w : World} {ops : Array Oper} {rest : List Oper} {o : Oper} {a : Act} {Q : Exit → Act → World → Prop} (hgd : Region.wanted o (yielded ops a.tmps) = true) (l c : Operand)
  (ho : o.op = .makeSlice T l c) {B : Nat} {kl kc : IntKind} {n : Nat} {C C' : Int} (hl : a.eval l = .int kl C') (hc : a.eval c = .int kc C) (hC : C = n) (hC' : C' = n) (hb : n * (bytes + 1) ≤ 140737488355328) (hB : B ≤ w.heap.size)
  (h : ∀ w', w'.ownsRow B E 1 (.slice (some ⟨w.heap.size, 0, none⟩) n n) n (List.replicate n z) → Below B w w' → wpList P ops Q rest (a.put o.dst (.slice (some ⟨w.heap.size, 0, none⟩) n n)) w') : wpList P ops Q (o :: rest) a w := by
 refine wpList_wanted hgd fun K hK => wp_make_full el l c ho hl hc hC hC' hb hB fun w' h1 _ h3 => hK _ _ (h w' ?_ h3)
 rw [hz, Nat.mul_one, toList_madeCells_one] at h1
 exact h1
theorem set_same {l : List Value} {i : Nat} {v : Value} (h : l[i]? = some v) : l.set i v = l := by
 apply List.ext_getElem?
 intro j
 by_cases e : j = i
 ·subst e; rw [List.getElem?_set_self (List.getElem?_eq_some_iff.1 h).1, h]
 ·rw [List.getElem?_set_ne (Ne.symm e)]

/-! The rows while they are laid. -/
def tgt (es : List (Int × Int)) (a : Nat) : List Int := (es.filter fun e => decide (e.1 = (a : Int))).map Prod.snd
def rowsK (es : List (Int × Int)) (N k : Nat) : List (List Int) := (List.range N).map fun a => tgt (es.take k) a
theorem rowsK_length (es : List (Int × Int)) (N k : Nat) : (rowsK es N k).length = N := by simp [rowsK]
theorem gr_rowsK {es : List (Int × Int)} {N k a : Nat} (ha : a < N) : gr (rowsK es N k) a = tgt (es.take k) a := by
 rw [gr_eq _ _ (by rw [rowsK_length]; exact ha)]
 simp [rowsK]
theorem rowsK_zero (es : List (Int × Int)) (N : Nat) : rowsK es N 0 = List.replicate N [] := by
 refine rows_ext (by simp [rowsK]) fun i hi => ?_
 rw [rowsK_length] at hi
 rw [gr_rowsK hi, gr_replicate]
 rfl
theorem tgt_len (es : List (Int × Int)) (a : Nat) : (tgt es a).length ≤ es.length := by
 unfold tgt
 rw [List.length_map]
 exact List.length_filter_le _ _
theorem tgt_snoc (es : List (Int × Int)) (e : Int × Int) (a : Nat) : tgt (es ++ [e]) a = tgt es a ++ if e.1 = (a : Int) then [e.2] else [] := by
 unfold tgt
 rw [List.filter_append, List.map_append]
 by_cases h : e.1 = (a : Int) <;> simp [h]
theorem rowsK_succ {es : List (Int × Int)} {N k A : Nat} {y : Int} (hk : k < es.length) (hA : A < N) (hx : (gp es k).1 = (A : Int)) (hy : (gp es k).2 = y) : (rowsK es N k).set A (gr (rowsK es N k) A ++ [y]) = rowsK es N (k + 1) := by
 refine rows_ext (by simp [rowsK]) fun i hi => ?_
 rw [List.length_set, rowsK_length] at hi
 rw [gr_set (by rw [rowsK_length]; exact hA), gr_rowsK hi, gr_rowsK hi, take_succ_gp es k hk, tgt_snoc, hx, hy]
 by_cases e : i = A
 ·subst e; rw [if_pos rfl, if_pos rfl, gr_rowsK hA]
 ·rw [if_neg e, if_neg (by omega), List.append_nil]
theorem mem_tgt {es : List (Int × Int)} {a : Nat} {z : Int} : z ∈ tgt es a ↔ ((a : Int), z) ∈ es := by
 unfold tgt
 rw [List.mem_map]
 constructor
 ·rintro ⟨⟨x, y⟩, h, rfl⟩
  rw [List.mem_filter] at h
  have := of_decide_eq_true h.2
  simp only at this
  rw [← this]; exact h.1
 ·intro h
  exact ⟨_, List.mem_filter.2 ⟨h, by simp⟩, rfl⟩

def backP (es : List A3) : List (Int × Int) := es.map fun x => (x.t, x.f)
theorem gp_backP {es : List A3} {k : Nat} (hk : k < es.length) : gp (backP es) k = ((g3 es k).t, (g3 es k).f) := by
 rw [g3_eq _ _ hk]
 simp [gp, backP, List.getD, hk]
theorem mem_backP {es : List A3} {a z : Int} : (a, z) ∈ backP es ↔ ∃ x ∈ es, x.t = a ∧ x.f = z := by
 unfold backP
 rw [List.mem_map]
 constructor
 ·rintro ⟨x, hx, e⟩
  injection e with e1 e2
  exact ⟨x, hx, e1, e2⟩
 ·rintro ⟨x, hx, e1, e2⟩
  exact ⟨x, hx, by rw [e1, e2]⟩
theorem set_gb {os : List Bool} {n : Nat} (h : gb os n = true) : os.set n true = os := by
 have hl : n < os.length := Nat.lt_of_not_le fun hle => by rw [gb_over hle] at h; cases h
 refine gb_ext (by simp) fun i hi => ?_
 rw [gb_put hl]
 by_cases e : i = n
 ·subst e; rw [if_pos rfl, h]
 ·rw [if_neg e]
def tdV (os : List Bool) (td : List Int) (n : Nat) : List Int := if gb os n = true then td else td ++ [(n : Int)]
def UsefulAt (d : Dfa) (n : Nat) : Prop := ∃ w, accQ d n w = true
structure EndI (d : Dfa) (os : List Bool) (td : List Int) : Prop where
 len : (os.length : Int) = d.n
 nd : td.Nodup
 iff : ∀ i : Nat, (i : Int) < d.n → (gb os i = true ↔ (i : Int) ∈ td)
 rng : ∀ z ∈ td, 0 ≤ z ∧ z < d.n
 use : ∀ i : Nat, gb os i = true → UsefulAt d i
section
variable {d : Dfa} {os : List Bool} {td : List Int}
theorem EndI.start (hv : ValidD d) : EndI d (List.replicate d.n.toNat false) [] := by
 have h1 := hv.1
 have h0 : ∀ i, gb (List.replicate d.n.toNat false) i = false := fun i => by
  rcases Nat.lt_or_ge i d.n.toNat with h | h
  ·rw [gb_eq _ _ (by simpa using h)]; simp
  ·exact gb_over (by simpa using h)
 refine ⟨by rw [List.length_replicate]; omega, List.nodup_nil, fun i _ => by rw [h0]; simp, fun z hz => by simp at hz, fun i h => by rw [h0] at h; cases h⟩
theorem EndI.tlen (h : EndI d os td) : td.length ≤ d.n.toNat := ints_le h.nd h.rng
theorem EndI.visit (h : EndI d os td) {n : Nat} (hn : (n : Int) < d.n) (hu : UsefulAt d n) : EndI d (os.set n true) (tdV os td n) := by
 have hl := h.len
 unfold tdV
 by_cases hg : gb os n = true
 ·rw [if_pos hg, set_gb hg]; exact h
 ·have hno : (n : Int) ∉ td := fun hm => hg ((h.iff n hn).2 hm)
  rw [if_neg hg]
  refine ⟨by rw [List.length_set]; exact hl, ?_, fun i hi => ?_, fun z hz => ?_, fun i hi => ?_⟩
  ·rw [List.nodup_append]
   refine ⟨h.nd, by simp, fun a ha b hb => ?_⟩
   rw [List.mem_singleton.1 hb]
   rintro rfl
   exact hno ha
  ·rw [gb_put (by omega), List.mem_append, List.mem_singleton, ← h.iff i hi]
   by_cases e : i = n
   ·subst e; simp
   ·rw [if_neg e]
    exact ⟨.inl, fun h => h.elim id fun e' => absurd (by omega) e⟩
  ·rcases List.mem_append.1 hz with hz | hz
   ·exact h.rng z hz
   ·rw [List.mem_singleton.1 hz]; omega
  ·rw [gb_put (by omega)] at hi
   by_cases e : i = n
   ·subst e; exact hu
   ·rw [if_neg e] at hi; exact h.use i hi
theorem tdV_pre (os : List Bool) (td : List Int) (n : Nat) : td <+: tdV os td n := by
 unfold tdV
 split
 ·exact List.prefix_refl _
 ·exact List.prefix_append _ _
theorem set_mono {os : List Bool} {n i : Nat} (h : gb os i = true) : gb (os.set n true) i = true := by
 rcases Nat.lt_or_ge n os.length with hn | hn
 ·rw [gb_put hn]
  split
  ·rfl
  ·exact h
 ·rw [List.set_eq_of_length_le hn]; exact h
theorem set_self {os : List Bool} {n : Nat} (hn : n < os.length) : gb (os.set n true) n = true := by rw [gb_put hn, if_pos rfl]
theorem gi_pre {xs ys : List Int} (h : xs <+: ys) {i : Nat} (hi : i < xs.length) : gi ys i = gi xs i := by
 obtain ⟨h', e⟩ := get_pre h hi
 rw [gi_eq _ _ h', gi_eq _ _ hi, e]
theorem UsefulAt.fin {n : Nat} (h : gb d.fin n = true) : UsefulAt d n := ⟨[], by rw [accQ_nil, Int.toNat_natCast]; exact h⟩
theorem UsefulAt.arc (hv : ValidD d) {x : A3} (hx : x ∈ d.arcs) (h : UsefulAt d x.t.toNat) : UsefulAt d x.f.toNat := by
 obtain ⟨w, hw⟩ := h
 have ha := (hv.arc hx).1
 rw [Int.toNat_of_nonneg ha.2.1] at hw
 exact ⟨x.l :: w, by rw [Int.toNat_of_nonneg ha.1.1, accQ_some (nxtD_unique hv.sorted hx)]; exact hw⟩
def DoneAt (d : Dfa) (os : List Bool) (a : Int) : Prop := ∀ x ∈ d.arcs, x.t = a → gb os x.f.toNat = true
theorem ends_fin (hv : ValidD d) (h : EndI d os td) (hf : ∀ i : Nat, (i : Int) < d.n → gb d.fin i = true → gb os i = true) (hd : ∀ j, j < td.length → DoneAt d os (gi td j)) : os = keepU d := by
 refine keepU_eq hv h.len hf (fun x hx hg => ?_) fun i _ hi => h.use i hi
 have ha := (hv.arc hx).1.2
 have hm := (h.iff x.t.toNat (by omega)).1 hg
 rw [Int.toNat_of_nonneg ha.1] at hm
 have hl := List.idxOf_lt_length_of_mem hm
 refine hd _ hl x hx ?_
 rw [gi_eq _ _ hl, List.getElem_idxOf]
end
end Go.Proofs.Ytpcbmhfnefhenaa

set_option linter.unusedSimpArgs false
set_option linter.unusedVariables false
namespace Go.Proofs.Ytpcbmhfnefhenaa
open List (foldr_cons foldr_nil setIfInBounds_toArray set_cons_succ set_cons_zero)
open Go.RowKit
attribute [local go_sem] Oper.semAt_some

def wsPs (sb : Nat) (cs : Array Value) (oa : Option Addr) (oc : Nat) (ca : Option Addr) (cc : Nat) (vs : List Wd) (us : List Td) : List Pc := .blk sb cs :: .row 40 1 (.slice oa vs.length oc) vs.length (vs.map Wd.v) :: .row 22 1 (.slice ca us.length cc) us.length (us.map Td.v) :: (vs.map Wd.pc ++ us.map Td.pc)
def tbPs (ca : Option Addr) (cc : Nat) (us : List Td) : List Pc := .row 22 1 (.slice ca us.length cc) us.length (us.map Td.v) :: us.map Td.pc
section
variable {W : World} {B sb oc cc : Nat} {cs : Array Value} {oa ca : Option Addr} {vs : List Wd} {us : List Td}
theorem ws_perm : (wsPs sb cs oa oc ca cc vs us).Perm (srPs sb cs oa oc vs (tbPs ca cc us)) := .cons _ (.cons _ List.perm_middle.symm)
theorem ws_sr (h : Pcs W B (wsPs sb cs oa oc ca cc vs us)) : Pcs W B (srPs sb cs oa oc vs (tbPs ca cc us)) := h.turn ws_perm
theorem sr_wsP (h : Pcs W B (srPs sb cs oa oc vs (tbPs ca cc us))) : Pcs W B (wsPs sb cs oa oc ca cc vs us) := h.turn ws_perm.symm
theorem tb_tab {T : Nat → List Bool} (hX : ∀ p ∈ tbPs ca cc us, p.At W B) (hT : ∀ i, i < us.length → (gtd us i).z = T i) : IsTab W ca us.length T :=
 tab_of (hX _ List.mem_cons_self) (fun x hx => hX _ (List.mem_cons_of_mem _ (List.mem_map_of_mem hx))) hT
theorem ws_push {u : Td} {a : Option Addr} {c : Nat} (hP : Pcs W B ((wsPs sb cs oa oc ca cc vs us ++ [u.pc]).set 2 (.row 22 1 (.slice a (us.length + 1) c) (us.length + 1) (us.map Td.v ++ [u.v])))) : Pcs W B (wsPs sb cs oa oc a c vs (us ++ [u])) := by
 have e : wsPs sb cs oa oc a c vs (us ++ [u]) = (wsPs sb cs oa oc ca cc vs us ++ [u.pc]).set 2 (.row 22 1 (.slice a (us.length + 1) c) (us.length + 1) (us.map Td.v ++ [u.v])) := by
  unfold wsPs
  rw [List.map_append, List.map_append, List.length_append]
  simp
 rw [e]
 exact hP
end
theorem lon_set {S J : List Bool} {F l T : Int} : J.set F.toNat (gb J F.toNat || gb S T.toNat) = lonStep S J ⟨F, l, T⟩ := by
 unfold lonStep
 simp only
 cases h1 : gb J F.toNat with
 | true =>
  rw [Bool.true_or, set_gb h1]
  split <;> rfl
 | false =>
  rw [Bool.false_or]
  cases h2 : gb S T.toNat with
  | true => rfl
  | false =>
   rw [if_neg (by decide)]
   by_cases hl : F.toNat < J.length
   ·refine gb_ext (by simp) fun i hi => ?_
    rw [gb_put hl]
    split
    ·rename_i e; rw [e, h1]
    ·rfl
   ·exact List.set_eq_of_length_le (by omega)
variable {d : Dfa} {h : DH} {W0 W : World} {B sb m oc cc : Nat} {ca oa : Option Addr} {vs : List Wd} {us : List Td}
set_option maxRecDepth 20000 in
set_option maxHeartbeats 4000000 in
theorem longer_any (hv : ValidD d) (hD : ∀ W, Below B W0 W → IsDfa W h d) {k : Nat} (hu : us.length = k + 1) (hk : k ≤ 1000) (hz : (gtd us k).z = canT d k) (hP : Pcs W B (wsPs sb (srC d h ca us.length cc m oa vs.length oc) oa oc ca cc vs us)) (hb : Below B W0 W) :
  Calls Try.prog 60 #[.pointer (some ⟨sb, 0, none⟩)] W fun e w' => e = .returned (.tuple #[]) ∧ ∃ ca' cc' u, u.z = canT d (k + 1) ∧ Pcs w' B (wsPs sb (srC d h ca' (us ++ [u]).length cc' m oa vs.length oc) oa oc ca' cc' vs (us ++ [u])) ∧ Below B W0 w' := by
 have hsb : B ≤ sb ∧ sb < W.heap.size := sr_base (ws_sr hP)
 obtain ⟨C0, hC0⟩ : ∃ C0, srC d h ca us.length cc m oa vs.length oc = C0 := ⟨_, rfl⟩
 have HCC : Hid (∀ W', Pcs W' B (wsPs sb C0 oa oc ca cc vs us) → W'.cell? ⟨sb, 0, none⟩ = some (.int .i64 d.n) ∧ W'.cell? ⟨sb, 3, none⟩ = some (.slice h.aa h.al h.ac) ∧ W'.cell? ⟨sb, 4, none⟩ = some (.slice ca us.length cc)) := Lib.hid (fun W' hp => by
  rw [← hC0] at hp
  have hb := (hp.blk 0 rfl).2
  exact ⟨(hb.cell 0).1, (hb.cell 3).1, (hb.cell 4).1⟩)
 have HCS : Hid (∀ a' c', C0.setIfInBounds 4 (.slice a' (us.length + 1) c') = srC d h a' (us.length + 1) c' m oa vs.length oc) := Lib.hid (fun a' c' => by rw [← hC0]; rfl)
 have HC4 : Hid (∀ W' ps, Pcs W' B (.blk sb C0 :: ps) → W'.cell? ⟨sb, 4, none⟩ = some (.slice ca us.length cc) ∧ W'.frozen? ⟨sb, 4, none⟩ = false) := Lib.hid (fun W' ps hp => by
  rw [← hC0] at hp
  exact (hp.blk 0 rfl).2.cell 4)
 rw [hC0] at hP
 clear hC0
 obtain ⟨g, rfl, -, -⟩ := owns_at (hP.row 2 rfl) (by omega)
 have HRW : Hid (∀ W', Pcs W' B (wsPs sb C0 oa oc (some ⟨g, 0, none⟩) cc vs us) → ∃ x c, W'.cell? ⟨g, k, none⟩ = some (.slice x d.n.toNat c) ∧ IsBools W' x d.n.toNat c (canT d k)) := Lib.hid (fun W' hp => by
  rcases row_cap (hp.row 2 rfl) with h1 | ⟨g', e, -, -, hc⟩
  ·omega
  ·injection e with e
   injection e with e
   subst e
   have h1 := hc k (by omega)
   rw [List.getElem?_map, List.getElem?_eq_getElem (by omega)] at h1
   have h2 : Pc.At W' B (gtd us k).pc := (pcsIff.1 hp).1 _ (List.mem_cons_of_mem _ (List.mem_cons_of_mem _ (List.mem_cons_of_mem _ (List.mem_append_right _ (List.mem_map_of_mem (gtd_mem (by omega)))))))
   have h3 := (IsBools.of_owns h2).1
   have e2 : (gtd us k).z.length = d.n.toNat := by rw [hz, canT_len]
   rw [gtd_eq us k (by omega)] at h3 e2 hz
   exact ⟨_, _, by rw [h1]; show some (Value.slice _ _ _) = _; rw [e2], by rw [e2, hz] at h3; exact h3⟩)
 obtain ⟨c0, c3, c4⟩ := HCC.out W hP
 obtain ⟨x, c, r1, r2⟩ := HRW.out W hP
 obtain ⟨N, hN⟩ := Int.eq_ofNat_of_zero_le (show 0 ≤ d.n by have := hv.1; omega)
 have hN1 : N ≤ 1000 := by have := hv.1; omega
 have hNn : d.n.toNat = N := by omega
 obtain ⟨al, hal⟩ : ∃ n, d.arcs.length = n := ⟨_, rfl⟩
 have hal2 : al ≤ 20000 := by rw [← hal]; exact hv.2.2.2.1
 have hta : h.al = al := by rw [← hal]; exact (hD W hb).arcs.length.symm
 rw [hNn] at r1 r2
 rw [hN] at c0
 rw [hta] at c3
 have HV := Lib.hid hv
 have HN := Lib.hid hN
 have HNN := Lib.hid hNn
 have HAL := Lib.hid hal
 have HTA := Lib.hid hta
 have HP := Lib.hid hP
 have HB := Lib.hid hb
 have HSB := Lib.hid hsb
 have HD := Lib.hid hD
 have HR2 := Lib.hid r2
 have hi1 : ((us.length : Int) - 1) = k := by omega
 have hul : us.length ≤ 1001 := by omega
 have HU := Lib.hid hu
 have hku : k < us.length := by omega
 clear hP hb hsb hD hv hN hNn hal hta r2 hz hu
 go_enter Try.func60, Try.ntmps60
 go_upto_region 0 with (fail)
 go_quiet (fail)
 obtain ⟨WQ, hWQ⟩ : ∃ WQ, W.drewN nq = WQ := ⟨_, rfl⟩
 have hbq : Below W.heap.size W WQ := by rw [← hWQ]; exact below_nq W nq
 rw [hWQ]
 obtain ⟨Sb, hSb⟩ : ∃ S, canT d k = S := ⟨_, rfl⟩
 rw [hSb] at HR2
 have HSS := Lib.hid hSb
 have HPQ := Lib.hid (HP.out.quiet (below_grows hbq none))
 have HBQ : Hid (Below B W0 WQ ∧ B ≤ WQ.heap.size) := Lib.hid ⟨HB.out.trans (hbq.mono (by have := HSB.out; omega)), Nat.le_trans (by have := HSB.out; omega) hbq.size⟩
 obtain ⟨c0, c3, c4⟩ := HCC.out WQ HPQ.out
 rw [HN.out] at c0
 rw [HTA.out] at c3
 have hrq := HR2.out.later hbq
 have hSl : Sb.length = N := by rw [← hSb, canT_len, HNN.out]
 have HRQ := Lib.hid hrq
 clear hWQ hbq hrq hSb r1
 go_wp2_with (refine make_rows elB rfl rfl _ _ rfl rfl rfl rfl rfl (by omega) (Nat.le_refl _) ?_; intro w2 ho2 hb2; obtain ⟨e0, e3, e4⟩ := HCC.out w2 (HPQ.out.quiet (below_grows hb2 none)); rw [HTA.out] at e3)
 have HO2 : Hid (w2.ownsRow WQ.heap.size 4 1 (.slice (some ⟨WQ.heap.size, 0, none⟩) N N) N (bvs (lonJ d Sb 0))) := Lib.hid (by rw [lonJ_zero, HNN.out, show bvs (List.replicate N false) = List.replicate N (.bool false) by simp [bvs]]; exact ho2)
 have HB2 := Lib.hid hb2
 clear ho2 hb2 c0 c3 c4 e0 e3 e4
 go_wp2_with (fail)
 go_loopw [30] (fun c W => ∃ j : Nat, j ≤ al ∧ c = .int .i64 (j : Int) ∧ W.ownsRow WQ.heap.size 4 1 (.slice (some ⟨WQ.heap.size, 0, none⟩) N N) N (bvs (lonJ d Sb j)) ∧ Below WQ.heap.size WQ W) (fun c _ => al - (intOf c).toNat)
 case atStart => exact ⟨0, Nat.zero_le _, rfl, HO2.out, HB2.out⟩
 case round =>
  clear HO2 HB2
  obtain ⟨j, hj, rfl, ho, hb⟩ := hrel
  have hlen : (lonJ d Sb j).length = N := by rw [lonJ_len, HNN.out]
  rcases Nat.lt_or_ge j al with hlt | hge
  ·have t1 : decide (j < al) = true := decide_eq_true hlt
   have hdr := HD.out wr (HBQ.out.1.trans (hb.mono HBQ.out.2))
   have hal := hdr.arcs
   rw [HTA.out] at hal
   obtain ⟨ba, oa2, haa, hac⟩ := hal.fix (by omega)
   obtain ⟨cx1, cx2, cx3⟩ := hac wr (Below.refl _ _) j hlt
   obtain ⟨F, l, T, hX, hF, hT⟩ : ∃ F l T : Nat, g3 d.arcs j = ⟨F, l, T⟩ ∧ F < N ∧ T < N := by
    have h1 := HV.out.arc (x := g3 d.arcs j) (g3_mem _ _ (by rw [HAL.out]; exact hlt))
    have h2 := HN.out
    obtain ⟨⟨x, y, z⟩, hx⟩ : ∃ x, g3 d.arcs j = x := ⟨_, rfl⟩
    rw [hx] at h1 ⊢
    simp only at h1
    exact ⟨x.toNat, y.toNat, z.toNat, by rw [Int.toNat_of_nonneg (by omega), Int.toNat_of_nonneg (by omega), Int.toNat_of_nonneg (by omega)], by omega, by omega⟩
   rw [hX] at cx1 cx2 cx3
   simp only at cx1 cx2 cx3
   obtain ⟨J, hJ⟩ : ∃ J, lonJ d Sb j = J := ⟨_, rfl⟩
   have HJ1 : Hid (lonJ d Sb (j + 1) = J.set F (gb J F || gb Sb T)) := Lib.hid (by
    rw [lonJ_succ Sb (by rw [HAL.out]; exact hlt), hX, hJ, ← lon_set]
    simp)
   rw [hJ] at ho hlen
   have HOW := Lib.hid ho
   obtain ⟨Wn, hWn⟩ : ∃ Wn, wr.alloc (.cells #[.int .i64 (F : Int), .int .i64 (l : Int), .int .i64 (T : Int)] 63) = Wn := ⟨_, rfl⟩
   have hbn : Below wr.heap.size wr Wn := by rw [← hWn]; exact (Below.refl _ _).alloc (Nat.le_refl _) _
   have hbN : Below WQ.heap.size WQ Wn := hb.trans (hbn.mono hb.size)
   have HX3 : Hid (∀ W, Below Wn.heap.size Wn W → W.cell? ⟨wr.heap.size, 0, none⟩ = some (.int .i64 (F : Int)) ∧ W.cell? ⟨wr.heap.size, 1, none⟩ = some (.int .i64 (l : Int)) ∧ W.cell? ⟨wr.heap.size, 2, none⟩ = some (.int .i64 (T : Int))) := Lib.hid (fun W h => (boxA ⟨F, l, T⟩ wr).2.2 W (by simp only; rw [hWn]; exact h.mono (by rw [← hWn]; simp)))
   have HCJ : Hid (∀ W, Below Wn.heap.size Wn W → W.cell? ⟨WQ.heap.size, F, none⟩ = some (.bool (gb J F))) := Lib.hid (fun W h => (bown_cell (ho.kept_below (hbn.trans (h.mono hbn.size))) hF hlen).1)
   have HFJ : Hid (∀ W, Below Wn.heap.size Wn W → W.frozen? ⟨WQ.heap.size, F, none⟩ = false) := Lib.hid (fun W h => (bown_cell (ho.kept_below (hbn.trans (h.mono hbn.size))) hF hlen).2)
   obtain ⟨bs, os, hsa, hsc⟩ := HRQ.out.fix (by omega)
   have HCS2 : Hid (∀ W, Below Wn.heap.size Wn W → W.cell? ⟨bs, os + T, none⟩ = some (.bool (gb Sb T))) := Lib.hid (fun W h => hsc W (hbN.trans (h.mono hbN.size)) T hT)
   subst hsa
   rw [haa] at *
   clear hX hJ hac hal hdr hsc hlen
   go_upto_region 5 with (fail)
   cases hg : gb J F with
   | true =>
    have HGB := Lib.hid hg
    replace HCJ : Hid (∀ W, Below Wn.heap.size Wn W → W.cell? ⟨WQ.heap.size, F, none⟩ = some (.bool true)) := Lib.hid (fun W h => by have h9 := HCJ.out W h; rw [HGB.out] at h9; exact h9)
    clear hg
    obtain ⟨S, hSd⟩ : ∃ S : (Nat → Bool) → (Nat → Value) → World → Prop, S = fun L f W => (L 16 = false → Below Wn.heap.size Wn W) ∧ (L 16 = true → ∃ W', Below Wn.heap.size Wn W' ∧ W = W'.setCell ⟨WQ.heap.size, F, none⟩ (.bool (gb J F || gb Sb T))) := ⟨_, rfl⟩
    refine wp_region_st mixed (by kernel_rfl) [[], [], [(1, 35)], [], [], [(4, 38)], [(3, 37), (5, 39)], [(6, 40)], [(7, 41)], [(8, 42)], [(8, 42)], [(10, 44), (8, 42)], [(9, 43), (11, 45), (8, 42)], [(12, 46), (8, 42)], [(8, 42), (13, 47)], [(0, 34), (2, 36), (0, 34), (1, 35), (2, 36), (3, 37), (4, 38), (5, 39), (6, 40), (7, 41), (8, 42), (9, 43), (10, 44), (11, 45), (12, 46), (13, 47), (14, 48)], [(15, 49), (14, 48), (8, 42), (0, 34), (1, 35), (2, 36), (3, 37), (4, 38), (5, 39), (6, 40), (7, 41), (8, 42), (9, 43), (10, 44), (11, 45), (12, 46), (13, 47), (14, 48)]] [(0, 34), (1, 35), (2, 36), (3, 37), (4, 38), (5, 39), (6, 40), (7, 41), (8, 42), (9, 43), (10, 44), (11, 45), (12, 46), (13, 47), (14, 48), (15, 49)] rfl rfl [EV ?e0, EV ?e1, EV ?e2, EV ?e3, EV ?e4, EV ?e5, EV ?e6, EV ?e7, EV ?e8, EV undef, EV undef, EV undef, EV undef, EV undef, EV ?e14, EV ?e15, fun _ => True] S ?start ?steps ?rest
    case start =>
     intro f
     rw [hSd]
     exact ⟨fun _ => (Below.refl _ _).drew, fun h => (by cases h)⟩
    case steps =>
     refine ⟨fun L f W hi hd hdn hh hS => ?_, fun L f W hi hd hdn hh hS => ?_, fun L f W hi hd hdn hh hS => ?_, fun L f W hi hd hdn hh hS => ?_, fun L f W hi hd hdn hh hS => ?_, fun L f W hi hd hdn hh hS => ?_, fun L f W hi hd hdn hh hS => ?_, fun L f W hi hd hdn hh hS => ?_, fun L f W hi hd hdn hh hS => ?_, fun L f W hi hd hdn hh hS => ?_, fun L f W hi hd hdn hh hS => ?_, fun L f W hi hd hdn hh hS => ?_, fun L f W hi hd hdn hh hS => ?_, fun L f W hi hd hdn hh hS => ?_, fun L f W hi hd hdn hh hS => ?_, fun L f W hi hd hdn hh hS => ?_, fun L f W hi hd hdn hh hS => ?_, trivial⟩
     ·
      unfold stStep
      rw [if_pos (by simp [Region.wanted])]
      intro K Q hK
      simp only [puts, foldr_nil]
      go_step
      refine st_ex hK rfl rfl (by simp only [Act.put, setIfInBounds_toArray, set_cons_succ, set_cons_zero, Array.getD_eq_getD_getElem?, List.getElem?_toArray, List.getElem?_cons_succ, List.getElem?_cons_zero, Option.getD_some] <;> rfl) rfl (by rw [hSd] at hS ⊢; exact hS)
     ·
      unfold stStep
      rw [if_pos (by simp [Region.wanted])]
      intro K Q hK
      simp only [puts, foldr_nil]
      go_step
      refine st_ex hK rfl rfl (by simp only [Act.put, setIfInBounds_toArray, set_cons_succ, set_cons_zero, Array.getD_eq_getD_getElem?, List.getElem?_toArray, List.getElem?_cons_succ, List.getElem?_cons_zero, Option.getD_some] <;> rfl) rfl (by rw [hSd] at hS ⊢; exact hS)
     ·
      obtain ⟨h1, -⟩ := hh
      have g1 : f 1 = _ := h1
      have l15 : L 15 = false := Bool.eq_false_iff.2 fun h => by have q := hdn 15 _ h rfl 2 (by decide); rw [show L 2 = false from hi] at q; cases q
      have l16 : L 16 = false := Bool.eq_false_iff.2 fun h => by have q := hdn 16 _ h rfl 15 (by decide); rw [show L 15 = false from l15] at q; cases q
      unfold stStep
      rw [if_pos (by simp [Region.wanted])]
      intro K Q hK
      simp only [puts, Za, Zb, Zc, Zd, Ze, g1]
      have hS' := hS
      rw [hSd] at hS'
      obtain ⟨y1, y2, y3⟩ := HX3.out W (hS'.1 l16)
      go_step
      refine st_ex hK rfl rfl (by simp only [Act.put, setIfInBounds_toArray, set_cons_succ, set_cons_zero, Array.getD_eq_getD_getElem?, List.getElem?_toArray, List.getElem?_cons_succ, List.getElem?_cons_zero, Option.getD_some] <;> rfl) rfl (by rw [hSd] at hS ⊢; exact hS)
     ·
      unfold stStep
      rw [if_pos (by simp [Region.wanted])]
      intro K Q hK
      simp only [puts, foldr_nil]
      go_step
      refine st_ex hK rfl rfl (by simp only [Act.put, setIfInBounds_toArray, set_cons_succ, set_cons_zero, Array.getD_eq_getD_getElem?, List.getElem?_toArray, List.getElem?_cons_succ, List.getElem?_cons_zero, Option.getD_some] <;> rfl) rfl (by rw [hSd] at hS ⊢; exact hS)
     ·
      unfold stStep
      rw [if_pos (by simp [Region.wanted])]
      intro K Q hK
      simp only [puts, foldr_nil]
      go_step
      refine st_ex hK rfl rfl (by simp only [Act.put, setIfInBounds_toArray, set_cons_succ, set_cons_zero, Array.getD_eq_getD_getElem?, List.getElem?_toArray, List.getElem?_cons_succ, List.getElem?_cons_zero, Option.getD_some] <;> rfl) rfl (by rw [hSd] at hS ⊢; exact hS)
     ·
      obtain ⟨h4, -⟩ := hh
      have g4 : f 4 = _ := h4
      have l6 : L 6 = false := Bool.eq_false_iff.2 fun h => by have q := hdn 6 _ h rfl 5 (by decide); rw [show L 5 = false from hi] at q; cases q
      have l7 : L 7 = false := Bool.eq_false_iff.2 fun h => by have q := hdn 7 _ h rfl 6 (by decide); rw [show L 6 = false from l6] at q; cases q
      have l8 : L 8 = false := Bool.eq_false_iff.2 fun h => by have q := hdn 8 _ h rfl 7 (by decide); rw [show L 7 = false from l7] at q; cases q
      have l14 : L 14 = false := Bool.eq_false_iff.2 fun h => by have q := hdn 14 _ h rfl 8 (by decide); rw [show L 8 = false from l8] at q; cases q
      have l16 : L 16 = false := Bool.eq_false_iff.2 fun h => by have q := hdn 16 _ h rfl 14 (by decide); rw [show L 14 = false from l14] at q; cases q
      unfold stStep
      rw [if_pos (by simp [Region.wanted])]
      intro K Q hK
      simp only [puts, Za, Zb, Zc, Zd, Ze, g4]
      have hS' := hS
      rw [hSd] at hS'
      obtain ⟨y1, y2, y3⟩ := HX3.out W (hS'.1 l16)
      go_step
      refine st_ex hK rfl rfl (by simp only [Act.put, setIfInBounds_toArray, set_cons_succ, set_cons_zero, Array.getD_eq_getD_getElem?, List.getElem?_toArray, List.getElem?_cons_succ, List.getElem?_cons_zero, Option.getD_some] <;> rfl) rfl (by rw [hSd] at hS ⊢; exact hS)
     ·
      obtain ⟨h3, h5, -⟩ := hh
      have g3 : f 3 = _ := h3
      have g5 : f 5 = _ := h5
      unfold stStep
      rw [if_pos (by simp [Region.wanted])]
      intro K Q hK
      simp only [puts, Za, Zb, Zc, Zd, Ze, g3, g5]
      go_step
      refine st_ex hK rfl rfl (by simp only [Act.put, setIfInBounds_toArray, set_cons_succ, set_cons_zero, Array.getD_eq_getD_getElem?, List.getElem?_toArray, List.getElem?_cons_succ, List.getElem?_cons_zero, Option.getD_some] <;> rfl) rfl (by rw [hSd] at hS ⊢; exact hS)
     ·
      obtain ⟨h6, -⟩ := hh
      have g6 : f 6 = _ := h6
      have l8 : L 8 = false := Bool.eq_false_iff.2 fun h => by have q := hdn 8 _ h rfl 7 (by decide); rw [show L 7 = false from hi] at q; cases q
      have l14 : L 14 = false := Bool.eq_false_iff.2 fun h => by have q := hdn 14 _ h rfl 8 (by decide); rw [show L 8 = false from l8] at q; cases q
      have l16 : L 16 = false := Bool.eq_false_iff.2 fun h => by have q := hdn 16 _ h rfl 14 (by decide); rw [show L 14 = false from l14] at q; cases q
      unfold stStep
      rw [if_pos (by simp [Region.wanted])]
      intro K Q hK
      simp only [puts, Za, Zb, Zc, Zd, Ze, g6]
      have hS' := hS
      rw [hSd] at hS'
      have x7 := HCJ.out W (hS'.1 l16)
      go_step
      refine st_ex hK rfl rfl (by simp only [Act.put, setIfInBounds_toArray, set_cons_succ, set_cons_zero, Array.getD_eq_getD_getElem?, List.getElem?_toArray, List.getElem?_cons_succ, List.getElem?_cons_zero, Option.getD_some] <;> rfl) rfl (by rw [hSd] at hS ⊢; exact hS)
     ·
      obtain ⟨h7, -⟩ := hh
      have g7 : f 7 = _ := h7
      unfold stStep
      rw [if_pos (by simp [Region.wanted])]
      intro K Q hK
      simp only [puts, Za, Zb, Zc, Zd, Ze, g7]
      go_step
      refine st_ex hK rfl rfl (by simp only [Act.put, setIfInBounds_toArray, set_cons_succ, set_cons_zero, Array.getD_eq_getD_getElem?, List.getElem?_toArray, List.getElem?_cons_succ, List.getElem?_cons_zero, Option.getD_some] <;> rfl) rfl (by rw [hSd] at hS ⊢; exact hS)
     ·
      obtain ⟨h8, -⟩ := hh
      have g8 : f 8 = _ := h8
      refine st_no (c := true) rfl g8 (by decide) rfl ?_
      rw [hSd] at hS ⊢
      exact hS
     ·
      obtain ⟨h8, -⟩ := hh
      have g8 : f 8 = _ := h8
      refine st_no (c := true) rfl g8 (by decide) rfl ?_
      rw [hSd] at hS ⊢
      exact hS
     ·
      obtain ⟨h10, h8, -⟩ := hh
      have g10 : f 10 = _ := h10
      have g8 : f 8 = _ := h8
      refine st_no (c := true) rfl g8 (by decide) rfl ?_
      rw [hSd] at hS ⊢
      exact hS
     ·
      obtain ⟨h9, h11, h8, -⟩ := hh
      have g9 : f 9 = _ := h9
      have g11 : f 11 = _ := h11
      have g8 : f 8 = _ := h8
      refine st_no (c := true) rfl g8 (by decide) rfl ?_
      rw [hSd] at hS ⊢
      exact hS
     ·
      obtain ⟨h12, h8, -⟩ := hh
      have g12 : f 12 = _ := h12
      have g8 : f 8 = _ := h8
      refine st_no (c := true) rfl g8 (by decide) rfl ?_
      rw [hSd] at hS ⊢
      exact hS
     ·
      obtain ⟨h8, h13, -⟩ := hh
      have g8 : f 8 = _ := h8
      have g13 : f 13 = _ := h13
      unfold stStep
      rw [if_pos (by simp [Region.wanted])]
      intro K Q hK
      simp only [puts, Za, Zb, Zc, Zd, Ze, g8, g13]
      go_step
      refine st_ex hK rfl rfl (by simp only [Act.put, setIfInBounds_toArray, set_cons_succ, set_cons_zero, Array.getD_eq_getD_getElem?, List.getElem?_toArray, List.getElem?_cons_succ, List.getElem?_cons_zero, Option.getD_some] <;> rfl) rfl (by rw [hSd] at hS ⊢; exact hS)
     ·
      obtain ⟨h0, h2, _, h1, _, h3, h4, h5, h6, h7, h8, h9, h10, h11, h12, h13, h14, -⟩ := hh
      have g0 : f 0 = _ := h0
      have g2 : f 2 = _ := h2
      have g1 : f 1 = _ := h1
      have g3 : f 3 = _ := h3
      have g4 : f 4 = _ := h4
      have g5 : f 5 = _ := h5
      have g6 : f 6 = _ := h6
      have g7 : f 7 = _ := h7
      have g8 : f 8 = _ := h8
      have g9 : f 9 = _ := h9
      have g10 : f 10 = _ := h10
      have g11 : f 11 = _ := h11
      have g12 : f 12 = _ := h12
      have g13 : f 13 = _ := h13
      have g14 : f 14 = _ := h14
      unfold stStep
      rw [if_pos (by simp [Region.wanted])]
      intro K Q hK
      simp only [puts, Za, Zb, Zc, Zd, Ze, g0, g2, g1, g3, g4, g5, g6, g7, g8, g9, g10, g11, g12, g13, g14]
      go_step
      refine st_ex hK rfl rfl (by simp only [Act.put, setIfInBounds_toArray, set_cons_succ, set_cons_zero, Array.getD_eq_getD_getElem?, List.getElem?_toArray, List.getElem?_cons_succ, List.getElem?_cons_zero, Option.getD_some] <;> rfl) rfl (by rw [hSd] at hS ⊢; exact hS)
     ·
      obtain ⟨h15, h14, h8, h0, h1, h2, h3, h4, h5, h6, h7, _, h9, h10, h11, h12, h13, _, -⟩ := hh
      have g15 : f 15 = _ := h15
      have g14 : f 14 = _ := h14
      have g8 : f 8 = _ := h8
      have g0 : f 0 = _ := h0
      have g1 : f 1 = _ := h1
      have g2 : f 2 = _ := h2
      have g3 : f 3 = _ := h3
      have g4 : f 4 = _ := h4
      have g5 : f 5 = _ := h5
      have g6 : f 6 = _ := h6
      have g7 : f 7 = _ := h7
      have g9 : f 9 = _ := h9
      have g10 : f 10 = _ := h10
      have g11 : f 11 = _ := h11
      have g12 : f 12 = _ := h12
      have g13 : f 13 = _ := h13
      unfold stStep
      rw [if_pos (by simp [Region.wanted])]
      intro K Q hK
      simp only [puts, Za, Zb, Zc, Zd, Ze, g15, g14, g8, g0, g1, g2, g3, g4, g5, g6, g7, g9, g10, g11, g12, g13]
      rw [hSd] at hS hK
      have l16 : L 16 = false := hi
      try simp only [stage, l16, if_true, if_false, Bool.false_eq_true] at hS
      have hbW : Below Wn.heap.size Wn W := by first | exact hS.1 trivial | exact hS.1 rfl | exact hS.1 | exact hS
      have x7 := HCJ.out W hbW
      have x8 := HFJ.out W hbW
      go_step
      refine hK.out _ _ rfl trivial ?_
      exact ⟨fun h => (by simp at h), fun _ => ⟨W, hbW, by rw [HGB.out, Bool.true_or]⟩⟩
    case rest =>
     intro L f WA hL hh hS
     rw [hSd] at hS
     clear hSd
     have l16 : L 16 = true := hL 16 (by decide)
     simp only [stage, l16, if_true] at hS
     clear hL l16
     obtain ⟨h0, h1, h2, h3, h4, h5, h6, h7, h8, h9, h10, h11, h12, h13, h14, h15, -⟩ := hh
     have g0 : f 0 = _ := h0
     have g1 : f 1 = _ := h1
     have g2 : f 2 = _ := h2
     have g3 : f 3 = _ := h3
     have g4 : f 4 = _ := h4
     have g5 : f 5 = _ := h5
     have g6 : f 6 = _ := h6
     have g7 : f 7 = _ := h7
     have g8 : f 8 = _ := h8
     have g9 : f 9 = _ := h9
     have g10 : f 10 = _ := h10
     have g11 : f 11 = _ := h11
     have g12 : f 12 = _ := h12
     have g13 : f 13 = _ := h13
     have g14 : f 14 = _ := h14
     have g15 : f 15 = _ := h15
     simp only [puts, Za, Zb, Zc, Zd, Ze, g0, g1, g2, g3, g4, g5, g6, g7, g8, g9, g10, g11, g12, g13, g14, g15]
     clear h0 h1 h2 h3 h4 h5 h6 h7 h8 h9 h10 h11 h12 h13 h14 h15 g0 g1 g2 g3 g4 g5 g6 g7 g8 g9 g10 g11 g12 g13 g14 g15
     obtain ⟨W', hbW, hWA⟩ := (by first | exact hS.2 trivial | exact hS.2 rfl | exact hS.2 | exact hS : ∃ W', Below Wn.heap.size Wn W' ∧ WA = W'.setCell ⟨WQ.heap.size, F, none⟩ (.bool (gb J F || gb Sb T)))
     have HON : Hid (WA.ownsRow WQ.heap.size 4 1 (.slice (some ⟨WQ.heap.size, 0, none⟩) N N) N (bvs (lonJ d Sb (j + 1))) ∧ Below WQ.heap.size WQ WA) := Lib.hid (by
      rw [hWA, HJ1.out]
      have h9 := hbN.trans (hbW.mono hbN.size)
      exact ⟨bown_store (HOW.out.kept_below (hbn.trans (hbW.mono hbn.size))) F _, h9.setCell (Nat.le_refl _) _⟩)
     clear hS hbW hWA
     go_wp2_with (fail)
     go_roundw
     case rel => exact ⟨j + 1, hlt, by go_num, HON.out.1, HON.out.2⟩
     case measure => simp [intOf]; omega
   | false =>
    have HGB := Lib.hid hg
    replace HCJ : Hid (∀ W, Below Wn.heap.size Wn W → W.cell? ⟨WQ.heap.size, F, none⟩ = some (.bool false)) := Lib.hid (fun W h => by have h9 := HCJ.out W h; rw [HGB.out] at h9; exact h9)
    clear hg
    obtain ⟨S, hSd⟩ : ∃ S : (Nat → Bool) → (Nat → Value) → World → Prop, S = fun L f W => (L 16 = false → Below Wn.heap.size Wn W) ∧ (L 16 = true → ∃ W', Below Wn.heap.size Wn W' ∧ W = W'.setCell ⟨WQ.heap.size, F, none⟩ (.bool (gb J F || gb Sb T))) := ⟨_, rfl⟩
    refine wp_region_st mixed (by kernel_rfl) [[], [], [(1, 35)], [], [], [(4, 38)], [(3, 37), (5, 39)], [(6, 40)], [(7, 41)], [(8, 42)], [(8, 42)], [(10, 44), (8, 42)], [(9, 43), (11, 45), (8, 42)], [(12, 46), (8, 42)], [(8, 42), (13, 47)], [(0, 34), (2, 36), (0, 34), (1, 35), (2, 36), (3, 37), (4, 38), (5, 39), (6, 40), (7, 41), (8, 42), (9, 43), (10, 44), (11, 45), (12, 46), (13, 47), (14, 48)], [(15, 49), (14, 48), (8, 42), (0, 34), (1, 35), (2, 36), (3, 37), (4, 38), (5, 39), (6, 40), (7, 41), (8, 42), (9, 43), (10, 44), (11, 45), (12, 46), (13, 47), (14, 48)]] [(0, 34), (1, 35), (2, 36), (3, 37), (4, 38), (5, 39), (6, 40), (7, 41), (8, 42), (9, 43), (10, 44), (11, 45), (12, 46), (13, 47), (14, 48), (15, 49)] rfl rfl [EV ?eb0, EV ?eb1, EV ?eb2, EV ?eb3, EV ?eb4, EV ?eb5, EV ?eb6, EV ?eb7, EV ?eb8, EV ?eb9, EV ?eb10, EV ?eb11, EV ?eb12, EV ?eb13, EV ?eb14, EV ?eb15, fun _ => True] S ?bstart ?bsteps ?brest
    case bstart =>
     intro f
     rw [hSd]
     exact ⟨fun _ => (Below.refl _ _).drew, fun h => (by cases h)⟩
    case bsteps =>
     refine ⟨fun L f W hi hd hdn hh hS => ?_, fun L f W hi hd hdn hh hS => ?_, fun L f W hi hd hdn hh hS => ?_, fun L f W hi hd hdn hh hS => ?_, fun L f W hi hd hdn hh hS => ?_, fun L f W hi hd hdn hh hS => ?_, fun L f W hi hd hdn hh hS => ?_, fun L f W hi hd hdn hh hS => ?_, fun L f W hi hd hdn hh hS => ?_, fun L f W hi hd hdn hh hS => ?_, fun L f W hi hd hdn hh hS => ?_, fun L f W hi hd hdn hh hS => ?_, fun L f W hi hd hdn hh hS => ?_, fun L f W hi hd hdn hh hS => ?_, fun L f W hi hd hdn hh hS => ?_, fun L f W hi hd hdn hh hS => ?_, fun L f W hi hd hdn hh hS => ?_, trivial⟩
     ·
      unfold stStep
      rw [if_pos (by simp [Region.wanted])]
      intro K Q hK
      simp only [puts, foldr_nil]
      go_step
      refine st_ex hK rfl rfl (by simp only [Act.put, setIfInBounds_toArray, set_cons_succ, set_cons_zero, Array.getD_eq_getD_getElem?, List.getElem?_toArray, List.getElem?_cons_succ, List.getElem?_cons_zero, Option.getD_some] <;> rfl) rfl (by rw [hSd] at hS ⊢; exact hS)
     ·
      unfold stStep
      rw [if_pos (by simp [Region.wanted])]
      intro K Q hK
      simp only [puts, foldr_nil]
      go_step
      refine st_ex hK rfl rfl (by simp only [Act.put, setIfInBounds_toArray, set_cons_succ, set_cons_zero, Array.getD_eq_getD_getElem?, List.getElem?_toArray, List.getElem?_cons_succ, List.getElem?_cons_zero, Option.getD_some] <;> rfl) rfl (by rw [hSd] at hS ⊢; exact hS)
     ·
      obtain ⟨h1, -⟩ := hh
      have g1 : f 1 = _ := h1
      have l15 : L 15 = false := Bool.eq_false_iff.2 fun h => by have q := hdn 15 _ h rfl 2 (by decide); rw [show L 2 = false from hi] at q; cases q
      have l16 : L 16 = false := Bool.eq_false_iff.2 fun h => by have q := hdn 16 _ h rfl 15 (by decide); rw [show L 15 = false from l15] at q; cases q
      unfold stStep
      rw [if_pos (by simp [Region.wanted])]
      intro K Q hK
      simp only [puts, Za, Zb, Zc, Zd, Ze, g1]
      have hS' := hS
      rw [hSd] at hS'
      obtain ⟨y1, y2, y3⟩ := HX3.out W (hS'.1 l16)
      go_step
      refine st_ex hK rfl rfl (by simp only [Act.put, setIfInBounds_toArray, set_cons_succ, set_cons_zero, Array.getD_eq_getD_getElem?, List.getElem?_toArray, List.getElem?_cons_succ, List.getElem?_cons_zero, Option.getD_some] <;> rfl) rfl (by rw [hSd] at hS ⊢; exact hS)
     ·
      unfold stStep
      rw [if_pos (by simp [Region.wanted])]
      intro K Q hK
      simp only [puts, foldr_nil]
      go_step
      refine st_ex hK rfl rfl (by simp only [Act.put, setIfInBounds_toArray, set_cons_succ, set_cons_zero, Array.getD_eq_getD_getElem?, List.getElem?_toArray, List.getElem?_cons_succ, List.getElem?_cons_zero, Option.getD_some] <;> rfl) rfl (by rw [hSd] at hS ⊢; exact hS)
     ·
      unfold stStep
      rw [if_pos (by simp [Region.wanted])]
      intro K Q hK
      simp only [puts, foldr_nil]
      go_step
      refine st_ex hK rfl rfl (by simp only [Act.put, setIfInBounds_toArray, set_cons_succ, set_cons_zero, Array.getD_eq_getD_getElem?, List.getElem?_toArray, List.getElem?_cons_succ, List.getElem?_cons_zero, Option.getD_some] <;> rfl) rfl (by rw [hSd] at hS ⊢; exact hS)
     ·
      obtain ⟨h4, -⟩ := hh
      have g4 : f 4 = _ := h4
      have l6 : L 6 = false := Bool.eq_false_iff.2 fun h => by have q := hdn 6 _ h rfl 5 (by decide); rw [show L 5 = false from hi] at q; cases q
      have l7 : L 7 = false := Bool.eq_false_iff.2 fun h => by have q := hdn 7 _ h rfl 6 (by decide); rw [show L 6 = false from l6] at q; cases q
      have l8 : L 8 = false := Bool.eq_false_iff.2 fun h => by have q := hdn 8 _ h rfl 7 (by decide); rw [show L 7 = false from l7] at q; cases q
      have l14 : L 14 = false := Bool.eq_false_iff.2 fun h => by have q := hdn 14 _ h rfl 8 (by decide); rw [show L 8 = false from l8] at q; cases q
      have l16 : L 16 = false := Bool.eq_false_iff.2 fun h => by have q := hdn 16 _ h rfl 14 (by decide); rw [show L 14 = false from l14] at q; cases q
      unfold stStep
      rw [if_pos (by simp [Region.wanted])]
      intro K Q hK
      simp only [puts, Za, Zb, Zc, Zd, Ze, g4]
      have hS' := hS
      rw [hSd] at hS'
      obtain ⟨y1, y2, y3⟩ := HX3.out W (hS'.1 l16)
      go_step
      refine st_ex hK rfl rfl (by simp only [Act.put, setIfInBounds_toArray, set_cons_succ, set_cons_zero, Array.getD_eq_getD_getElem?, List.getElem?_toArray, List.getElem?_cons_succ, List.getElem?_cons_zero, Option.getD_some] <;> rfl) rfl (by rw [hSd] at hS ⊢; exact hS)
     ·
      obtain ⟨h3, h5, -⟩ := hh
      have g3 : f 3 = _ := h3
      have g5 : f 5 = _ := h5
      unfold stStep
      rw [if_pos (by simp [Region.wanted])]
      intro K Q hK
      simp only [puts, Za, Zb, Zc, Zd, Ze, g3, g5]
      go_step
      refine st_ex hK rfl rfl (by simp only [Act.put, setIfInBounds_toArray, set_cons_succ, set_cons_zero, Array.getD_eq_getD_getElem?, List.getElem?_toArray, List.getElem?_cons_succ, List.getElem?_cons_zero, Option.getD_some] <;> rfl) rfl (by rw [hSd] at hS ⊢; exact hS)
     ·
      obtain ⟨h6, -⟩ := hh
      have g6 : f 6 = _ := h6
      have l8 : L 8 = false := Bool.eq_false_iff.2 fun h => by have q := hdn 8 _ h rfl 7 (by decide); rw [show L 7 = false from hi] at q; cases q
      have l14 : L 14 = false := Bool.eq_false_iff.2 fun h => by have q := hdn 14 _ h rfl 8 (by decide); rw [show L 8 = false from l8] at q; cases q
      have l16 : L 16 = false := Bool.eq_false_iff.2 fun h => by have q := hdn 16 _ h rfl 14 (by decide); rw [show L 14 = false from l14] at q; cases q
      unfold stStep
      rw [if_pos (by simp [Region.wanted])]
      intro K Q hK
      simp only [puts, Za, Zb, Zc, Zd, Ze, g6]
      have hS' := hS
      rw [hSd] at hS'
      have x7 := HCJ.out W (hS'.1 l16)
      go_step
      refine st_ex hK rfl rfl (by simp only [Act.put, setIfInBounds_toArray, set_cons_succ, set_cons_zero, Array.getD_eq_getD_getElem?, List.getElem?_toArray, List.getElem?_cons_succ, List.getElem?_cons_zero, Option.getD_some] <;> rfl) rfl (by rw [hSd] at hS ⊢; exact hS)
     ·
      obtain ⟨h7, -⟩ := hh
      have g7 : f 7 = _ := h7
      unfold stStep
      rw [if_pos (by simp [Region.wanted])]
      intro K Q hK
      simp only [puts, Za, Zb, Zc, Zd, Ze, g7]
      go_step
      refine st_ex hK rfl rfl (by simp only [Act.put, setIfInBounds_toArray, set_cons_succ, set_cons_zero, Array.getD_eq_getD_getElem?, List.getElem?_toArray, List.getElem?_cons_succ, List.getElem?_cons_zero, Option.getD_some] <;> rfl) rfl (by rw [hSd] at hS ⊢; exact hS)
     ·
      obtain ⟨h8, -⟩ := hh
      have g8 : f 8 = _ := h8
      refine st_yes g8 fun K Q hK => ?_
      simp only [puts, Za, Zb, Zc, Zd, Ze, g8]
      go_step
      refine st_ex hK rfl rfl (by simp only [Act.put, setIfInBounds_toArray, set_cons_succ, set_cons_zero, Array.getD_eq_getD_getElem?, List.getElem?_toArray, List.getElem?_cons_succ, List.getElem?_cons_zero, Option.getD_some] <;> rfl) rfl (by rw [hSd] at hS ⊢; exact hS)
     ·
      obtain ⟨h8, -⟩ := hh
      have g8 : f 8 = _ := h8
      refine st_yes g8 fun K Q hK => ?_
      simp only [puts, Za, Zb, Zc, Zd, Ze, g8]
      go_step
      refine st_ex hK rfl rfl (by simp only [Act.put, setIfInBounds_toArray, set_cons_succ, set_cons_zero, Array.getD_eq_getD_getElem?, List.getElem?_toArray, List.getElem?_cons_succ, List.getElem?_cons_zero, Option.getD_some] <;> rfl) rfl (by rw [hSd] at hS ⊢; exact hS)
     ·
      obtain ⟨h10, h8, -⟩ := hh
      have g10 : f 10 = _ := h10
      have g8 : f 8 = _ := h8
      have l12 : L 12 = false := Bool.eq_false_iff.2 fun h => by have q := hdn 12 _ h rfl 11 (by decide); rw [show L 11 = false from hi] at q; cases q
      have l13 : L 13 = false := Bool.eq_false_iff.2 fun h => by have q := hdn 13 _ h rfl 12 (by decide); rw [show L 12 = false from l12] at q; cases q
      have l14 : L 14 = false := Bool.eq_false_iff.2 fun h => by have q := hdn 14 _ h rfl 13 (by decide); rw [show L 13 = false from l13] at q; cases q
      have l16 : L 16 = false := Bool.eq_false_iff.2 fun h => by have q := hdn 16 _ h rfl 14 (by decide); rw [show L 14 = false from l14] at q; cases q
      refine st_yes g8 fun K Q hK => ?_
      simp only [puts, Za, Zb, Zc, Zd, Ze, g10, g8]
      have hS' := hS
      rw [hSd] at hS'
      obtain ⟨y1, y2, y3⟩ := HX3.out W (hS'.1 l16)
      go_step
      refine st_ex hK rfl rfl (by simp only [Act.put, setIfInBounds_toArray, set_cons_succ, set_cons_zero, Array.getD_eq_getD_getElem?, List.getElem?_toArray, List.getElem?_cons_succ, List.getElem?_cons_zero, Option.getD_some] <;> rfl) rfl (by rw [hSd] at hS ⊢; exact hS)
     ·
      obtain ⟨h9, h11, h8, -⟩ := hh
      have g9 : f 9 = _ := h9
      have g11 : f 11 = _ := h11
      have g8 : f 8 = _ := h8
      refine st_yes g8 fun K Q hK => ?_
      simp only [puts, Za, Zb, Zc, Zd, Ze, g9, g11, g8]
      go_step
      refine st_ex hK rfl rfl (by simp only [Act.put, setIfInBounds_toArray, set_cons_succ, set_cons_zero, Array.getD_eq_getD_getElem?, List.getElem?_toArray, List.getElem?_cons_succ, List.getElem?_cons_zero, Option.getD_some] <;> rfl) rfl (by rw [hSd] at hS ⊢; exact hS)
     ·
      obtain ⟨h12, h8, -⟩ := hh
      have g12 : f 12 = _ := h12
      have g8 : f 8 = _ := h8
      have l14 : L 14 = false := Bool.eq_false_iff.2 fun h => by have q := hdn 14 _ h rfl 13 (by decide); rw [show L 13 = false from hi] at q; cases q
      have l16 : L 16 = false := Bool.eq_false_iff.2 fun h => by have q := hdn 16 _ h rfl 14 (by decide); rw [show L 14 = false from l14] at q; cases q
      refine st_yes g8 fun K Q hK => ?_
      simp only [puts, Za, Zb, Zc, Zd, Ze, g12, g8]
      have hS' := hS
      rw [hSd] at hS'
      have x9 := HCS2.out W (hS'.1 l16)
      go_step
      refine st_ex hK rfl rfl (by simp only [Act.put, setIfInBounds_toArray, set_cons_succ, set_cons_zero, Array.getD_eq_getD_getElem?, List.getElem?_toArray, List.getElem?_cons_succ, List.getElem?_cons_zero, Option.getD_some] <;> rfl) rfl (by rw [hSd] at hS ⊢; exact hS)
     ·
      obtain ⟨h8, h13, -⟩ := hh
      have g8 : f 8 = _ := h8
      have g13 : f 13 = _ := h13
      unfold stStep
      rw [if_pos (by simp [Region.wanted])]
      intro K Q hK
      simp only [puts, Za, Zb, Zc, Zd, Ze, g8, g13]
      go_step
      refine st_ex hK rfl rfl (by simp only [Act.put, setIfInBounds_toArray, set_cons_succ, set_cons_zero, Array.getD_eq_getD_getElem?, List.getElem?_toArray, List.getElem?_cons_succ, List.getElem?_cons_zero, Option.getD_some] <;> rfl) rfl (by rw [hSd] at hS ⊢; exact hS)
     ·
      obtain ⟨h0, h2, _, h1, _, h3, h4, h5, h6, h7, h8, h9, h10, h11, h12, h13, h14, -⟩ := hh
      have g0 : f 0 = _ := h0
      have g2 : f 2 = _ := h2
      have g1 : f 1 = _ := h1
      have g3 : f 3 = _ := h3
      have g4 : f 4 = _ := h4
      have g5 : f 5 = _ := h5
      have g6 : f 6 = _ := h6
      have g7 : f 7 = _ := h7
      have g8 : f 8 = _ := h8
      have g9 : f 9 = _ := h9
      have g10 : f 10 = _ := h10
      have g11 : f 11 = _ := h11
      have g12 : f 12 = _ := h12
      have g13 : f 13 = _ := h13
      have g14 : f 14 = _ := h14
      unfold stStep
      rw [if_pos (by simp [Region.wanted])]
      intro K Q hK
      simp only [puts, Za, Zb, Zc, Zd, Ze, g0, g2, g1, g3, g4, g5, g6, g7, g8, g9, g10, g11, g12, g13, g14]
      go_step
      refine st_ex hK rfl rfl (by simp only [Act.put, setIfInBounds_toArray, set_cons_succ, set_cons_zero, Array.getD_eq_getD_getElem?, List.getElem?_toArray, List.getElem?_cons_succ, List.getElem?_cons_zero, Option.getD_some] <;> rfl) rfl (by rw [hSd] at hS ⊢; exact hS)
     ·
      obtain ⟨h15, h14, h8, h0, h1, h2, h3, h4, h5, h6, h7, _, h9, h10, h11, h12, h13, _, -⟩ := hh
      have g15 : f 15 = _ := h15
      have g14 : f 14 = _ := h14
      have g8 : f 8 = _ := h8
      have g0 : f 0 = _ := h0
      have g1 : f 1 = _ := h1
      have g2 : f 2 = _ := h2
      have g3 : f 3 = _ := h3
      have g4 : f 4 = _ := h4
      have g5 : f 5 = _ := h5
      have g6 : f 6 = _ := h6
      have g7 : f 7 = _ := h7
      have g9 : f 9 = _ := h9
      have g10 : f 10 = _ := h10
      have g11 : f 11 = _ := h11
      have g12 : f 12 = _ := h12
      have g13 : f 13 = _ := h13
      unfold stStep
      rw [if_pos (by simp [Region.wanted])]
      intro K Q hK
      simp only [puts, Za, Zb, Zc, Zd, Ze, g15, g14, g8, g0, g1, g2, g3, g4, g5, g6, g7, g9, g10, g11, g12, g13]
      rw [hSd] at hS hK
      have l16 : L 16 = false := hi
      try simp only [stage, l16, if_true, if_false, Bool.false_eq_true] at hS
      have hbW : Below Wn.heap.size Wn W := by first | exact hS.1 trivial | exact hS.1 rfl | exact hS.1 | exact hS
      have x7 := HCJ.out W hbW
      have x8 := HFJ.out W hbW
      go_step
      refine hK.out _ _ rfl trivial ?_
      exact ⟨fun h => (by simp at h), fun _ => ⟨W, hbW, by rw [HGB.out, Bool.false_or]⟩⟩
    case brest =>
     intro L f WA hL hh hS
     rw [hSd] at hS
     clear hSd
     have l16 : L 16 = true := hL 16 (by decide)
     simp only [stage, l16, if_true] at hS
     clear hL l16
     obtain ⟨h0, h1, h2, h3, h4, h5, h6, h7, h8, h9, h10, h11, h12, h13, h14, h15, -⟩ := hh
     have g0 : f 0 = _ := h0
     have g1 : f 1 = _ := h1
     have g2 : f 2 = _ := h2
     have g3 : f 3 = _ := h3
     have g4 : f 4 = _ := h4
     have g5 : f 5 = _ := h5
     have g6 : f 6 = _ := h6
     have g7 : f 7 = _ := h7
     have g8 : f 8 = _ := h8
     have g9 : f 9 = _ := h9
     have g10 : f 10 = _ := h10
     have g11 : f 11 = _ := h11
     have g12 : f 12 = _ := h12
     have g13 : f 13 = _ := h13
     have g14 : f 14 = _ := h14
     have g15 : f 15 = _ := h15
     simp only [puts, Za, Zb, Zc, Zd, Ze, g0, g1, g2, g3, g4, g5, g6, g7, g8, g9, g10, g11, g12, g13, g14, g15]
     clear h0 h1 h2 h3 h4 h5 h6 h7 h8 h9 h10 h11 h12 h13 h14 h15 g0 g1 g2 g3 g4 g5 g6 g7 g8 g9 g10 g11 g12 g13 g14 g15
     obtain ⟨W', hbW, hWA⟩ := (by first | exact hS.2 trivial | exact hS.2 rfl | exact hS.2 | exact hS : ∃ W', Below Wn.heap.size Wn W' ∧ WA = W'.setCell ⟨WQ.heap.size, F, none⟩ (.bool (gb J F || gb Sb T)))
     have HON : Hid (WA.ownsRow WQ.heap.size 4 1 (.slice (some ⟨WQ.heap.size, 0, none⟩) N N) N (bvs (lonJ d Sb (j + 1))) ∧ Below WQ.heap.size WQ WA) := Lib.hid (by
      rw [hWA, HJ1.out]
      have h9 := hbN.trans (hbW.mono hbN.size)
      exact ⟨bown_store (HOW.out.kept_below (hbn.trans (hbW.mono hbn.size))) F _, h9.setCell (Nat.le_refl _) _⟩)
     clear hS hbW hWA
     go_wp2_with (fail)
     go_roundw
     case rel => exact ⟨j + 1, hlt, by go_num, HON.out.1, HON.out.2⟩
     case measure => simp [intOf]; omega
  ·obtain rfl : j = al := by omega
   have t1 : decide (j < j) = false := decide_eq_false (by omega)
   obtain ⟨J, hJ⟩ : ∃ J, lonJ d Sb j = J := ⟨_, rfl⟩
   have HJE : Hid (J = canT d (k + 1)) := Lib.hid (by rw [← hJ, ← HSS.out, ← HAL.out]; exact lon_all HV.out k)
   rw [hJ] at ho hlen
   obtain ⟨u, hu2⟩ : ∃ u : Td, u = ⟨some ⟨WQ.heap.size, 0, none⟩, N, J⟩ := ⟨_, rfl⟩
   have huv : u.v = .slice (some ⟨WQ.heap.size, 0, none⟩) N N := by rw [hu2]; show Value.slice _ J.length N = _; rw [hlen]
   have hat : Pc.At wr WQ.heap.size u.pc := by
    rw [hu2]
    show wr.ownsRow _ _ 1 (.slice _ J.length N) J.length _
    rw [hlen]
    exact ho
   have HPU : Hid (Pcs wr B (wsPs sb C0 oa oc (some ⟨g, 0, none⟩) cc vs us ++ [u.pc])) := Lib.hid (HPQ.out.add u.pc (below_grows hb none) (hat.low HBQ.out.2) (fun k hk => (hat.lt hk).1))
   have HUZ : Hid (u.z = canT d (k + 1) ∧ u.v = .slice (some ⟨WQ.heap.size, 0, none⟩) N N) := Lib.hid ⟨by rw [hu2]; exact HJE.out, huv⟩
   have hal9 : Below wr.heap.size wr (wr.alloc (.cells #[.slice (some ⟨WQ.heap.size, 0, none⟩) N N] 22)) := (Below.refl _ _).alloc (Nat.le_refl _) _
   have HP8 := Lib.hid (HPU.out.quiet (below_grows hal9 none))
   have HB8 : Hid (Below B W0 (wr.alloc (.cells #[.slice (some ⟨WQ.heap.size, 0, none⟩) N N] 22)) ∧ B ≤ (wr.alloc (.cells #[.slice (some ⟨WQ.heap.size, 0, none⟩) N N] 22)).heap.size) := Lib.hid ⟨(HBQ.out.1.trans (hb.mono HBQ.out.2)).trans (hal9.mono (Nat.le_trans HBQ.out.2 hb.size)), Nat.le_trans HBQ.out.2 (Nat.le_trans hb.size hal9.size)⟩
   obtain ⟨z4, -⟩ := HC4.out wr _ HPU.out
   obtain ⟨z8, -⟩ := HC4.out _ _ HP8.out
   clear hJ ho hlen hb hu2 huv hat hal9 hge hj
   go_wp2_with (at_builtin; refine app_pcs elBB rfl _ _ rfl 2 rfl HP8.out rfl rfl (new_src wr #[.slice (some ⟨WQ.heap.size, 0, none⟩) N N] _ rfl) (by intro u hu; rw [List.mem_singleton.1 hu]; rfl) (by omega) HB8.out.2 ?_; intro a9 c9 w9 hp9 hb9; have hp10 := ws_push (u := u) (by rw [HUZ.out.2]; exact hp9); obtain ⟨z9, z10⟩ := HC4.out _ _ hp10; have HP9 := Lib.hid hp10; have HB9 := Lib.hid hb9; clear hp9 hb9 hp10)
   refine ⟨rfl, _, results_none rfl _ _ _, rfl, a9, c9, u, HUZ.out.1, ?_, (HB8.out.1.trans HB9.out).setCell (by show _ ≤ sb; exact HSB.out.1) _⟩
   have h1 := HP9.out.blkStore 0 rfl 4 (.slice a9 (us.length + 1) c9)
   rw [HCS.out] at h1
   rw [List.length_append]
   exact h1
end Go.Proofs.Ytpcbmhfnefhenaa
