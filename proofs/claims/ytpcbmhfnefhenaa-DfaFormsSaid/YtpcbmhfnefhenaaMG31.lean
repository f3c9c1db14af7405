import Derived.Test.YtpcbmhfnefhenaaMG13
import Derived.Test.YtpcbmhfnefhenaaMG24
import Derived.Test.YtpcbmhfnefhenaaMG30
/-
  DfaRt, DfaRm
-/
set_option linter.unusedSimpArgs false
set_option linter.unusedVariables false
namespace Go.Proofs.Ytpcbmhfnefhenaa
open Go.RowKit
attribute [local go_sem] Oper.semAt_some

theorem useL_len {d : Dfa} : (useL d).length ≤ d.n.toNat := by
  unfold useL
  refine Nat.le_trans (List.length_filter_le _ _) ?_
  simp [lets]
set_option maxRecDepth 20000 in
set_option maxHeartbeats 4000000 in
theorem refTrim_yes {d : Dfa} {h : DH} {w : World} (hv : ValidD d) (hd : IsDfa w h d) : Calls Try.prog 17 #[vDf d h] w (GivesDE (trimD d) 0 w) := by
  obtain ⟨MD, hMD⟩ : ∃ MD, trimD d = MD := ⟨_, rfl⟩
  rw [hMD]
  have HV := Lib.hid hv
  have hn := Lib.hid hv.1
  have hss := Lib.hid hv.2.1
  obtain ⟨W1, hW1, hs1, hb1, hO⟩ := boxRW d h w hd
  obtain ⟨W2, hW2, hb2, hs2, hZ2⟩ := rbox_ready hs1
  have HO : Hid (∀ W, Below (w.heap.size + 1) W2 W → (W.cell? ⟨w.heap.size, 0, none⟩ = some (.int .i64 d.n) ∧ W.cell? ⟨w.heap.size, 1, none⟩ = some (.int .i64 d.s) ∧ W.cell? ⟨w.heap.size, 2, none⟩ = some (.slice h.fa h.fl h.fc) ∧ W.cell? ⟨w.heap.size, 3, none⟩ = some (.slice h.aa h.al h.ac)) ∧ IsDfa W h d ∧ Below w.heap.size w W) := Lib.hid (fun W hb => hO W ((hb2.mono (by omega)).trans hb))
  obtain ⟨⟨c1, c2, c3, c4⟩, hd2, -⟩ := HO.out W2 (Below.refl _ _)
  have hva := refValid_yes hv hd2
  have HS2 := Lib.hid hs2
  have HZ2 := Lib.hid hZ2
  unfold vDf at hva ⊢
  clear hO hb2 hb1 hd2 hv hs2 hZ2
  go_enter Try.func17, Try.ntmps17
  go_wp2_with (go_at_call 25; refine hva.mono ?_; rintro e w3 ⟨rfl, hb3⟩; obtain ⟨⟨k1, k2, k3, k4⟩, hd3, hbw3⟩ := HO.out w3 (hb3.mono (by rw [HS2.out]; omega)))
  have hb3' : Below (w.heap.size + 1) W2 w3 := hb3.mono (by rw [HS2.out]; omega)
  have hZ3 : w3.heap[w.heap.size + 1]? = some (.cells #[.int .i64 0, .int .i64 0, .slice none 0 0, .slice none 0 0] 25 (0, 0)) := by rw [hb3.block _ (by rw [HS2.out]; omega)]; exact HZ2.out
  have HS3 : Hid (w.heap.size + 2 ≤ w3.heap.size) := Lib.hid (by rw [← HS2.out]; exact hb3.size)
  have HZ3 := Lib.hid hZ3
  have HB3 := Lib.hid hb3'
  refine (refUseful_any HV.out hd3).mono ?_
  rintro e w4 ⟨⟨a4, n4, c4', rfl, hI4⟩, hb4⟩
  have hb4' : Below (w.heap.size + 1) W2 w4 := hb3'.trans (hb4.mono (by have := HS3.out; omega))
  obtain ⟨⟨m1, m2, m3, m4⟩, hd4, hbw4⟩ := HO.out w4 hb4'
  have HZ4 : Hid (w4.heap[w.heap.size + 1]? = some (.cells #[.int .i64 0, .int .i64 0, .slice none 0 0, .slice none 0 0] 25 (0, 0)) ∧ w.heap.size + 2 ≤ w4.heap.size) := Lib.hid ⟨by rw [hb4.block _ (by have := HS3.out; omega)]; exact hZ3, Nat.le_trans HS3.out hb4.size⟩
  have hlen : n4 ≤ 1000 := by have h1 := hI4.length; have h2 := useL_len (d := d); have := hn.out; omega
  have hHas := refHas_any _ _ _ _ d.s w4 hI4 (by omega)
  have hmem := useL_mem d (T := d.s.toNat) (by have := hss.out; omega)
  rw [Int.toNat_of_nonneg hss.out.1] at hmem
  rw [hmem] at hHas
  have HBW4 := Lib.hid hbw4
  have HB4 := Lib.hid hb4'
  clear k1 k2 k3 k4 hd3 hbw3 c1 c2 c3 c4 hva hb3 hb3' hZ3 hs1 hW1 hW2 hb4 hb4' hbw4 hmem
  cases hk : gb (keepU d) d.s.toNat with
  | true =>
    rw [hk] at hHas
    have HT : Hid (MD = numD d (keepU d)) := Lib.hid (by rw [← hMD]; unfold trimD canD; rw [if_pos hk])
    have hnum := refNumber_any HV.out hd4 hI4 (by omega) (keep := keepU d) (fun T hT => useL_mem d hT)
    rw [← HT.out] at hnum
    unfold vDf at hnum
    clear hI4 hk HT hMD hd4
    go_wp2_with (first | (go_at_call 43; refine hHas.mono ?_; rintro e w5 ⟨rfl, rfl⟩) | (go_at_call 39; refine hnum.mono ?_; rintro e w6 ⟨⟨h', rfl, hD6⟩, hb6⟩; have HZ6 : Hid (w6.heap[w.heap.size + 1]? = some (.cells #[.int .i64 0, .int .i64 0, .slice none 0 0, .slice none 0 0] 25 (0, 0))) := Lib.hid (by rw [hb6.block _ (by have := HZ4.out.2; omega)]; exact HZ4.out.1)) | (show wpList _ _ _ (⟨_, .store 25 _ _, _, _, _, _⟩ :: _) _ _; refine wpList_store_row rfl 25 _ _ rfl (w.heap.size + 1) #[.int .i64 MD.n, .int .i64 MD.s, .slice h'.fa h'.fl h'.fc, .slice h'.aa h'.al h'.ac] rfl rfl _ _ HZ6.out ref_i rfl (dfa_one _ _ _ _ _ _ _ _) ?_))
    refine bodyPost_ret (results_cell_row2 rfl _ _ (w.heap.size + 1) _ _ _ _ rfl rfl (setRow_heap _ _ _ _ _ _ HZ6.out) Try.underlying25 rfl ref_i) rfl ?_
    exact ⟨⟨h', rfl, IsDfa.boxed _ HZ6.out hD6⟩, below_setRow (HBW4.out.trans (hb6.mono HBW4.out.size)) (by omega) _⟩
  | false =>
    rw [hk] at hHas
    have hT : MD = noneD := by rw [← hMD]; unfold trimD canD; rw [if_neg (by rw [hk]; decide)]; rfl
    clear hMD
    subst hT
    have HZ5 : Hid ((w4.alloc (.cells #[.bool false] 4)).heap[w.heap.size + 1]? = some (.cells #[.int .i64 0, .int .i64 0, .slice none 0 0, .slice none 0 0] 25 (0, 0))) := Lib.hid (heap_push HZ4.out.1 _)
    have HB5 : Hid (Below w.heap.size w (w4.alloc (.cells #[.bool false] 4))) := Lib.hid (HBW4.out.alloc HBW4.out.size _)
    clear hI4 hk hd4
    go_wp2_with (first | (go_at_call 43; refine hHas.mono ?_; rintro e w5 ⟨rfl, rfl⟩) | (show wpList _ _ _ (⟨_, .store 25 _ _, _, _, _, _⟩ :: _) _ _; refine wpList_store_row rfl 25 _ _ rfl (w.heap.size + 1) #[.int .i64 1, .int .i64 0, .slice (some ⟨w4.heap.size, 0, none⟩) 1 1, .slice none 0 0] rfl rfl _ _ HZ5.out ref_i rfl (dfa_one _ _ _ _ _ _ _ _) ?_))
    refine bodyPost_ret (results_cell_row2 rfl _ _ (w.heap.size + 1) _ _ _ _ rfl rfl (setRow_heap _ _ _ _ _ _ HZ5.out) Try.underlying25 rfl ref_i) rfl ?_
    exact ⟨⟨⟨some ⟨w4.heap.size, 0, none⟩, 1, 1, none, 0, 0⟩, rfl, IsDfa.boxed (D := noneD) (h := ⟨some ⟨w4.heap.size, 0, none⟩, 1, 1, none, 0, 0⟩) _ HZ5.out ⟨IsBools.of_block (ss := [false]) (T := 4) (heap_alloc_new w4 _) rfl (by show (1 : Nat) ≤ maxLen; decide), isArcs_nil _⟩⟩, below_setRow HB5.out (by omega) _⟩
set_option maxRecDepth 20000 in
set_option maxHeartbeats 4000000 in
theorem refTrim_no {d : Dfa} {h : DH} {w : World} (hv : ¬ ValidD d) (hd : IsDfa w h d) : Calls Try.prog 17 #[vDf d h] w (GivesDE zeroD 1 w) := by
  obtain ⟨W1, hW1, hs1, hb1, hO⟩ := boxRW d h w hd
  obtain ⟨W2, hW2, hb2, hs2, hZ2⟩ := rbox_ready hs1
  have HO : Hid (∀ W, Below (w.heap.size + 1) W2 W → (W.cell? ⟨w.heap.size, 0, none⟩ = some (.int .i64 d.n) ∧ W.cell? ⟨w.heap.size, 1, none⟩ = some (.int .i64 d.s) ∧ W.cell? ⟨w.heap.size, 2, none⟩ = some (.slice h.fa h.fl h.fc) ∧ W.cell? ⟨w.heap.size, 3, none⟩ = some (.slice h.aa h.al h.ac)) ∧ IsDfa W h d ∧ Below w.heap.size w W) := Lib.hid (fun W hb => hO W ((hb2.mono (by omega)).trans hb))
  obtain ⟨⟨c1, c2, c3, c4⟩, hd2, -⟩ := HO.out W2 (Below.refl _ _)
  have hva := refValid_no hv hd2
  have HS2 := Lib.hid hs2
  have HZ2 := Lib.hid hZ2
  unfold vDf at hva ⊢
  clear hO hb2 hb1 hd2 hv hs2 hZ2
  go_enter Try.func17, Try.ntmps17
  go_wp2_with (first | (go_at_call 25; refine hva.mono ?_; rintro e w3 ⟨rfl, hb3⟩; obtain ⟨⟨k1, k2, k3, k4⟩, hd3, hbw3⟩ := HO.out w3 (hb3.mono (by rw [HS2.out]; omega)); have HZ3 : Hid (w3.heap[w.heap.size + 1]? = some (.cells #[.int .i64 0, .int .i64 0, .slice none 0 0, .slice none 0 0] 25 (0, 0))) := Lib.hid (by rw [hb3.block _ (by rw [HS2.out]; omega)]; exact HZ2.out)) | (show wpList _ _ _ (⟨_, .store 25 _ _, _, _, _, _⟩ :: _) _ _; refine wpList_store_row rfl 25 _ _ rfl (w.heap.size + 1) #[.int .i64 0, .int .i64 0, .slice none 0 0, .slice none 0 0] rfl rfl _ _ HZ3.out ref_i rfl (dfa_one _ _ _ _ _ _ _ _) ?_))
  refine bodyPost_ret (results_cell_row2 rfl _ _ (w.heap.size + 1) _ _ _ _ rfl rfl (setRow_heap _ _ _ _ _ _ HZ3.out) Try.underlying25 rfl ref_i) rfl ?_
  exact ⟨⟨⟨none, 0, 0, none, 0, 0⟩, rfl, isDfa_zero _⟩, below_setRow hbw3 (by omega) _⟩
theorem refTrim_any {d : Dfa} {h : DH} {w : World} (hd : IsDfa w h d) : Calls Try.prog 17 #[vDf d h] w (GivesDE (orZero d (trimD d)) (orErr d) w) := by
  by_cases hv : ValidD d
  · unfold orZero orErr
    rw [if_pos hv, if_pos hv]
    exact refTrim_yes hv hd
  · unfold orZero orErr
    rw [if_neg hv, if_neg hv]
    exact refTrim_no hv hd
end Go.Proofs.Ytpcbmhfnefhenaa

namespace Go.Proofs.Ytpcbmhfnefhenaa
theorem plF_get {α : Type} [DecidableEq α] {l : List α} {x : α} (hx : x ∈ l) : l[plF l x]'(plF_lt hx) = x := List.getElem_idxOf (List.idxOf_lt_length_of_mem hx)
section
variable (es : List A3) (fin : List Bool) (C : List Int) (N : Nat)
def sigR (i : Nat) : Int × Bool × List (Int × Int) := (gi C i, gb fin i, (outsD es i).map fun x => (x.l, gi C x.t.toNat))
def sigsR : List (Int × Bool × List (Int × Int)) := (List.range N).map (sigR es fin C)
def freshC : List Int := (List.range N).map fun i => ((plF (sigsR es fin C N) (sigR es fin C i) : Nat) : Int)
end
section
variable {es : List A3} {fin : List Bool} {C : List Int} {N : Nat}
theorem sigsR_len : (sigsR es fin C N).length = N := by simp [sigsR]
theorem freshC_len : (freshC es fin C N).length = N := by simp [freshC]
theorem sigR_mem {i : Nat} (h : i < N) : sigR es fin C i ∈ sigsR es fin C N := List.mem_map.2 ⟨i, List.mem_range.2 h, rfl⟩
theorem freshC_at {i : Nat} (h : i < N) : gi (freshC es fin C N) i = ((plF (sigsR es fin C N) (sigR es fin C i) : Nat) : Int) := by
  rw [gi_eq _ _ (by rw [freshC_len]; exact h)]
  simp [freshC]
theorem freshC_same {i j : Nat} (hi : i < N) (hj : j < N) : gi (freshC es fin C N) i = gi (freshC es fin C N) j ↔ sigR es fin C i = sigR es fin C j := by
  rw [freshC_at hi, freshC_at hj]
  refine ⟨fun e => idx_inj (sigR_mem hi) (sigR_mem hj) (by omega), fun e => by rw [e]⟩
theorem freshC_lt {i : Nat} (h : i < N) : 0 ≤ gi (freshC es fin C N) i ∧ gi (freshC es fin C N) i < N := by
  rw [freshC_at h]
  have h1 := plF_lt (sigR_mem (es := es) (fin := fin) (C := C) h)
  rw [sigsR_len] at h1
  omega
theorem freshC_sig {i : Nat} (h : i < N) : sigR es fin C (gi (freshC es fin C N) i).toNat = sigR es fin C i := by
  rw [freshC_at h, Int.toNat_natCast]
  have h2 := plF_get (sigR_mem (es := es) (fin := fin) (C := C) h)
  simp only [sigsR, List.getElem_map, List.getElem_range] at h2
  exact h2
end
def Coarse (t : Dfa) (C : List Int) : Prop := ∀ i j : Nat, (i : Int) < t.n → (j : Int) < t.n → lgD t i = lgD t j → gi C i = gi C j
theorem fresh_coarse {t : Dfa} (hv : ValidD t) (hu : Useful t) {C : List Int} (hC : Coarse t C) : Coarse t (freshC t.arcs t.fin C t.n.toNat) := by
  intro i j hi hj e
  have hn := hv.1
  refine (freshC_same (by omega) (by omega)).2 ?_
  unfold sigR
  have h1 : gb t.fin i = gb t.fin j := by
    have e1 : accQ t i [] = accQ t j [] := congrFun e []
    rw [accQ_nil, accQ_nil, Int.toNat_natCast, Int.toNat_natCast] at e1
    exact e1
  rw [hC i j hi hj e, h1, lang_tgt hv hu hC e]
theorem fix_byLang {t : Dfa} (hv : ValidD t) {C : List Int} (hC : Coarse t C) (hf : freshC t.arcs t.fin C t.n.toNat = C) : ByLang t C := by
  have hn := hv.1
  have h1 := bisim hv C (fun i j hi hj e => by
    rw [← hf] at e
    have h := (freshC_same (by omega) (by omega)).1 e
    unfold sigR at h
    simp only [Prod.mk.injEq] at h
    exact ⟨h.2.1, h.2.2⟩)
  exact fun i j hi hj => ⟨fun e => funext fun w => h1 w i j hi hj e, hC i j hi hj⟩
def LeastC (C : List Int) (N : Nat) : Prop := ∀ i : Nat, i < N → (0 ≤ gi C i ∧ gi C i ≤ i) ∧ gi C (gi C i).toNat = gi C i ∧ ∀ j : Nat, j < N → gi C j = gi C i → gi C i ≤ j
theorem least_zero (N : Nat) : LeastC (List.replicate N 0) N := by
  intro i hi
  have h : ∀ k, gi (List.replicate N (0 : Int)) k = 0 := fun k => by
    by_cases hk : k < N
    · rw [gi_eq _ _ (by simpa using hk)]; simp
    · simp [gi, List.getElem?_eq_none (show (List.replicate N (0 : Int)).length ≤ k by simp; omega)]
  refine ⟨by rw [h]; omega, by rw [h, h], fun j _ _ => by rw [h]; omega⟩
theorem plF_first {α : Type} [DecidableEq α] {l : List α} {x : α} {k : Nat} (hk : k < l.length) (h : l[k] = x) : plF l x ≤ k := by
  refine Classical.byContradiction fun hn => ?_
  have h2 := List.not_of_lt_findIdx (p := (· == x)) (xs := l) (i := k) (by unfold plF List.idxOf at hn; omega)
  rw [h] at h2
  simp at h2
theorem fresh_least (es : List A3) (fin : List Bool) (C : List Int) (N : Nat) : LeastC (freshC es fin C N) N := by
  have key : ∀ i j : Nat, i < N → j < N → sigR es fin C j = sigR es fin C i → gi (freshC es fin C N) i ≤ j := by
    intro i j hi hj e
    rw [freshC_at hi]
    have h1 := plF_first (l := sigsR es fin C N) (k := j) (by rw [sigsR_len]; exact hj) (show (sigsR es fin C N)[j]'(by rw [sigsR_len]; exact hj) = sigR es fin C i by simp only [sigsR, List.getElem_map, List.getElem_range]; exact e)
    omega
  intro i hi
  have h1 := freshC_lt (es := es) (fin := fin) (C := C) hi
  refine ⟨⟨h1.1, key i i hi hi rfl⟩, ?_, fun j hj e => key i j hi hj ((freshC_same hj hi).1 e)⟩
  exact (freshC_same (by omega) hi).2 (freshC_sig hi)
def cntF (C : List Int) (N : Nat) : Nat := (List.range N).countP fun i => decide (gi C i = (i : Int))
theorem cntF_le (C : List Int) (N : Nat) : cntF C N ≤ N := by
  have h := List.countP_le_length (p := fun i => decide (gi C i = (i : Int))) (l := List.range N)
  rw [List.length_range] at h
  exact h
theorem countP_lt {α : Type} {p q : α → Bool} : ∀ (l : List α), (∀ x ∈ l, p x = true → q x = true) → (∃ x ∈ l, q x = true ∧ p x = false) → l.countP p < l.countP q
  | [], _, h => by obtain ⟨x, hx, _⟩ := h; cases hx
  | a :: l, h, hx => by
    have hm : l.countP p ≤ l.countP q := List.countP_mono_left fun x hx => h x (List.mem_cons_of_mem _ hx)
    rw [List.countP_cons, List.countP_cons]
    obtain ⟨x, hx, h1, h2⟩ := hx
    rcases List.mem_cons.1 hx with rfl | hx
    · rw [h1, h2]; simp; omega
    · have ih := countP_lt l (fun x hx => h x (List.mem_cons_of_mem _ hx)) ⟨x, hx, h1, h2⟩
      have h3 := h a (List.mem_cons_self ..)
      cases hp : p a with
      | false => simp; omega
      | true => rw [h3 hp]; simp; omega
theorem cnt_grow {es : List A3} {fin : List Bool} {C : List Int} {N : Nat} (hC : LeastC C N) (hl : C.length = N) (hne : freshC es fin C N ≠ C) : cntF C N < cntF (freshC es fin C N) N := by
  have hcl : ∀ i, i < N → gi C (gi (freshC es fin C N) i).toNat = gi C i := fun i hi => by
    have h := freshC_sig (es := es) (fin := fin) (C := C) hi
    unfold sigR at h
    simp only [Prod.mk.injEq] at h
    exact h.1
  have hF := fresh_least es fin C N
  have keep : ∀ i, i < N → gi C i = (i : Int) → gi (freshC es fin C N) i = (i : Int) := fun i hi e => by
    have h1 := freshC_lt (es := es) (fin := fin) (C := C) hi
    have h2 := (hC i hi).2.2 (gi (freshC es fin C N) i).toNat (by omega) (hcl i hi)
    have h3 := (hF i hi).1.2
    omega
  refine countP_lt _ (fun i hi e => ?_) ?_
  · exact decide_eq_true (keep i (List.mem_range.1 hi) (of_decide_eq_true e))
  · have hx : ∃ i, i < N ∧ gi (freshC es fin C N) i ≠ gi C i := by
      refine Classical.byContradiction fun hn => hne ?_
      refine gi_ext (by rw [freshC_len, hl]) fun i hi => ?_
      rw [freshC_len] at hi
      exact Classical.byContradiction fun e => hn ⟨i, hi, e⟩
    obtain ⟨i, hi, hd⟩ := hx
    have h1 := freshC_lt (es := es) (fin := fin) (C := C) hi
    refine ⟨(gi (freshC es fin C N) i).toNat, List.mem_range.2 (by omega), decide_eq_true ?_, decide_eq_false ?_⟩
    · rw [(hF i hi).2.1]; omega
    · rw [hcl i hi]; omega
end Go.Proofs.Ytpcbmhfnefhenaa
