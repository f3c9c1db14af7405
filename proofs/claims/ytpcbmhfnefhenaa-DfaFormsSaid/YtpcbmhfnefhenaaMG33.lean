import Derived.Deep.LoopGhost
import Derived.Deep.DeepCutAuto
import Derived.Test.YtpcbmhfnefhenaaMG23
import Derived.Test.YtpcbmhfnefhenaaMG32
/-
  DfaRo, DfaRz
-/
set_option linter.unusedVariables false
namespace Go.Proofs.Ytpcbmhfnefhenaa
section
variable {es : List A3} {fin : List Bool} {C : List Int} {N : Nat}
def freshP (es : List A3) (fin : List Bool) (C : List Int) (N i : Nat) : List Int := (List.range N).map fun j => if j < i then gi (freshC es fin C N) j else 0
theorem freshP_len (i : Nat) : (freshP es fin C N i).length = N := by simp [freshP]
theorem freshP_at {i j : Nat} (hj : j < N) : gi (freshP es fin C N i) j = if j < i then gi (freshC es fin C N) j else 0 := by
  rw [gi_eq _ _ (by rw [freshP_len]; exact hj)]
  simp [freshP]
theorem freshP_zero : freshP es fin C N 0 = List.replicate N 0 := by
  refine List.ext_getElem (by rw [freshP_len, List.length_replicate]) fun i h1 h2 => ?_
  rw [List.getElem_replicate]
  simp [freshP]
theorem freshP_full : freshP es fin C N N = freshC es fin C N := by
  apply gi_ext
  · rw [freshP_len, freshC_len]
  · intro i hi
    rw [freshP_len] at hi
    rw [freshP_at hi, if_pos hi]
theorem gi_set {zs : List Int} {k : Nat} (hk : k < zs.length) (v : Int) (i : Nat) : gi (zs.set k v) i = if i = k then v else gi zs i := by
  by_cases e : i = k
  · subst e; rw [if_pos rfl]; unfold gi; rw [List.getD_eq_getElem?_getD]; simp [hk]
  · rw [if_neg e]; unfold gi; rw [List.getD_eq_getElem?_getD, List.getD_eq_getElem?_getD, List.getElem?_set_ne (Ne.symm e)]
theorem freshP_set {i : Nat} (hi : i < N) {v : Int} (hv : gi (freshC es fin C N) i = v) : (freshP es fin C N i).set i v = freshP es fin C N (i + 1) := by
  apply gi_ext
  · rw [List.length_set, freshP_len, freshP_len]
  · intro j hj
    rw [List.length_set, freshP_len] at hj
    rw [gi_set (by rw [freshP_len]; exact hi), freshP_at hj, freshP_at hj]
    by_cases e : j = i
    · subst e; rw [if_pos rfl, if_pos (by omega), hv]
    · rw [if_neg e]
      by_cases h : j < i
      · rw [if_pos h, if_pos (by omega)]
      · rw [if_neg h, if_neg (by omega)]
def FirstAt (es : List A3) (fin : List Bool) (C : List Int) (q i m : Nat) : Prop := q ≤ m ∧ m ≤ i ∧ sigR es fin C m = sigR es fin C i ∧ ∀ j, q ≤ j → j < m → sigR es fin C j ≠ sigR es fin C i
theorem FirstAt.start (i : Nat) : FirstAt es fin C i i i := ⟨Nat.le_refl _, Nat.le_refl _, rfl, fun j h1 h2 => by omega⟩
theorem FirstAt.yes {q i m : Nat} (h : FirstAt es fin C (q + 1) i m) (hs : sigR es fin C q = sigR es fin C i) : FirstAt es fin C q i q := ⟨Nat.le_refl _, by have := h.1; have := h.2.1; omega, hs, fun j h1 h2 => by omega⟩
theorem FirstAt.no {q i m : Nat} (h : FirstAt es fin C (q + 1) i m) (hs : sigR es fin C q ≠ sigR es fin C i) : FirstAt es fin C q i m := ⟨by have := h.1; omega, h.2.1, h.2.2.1, fun j h1 h2 => by
  rcases Nat.lt_or_ge q j with h3 | h3
  · exact h.2.2.2 j h3 h2
  · rw [show j = q by omega]; exact hs⟩
theorem FirstAt.done {i m : Nat} (h : FirstAt es fin C 0 i m) (hi : i < N) : gi (freshC es fin C N) i = m := by
  rw [freshC_at hi]
  have hm : m < N := by have := h.2.1; omega
  have h1 : plF (sigsR es fin C N) (sigR es fin C i) ≤ m := plF_first (by rw [sigsR_len]; exact hm) (by simp [sigsR]; exact h.2.2.1)
  have h2 := plF_get (sigR_mem (es := es) (fin := fin) (C := C) hi)
  have h3 := plF_lt (sigR_mem (es := es) (fin := fin) (C := C) hi)
  have h4 : sigR es fin C (plF (sigsR es fin C N) (sigR es fin C i)) = sigR es fin C i := by
    have : (sigsR es fin C N)[plF (sigsR es fin C N) (sigR es fin C i)]'h3 = sigR es fin C (plF (sigsR es fin C N) (sigR es fin C i)) := by simp [sigsR]
    rw [← this]; exact h2
  rcases Nat.lt_or_ge (plF (sigsR es fin C N) (sigR es fin C i)) m with h5 | h5
  · exact absurd h4 (h.2.2.2 _ (Nat.zero_le _) h5)
  · omega
def chP (es : List A3) (fin : List Bool) (C : List Int) (N i : Nat) : Bool := (List.range i).any fun j => decide (gi (freshC es fin C N) j ≠ gi C j)
theorem chP_zero : chP es fin C N 0 = false := rfl
theorem chP_succ (i : Nat) : chP es fin C N (i + 1) = (chP es fin C N i || decide (gi (freshC es fin C N) i ≠ gi C i)) := by
  unfold chP
  rw [List.range_succ, List.any_append]
  simp
theorem chP_iff (hl : C.length = N) : chP es fin C N N = decide (freshC es fin C N ≠ C) := by
  rw [Bool.eq_iff_iff, decide_eq_true_iff]
  unfold chP
  rw [List.any_eq_true]
  constructor
  · rintro ⟨j, _, h⟩ e
    rw [e] at h
    simp at h
  · intro h
    apply Classical.byContradiction
    intro hno
    apply h
    apply gi_ext
    · rw [freshC_len, hl]
    · intro i hi
      rw [freshC_len] at hi
      apply Classical.byContradiction
      intro hne
      exact hno ⟨i, List.mem_range.2 hi, decide_eq_true hne⟩
def ghR (C : List Int) (N : Nat) (ch : Bool) : Nat := (if ch then 1 else 0) + (N - cntF C N)
theorem ghR_less (hC : LeastC C N) (hl : C.length = N) : ghR (freshC es fin C N) N (decide (freshC es fin C N ≠ C)) < ghR C N true := by
  unfold ghR
  by_cases h : freshC es fin C N = C
  · rw [decide_eq_false (by simpa using h), h]; simp
  · have h1 := cnt_grow hC hl h
    have h2 := cntF_le (freshC es fin C N) N
    rw [decide_eq_true h]
    simp only [if_true]
    omega
end
end Go.Proofs.Ytpcbmhfnefhenaa

set_option linter.unusedSimpArgs false
set_option linter.unusedVariables false
namespace Go.Proofs.Ytpcbmhfnefhenaa
open List (foldr_cons foldr_nil setIfInBounds_toArray set_cons_succ set_cons_zero)
open Go.RowKit
attribute [local go_sem] Oper.semAt_some

set_option maxRecDepth 20000 in
set_option maxHeartbeats 4000000 in
theorem refMinimize_no {d : Dfa} {h : DH} {w : World} (hv : ¬ ValidD d) (hd : IsDfa w h d) : Calls Try.prog 19 #[vDf d h] w (GivesDE zeroD 1 w) := by
  obtain ⟨W1, hW1, hs1, hb1, hO⟩ := boxRW d h w hd
  obtain ⟨W2, hW2, hb2, hs2, hZ2⟩ := rbox_ready hs1
  have HO : Hid (∀ W, Below (w.heap.size + 1) W2 W → (W.cell? ⟨w.heap.size, 0, none⟩ = some (.int .i64 d.n) ∧ W.cell? ⟨w.heap.size, 1, none⟩ = some (.int .i64 d.s) ∧ W.cell? ⟨w.heap.size, 2, none⟩ = some (.slice h.fa h.fl h.fc) ∧ W.cell? ⟨w.heap.size, 3, none⟩ = some (.slice h.aa h.al h.ac)) ∧ IsDfa W h d ∧ Below w.heap.size w W) := Lib.hid (fun W hb => hO W ((hb2.mono (by omega)).trans hb))
  obtain ⟨⟨c1, c2, c3, c4⟩, hd2, -⟩ := HO.out W2 (Below.refl _ _)
  have hva := refTrim_no hv hd2
  have HS2 := Lib.hid hs2
  have HZ2 := Lib.hid hZ2
  unfold vDf at hva ⊢
  clear hO hb2 hb1 hd2 hv hs2 hZ2
  go_enter Try.func19, Try.ntmps19
  go_wp2_with (fail)
  refine hva.mono ?_
  rintro e w3 ⟨⟨h3, rfl, -⟩, hb3⟩
  unfold vDf
  obtain ⟨w4, hw4⟩ : ∃ w4, w3.alloc (.cells #[.int .i64 zeroD.n, .int .i64 zeroD.s, .slice h3.fa h3.fl h3.fc, .slice h3.aa h3.al h3.ac] 25) = w4 := ⟨_, rfl⟩
  have hb4 : Below (w.heap.size + 2) W2 w4 := by rw [← hw4]; exact (hb3.mono (by rw [HS2.out]; omega)).alloc (by have := hb3.size; rw [HS2.out] at this; exact this) _
  obtain ⟨-, -, hbw4⟩ := HO.out w4 (hb4.mono (by omega))
  have hZ4 : w4.heap[w.heap.size + 1]? = some (.cells #[.int .i64 0, .int .i64 0, .slice none 0 0, .slice none 0 0] 25 (0, 0)) := by rw [hb4.block _ (by omega)]; exact HZ2.out
  have HB4 := Lib.hid hbw4
  have HW4 := Lib.hid hw4
  clear hb3 hb4 hva c1 c2 c3 c4 hw4 hbw4
  go_upto_region 2 with (fail)
  rw [HW4.out]
  go_wp2_with (show wpList _ _ _ (⟨_, .store 25 _ _, _, _, _, _⟩ :: _) _ _; refine wpList_store_row rfl 25 _ _ rfl (w.heap.size + 1) #[.int .i64 0, .int .i64 0, .slice none 0 0, .slice none 0 0] rfl rfl _ _ hZ4 ref_i rfl (dfa_one _ _ _ _ _ _ _ _) ?_)
  refine bodyPost_ret (results_cell_row2 rfl _ _ (w.heap.size + 1) _ _ _ _ rfl rfl (setRow_heap _ _ _ _ _ _ hZ4) Try.underlying25 rfl ref_i) rfl ?_
  exact ⟨⟨⟨none, 0, 0, none, 0, 0⟩, rfl, isDfa_zero _⟩, below_setRow HB4.out (by omega) _⟩
theorem Pcs.at1 {W : World} {B : Nat} {p q : Pc} (h : Pcs W B [p, q]) : Pcs W B [q] := Pcs.one (h.each 1 q rfl)
theorem Pcs.two {W : World} {B : Nat} {p q : Pc} (hp : p.At W B) (hq : q.At W B) (hne : ∀ k, p.own = some k → q.own ≠ some k) : Pcs W B [p, q] := by
  rw [pcs_iff]
  refine ⟨fun r hr => ?_, ?_⟩
  · rcases List.mem_cons.1 hr with rfl | hr
    · exact hp
    · rw [List.mem_singleton.1 hr]; exact hq
  · refine List.pairwise_cons.2 ⟨fun r hr => ?_, List.pairwise_singleton _ _⟩
    rw [List.mem_singleton.1 hr]
    exact hne
theorem IsArcs.get_at {W : World} {a : Option Addr} {len cap : Nat} {es : List A3} (h : IsArcs W a len cap es) {b off : Nat} (ha : a = some ⟨b, off, none⟩) (i : Nat) (hi : i < len) : W.cell? ⟨b, off + i * 3, none⟩ = some (.int .i64 (g3 es i).f) ∧ W.cell? ⟨b, off + i * 3 + 1, none⟩ = some (.int .i64 (g3 es i).l) ∧ W.cell? ⟨b, off + i * 3 + 2, none⟩ = some (.int .i64 (g3 es i).t) := by
  subst ha
  exact h.get i hi
def mzPs (g bo N : Nat) (C : List Int) (cs : Int) (ht : DH) (vab va : Value) (A : List A3) : List Pc := [.row 3 1 (.slice (some ⟨g, 0, none⟩) N N) N (ivs .i64 C), .blk bo #[.int .i64 (N : Int), .int .i64 cs, .slice ht.fa ht.fl ht.fc, vab], .row 66 3 va A.length (tvs A)]
theorem sig_iff {es : List A3} {fin : List Bool} {C : List Int} {p i : Nat} : sigR es fin C p = sigR es fin C i ↔ (gi C p = gi C i ∧ alikeB es fin C i p = true) := by
  unfold sigR alikeB
  rw [decide_eq_true_iff, Prod.mk.injEq, Prod.mk.injEq]
  exact ⟨fun ⟨h1, h2, h3⟩ => ⟨h1, h2.symm, h3.symm⟩, fun ⟨h1, h2, h3⟩ => ⟨h1, h2.symm, h3.symm⟩⟩
def rdPs (g f N : Nat) (C F : List Int) : List Pc := [.row 3 1 (.slice (some ⟨g, 0, none⟩) N N) N (ivs .i64 C), .row 3 1 (.slice (some ⟨f, 0, none⟩) N N) N (ivs .i64 F)]
set_option maxRecDepth 20000 in
set_option maxHeartbeats 4000000 in
theorem refMinimize_yes {d : Dfa} {h : DH} {w : World} (hv : ValidD d) (hd : IsDfa w h d) : Calls Try.prog 19 #[vDf d h] w (GivesDE (minD d) 0 w) := by
  obtain ⟨TD, hTD⟩ : ∃ T, trimD d = T := ⟨_, rfl⟩
  have hTv := trimD_valid hv
  have hTu := trimD_useful hv
  have hTs := trimD_s (d := d)
  have hTl := trimD_lang hv
  have htr := fun W (hI : IsDfa W h d) => refTrim_yes (w := W) hv hI
  rw [hTD] at hTv hTu hTs hTl htr
  obtain ⟨MD, hMD⟩ : ∃ M, minD d = M := ⟨_, rfl⟩
  have HMD : Hid (minL (lgD TD TD.s) = MD) := Lib.hid (by rw [hTs, hTl, ← hMD]; rfl)
  rw [hMD]
  have HTV := Lib.hid hTv
  have HTU := Lib.hid hTu
  clear hTD hMD hTs hTl hTv hTu hv
  obtain ⟨W1, hW1, hs1, hb1, hO⟩ := boxRW d h w hd
  obtain ⟨W2, hW2, hb2, hs2, hZ2⟩ := rbox_ready hs1
  obtain ⟨⟨c1, c2, c3, c4⟩, hd2, hbw2⟩ := hO W2 (hb2.mono (by omega))
  have hva := htr W2 hd2
  have HS2 := Lib.hid hs2
  have HZ2 := Lib.hid hZ2
  have HBW2 := Lib.hid hbw2
  unfold vDf at hva ⊢
  clear hO hb2 hb1 hd2 hs2 hZ2 htr hd hbw2
  go_enter Try.func19, Try.ntmps19
  go_wp2_with (fail)
  refine hva.mono ?_
  rintro e w3 ⟨⟨ht, rfl, hti⟩, hb3⟩
  unfold vDf
  obtain ⟨W4, hW4, hs4, hb4, hO4⟩ := boxRW TD ht w3 hti
  have hs3 : w.heap.size + 2 ≤ w3.heap.size := by have := hb3.size; rw [HS2.out] at this; exact this
  obtain ⟨B, hB⟩ : ∃ B, w3.heap.size + 1 = B := ⟨_, rfl⟩
  obtain ⟨bt, hbt⟩ : ∃ b, w3.heap.size = b := ⟨_, rfl⟩
  have HO : Hid (∀ W, Below B W4 W → (W.cell? ⟨bt, 0, none⟩ = some (.int .i64 TD.n) ∧ W.cell? ⟨bt, 1, none⟩ = some (.int .i64 TD.s) ∧ W.cell? ⟨bt, 2, none⟩ = some (.slice ht.fa ht.fl ht.fc) ∧ W.cell? ⟨bt, 3, none⟩ = some (.slice ht.aa ht.al ht.ac)) ∧ IsDfa W ht TD ∧ Below w.heap.size w W ∧ W.heap[w.heap.size + 1]? = some (.cells #[.int .i64 0, .int .i64 0, .slice none 0 0, .slice none 0 0] 25 (0, 0))) := Lib.hid (fun W hb => by
    rw [← hB] at hb
    obtain ⟨p1, p2, p3⟩ := hO4 W hb
    rw [hbt] at p1
    refine ⟨p1, p2, ?_, ?_⟩
    · exact HBW2.out.trans ((hb3.mono (by rw [HS2.out]; omega)).trans (p3.mono (by omega)))
    · rw [p3.block _ (by omega), hb3.block _ (by rw [HS2.out]; omega)]; exact HZ2.out)
  have HBB : Hid (w.heap.size + 3 ≤ B ∧ B = bt + 1) := Lib.hid ⟨by omega, by omega⟩
  have HS4 : Hid (W4.heap.size = B) := Lib.hid (by omega)
  go_upto_region 2 with (fail)
  try rw [hW4]
  try rw [hbt]
  clear hW4 hs4 hb4 hO4 hs3 hb3 hti hva c1 c2 c3 c4 hB hbt HBW2 HZ2 hs1 hW1 hW2
  obtain ⟨⟨c1, c2, c3, c4⟩, -, -, -⟩ := HO.out W4 (Below.refl _ _)
  obtain ⟨N, hN⟩ := Int.eq_ofNat_of_zero_le (show 0 ≤ TD.n by have := HTV.out.1; omega)
  have hN1 : N ≤ 1000 := by have := HTV.out.1; omega
  have hN0 : 1 ≤ N := by have := HTV.out.1; omega
  have HN := Lib.hid hN
  rw [hN] at c1
  clear hN
  go_wp2_with (refine make_ints (k := .i64) (B := B) elI64 rfl _ _ rfl rfl rfl rfl rfl (by omega) (by rw [HS4.out]; omega) ?_; intro w5 ho5 hb5 hs5)
  rw [HS4.out] at ho5 hs5 ⊢
  have HB5 := Lib.hid hb5
  have HO5 := Lib.hid (Pcs.one (p := .row 3 1 (.slice (some ⟨B, 0, none⟩) N N) N (ivs .i64 (List.replicate N 0))) ho5)
  have HS5 : Hid (B ≤ w5.heap.size) := Lib.hid (by omega)
  have HC0 : Hid (Coarse TD (List.replicate N 0) ∧ LeastC (List.replicate N 0) N ∧ (List.replicate N (0 : Int)).length = N) := Lib.hid ⟨fun i j _ _ _ => by
    have key : ∀ i, gi (List.replicate N (0 : Int)) i = 0 := fun i => by unfold gi; rw [List.getD_eq_getElem?_getD, List.getElem?_replicate]; split <;> rfl
    rw [key, key], least_zero N, by simp⟩
  clear ho5 hb5 hs5 c1 c2 c3 c4
  go_loopg [6, 7] (ghR (List.replicate N 0) N true) (fun q v6 v7 W => ∃ (g : Nat) (C : List Int) (ch : Bool), v6 = .slice (some ⟨g, 0, none⟩) N N ∧ v7 = .bool ch ∧ Pcs W B [.row 3 1 (.slice (some ⟨g, 0, none⟩) N N) N (ivs .i64 C)] ∧ Hid (Coarse TD C ∧ LeastC C N ∧ C.length = N) ∧ Hid (ch = false → freshC TD.arcs TD.fin C N = C) ∧ Hid (q = ghR C N ch) ∧ Below B W4 W ∧ B ≤ W.heap.size)
  case atStart => exact ⟨B, List.replicate N 0, true, rfl, rfl, HO5.out, HC0, Lib.hid (fun h => by cases h), Lib.hid rfl, HB5.out, HS5.out⟩
  case round =>
    clear HO5 HB5 HS5 HC0
    obtain ⟨g, C, ch, rfl, rfl, hP, HC, HF, HQ, hb, hz⟩ := hrel
    have HQ2 := HQ.out
    clear HQ
    subst HQ2
    obtain ⟨⟨c1, c2, c3, c4⟩, hti, -, -⟩ := HO.out wr hb
    rw [HN.out] at c1
    cases ch
    · skip
      have hfx := HF.out rfl
      have HBL : Hid (ByLang TD C) := Lib.hid (fix_byLang HTV.out HC.out.1 (by rw [HN.out]; exact hfx))
      have HLE : Hid (LeastC C TD.n.toNat) := Lib.hid (by rw [HN.out]; exact HC.out.2.1)
      obtain ⟨s0, hs0⟩ := Int.eq_ofNat_of_zero_le HTV.out.2.1.1
      have HSS := Lib.hid hs0
      have HSL : Hid (s0 < N) := Lib.hid (by have h1 := HTV.out.2.1.2; have h2 := HN.out; omega)
      obtain ⟨cs, hcs⟩ : ∃ c, gi C s0 = c := ⟨_, rfl⟩
      have HCS := Lib.hid hcs
      have HGW := Lib.hid ((hP.row 0 rfl).lt g rfl)
      have HP := Lib.hid hP
      have HB := Lib.hid hb
      have d5 : s0 < N := HSL.out
      clear hfx hs0 hcs hP hb hti c1 c2 c3 c4
      go_upto_region 20 with (fail)
      obtain ⟨S, hSd⟩ : ∃ S : (Nat → Bool) → (Nat → Value) → World → Prop, S = fun L f W => Below B W4 W ∧ wr.heap.size ≤ W.heap.size ∧ Pcs W B [.row 3 1 (.slice (some ⟨g, 0, none⟩) N N) N (ivs .i64 C)] ∧ (L 10 = true → ∃ q, f 10 = .pointer (some ⟨q, 0, none⟩) ∧ (wr.heap.size ≤ q ∧ W.heap[q]? = some (.cells (if L 11 = true then #[.int .i64 (N : Int), .int .i64 cs, .slice ht.fa ht.fl ht.fc, .slice none 0 0] else #[.int .i64 0, .int .i64 0, .slice none 0 0, .slice none 0 0]) 25 (0, 0)))) := ⟨_, rfl⟩
      refine wp_region_st mixed (by kernel_rfl) [[], [(0, 78)], [], [], [(3, 81)], [(2, 80), (4, 82)], [(5, 83)], [], [(7, 85)], [(1, 79), (6, 84), (8, 86)], [], [(10, 11), (9, 87), (0, 78), (1, 79), (2, 80), (3, 81), (4, 82), (5, 83), (6, 84), (7, 85), (8, 86), (9, 87), (10, 11)]] [(0, 78), (1, 79), (2, 80), (3, 81), (4, 82), (5, 83), (6, 84), (7, 85), (8, 86), (9, 87), (10, 11)] rfl rfl [EV ?ex0, EV ?ex1, EV ?ex2, EV ?ex3, EV ?ex4, EV ?ex5, EV ?ex6, EV ?ex7, EV ?ex8, EV ?ex9, fun _ => True, fun _ => True] S ?xstart ?xsteps ?xrest
      case xstart =>
        intro f
        rw [hSd]
        exact ⟨HB.out.drew, Nat.le_refl _, HP.out.quiet (below_grows ((Below.refl _ _).drew) none), fun h => (by cases h)⟩
      case xsteps =>
        refine ⟨fun L f W hi hd hdn hh hS => ?_, fun L f W hi hd hdn hh hS => ?_, fun L f W hi hd hdn hh hS => ?_, fun L f W hi hd hdn hh hS => ?_, fun L f W hi hd hdn hh hS => ?_, fun L f W hi hd hdn hh hS => ?_, fun L f W hi hd hdn hh hS => ?_, fun L f W hi hd hdn hh hS => ?_, fun L f W hi hd hdn hh hS => ?_, fun L f W hi hd hdn hh hS => ?_, fun L f W hi hd hdn hh hS => ?_, fun L f W hi hd hdn hh hS => ?_, trivial⟩
        ·
          unfold stStep
          rw [if_pos (by simp [Region.wanted])]
          intro K Q hK
          simp only [puts, foldr_nil]
          go_step
          refine st_ex hK rfl rfl (by simp only [Act.put, setIfInBounds_toArray, set_cons_succ, set_cons_zero, Array.getD_eq_getD_getElem?, List.getElem?_toArray, List.getElem?_cons_succ, List.getElem?_cons_zero, Option.getD_some] <;> rfl) rfl (by rw [hSd] at hS ⊢; exact hS)
        ·
          obtain ⟨h0, -⟩ := hh
          have g0 : f 0 = _ := h0
          unfold stStep
          rw [if_pos (by simp [Region.wanted])]
          intro K Q hK
          simp only [puts, foldr_cons, foldr_nil, setIfInBounds_toArray, set_cons_succ, set_cons_zero, g0]
          have hS' := hS
          rw [hSd] at hS'
          obtain ⟨⟨m1, m2, m3, m4⟩, -, -, -⟩ := HO.out W hS'.1
          rw [HN.out] at m1
          rw [HSS.out] at m2
          go_step
          refine st_ex hK rfl rfl (by simp only [Act.put, setIfInBounds_toArray, set_cons_succ, set_cons_zero, Array.getD_eq_getD_getElem?, List.getElem?_toArray, List.getElem?_cons_succ, List.getElem?_cons_zero, Option.getD_some] <;> rfl) rfl (by rw [hSd] at hS ⊢; exact hS)
        ·
          unfold stStep
          rw [if_pos (by simp [Region.wanted])]
          intro K Q hK
          simp only [puts, foldr_nil]
          go_step
          refine st_ex hK rfl rfl (by simp only [Act.put, setIfInBounds_toArray, set_cons_succ, set_cons_zero, Array.getD_eq_getD_getElem?, List.getElem?_toArray, List.getElem?_cons_succ, List.getElem?_cons_zero, Option.getD_some] <;> rfl) rfl (by rw [hSd] at hS ⊢; exact hS)
        ·
          unfold stStep
          rw [if_pos (by simp [Region.wanted])]
          intro K Q hK
          simp only [puts, foldr_nil]
          go_step
          refine st_ex hK rfl rfl (by simp only [Act.put, setIfInBounds_toArray, set_cons_succ, set_cons_zero, Array.getD_eq_getD_getElem?, List.getElem?_toArray, List.getElem?_cons_succ, List.getElem?_cons_zero, Option.getD_some] <;> rfl) rfl (by rw [hSd] at hS ⊢; exact hS)
        ·
          obtain ⟨h3, -⟩ := hh
          have g3 : f 3 = _ := h3
          unfold stStep
          rw [if_pos (by simp [Region.wanted])]
          intro K Q hK
          simp only [puts, foldr_cons, foldr_nil, setIfInBounds_toArray, set_cons_succ, set_cons_zero, g3]
          have hS' := hS
          rw [hSd] at hS'
          obtain ⟨⟨m1, m2, m3, m4⟩, -, -, -⟩ := HO.out W hS'.1
          rw [HN.out] at m1
          rw [HSS.out] at m2
          go_step
          refine st_ex hK rfl rfl (by simp only [Act.put, setIfInBounds_toArray, set_cons_succ, set_cons_zero, Array.getD_eq_getD_getElem?, List.getElem?_toArray, List.getElem?_cons_succ, List.getElem?_cons_zero, Option.getD_some] <;> rfl) rfl (by rw [hSd] at hS ⊢; exact hS)
        ·
          obtain ⟨h2, h4, -⟩ := hh
          have g2 : f 2 = _ := h2
          have g4 : f 4 = _ := h4
          unfold stStep
          rw [if_pos (by simp [Region.wanted])]
          intro K Q hK
          simp only [puts, foldr_cons, foldr_nil, setIfInBounds_toArray, set_cons_succ, set_cons_zero, g2, g4]
          go_step
          refine st_ex hK rfl rfl (by simp only [Act.put, setIfInBounds_toArray, set_cons_succ, set_cons_zero, Array.getD_eq_getD_getElem?, List.getElem?_toArray, List.getElem?_cons_succ, List.getElem?_cons_zero, Option.getD_some] <;> rfl) rfl (by rw [hSd] at hS ⊢; exact hS)
        ·
          obtain ⟨h5, -⟩ := hh
          have g5 : f 5 = _ := h5
          unfold stStep
          rw [if_pos (by simp [Region.wanted])]
          intro K Q hK
          simp only [puts, foldr_cons, foldr_nil, setIfInBounds_toArray, set_cons_succ, set_cons_zero, g5]
          have hS' := hS
          rw [hSd] at hS'
          have m5 := (own_cell (hS'.2.2.1.row 0 rfl) s0 HSL.out HC.out.2.2).1
          rw [HCS.out] at m5
          go_step
          refine st_ex hK rfl rfl (by simp only [Act.put, setIfInBounds_toArray, set_cons_succ, set_cons_zero, Array.getD_eq_getD_getElem?, List.getElem?_toArray, List.getElem?_cons_succ, List.getElem?_cons_zero, Option.getD_some] <;> rfl) rfl (by rw [hSd] at hS ⊢; exact hS)
        ·
          unfold stStep
          rw [if_pos (by simp [Region.wanted])]
          intro K Q hK
          simp only [puts, foldr_nil]
          go_step
          refine st_ex hK rfl rfl (by simp only [Act.put, setIfInBounds_toArray, set_cons_succ, set_cons_zero, Array.getD_eq_getD_getElem?, List.getElem?_toArray, List.getElem?_cons_succ, List.getElem?_cons_zero, Option.getD_some] <;> rfl) rfl (by rw [hSd] at hS ⊢; exact hS)
        ·
          obtain ⟨h7, -⟩ := hh
          have g7 : f 7 = _ := h7
          unfold stStep
          rw [if_pos (by simp [Region.wanted])]
          intro K Q hK
          simp only [puts, foldr_cons, foldr_nil, setIfInBounds_toArray, set_cons_succ, set_cons_zero, g7]
          have hS' := hS
          rw [hSd] at hS'
          obtain ⟨⟨m1, m2, m3, m4⟩, -, -, -⟩ := HO.out W hS'.1
          rw [HN.out] at m1
          rw [HSS.out] at m2
          go_step
          refine st_ex hK rfl rfl (by simp only [Act.put, setIfInBounds_toArray, set_cons_succ, set_cons_zero, Array.getD_eq_getD_getElem?, List.getElem?_toArray, List.getElem?_cons_succ, List.getElem?_cons_zero, Option.getD_some] <;> rfl) rfl (by rw [hSd] at hS ⊢; exact hS)
        ·
          obtain ⟨h1, h6, h8, -⟩ := hh
          have g1 : f 1 = _ := h1
          have g6 : f 6 = _ := h6
          have g8 : f 8 = _ := h8
          unfold stStep
          rw [if_pos (by simp [Region.wanted])]
          intro K Q hK
          simp only [puts, foldr_cons, foldr_nil, setIfInBounds_toArray, set_cons_succ, set_cons_zero, g1, g6, g8]
          go_step
          refine st_ex hK rfl rfl (by simp only [Act.put, setIfInBounds_toArray, set_cons_succ, set_cons_zero, Array.getD_eq_getD_getElem?, List.getElem?_toArray, List.getElem?_cons_succ, List.getElem?_cons_zero, Option.getD_some] <;> rfl) rfl (by rw [hSd] at hS ⊢; exact hS)
        ·
          have l11 : L 11 = false := Bool.eq_false_iff.2 fun h => by have q := hdn 11 _ h rfl 10 (by decide); rw [show L 10 = false from hi] at q; cases q
          unfold stStep
          rw [if_pos (by simp [Region.wanted])]
          intro K Q hK
          simp only [puts, foldr_nil]
          rw [hSd] at hS hK
          have l10 : L 10 = false := hi
          try simp only [stage, l11, l10, if_true, if_false, Bool.false_eq_true] at hS
          obtain ⟨hbW, hzW, hPW, -⟩ := hS
          have hal : Below W.heap.size W (W.alloc (.cells #[.int .i64 0, .int .i64 0, .slice none 0 0, .slice none 0 0] 25)) := (Below.refl _ _).alloc (Nat.le_refl _) _
          have hz2 := heap_alloc_new W (.cells #[.int .i64 0, .int .i64 0, .slice none 0 0, .slice none 0 0] 25)
          go_step
          refine hK.out _ _ rfl trivial ⟨hbW.alloc (by omega) _, Nat.le_trans hzW hal.size, hPW.quiet (below_grows hal none), fun _ => ⟨_, rfl, hzW, ?_⟩⟩
          simp only [l11, Bool.false_eq_true, ↓reduceIte, Nat.reduceEqDiff]
          exact hz2
        ·
          obtain ⟨h10, h9, h0, h1, h2, h3, h4, h5, h6, h7, h8, _, _, -⟩ := hh
          (first | (have q10 := hd 10 (by decide); have p10 := hS; rw [hSd] at p10; replace p10 := p10.2.2.2 q10) | (have p10 := hS.2.2.2 (hL 10 (by decide)))); obtain ⟨y10, g10, s10⟩ := p10
          have g9 : f 9 = _ := h9
          have g0 : f 0 = _ := h0
          have g1 : f 1 = _ := h1
          have g2 : f 2 = _ := h2
          have g3 : f 3 = _ := h3
          have g4 : f 4 = _ := h4
          have g5 : f 5 = _ := h5
          have g6 : f 6 = _ := h6
          have g7 : f 7 = _ := h7
          have g8 : f 8 = _ := h8
          have l10 : L 10 = true := hd 10 (by decide)
          unfold stStep
          rw [if_pos (by simp [Region.wanted])]
          intro K Q hK
          simp only [puts, foldr_cons, foldr_nil, setIfInBounds_toArray, set_cons_succ, set_cons_zero, g10, g9, g0, g1, g2, g3, g4, g5, g6, g7, g8]
          rw [hSd] at hS hK
          have l11 : L 11 = false := hi
          try simp only [stage, l11, l10, if_true, if_false, Bool.false_eq_true] at hS
          obtain ⟨hbW, hzW, hPW, -⟩ := hS
          have hzz := s10.2
          simp only [l11, Bool.false_eq_true, ↓reduceIte] at hzz
          have hgl := (hPW.row 0 rfl).lt g rfl
          refine wp_store_row 25 _ _ rfl y10 #[.int .i64 (N : Int), .int .i64 cs, .slice ht.fa ht.fl ht.fc, .slice none 0 0] rfl rfl _ _ hzz ref_i rfl (dfa_one _ _ _ _ _ _ _ _) ?_
          refine hK.out _ _ rfl trivial ⟨below_setRow hbW (by have := s10.1; omega) _, by simp [World.setRow]; exact hzW, ?_, fun _ => ⟨y10, g10, s10.1, ?_⟩⟩
          · have hbs := below_setRow (g := y10) (Below.refl y10 W) (Nat.le_refl _) #[.int .i64 (N : Int), .int .i64 cs, .slice ht.fa ht.fl ht.fc, .slice none 0 0]
            refine Pcs.one ?_
            exact (hPW.each 0 _ rfl).grown (r := some y10) ⟨hbs.os, hbs.tape, hbs.output, hbs.size, fun b _ hne => setRow_other W _ b _ (fun e => hne (by rw [e]))⟩ (fun k e e2 => by have e : some g = some k := e; injection e with e; injection e2 with e2; have := s10.1; have := HGW.out.2; omega)
          · simp only [↓reduceIte, Nat.reduceEqDiff]
            exact setRow_heap _ _ _ _ _ _ hzz
      case xrest =>
        intro L f WX hL hh hS
        rw [hSd] at hS
        clear hSd
        obtain ⟨h0, h1, h2, h3, h4, h5, h6, h7, h8, h9, h10, -⟩ := hh
        have g0 : f 0 = _ := h0
        have g1 : f 1 = _ := h1
        have g2 : f 2 = _ := h2
        have g3 : f 3 = _ := h3
        have g4 : f 4 = _ := h4
        have g5 : f 5 = _ := h5
        have g6 : f 6 = _ := h6
        have g7 : f 7 = _ := h7
        have g8 : f 8 = _ := h8
        have g9 : f 9 = _ := h9
        (first | (have q10 := hd 10 (by decide); have p10 := hS; rw [hSd] at p10; replace p10 := p10.2.2.2 q10) | (have p10 := hS.2.2.2 (hL 10 (by decide)))); obtain ⟨y10, g10, s10⟩ := p10
        simp only [puts, foldr_cons, foldr_nil, setIfInBounds_toArray, set_cons_succ, set_cons_zero, g0, g1, g2, g3, g4, g5, g6, g7, g8, g9, g10]
        clear h0 h1 h2 h3 h4 h5 h6 h7 h8 h9 g0 g1 g2 g3 g4 g5 g6 g7 g8 g9
        obtain ⟨hbX, hzX, hPX, -⟩ := hS
        have hX9 := s10.2
        simp only [hL 11 (by decide), if_true] at hX9
        obtain ⟨bo, hbo⟩ : ∃ bo, y10 = bo := ⟨_, rfl⟩
        have HBO : Hid (B ≤ bo ∧ wr.heap.size ≤ bo) := Lib.hid ⟨by have := s10.1; omega, by have := s10.1; omega⟩
        rw [hbo] at hX9 ⊢
        have HPX : Hid (Pcs WX B (mzPs g bo N C cs ht (.slice none 0 0) (.slice none 0 0) [])) := Lib.hid (by
          have h1 : Pcs WX B [.row 3 1 (.slice (some ⟨g, 0, none⟩) N N) N (ivs .i64 C), .blk bo #[.int .i64 (N : Int), .int .i64 cs, .slice ht.fa ht.fl ht.fc, .slice none 0 0]] := Pcs.two (hPX.each 0 _ rfl) ⟨HBO.out.1, ⟨_, hX9⟩⟩ (fun k e e2 => by have e : some g = some k := e; have e2 : some bo = some k := e2; injection e with e; injection e2 with e2; have := HGW.out.2; have := HBO.out.2; omega)
          exact h1.empty 66 3)
        have HBX := Lib.hid hbX
        have HZX : Hid (B ≤ WX.heap.size) := Lib.hid (by omega)
        clear hbX hzX hPX hX9 hL s10 g10 hbo
        obtain ⟨es, hes⟩ : ∃ es, TD.arcs = es := ⟨_, rfl⟩
        have HES := Lib.hid hes
        have hal : es.length ≤ 20000 := by rw [← hes]; exact HTV.out.2.2.2.1
        obtain ⟨al, hall⟩ : ∃ n, es.length = n := ⟨_, rfl⟩
        have HAL : Hid (es.length = al) := Lib.hid hall
        have hta : ht.al = al := by
          have h1 := (HO.out WX HBX.out).2.1.2.length
          rw [hes] at h1
          omega
        have HTA := Lib.hid hta
        rw [hall] at hal
        have HALB := Lib.hid hal
        clear hes hall hta hal
        go_wp2_with (fail)
        go_loopw [12] (fun c W => ∃ (i : Nat) (va : Option Addr) (ca : Nat), i ≤ al ∧ c = .int .i64 (i : Int) ∧ Pcs W B (mzPs g bo N C cs ht (.slice va i ca) (.slice va i ca) ((es.take i).map (repA C))) ∧ Below B W4 W ∧ B ≤ W.heap.size) (fun c _ => al - (intOf c).toNat)
        case atStart => exact ⟨0, none, 0, Nat.zero_le _, rfl, HPX.out, HBX.out, HZX.out⟩
        case round =>
          clear HPX HBX HZX
          obtain ⟨i, va, ca, hi, rfl, hP, hb, hz⟩ := hrel
          obtain ⟨⟨c1, c2, c3, c4⟩, hti, -, -⟩ := HO.out wr hb
          rw [HTA.out] at c4
          have halb := HALB.out
          rcases Nat.lt_or_ge i al with hlt | hge
          · have t1 : decide (i < al) = true := decide_eq_true hlt
            obtain ⟨F, l, T, hX, hTN⟩ : ∃ F l T : Nat, g3 es i = ⟨F, l, T⟩ ∧ T < N := by
              have h1 := HTV.out.arc (x := g3 es i) (by rw [HES.out]; exact g3_mem _ _ (by rw [HAL.out]; exact hlt))
              have h2 := HN.out
              obtain ⟨⟨x, y, z⟩, hx⟩ : ∃ x, g3 es i = x := ⟨_, rfl⟩
              rw [hx] at h1 ⊢
              simp only at h1
              exact ⟨x.toNat, y.toNat, z.toNat, by rw [Int.toNat_of_nonneg (by omega), Int.toNat_of_nonneg (by omega), Int.toNat_of_nonneg (by omega)], by omega⟩
            obtain ⟨u, hu⟩ : ∃ u, gi C T = u := ⟨_, rfl⟩
            obtain ⟨ba, oa, haa, -⟩ := hti.2.fix (by rw [HTA.out]; omega)
            have HAA : Hid (ht.aa = some ⟨ba, oa, none⟩) := Lib.hid haa
            have HX : Hid (g3 TD.arcs i = ⟨F, l, T⟩) := Lib.hid (by rw [HES.out]; exact hX)
            have HU := Lib.hid hu
            have HTN := Lib.hid hTN
            have HIL : Hid (i < ht.al) := Lib.hid (by rw [HTA.out]; exact hlt)
            have HIM : Hid (i ≤ 20000) := Lib.hid (by omega)
            obtain ⟨AS, hAS⟩ : ∃ A, (es.take i).map (repA C) = A := ⟨_, rfl⟩
            have HASL : Hid (AS.length = i) := Lib.hid (by rw [← hAS, List.length_map, List.length_take]; have := HAL.out; omega)
            have HAN : Hid ((es.take (i + 1)).map (repA C) = AS ++ [⟨F, l, u⟩]) := Lib.hid (by
              rw [take_succ_g3 es i (by rw [HAL.out]; exact hlt), List.map_append, hAS, hX]
              show AS ++ [repA C ⟨F, l, T⟩] = _
              unfold repA
              simp only [Int.toNat_natCast, hu])
            rw [hAS] at hP
            have HP := Lib.hid hP
            have HB := Lib.hid hb
            have HZ := Lib.hid hz
            have d6 : T < N := hTN
            have d7 : i < ht.al := HIL.out
            clear hX hTN hu haa hAS hP hb hz hti c1 c2 c3 hi
            go_upto_region 24 with (fail)
            obtain ⟨S, hSd⟩ : ∃ S : (Nat → Bool) → (Nat → Value) → World → Prop, S = fun L f W => Below B W4 W ∧ B ≤ W.heap.size ∧ (L 24 = true → L 25 = false → ∃ q, f 24 = .slice (some ⟨q, 0, none⟩) 1 1 ∧ BlkAt W q #[.int .i64 (F : Int), .int .i64 (l : Int), .int .i64 u]) ∧ Pcs W B (mzPs g bo N C cs ht (if L 27 = true then f 25 else .slice va i ca) (if L 25 = true then f 25 else .slice va i ca) (if L 25 = true then AS ++ [⟨F, l, u⟩] else AS)) := ⟨_, rfl⟩
            refine wp_region_st mixed (by kernel_rfl) [[], [(0, 95)], [], [(2, 97)], [], [(3, 98), (4, 99)], [(5, 100)], [(6, 101)], [], [(8, 103)], [], [(9, 104), (10, 105)], [(11, 106)], [(12, 107)], [], [], [(15, 110)], [], [(16, 111), (17, 112)], [(18, 113)], [(19, 114)], [(14, 109), (20, 115)], [(21, 116)], [(7, 102), (13, 108), (22, 117)], [(23, 118)], [(1, 96), (24, 119)], [(0, 95), (1, 96), (2, 97), (3, 98), (4, 99), (5, 100), (6, 101), (7, 102), (8, 103), (9, 104), (10, 105), (11, 106), (12, 107), (13, 108), (14, 109), (15, 110), (16, 111), (17, 112), (18, 113), (19, 114), (20, 115), (21, 116), (22, 117), (23, 118), (24, 119), (25, 120)], [(26, 121), (25, 120), (25, 120), (0, 95), (1, 96), (2, 97), (3, 98), (4, 99), (5, 100), (6, 101), (7, 102), (8, 103), (9, 104), (10, 105), (11, 106), (12, 107), (13, 108), (14, 109), (15, 110), (16, 111), (17, 112), (18, 113), (19, 114), (20, 115), (21, 116), (22, 117), (23, 118), (24, 119), (25, 120)]] [(0, 95), (1, 96), (2, 97), (3, 98), (4, 99), (5, 100), (6, 101), (7, 102), (8, 103), (9, 104), (10, 105), (11, 106), (12, 107), (13, 108), (14, 109), (15, 110), (16, 111), (17, 112), (18, 113), (19, 114), (20, 115), (21, 116), (22, 117), (23, 118), (24, 119), (25, 120), (26, 121)] rfl rfl [EV ?ey0, EV ?ey1, EV ?ey2, EV ?ey3, EV ?ey4, EV ?ey5, EV ?ey6, EV ?ey7, EV ?ey8, EV ?ey9, EV ?ey10, EV ?ey11, EV ?ey12, EV ?ey13, EV ?ey14, EV ?ey15, EV ?ey16, EV ?ey17, EV ?ey18, EV ?ey19, EV ?ey20, EV ?ey21, EV ?ey22, EV ?ey23, fun v => ∃ b, v = .slice (some ⟨b, 0, none⟩) 1 1, fun v => ∃ a c, v = .slice a (i + 1) c, EV ?ey26, fun _ => True] S ?ystart ?ysteps ?yrest
            case ystart =>
              intro f
              rw [hSd]
              exact ⟨HB.out.drew, HZ.out, fun h => (by cases h), HP.out.quiet (below_grows ((Below.refl _ _).drew) none)⟩
            case ysteps =>
              refine ⟨fun L f W hi hd hdn hh hS => ?_, fun L f W hi hd hdn hh hS => ?_, fun L f W hi hd hdn hh hS => ?_, fun L f W hi hd hdn hh hS => ?_, fun L f W hi hd hdn hh hS => ?_, fun L f W hi hd hdn hh hS => ?_, fun L f W hi hd hdn hh hS => ?_, fun L f W hi hd hdn hh hS => ?_, fun L f W hi hd hdn hh hS => ?_, fun L f W hi hd hdn hh hS => ?_, fun L f W hi hd hdn hh hS => ?_, fun L f W hi hd hdn hh hS => ?_, fun L f W hi hd hdn hh hS => ?_, fun L f W hi hd hdn hh hS => ?_, fun L f W hi hd hdn hh hS => ?_, fun L f W hi hd hdn hh hS => ?_, fun L f W hi hd hdn hh hS => ?_, fun L f W hi hd hdn hh hS => ?_, fun L f W hi hd hdn hh hS => ?_, fun L f W hi hd hdn hh hS => ?_, fun L f W hi hd hdn hh hS => ?_, fun L f W hi hd hdn hh hS => ?_, fun L f W hi hd hdn hh hS => ?_, fun L f W hi hd hdn hh hS => ?_, fun L f W hi hd hdn hh hS => ?_, fun L f W hi hd hdn hh hS => ?_, fun L f W hi hd hdn hh hS => ?_, fun L f W hi hd hdn hh hS => ?_, trivial⟩
              ·
                unfold stStep
                rw [if_pos (by simp [Region.wanted])]
                intro K Q hK
                simp only [puts, foldr_nil]
                go_step
                refine st_ex hK rfl rfl (by simp only [Act.put, setIfInBounds_toArray, set_cons_succ, set_cons_zero, Array.getD_eq_getD_getElem?, List.getElem?_toArray, List.getElem?_cons_succ, List.getElem?_cons_zero, Option.getD_some] <;> rfl) rfl (by rw [hSd] at hS ⊢; exact hS)
              ·
                obtain ⟨h0, -⟩ := hh
                have g0 : f 0 = _ := h0
                have l25 : L 25 = false := Bool.eq_false_iff.2 fun h => by have q := hdn 25 _ h rfl 1 (by decide); rw [show L 1 = false from hi] at q; cases q
                have l27 : L 27 = false := Bool.eq_false_iff.2 fun h => by have q := hdn 27 _ h rfl 25 (by decide); rw [show L 25 = false from l25] at q; cases q
                unfold stStep
                rw [if_pos (by simp [Region.wanted])]
                intro K Q hK
                simp only [puts, foldr_cons, foldr_nil, setIfInBounds_toArray, set_cons_succ, set_cons_zero, g0]
                have hS' := hS
                rw [hSd] at hS'
                simp only [l25, l27, if_false, Bool.false_eq_true] at hS'
                have x1 : W.cell? ⟨bo, 3, none⟩ = some (.slice va i ca) := ((hS'.2.2.2.blk 1 rfl).2.cell 3).1
                go_step
                refine st_ex hK rfl rfl (by simp only [Act.put, setIfInBounds_toArray, set_cons_succ, set_cons_zero, Array.getD_eq_getD_getElem?, List.getElem?_toArray, List.getElem?_cons_succ, List.getElem?_cons_zero, Option.getD_some] <;> rfl) rfl (by rw [hSd] at hS ⊢; exact hS)
              ·
                unfold stStep
                rw [if_pos (by simp [Region.wanted])]
                intro K Q hK
                simp only [puts, foldr_nil]
                go_step
                refine st_ex hK rfl rfl (by simp only [Act.put, setIfInBounds_toArray, set_cons_succ, set_cons_zero, Array.getD_eq_getD_getElem?, List.getElem?_toArray, List.getElem?_cons_succ, List.getElem?_cons_zero, Option.getD_some] <;> rfl) rfl (by rw [hSd] at hS ⊢; exact hS)
              ·
                obtain ⟨h2, -⟩ := hh
                have g2 : f 2 = _ := h2
                unfold stStep
                rw [if_pos (by simp [Region.wanted])]
                intro K Q hK
                simp only [puts, foldr_cons, foldr_nil, setIfInBounds_toArray, set_cons_succ, set_cons_zero, g2]
                have hS' := hS
                rw [hSd] at hS'
                obtain ⟨⟨m1, m2, m3, m4⟩, -, -, -⟩ := HO.out W hS'.1
                rw [HAA.out] at m4
                go_step
                refine st_ex hK rfl rfl (by simp only [Act.put, setIfInBounds_toArray, set_cons_succ, set_cons_zero, Array.getD_eq_getD_getElem?, List.getElem?_toArray, List.getElem?_cons_succ, List.getElem?_cons_zero, Option.getD_some] <;> rfl) rfl (by rw [hSd] at hS ⊢; exact hS)
              ·
                unfold stStep
                rw [if_pos (by simp [Region.wanted])]
                intro K Q hK
                simp only [puts, foldr_nil]
                go_step
                refine st_ex hK rfl rfl (by simp only [Act.put, setIfInBounds_toArray, set_cons_succ, set_cons_zero, Array.getD_eq_getD_getElem?, List.getElem?_toArray, List.getElem?_cons_succ, List.getElem?_cons_zero, Option.getD_some] <;> rfl) rfl (by rw [hSd] at hS ⊢; exact hS)
              ·
                obtain ⟨h3, h4, -⟩ := hh
                have g3 : f 3 = _ := h3
                have g4 : f 4 = _ := h4
                unfold stStep
                rw [if_pos (by simp [Region.wanted])]
                intro K Q hK
                simp only [puts, foldr_cons, foldr_nil, setIfInBounds_toArray, set_cons_succ, set_cons_zero, g3, g4]
                go_step
                refine st_ex hK rfl rfl (by simp only [Act.put, setIfInBounds_toArray, set_cons_succ, set_cons_zero, Array.getD_eq_getD_getElem?, List.getElem?_toArray, List.getElem?_cons_succ, List.getElem?_cons_zero, Option.getD_some] <;> rfl) rfl (by rw [hSd] at hS ⊢; exact hS)
              ·
                obtain ⟨h5, -⟩ := hh
                have g5 : f 5 = _ := h5
                unfold stStep
                rw [if_pos (by simp [Region.wanted])]
                intro K Q hK
                simp only [puts, foldr_cons, foldr_nil, setIfInBounds_toArray, set_cons_succ, set_cons_zero, g5]
                go_step
                refine st_ex hK rfl rfl (by simp only [Act.put, setIfInBounds_toArray, set_cons_succ, set_cons_zero, Array.getD_eq_getD_getElem?, List.getElem?_toArray, List.getElem?_cons_succ, List.getElem?_cons_zero, Option.getD_some] <;> rfl) rfl (by rw [hSd] at hS ⊢; exact hS)
              ·
                obtain ⟨h6, -⟩ := hh
                have g6 : f 6 = _ := h6
                unfold stStep
                rw [if_pos (by simp [Region.wanted])]
                intro K Q hK
                simp only [puts, foldr_cons, foldr_nil, setIfInBounds_toArray, set_cons_succ, set_cons_zero, g6]
                have hS' := hS
                rw [hSd] at hS'
                obtain ⟨-, htW, -, -⟩ := HO.out W hS'.1
                have x := (htW.2.get_at HAA.out i HIL.out).1
                rw [HX.out] at x
                go_step
                refine st_ex hK rfl rfl (by simp only [Act.put, setIfInBounds_toArray, set_cons_succ, set_cons_zero, Array.getD_eq_getD_getElem?, List.getElem?_toArray, List.getElem?_cons_succ, List.getElem?_cons_zero, Option.getD_some] <;> rfl) rfl (by rw [hSd] at hS ⊢; exact hS)
              ·
                unfold stStep
                rw [if_pos (by simp [Region.wanted])]
                intro K Q hK
                simp only [puts, foldr_nil]
                go_step
                refine st_ex hK rfl rfl (by simp only [Act.put, setIfInBounds_toArray, set_cons_succ, set_cons_zero, Array.getD_eq_getD_getElem?, List.getElem?_toArray, List.getElem?_cons_succ, List.getElem?_cons_zero, Option.getD_some] <;> rfl) rfl (by rw [hSd] at hS ⊢; exact hS)
              ·
                obtain ⟨h8, -⟩ := hh
                have g8 : f 8 = _ := h8
                unfold stStep
                rw [if_pos (by simp [Region.wanted])]
                intro K Q hK
                simp only [puts, foldr_cons, foldr_nil, setIfInBounds_toArray, set_cons_succ, set_cons_zero, g8]
                have hS' := hS
                rw [hSd] at hS'
                obtain ⟨⟨m1, m2, m3, m4⟩, -, -, -⟩ := HO.out W hS'.1
                rw [HAA.out] at m4
                go_step
                refine st_ex hK rfl rfl (by simp only [Act.put, setIfInBounds_toArray, set_cons_succ, set_cons_zero, Array.getD_eq_getD_getElem?, List.getElem?_toArray, List.getElem?_cons_succ, List.getElem?_cons_zero, Option.getD_some] <;> rfl) rfl (by rw [hSd] at hS ⊢; exact hS)
              ·
                unfold stStep
                rw [if_pos (by simp [Region.wanted])]
                intro K Q hK
                simp only [puts, foldr_nil]
                go_step
                refine st_ex hK rfl rfl (by simp only [Act.put, setIfInBounds_toArray, set_cons_succ, set_cons_zero, Array.getD_eq_getD_getElem?, List.getElem?_toArray, List.getElem?_cons_succ, List.getElem?_cons_zero, Option.getD_some] <;> rfl) rfl (by rw [hSd] at hS ⊢; exact hS)
              ·
                obtain ⟨h9, h10, -⟩ := hh
                have g9 : f 9 = _ := h9
                have g10 : f 10 = _ := h10
                unfold stStep
                rw [if_pos (by simp [Region.wanted])]
                intro K Q hK
                simp only [puts, foldr_cons, foldr_nil, setIfInBounds_toArray, set_cons_succ, set_cons_zero, g9, g10]
                go_step
                refine st_ex hK rfl rfl (by simp only [Act.put, setIfInBounds_toArray, set_cons_succ, set_cons_zero, Array.getD_eq_getD_getElem?, List.getElem?_toArray, List.getElem?_cons_succ, List.getElem?_cons_zero, Option.getD_some] <;> rfl) rfl (by rw [hSd] at hS ⊢; exact hS)
              ·
                obtain ⟨h11, -⟩ := hh
                have g11 : f 11 = _ := h11
                unfold stStep
                rw [if_pos (by simp [Region.wanted])]
                intro K Q hK
                simp only [puts, foldr_cons, foldr_nil, setIfInBounds_toArray, set_cons_succ, set_cons_zero, g11]
                go_step
                refine st_ex hK rfl rfl (by simp only [Act.put, setIfInBounds_toArray, set_cons_succ, set_cons_zero, Array.getD_eq_getD_getElem?, List.getElem?_toArray, List.getElem?_cons_succ, List.getElem?_cons_zero, Option.getD_some] <;> rfl) rfl (by rw [hSd] at hS ⊢; exact hS)
              ·
                obtain ⟨h12, -⟩ := hh
                have g12 : f 12 = _ := h12
                unfold stStep
                rw [if_pos (by simp [Region.wanted])]
                intro K Q hK
                simp only [puts, foldr_cons, foldr_nil, setIfInBounds_toArray, set_cons_succ, set_cons_zero, g12]
                have hS' := hS
                rw [hSd] at hS'
                obtain ⟨-, htW, -, -⟩ := HO.out W hS'.1
                have x := (htW.2.get_at HAA.out i HIL.out).2.1
                rw [HX.out] at x
                go_step
                refine st_ex hK rfl rfl (by simp only [Act.put, setIfInBounds_toArray, set_cons_succ, set_cons_zero, Array.getD_eq_getD_getElem?, List.getElem?_toArray, List.getElem?_cons_succ, List.getElem?_cons_zero, Option.getD_some] <;> rfl) rfl (by rw [hSd] at hS ⊢; exact hS)
              ·
                unfold stStep
                rw [if_pos (by simp [Region.wanted])]
                intro K Q hK
                simp only [puts, foldr_nil]
                go_step
                refine st_ex hK rfl rfl (by simp only [Act.put, setIfInBounds_toArray, set_cons_succ, set_cons_zero, Array.getD_eq_getD_getElem?, List.getElem?_toArray, List.getElem?_cons_succ, List.getElem?_cons_zero, Option.getD_some] <;> rfl) rfl (by rw [hSd] at hS ⊢; exact hS)
              ·
                unfold stStep
                rw [if_pos (by simp [Region.wanted])]
                intro K Q hK
                simp only [puts, foldr_nil]
                go_step
                refine st_ex hK rfl rfl (by simp only [Act.put, setIfInBounds_toArray, set_cons_succ, set_cons_zero, Array.getD_eq_getD_getElem?, List.getElem?_toArray, List.getElem?_cons_succ, List.getElem?_cons_zero, Option.getD_some] <;> rfl) rfl (by rw [hSd] at hS ⊢; exact hS)
              ·
                obtain ⟨h15, -⟩ := hh
                have g15 : f 15 = _ := h15
                unfold stStep
                rw [if_pos (by simp [Region.wanted])]
                intro K Q hK
                simp only [puts, foldr_cons, foldr_nil, setIfInBounds_toArray, set_cons_succ, set_cons_zero, g15]
                have hS' := hS
                rw [hSd] at hS'
                obtain ⟨⟨m1, m2, m3, m4⟩, -, -, -⟩ := HO.out W hS'.1
                rw [HAA.out] at m4
                go_step
                refine st_ex hK rfl rfl (by simp only [Act.put, setIfInBounds_toArray, set_cons_succ, set_cons_zero, Array.getD_eq_getD_getElem?, List.getElem?_toArray, List.getElem?_cons_succ, List.getElem?_cons_zero, Option.getD_some] <;> rfl) rfl (by rw [hSd] at hS ⊢; exact hS)
              ·
                unfold stStep
                rw [if_pos (by simp [Region.wanted])]
                intro K Q hK
                simp only [puts, foldr_nil]
                go_step
                refine st_ex hK rfl rfl (by simp only [Act.put, setIfInBounds_toArray, set_cons_succ, set_cons_zero, Array.getD_eq_getD_getElem?, List.getElem?_toArray, List.getElem?_cons_succ, List.getElem?_cons_zero, Option.getD_some] <;> rfl) rfl (by rw [hSd] at hS ⊢; exact hS)
              ·
                obtain ⟨h16, h17, -⟩ := hh
                have g16 : f 16 = _ := h16
                have g17 : f 17 = _ := h17
                unfold stStep
                rw [if_pos (by simp [Region.wanted])]
                intro K Q hK
                simp only [puts, foldr_cons, foldr_nil, setIfInBounds_toArray, set_cons_succ, set_cons_zero, g16, g17]
                go_step
                refine st_ex hK rfl rfl (by simp only [Act.put, setIfInBounds_toArray, set_cons_succ, set_cons_zero, Array.getD_eq_getD_getElem?, List.getElem?_toArray, List.getElem?_cons_succ, List.getElem?_cons_zero, Option.getD_some] <;> rfl) rfl (by rw [hSd] at hS ⊢; exact hS)
              ·
                obtain ⟨h18, -⟩ := hh
                have g18 : f 18 = _ := h18
                unfold stStep
                rw [if_pos (by simp [Region.wanted])]
                intro K Q hK
                simp only [puts, foldr_cons, foldr_nil, setIfInBounds_toArray, set_cons_succ, set_cons_zero, g18]
                go_step
                refine st_ex hK rfl rfl (by simp only [Act.put, setIfInBounds_toArray, set_cons_succ, set_cons_zero, Array.getD_eq_getD_getElem?, List.getElem?_toArray, List.getElem?_cons_succ, List.getElem?_cons_zero, Option.getD_some] <;> rfl) rfl (by rw [hSd] at hS ⊢; exact hS)
              ·
                obtain ⟨h19, -⟩ := hh
                have g19 : f 19 = _ := h19
                unfold stStep
                rw [if_pos (by simp [Region.wanted])]
                intro K Q hK
                simp only [puts, foldr_cons, foldr_nil, setIfInBounds_toArray, set_cons_succ, set_cons_zero, g19]
                have hS' := hS
                rw [hSd] at hS'
                obtain ⟨-, htW, -, -⟩ := HO.out W hS'.1
                have x := (htW.2.get_at HAA.out i HIL.out).2.2
                rw [HX.out] at x
                go_step
                refine st_ex hK rfl rfl (by simp only [Act.put, setIfInBounds_toArray, set_cons_succ, set_cons_zero, Array.getD_eq_getD_getElem?, List.getElem?_toArray, List.getElem?_cons_succ, List.getElem?_cons_zero, Option.getD_some] <;> rfl) rfl (by rw [hSd] at hS ⊢; exact hS)
              ·
                obtain ⟨h14, h20, -⟩ := hh
                have g14 : f 14 = _ := h14
                have g20 : f 20 = _ := h20
                unfold stStep
                rw [if_pos (by simp [Region.wanted])]
                intro K Q hK
                simp only [puts, foldr_cons, foldr_nil, setIfInBounds_toArray, set_cons_succ, set_cons_zero, g14, g20]
                go_step
                refine st_ex hK rfl rfl (by simp only [Act.put, setIfInBounds_toArray, set_cons_succ, set_cons_zero, Array.getD_eq_getD_getElem?, List.getElem?_toArray, List.getElem?_cons_succ, List.getElem?_cons_zero, Option.getD_some] <;> rfl) rfl (by rw [hSd] at hS ⊢; exact hS)
              ·
                obtain ⟨h21, -⟩ := hh
                have g21 : f 21 = _ := h21
                unfold stStep
                rw [if_pos (by simp [Region.wanted])]
                intro K Q hK
                simp only [puts, foldr_cons, foldr_nil, setIfInBounds_toArray, set_cons_succ, set_cons_zero, g21]
                have hS' := hS
                rw [hSd] at hS'
                have x22 := (own_cell (hS'.2.2.2.row 0 rfl) T HTN.out HC.out.2.2).1
                rw [HU.out] at x22
                go_step
                refine st_ex hK rfl rfl (by simp only [Act.put, setIfInBounds_toArray, set_cons_succ, set_cons_zero, Array.getD_eq_getD_getElem?, List.getElem?_toArray, List.getElem?_cons_succ, List.getElem?_cons_zero, Option.getD_some] <;> rfl) rfl (by rw [hSd] at hS ⊢; exact hS)
              ·
                obtain ⟨h7, h13, h22, -⟩ := hh
                have g7 : f 7 = _ := h7
                have g13 : f 13 = _ := h13
                have g22 : f 22 = _ := h22
                unfold stStep
                rw [if_pos (by simp [Region.wanted])]
                intro K Q hK
                simp only [puts, foldr_cons, foldr_nil, setIfInBounds_toArray, set_cons_succ, set_cons_zero, g7, g13, g22]
                go_step
                refine st_ex hK rfl rfl (by simp only [Act.put, setIfInBounds_toArray, set_cons_succ, set_cons_zero, Array.getD_eq_getD_getElem?, List.getElem?_toArray, List.getElem?_cons_succ, List.getElem?_cons_zero, Option.getD_some] <;> rfl) rfl (by rw [hSd] at hS ⊢; exact hS)
              ·
                obtain ⟨h23, -⟩ := hh
                have g23 : f 23 = _ := h23
                have l25 : L 25 = false := Bool.eq_false_iff.2 fun h => by have q := hdn 25 _ h rfl 24 (by decide); rw [show L 24 = false from hi] at q; cases q
                have l27 : L 27 = false := Bool.eq_false_iff.2 fun h => by have q := hdn 27 _ h rfl 25 (by decide); rw [show L 25 = false from l25] at q; cases q
                unfold stStep
                rw [if_pos (by simp [Region.wanted])]
                intro K Q hK
                simp only [puts, foldr_cons, foldr_nil, setIfInBounds_toArray, set_cons_succ, set_cons_zero, g23]
                rw [hSd] at hS hK
                have l24 : L 24 = false := hi
                try simp only [stage, l25, l27, l24, if_true, if_false, Bool.false_eq_true] at hS
                obtain ⟨hbW, hzW, -, hPW⟩ := hS
                have hal : Below W.heap.size W (W.alloc (.cells #[.int .i64 (F : Int), .int .i64 (l : Int), .int .i64 u] 66)) := (Below.refl _ _).alloc (Nat.le_refl _) _
                go_step
                refine hK.out _ _ rfl ⟨_, rfl⟩ ?_
                refine ⟨hbW.alloc (by omega) _, by simp; omega, fun _ _ => ⟨_, rfl, BlkAt.new W _ _⟩, ?_⟩
                simp only [l25, l27, Bool.false_eq_true, ↓reduceIte, Nat.reduceEqDiff] at hPW ⊢
                exact hPW.quiet (below_grows hal none)
              ·
                obtain ⟨h1, h24, -⟩ := hh
                have g1 : f 1 = _ := h1
                obtain ⟨b24, (g24 : f 24 = _)⟩ := h24
                have l24 : L 24 = true := hd 24 (by decide)
                have l27 : L 27 = false := Bool.eq_false_iff.2 fun h => by have q := hdn 27 _ h rfl 25 (by decide); rw [show L 25 = false from hi] at q; cases q
                unfold stStep
                rw [if_pos (by simp [Region.wanted])]
                intro K Q hK
                simp only [puts, foldr_cons, foldr_nil, setIfInBounds_toArray, set_cons_succ, set_cons_zero, g1, g24]
                rw [hSd] at hS hK
                have l25 : L 25 = false := hi
                try simp only [stage, l27, l25, l24, if_true, if_false, Bool.false_eq_true] at hS
                obtain ⟨hbW, hzW, h24, hPW⟩ := hS
                obtain ⟨q, e24, hq⟩ := h24 trivial trivial
                rw [g24] at e24
                obtain rfl : b24 = q := by simpa using e24
                try simp only [l25, l27, if_false, Bool.false_eq_true] at hPW
                refine wp_app_pcs elRB _ _ rfl 2 (v := .slice va i ca) (n := AS.length) rfl hPW rfl (news := [.int .i64 (F : Int), .int .i64 (l : Int), .int .i64 u]) rfl ⟨rfl, fun ad e j u hj => by injection e with e; subst e; rw [addr_add, Nat.zero_add, (hq.cell j).1, ← hj]; simp, fun e => by cases e⟩ (by intro u hu; simp only [List.mem_cons, List.not_mem_nil, or_false] at hu; rcases hu with rfl | rfl | rfl <;> rfl) (by have := HASL.out; have := HIM.out; omega) hzW ?_
                intro a' c' w' hp' hbw
                rw [HASL.out] at hp' ⊢
                refine hK.out _ _ rfl ⟨a', c', rfl⟩ ?_
                refine ⟨hbW.trans hbw, Nat.le_trans hzW hbw.size, fun _ h => (by simp at h), ?_⟩
                simp only [l27, Bool.false_eq_true, ↓reduceIte, Nat.reduceEqDiff]
                unfold mzPs
                rw [tvs_append, List.length_append, HASL.out]
                exact hp'
              ·
                obtain ⟨h0, h1, h2, h3, h4, h5, h6, h7, h8, h9, h10, h11, h12, h13, h14, h15, h16, h17, h18, h19, h20, h21, h22, h23, h24, h25, -⟩ := hh
                have g0 : f 0 = _ := h0
                have g1 : f 1 = _ := h1
                have g2 : f 2 = _ := h2
                have g3 : f 3 = _ := h3
                have g4 : f 4 = _ := h4
                have g5 : f 5 = _ := h5
                have g6 : f 6 = _ := h6
                have g7 : f 7 = _ := h7
                have g8 : f 8 = _ := h8
                have g9 : f 9 = _ := h9
                have g10 : f 10 = _ := h10
                have g11 : f 11 = _ := h11
                have g12 : f 12 = _ := h12
                have g13 : f 13 = _ := h13
                have g14 : f 14 = _ := h14
                have g15 : f 15 = _ := h15
                have g16 : f 16 = _ := h16
                have g17 : f 17 = _ := h17
                have g18 : f 18 = _ := h18
                have g19 : f 19 = _ := h19
                have g20 : f 20 = _ := h20
                have g21 : f 21 = _ := h21
                have g22 : f 22 = _ := h22
                have g23 : f 23 = _ := h23
                obtain ⟨b24, (g24 : f 24 = _)⟩ := h24
                obtain ⟨a25, c25, (g25 : f 25 = _)⟩ := h25
                unfold stStep
                rw [if_pos (by simp [Region.wanted])]
                intro K Q hK
                simp only [puts, foldr_cons, foldr_nil, setIfInBounds_toArray, set_cons_succ, set_cons_zero, g0, g1, g2, g3, g4, g5, g6, g7, g8, g9, g10, g11, g12, g13, g14, g15, g16, g17, g18, g19, g20, g21, g22, g23, g24, g25]
                go_step
                refine st_ex hK rfl rfl (by simp only [Act.put, setIfInBounds_toArray, set_cons_succ, set_cons_zero, Array.getD_eq_getD_getElem?, List.getElem?_toArray, List.getElem?_cons_succ, List.getElem?_cons_zero, Option.getD_some] <;> rfl) rfl (by rw [hSd] at hS ⊢; exact hS)
              ·
                obtain ⟨h26, h25, _, h0, h1, h2, h3, h4, h5, h6, h7, h8, h9, h10, h11, h12, h13, h14, h15, h16, h17, h18, h19, h20, h21, h22, h23, h24, _, -⟩ := hh
                have g26 : f 26 = _ := h26
                obtain ⟨a25, c25, (g25 : f 25 = _)⟩ := h25
                have g0 : f 0 = _ := h0
                have g1 : f 1 = _ := h1
                have g2 : f 2 = _ := h2
                have g3 : f 3 = _ := h3
                have g4 : f 4 = _ := h4
                have g5 : f 5 = _ := h5
                have g6 : f 6 = _ := h6
                have g7 : f 7 = _ := h7
                have g8 : f 8 = _ := h8
                have g9 : f 9 = _ := h9
                have g10 : f 10 = _ := h10
                have g11 : f 11 = _ := h11
                have g12 : f 12 = _ := h12
                have g13 : f 13 = _ := h13
                have g14 : f 14 = _ := h14
                have g15 : f 15 = _ := h15
                have g16 : f 16 = _ := h16
                have g17 : f 17 = _ := h17
                have g18 : f 18 = _ := h18
                have g19 : f 19 = _ := h19
                have g20 : f 20 = _ := h20
                have g21 : f 21 = _ := h21
                have g22 : f 22 = _ := h22
                have g23 : f 23 = _ := h23
                obtain ⟨b24, (g24 : f 24 = _)⟩ := h24
                have l25 : L 25 = true := hd 25 (by decide)
                unfold stStep
                rw [if_pos (by simp [Region.wanted])]
                intro K Q hK
                simp only [puts, foldr_cons, foldr_nil, setIfInBounds_toArray, set_cons_succ, set_cons_zero, g26, g25, g0, g1, g2, g3, g4, g5, g6, g7, g8, g9, g10, g11, g12, g13, g14, g15, g16, g17, g18, g19, g20, g21, g22, g23, g24]
                rw [hSd] at hS hK
                have l27 : L 27 = false := hi
                try simp only [stage, l27, l25, if_true, if_false, Bool.false_eq_true] at hS
                obtain ⟨hbW, hzW, -, hPW⟩ := hS
                have l25' : L 25 = true := hd 25 (by decide)
                simp only [l25', l27, if_false, if_true, Bool.false_eq_true, g25] at hPW
                have y1 := ((hPW.blk 1 rfl).2.cell 3)
                have y2 : W.cell? ⟨bo, 3, none⟩ = some (.slice va i ca) := y1.1
                have y3 := y1.2
                go_step
                refine hK.out _ _ rfl trivial ?_
                refine ⟨hbW.setCell (by have := HBO.out; show _ ≤ bo; omega) _, by rw [World.size_setCell]; exact hzW, fun _ h => (by simp [l25'] at h), ?_⟩
                simp only [l25', ↓reduceIte, Nat.reduceEqDiff, g25]
                exact hPW.blkStore 1 rfl 3 _
            case yrest =>
              intro L f WY hL hh hS
              rw [hSd] at hS
              clear hSd
              have l24 : L 24 = true := hL 24 (by decide)
              have l25 : L 25 = true := hL 25 (by decide)
              have l27 : L 27 = true := hL 27 (by decide)
              simp only [stage, l24, l25, l27, if_true] at hS
              clear hL l24 l25 l27
              obtain ⟨h0, h1, h2, h3, h4, h5, h6, h7, h8, h9, h10, h11, h12, h13, h14, h15, h16, h17, h18, h19, h20, h21, h22, h23, h24, h25, h26, -⟩ := hh
              have g0 : f 0 = _ := h0
              have g1 : f 1 = _ := h1
              have g2 : f 2 = _ := h2
              have g3 : f 3 = _ := h3
              have g4 : f 4 = _ := h4
              have g5 : f 5 = _ := h5
              have g6 : f 6 = _ := h6
              have g7 : f 7 = _ := h7
              have g8 : f 8 = _ := h8
              have g9 : f 9 = _ := h9
              have g10 : f 10 = _ := h10
              have g11 : f 11 = _ := h11
              have g12 : f 12 = _ := h12
              have g13 : f 13 = _ := h13
              have g14 : f 14 = _ := h14
              have g15 : f 15 = _ := h15
              have g16 : f 16 = _ := h16
              have g17 : f 17 = _ := h17
              have g18 : f 18 = _ := h18
              have g19 : f 19 = _ := h19
              have g20 : f 20 = _ := h20
              have g21 : f 21 = _ := h21
              have g22 : f 22 = _ := h22
              have g23 : f 23 = _ := h23
              obtain ⟨b24, (g24 : f 24 = _)⟩ := h24
              obtain ⟨a25, c25, (g25 : f 25 = _)⟩ := h25
              have g26 : f 26 = _ := h26
              simp only [puts, foldr_cons, foldr_nil, setIfInBounds_toArray, set_cons_succ, set_cons_zero, g0, g1, g2, g3, g4, g5, g6, g7, g8, g9, g10, g11, g12, g13, g14, g15, g16, g17, g18, g19, g20, g21, g22, g23, g24, g25, g26]
              clear h0 h1 h2 h3 h4 h5 h6 h7 h8 h9 h10 h11 h12 h13 h14 h15 h16 h17 h18 h19 h20 h21 h22 h23 h26 g0 g1 g2 g3 g4 g5 g6 g7 g8 g9 g10 g11 g12 g13 g14 g15 g16 g17 g18 g19 g20 g21 g22 g23 g26
              simp only [g25] at hS
              obtain ⟨hbY, hzY, -, hPY⟩ := hS
              have HPY := Lib.hid hPY
              have HBY := Lib.hid hbY
              have HZY := Lib.hid hzY
              have halb2 : i < al := by have := HIL.out; rw [HTA.out] at this; exact this
              clear hPY hbY hzY
              go_wp2_with (fail)
              go_roundw
              case rel => exact ⟨i + 1, a25, c25, halb2, by go_num, by rw [HAN.out]; exact HPY.out, HBY.out, HZY.out⟩
              case measure => simp [intOf]; omega
          · obtain rfl : i = al := by omega
            have t1 : decide (i < i) = false := decide_eq_false (by omega)
            rw [List.take_of_length_le (by rw [HAL.out]; exact Nat.le_refl _)] at hP
            obtain ⟨RD, hRD⟩ : ∃ R, repD TD C = R := ⟨_, rfl⟩
            have hRv : ValidD RD := by rw [← hRD]; exact repD_valid HTV.out HLE.out
            have hRm : numD RD (allK RD.n.toNat) = MD := by
              rw [← HMD.out, ← rep_minL HTV.out HTU.out HLE.out HBL.out, ← hRD]
              rfl
            have hRn : RD.n = N := by rw [← hRD]; exact HN.out
            have hRs : RD.s = cs := by rw [← hRD]; show gi C TD.s.toNat = cs; rw [HSS.out, Int.toNat_natCast, HCS.out]
            have hRf : RD.fin = TD.fin := by rw [← hRD]; rfl
            have hRa : RD.arcs = es.map (repA C) := by rw [← hRD, ← HES.out]; rfl
            have HNUM : Hid (∀ W, ∀ {hr : DH}, IsDfa W hr RD → ∀ {a : Option Addr} {c : Nat}, IsInts .i64 W a RD.n.toNat c (lets RD.n.toNat) → Calls Try.prog 39 #[vDf RD hr, .slice a RD.n.toNat c] W (GivesD MD W)) := Lib.hid (fun W hr hI a c hL => by
              have h1 := refNumber_any hRv hI hL (by have := hRv.1; omega) (keep := allK RD.n.toNat) (fun T hT => lets_all (by omega))
              rw [hRm] at h1
              exact h1)
            have HRN : Hid (0 ≤ RD.n ∧ RD.n ≤ 100000) := Lib.hid (by have := hRv.1; omega)
            have hrd : IsDfa wr ⟨ht.fa, ht.fl, ht.fc, va, i, ca⟩ RD := by
              refine ⟨?_, ?_⟩
              · show IsBools wr ht.fa ht.fl ht.fc RD.fin
                rw [hRf]; exact hti.1
              · show IsArcs wr va i ca RD.arcs
                have h1 := hP.row 2 rfl
                have h2 : (es.map (repA C)).length = i := by rw [List.length_map, HAL.out]
                rw [h2] at h1
                rw [hRa]
                exact (IsArcs.of_owns h1).1
            have hbk := (hP.blk 1 rfl).2
            have HO3 : Hid (∀ W, Below wr.heap.size wr W → (W.cell? ⟨bo, 0, none⟩ = some (.int .i64 RD.n) ∧ W.cell? ⟨bo, 1, none⟩ = some (.int .i64 RD.s) ∧ W.cell? ⟨bo, 2, none⟩ = some (.slice ht.fa ht.fl ht.fc) ∧ W.cell? ⟨bo, 3, none⟩ = some (.slice va i ca)) ∧ IsDfa W ⟨ht.fa, ht.fl, ht.fc, va, i, ca⟩ RD ∧ Below w.heap.size w W ∧ W.heap[w.heap.size + 1]? = some (.cells #[.int .i64 0, .int .i64 0, .slice none 0 0, .slice none 0 0] 25 (0, 0))) := Lib.hid (fun W hbW => by
              have hbk2 := hbk.grown (below_grows hbW none) (fun e => by cases e)
              obtain ⟨-, -, q1, q2⟩ := HO.out W (hb.trans (hbW.mono hz))
              refine ⟨⟨?_, ?_, (hbk2.cell 2).1, (hbk2.cell 3).1⟩, hrd.later hbW, q1, q2⟩
              · rw [hRn]; exact (hbk2.cell 0).1
              · rw [hRs]; exact (hbk2.cell 1).1)
            clear hRD hRv hRm hRn hRs hRf hRa hrd hbk hP hb hz hti hge hi
            go_upto_region 25 with (fail)
            obtain ⟨S, hSd⟩ : ∃ S : (Nat → Bool) → (Nat → Value) → World → Prop, S = fun L f W => (if L 4 = true then RBox (w.heap.size + 1) MD W ∧ Below w.heap.size w W else Below wr.heap.size wr W) ∧ (L 2 = true → L 4 = false → ∃ a c, f 2 = .slice a RD.n.toNat c ∧ IsInts .i64 W a RD.n.toNat c (lets RD.n.toNat)) ∧ (L 3 = true → L 4 = false → ∃ h', f 3 = vDf MD h' ∧ IsDfa W h' MD) := ⟨_, rfl⟩
            refine wp_region_st mixed (by kernel_rfl) [[], [], [(1, 123)], [(0, 122), (2, 124), (2, 124)], [(3, 125), (3, 125), (0, 122), (1, 123), (2, 124), (3, 125)], [(0, 122), (1, 123), (2, 124), (3, 125)]] [(0, 122), (1, 123), (2, 124), (3, 125), (5, 3)] rfl rfl [EV ?ez0, EV ?ez1, fun v => ∃ a c, v = .slice a RD.n.toNat c, fun v => ∃ h', v = vDf MD h', fun _ => True, EV ?ez5] S ?zstart ?zsteps ?zrest
            case zstart =>
              intro f
              rw [hSd]
              exact ⟨(Below.refl _ _).drew, fun h => (by cases h), fun h => (by cases h)⟩
            case zsteps =>
              refine ⟨fun L f W hi hd hdn hh hS => ?_, fun L f W hi hd hdn hh hS => ?_, fun L f W hi hd hdn hh hS => ?_, fun L f W hi hd hdn hh hS => ?_, fun L f W hi hd hdn hh hS => ?_, fun L f W hi hd hdn hh hS => ?_, trivial⟩
              ·
                have l3 : L 3 = false := Bool.eq_false_iff.2 fun h => by have q := hdn 3 _ h rfl 0 (by decide); rw [show L 0 = false from hi] at q; cases q
                have l4 : L 4 = false := Bool.eq_false_iff.2 fun h => by have q := hdn 4 _ h rfl 3 (by decide); rw [show L 3 = false from l3] at q; cases q
                unfold stStep
                rw [if_pos (by simp [Region.wanted])]
                intro K Q hK
                simp only [puts, foldr_nil]
                have hS' := hS
                rw [hSd] at hS'
                simp only [l4, Bool.false_eq_true, ↓reduceIte] at hS'
                obtain ⟨⟨m1, m2, m3, m4⟩, -, -, -⟩ := HO3.out W hS'.1
                go_step
                refine st_ex hK rfl rfl (by simp only [Act.put, setIfInBounds_toArray, set_cons_succ, set_cons_zero, Array.getD_eq_getD_getElem?, List.getElem?_toArray, List.getElem?_cons_succ, List.getElem?_cons_zero, Option.getD_some] <;> rfl) rfl (by rw [hSd] at hS ⊢; exact hS)
              ·
                have l2 : L 2 = false := Bool.eq_false_iff.2 fun h => by have q := hdn 2 _ h rfl 1 (by decide); rw [show L 1 = false from hi] at q; cases q
                have l3 : L 3 = false := Bool.eq_false_iff.2 fun h => by have q := hdn 3 _ h rfl 2 (by decide); rw [show L 2 = false from l2] at q; cases q
                have l4 : L 4 = false := Bool.eq_false_iff.2 fun h => by have q := hdn 4 _ h rfl 3 (by decide); rw [show L 3 = false from l3] at q; cases q
                unfold stStep
                rw [if_pos (by simp [Region.wanted])]
                intro K Q hK
                simp only [puts, foldr_nil]
                have hS' := hS
                rw [hSd] at hS'
                simp only [l4, Bool.false_eq_true, ↓reduceIte] at hS'
                obtain ⟨⟨m1, m2, m3, m4⟩, -, -, -⟩ := HO3.out W hS'.1
                go_step
                refine st_ex hK rfl rfl (by simp only [Act.put, setIfInBounds_toArray, set_cons_succ, set_cons_zero, Array.getD_eq_getD_getElem?, List.getElem?_toArray, List.getElem?_cons_succ, List.getElem?_cons_zero, Option.getD_some] <;> rfl) rfl (by rw [hSd] at hS ⊢; exact hS)
              ·
                obtain ⟨h1, -⟩ := hh
                have g1 : f 1 = _ := h1
                have l3 : L 3 = false := Bool.eq_false_iff.2 fun h => by have q := hdn 3 _ h rfl 2 (by decide); rw [show L 2 = false from hi] at q; cases q
                have l4 : L 4 = false := Bool.eq_false_iff.2 fun h => by have q := hdn 4 _ h rfl 3 (by decide); rw [show L 3 = false from l3] at q; cases q
                unfold stStep
                rw [if_pos (by simp [Region.wanted])]
                intro K Q hK
                simp only [puts, foldr_cons, foldr_nil, setIfInBounds_toArray, set_cons_succ, set_cons_zero, g1]
                rw [hSd] at hS hK
                have l2 : L 2 = false := hi
                try simp only [stage, l3, l4, l2, if_true, if_false, Bool.false_eq_true] at hS
                obtain ⟨hbW, -, -⟩ := hS
                obtain ⟨-, hdW, -, -⟩ := HO3.out W hbW
                go_step
                go_at_call 40
                refine (refAll_any (w := W) hdW HRN.out).mono ?_
                rintro e w' ⟨⟨a', c', rfl, hI⟩, hb⟩
                refine hK.out _ _ rfl ⟨a', c', rfl⟩ ?_
                simp only [l3, l4, Bool.false_eq_true, ↓reduceIte, Nat.reduceEqDiff]
                exact ⟨hbW.trans (hb.mono hbW.size), fun _ _ => ⟨a', c', rfl, hI⟩, fun h => (by cases h)⟩
              ·
                obtain ⟨h0, h2, _, -⟩ := hh
                have g0 : f 0 = _ := h0
                obtain ⟨a2, c2, (g2 : f 2 = _)⟩ := h2
                have l2 : L 2 = true := hd 2 (by decide)
                have l4 : L 4 = false := Bool.eq_false_iff.2 fun h => by have q := hdn 4 _ h rfl 3 (by decide); rw [show L 3 = false from hi] at q; cases q
                unfold stStep
                rw [if_pos (by simp [Region.wanted])]
                intro K Q hK
                simp only [puts, foldr_cons, foldr_nil, setIfInBounds_toArray, set_cons_succ, set_cons_zero, g0, g2]
                rw [hSd] at hS hK
                have l3 : L 3 = false := hi
                try simp only [stage, l4, l3, l2, if_true, if_false, Bool.false_eq_true] at hS
                obtain ⟨hbW, h2W, -⟩ := hS
                obtain ⟨a', c', e2, hI⟩ := h2W trivial trivial
                rw [g2] at e2
                injection e2 with e21 e22 e23
                subst e21 e23
                obtain ⟨-, hdW, -, -⟩ := HO3.out W hbW
                go_step
                go_at_call 39
                refine (HNUM.out W hdW hI).mono ?_
                rintro e w' ⟨⟨h', rfl, hD⟩, hb⟩
                refine hK.out _ _ rfl ⟨h', rfl⟩ ?_
                simp only [l4, Bool.false_eq_true, ↓reduceIte, Nat.reduceEqDiff]
                exact ⟨hbW.trans (hb.mono hbW.size), fun _ _ => ⟨_, _, g2, hI.later hb⟩, fun _ _ => ⟨h', rfl, hD⟩⟩
              ·
                obtain ⟨h3, _, h0, h1, h2, _, -⟩ := hh
                obtain ⟨y3, (g3 : f 3 = _)⟩ := h3
                have g0 : f 0 = _ := h0
                have g1 : f 1 = _ := h1
                obtain ⟨a2, c2, (g2 : f 2 = _)⟩ := h2
                have l3 : L 3 = true := hd 3 (by decide)
                unfold stStep
                rw [if_pos (by simp [Region.wanted])]
                intro K Q hK
                simp only [puts, foldr_cons, foldr_nil, setIfInBounds_toArray, set_cons_succ, set_cons_zero, g3, g0, g1, g2]
                rw [hSd] at hS hK
                have l4 : L 4 = false := hi
                try simp only [stage, l4, l3, if_true, if_false, Bool.false_eq_true] at hS
                obtain ⟨hbW, -, h3W⟩ := hS
                obtain ⟨h', e3, hD⟩ := h3W trivial trivial
                obtain ⟨-, -, hbw, hZW⟩ := HO3.out W hbW
                have e3' : f 3 = .agg #[.int .i64 MD.n, .int .i64 MD.s, .slice h'.fa h'.fl h'.fc, .slice h'.aa h'.al h'.ac] := e3
                rw [g3] at e3'
                simp only [e3']
                refine wp_store_row 25 _ _ rfl (w.heap.size + 1) #[.int .i64 MD.n, .int .i64 MD.s, .slice h'.fa h'.fl h'.fc, .slice h'.aa h'.al h'.ac] rfl rfl _ _ hZW ref_i rfl (dfa_one _ _ _ _ _ _ _ _) ?_
                refine hK.out _ _ rfl trivial ?_
                simp only [↓reduceIte, Nat.reduceEqDiff]
                exact ⟨⟨RBox.put hZW rfl hD, below_setRow hbw (by omega) _⟩, fun _ h => (by cases h), fun _ h => (by cases h)⟩
              ·
                obtain ⟨h0, h1, h2, h3, -⟩ := hh
                have g0 : f 0 = _ := h0
                have g1 : f 1 = _ := h1
                obtain ⟨a2, c2, (g2 : f 2 = _)⟩ := h2
                obtain ⟨y3, (g3 : f 3 = _)⟩ := h3
                unfold stStep
                rw [if_pos (by simp [Region.wanted])]
                intro K Q hK
                simp only [puts, foldr_cons, foldr_nil, setIfInBounds_toArray, set_cons_succ, set_cons_zero, g0, g1, g2, g3]
                go_step
                refine st_ex hK rfl rfl (by simp only [Act.put, setIfInBounds_toArray, set_cons_succ, set_cons_zero, Array.getD_eq_getD_getElem?, List.getElem?_toArray, List.getElem?_cons_succ, List.getElem?_cons_zero, Option.getD_some] <;> rfl) rfl (by rw [hSd] at hS ⊢; exact hS)
            case zrest =>
              intro L f WZ hL hh hS
              rw [hSd] at hS
              clear hSd
              have l2 : L 2 = true := hL 2 (by decide)
              have l3 : L 3 = true := hL 3 (by decide)
              have l4 : L 4 = true := hL 4 (by decide)
              simp only [stage, l2, l3, l4, if_true] at hS
              clear hL l2 l3 l4
              obtain ⟨h0, h1, h2, h3, h5, -⟩ := hh
              have g0 : f 0 = _ := h0
              have g1 : f 1 = _ := h1
              obtain ⟨a2, c2, (g2 : f 2 = _)⟩ := h2
              obtain ⟨y3, (g3 : f 3 = _)⟩ := h3
              have g5 : f 5 = _ := h5
              simp only [puts, foldr_cons, foldr_nil, setIfInBounds_toArray, set_cons_succ, set_cons_zero, g0, g1, g2, g3, g5]
              clear h0 h1 h5 g0 g1 g5
              obtain ⟨⟨hrb, hbw⟩, -, -⟩ := hS
              obtain ⟨h', hZA, hDA⟩ := hrb
              go_wp2_with (fail)
              refine bodyPost_ret (results_cell_row2 rfl _ _ (w.heap.size + 1) _ _ _ _ rfl rfl hZA Try.underlying25 rfl ref_i) rfl ?_
              exact ⟨⟨h', rfl, hDA⟩, hbw⟩
    · have HB0 := Lib.hid hb
      have HP0 := Lib.hid hP
      clear hti hb hP
      go_wp2_with (refine make_ints (k := .i64) (B := wr.heap.size) elI64 rfl _ _ rfl rfl rfl rfl rfl (by omega) (Nat.le_refl _) ?_; intro w6 ho6 hb6 hs6)
      replace ho6 := ho6.from_mono hz
      obtain ⟨fb, hfb⟩ : ∃ fb, wr.heap.size = fb := ⟨_, rfl⟩
      have hP6 : Pcs w6 B (rdPs g fb N C (freshP TD.arcs TD.fin C N 0)) := by
        rw [freshP_zero]
        rw [hfb] at ho6
        exact HP0.out.add (.row 3 1 (.slice (some ⟨fb, 0, none⟩) N N) N (ivs .i64 (List.replicate N 0))) (below_grows hb6 none) ho6 (fun k e => by have e : some fb = some k := e; injection e with e; omega)
      have HB6 := Lib.hid (HB0.out.trans (hb6.mono hz))
      have HZ6 : Hid (B ≤ w6.heap.size) := Lib.hid (Nat.le_trans hz hb6.size)
      rw [hfb]
      have HP6 := Lib.hid hP6
      clear HB0 HP0 ho6 hb6 hs6 hP6 hz hfb c1 c2 c3 c4
      go_loopw [7, 9] (fun v7 c W => ∃ i : Nat, i ≤ N ∧ c = .int .i64 (i : Int) ∧ v7 = .bool (chP TD.arcs TD.fin C N i) ∧ Pcs W B (rdPs g fb N C (freshP TD.arcs TD.fin C N i)) ∧ Below B W4 W ∧ B ≤ W.heap.size) (fun _ c _ => N - (intOf c).toNat)
      case atStart => exact ⟨0, Nat.zero_le _, rfl, rfl, HP6.out, HB6.out, HZ6.out⟩
      case round =>
        clear HP6 HB6 HZ6
        obtain ⟨i, hi, rfl, rfl, hP, hb, hz⟩ := hrel
        obtain ⟨⟨c1, c2, c3, c4⟩, hti, -, -⟩ := HO.out wr hb
        rw [HN.out] at c1
        rcases Nat.lt_or_ge i N with hlt | hge
        · have t1 : decide (i < N) = true := decide_eq_true hlt
          obtain ⟨f1, f2⟩ := own_cell (hP.row 1 rfl) i hlt (freshP_len i)
          have HP7 := Lib.hid (hP.rowStore 1 rfl i (.int .i64 (i : Int)))
          have HB7 : Hid (Below B W4 (wr.setCell ⟨fb, i, none⟩ (.int .i64 (i : Int)))) := Lib.hid (hb.setCell (hP.row 1 rfl |>.lt fb rfl).1 _)
          have HZ7 : Hid (B ≤ (wr.setCell ⟨fb, i, none⟩ (.int .i64 (i : Int))).heap.size) := Lib.hid (by rw [World.size_setCell]; exact hz)
          have HLT := Lib.hid hlt
          obtain ⟨W7, hW7⟩ : ∃ W7, wr.setCell ⟨fb, i, none⟩ (.int .i64 (i : Int)) = W7 := ⟨_, rfl⟩
          have HW7 := Lib.hid hW7
          have HP8 : Hid (Pcs W7 B (rdPs g fb N C ((freshP TD.arcs TD.fin C N i).set i (i : Int)))) := Lib.hid (by
            have h1 := HP7.out
            rw [hW7] at h1
            unfold rdPs
            rw [← ivs_set]
            exact h1)
          rw [hW7] at HB7 HZ7
          clear hti hb hP hz hi HP7 hW7
          go_wp2_with (fail)
          rw [HW7.out]
          clear f1 f2 c1 c2 c3 c4 HW7
          go_loopw [10] (fun c W => ∃ (q m : Nat), q ≤ i ∧ c = .int .i64 ((q : Int) - 1) ∧ Hid (FirstAt TD.arcs TD.fin C q i m) ∧ Pcs W B (rdPs g fb N C ((freshP TD.arcs TD.fin C N i).set i (m : Int))) ∧ Below B W4 W ∧ B ≤ W.heap.size) (fun c _ => (intOf c + 1).toNat)
          case atStart => exact ⟨i, i, Nat.le_refl _, rfl, Lib.hid (FirstAt.start i), HP8.out, HB7.out, HZ7.out⟩
          case round =>
            clear HP8 HB7 HZ7
            obtain ⟨q, m, hq, rfl, HFA, hP, hb, hz⟩ := hrel
            obtain ⟨⟨c1, c2, c3, c4⟩, hti, -, -⟩ := HO.out wr hb
            rw [HN.out] at c1
            rcases Nat.eq_zero_or_pos q with rfl | hq0
            · skip
              have hfc := HFA.out.done HLT.out
              have HFP : Hid ((freshP TD.arcs TD.fin C N i).set i (m : Int) = freshP TD.arcs TD.fin C N (i + 1)) := Lib.hid (freshP_set HLT.out hfc)
              obtain ⟨f1, -⟩ := own_cell (hP.row 1 rfl) i HLT.out (by rw [List.length_set, freshP_len])
              rw [gi_set (by rw [freshP_len]; exact HLT.out), if_pos rfl] at f1
              obtain ⟨k2, -⟩ := own_cell (hP.row 0 rfl) i HLT.out HC.out.2.2
              obtain ⟨u2, hu2⟩ : ∃ u, gi C i = u := ⟨_, rfl⟩
              rw [hu2] at k2
              obtain ⟨cp, hcp⟩ : ∃ x, chP TD.arcs TD.fin C N i = x := ⟨_, rfl⟩
              have HCP : Hid (chP TD.arcs TD.fin C N (i + 1) = (cp || decide ((m : Int) ≠ u2))) := Lib.hid (by rw [chP_succ, hcp, hfc, hu2])
              have hiN : i < N := HLT.out
              rw [hcp]
              have HP := Lib.hid hP
              have HB := Lib.hid hb
              have HZ := Lib.hid hz
              clear hP hb hti hfc hu2 hcp hz hq c1 c2 c3 c4
              go_upto_region 18 with (fail)
              cases cp
              · by_cases hu : (m : Int) = u2
                · have t6 : ((m : Int) != u2) = false := by simp [hu]
                  have HCS : Hid (chP TD.arcs TD.fin C N (i + 1) = false) := Lib.hid (by rw [HCP.out]; simp [hu])
                  clear hu
                  go_quiet (fail)
                  go_wp2_with (fail)
                  go_roundw
                  case rel => exact ⟨i + 1, HLT.out, by go_num, by rw [HCS.out], by rw [← HFP.out]; exact HP.out.quiet (below_grows (below_drew_n wr nq) none), HB.out.trans ((below_drew_n wr nq).mono HZ.out), HZ.out⟩
                  case measure => have := HLT.out; simp [intOf]; omega
                · have t6 : ((m : Int) != u2) = true := by simp [hu]
                  have HCS : Hid (chP TD.arcs TD.fin C N (i + 1) = true) := Lib.hid (by rw [HCP.out]; simp [hu])
                  clear hu
                  go_quiet (fail)
                  go_wp2_with (fail)
                  go_roundw
                  case rel => exact ⟨i + 1, HLT.out, by go_num, by rw [HCS.out], by rw [← HFP.out]; exact HP.out.quiet (below_grows (below_drew_n wr nq) none), HB.out.trans ((below_drew_n wr nq).mono HZ.out), HZ.out⟩
                  case measure => have := HLT.out; simp [intOf]; omega
              · have HCS : Hid (chP TD.arcs TD.fin C N (i + 1) = true) := Lib.hid (by rw [HCP.out]; rfl)
                go_quiet (fail)
                go_wp2_with (fail)
                go_roundw
                case rel => exact ⟨i + 1, HLT.out, by go_num, by rw [HCS.out], by rw [← HFP.out]; exact HP.out.quiet (below_grows (below_drew_n wr nq) none), HB.out.trans ((below_drew_n wr nq).mono HZ.out), HZ.out⟩
                case measure => have := HLT.out; simp [intOf]; omega
            · obtain ⟨p, rfl⟩ : ∃ p, q = p + 1 := ⟨q - 1, by omega⟩
              rw [show (((p + 1 : Nat) : Int) - 1) = (p : Int) by omega]
              have hpN : p < N := by have := HLT.out; omega
              have t2 : decide ((0 : Int) ≤ (p : Int)) = true := decide_eq_true (by omega)
              obtain ⟨k1, -⟩ := own_cell (hP.row 0 rfl) p hpN HC.out.2.2
              obtain ⟨k2, -⟩ := own_cell (hP.row 0 rfl) i HLT.out HC.out.2.2
              obtain ⟨f1, f2⟩ := own_cell (hP.row 1 rfl) i HLT.out (by rw [List.length_set, freshP_len])
              have HIC := Lib.hid (IsInts.of_owns (hP.row 0 rfl)).1
              obtain ⟨u1, hu1⟩ : ∃ u, gi C p = u := ⟨_, rfl⟩
              obtain ⟨u2, hu2⟩ : ∃ u, gi C i = u := ⟨_, rfl⟩
              rw [hu1] at k1
              rw [hu2] at k2
              obtain ⟨AB, hAB⟩ : ∃ x, alikeB TD.arcs TD.fin C i p = x := ⟨_, rfl⟩
              have HAB := Lib.hid hAB
              have HSG : Hid (sigR TD.arcs TD.fin C p = sigR TD.arcs TD.fin C i ↔ (u1 = u2 ∧ AB = true)) := Lib.hid (by rw [sig_iff, hu1, hu2, hAB])
              have HP := Lib.hid hP
              have HB := Lib.hid hb
              have HTI := Lib.hid hti
              have HPN := Lib.hid hpN
              clear hP hb hti hu1 hu2 hAB
              have HQI := Lib.hid hq
              clear hq hq0
              go_upto_region 16 with (fail)
              by_cases hu : u1 = u2
              · subst hu
                refine wp_region_grow mixed (by kernel_rfl) [[], [], [(0, 45), (1, 46)], [(2, 47)], [], [], [(4, 49), (5, 50)], [(6, 51)], [(3, 48), (7, 52)], [(8, 53)], [(9, 54)], [(9, 54)], [(9, 54)], [(9, 54)], [(10, 55), (11, 56), (12, 57), (13, 58), (9, 54), (9, 54)], [(9, 54), (14, 59)]] [(0, 45), (1, 46), (2, 47), (3, 48), (4, 49), (5, 50), (6, 51), (7, 52), (8, 53), (9, 54), (10, 55), (11, 56), (12, 57), (13, 58), (14, 59), (15, 60)] rfl rfl [Ex ?ea0, Ex ?ea1, Ex ?ea2, Ex ?ea3, Ex ?ea4, Ex ?ea5, Ex ?ea6, Ex ?ea7, Ex ?ea8, Ex ?ea9, Ex ?ea10, Ex ?ea11, Ex ?ea12, Ex ?ea13, Ex (.bool AB), Ex ?ea15] ⟨stays_ex _, stays_ex _, stays_ex _, stays_ex _, stays_ex _, stays_ex _, stays_ex _, stays_ex _, stays_ex _, stays_ex _, stays_ex _, stays_ex _, stays_ex _, stays_ex _, stays_ex _, stays_ex _, trivial⟩ ?asteps ?arest
                case asteps =>
                  refine ⟨fun f W hC hh => ?_, fun f W hC hh => ?_, fun f W hC hh => ?_, fun f W hC hh => ?_, fun f W hC hh => ?_, fun f W hC hh => ?_, fun f W hC hh => ?_, fun f W hC hh => ?_, fun f W hC hh => ?_, fun f W hC hh => ?_, fun f W hC hh => ?_, fun f W hC hh => ?_, fun f W hC hh => ?_, fun f W hC hh => ?_, fun f W hC hh => ?_, fun f W hC hh => ?_, trivial⟩
                  ·
                    refine tab_plain fun K Q hK => ?_
                    simp only [puts, foldr_nil]
                    go_step
                    exact fam_e hK rfl rfl (Below.refl _ _) hC
                  ·
                    refine tab_plain fun K Q hK => ?_
                    simp only [puts, foldr_nil]
                    go_step
                    exact fam_e hK rfl rfl (Below.refl _ _) hC
                  ·
                    obtain ⟨h0, h1, -⟩ := hh
                    have g0 : f 0 = _ := h0
                    have g1 : f 1 = _ := h1
                    refine tab_plain fun K Q hK => ?_
                    simp only [puts, foldr_cons, foldr_nil, setIfInBounds_toArray, set_cons_succ, set_cons_zero, g0, g1]
                    go_step
                    exact fam_e hK rfl rfl (Below.refl _ _) hC
                  ·
                    obtain ⟨h2, -⟩ := hh
                    have g2 : f 2 = _ := h2
                    refine tab_plain fun K Q hK => ?_
                    simp only [puts, foldr_cons, foldr_nil, setIfInBounds_toArray, set_cons_succ, set_cons_zero, g2]
                    have m1 := (hC.cell (p := ⟨g, p, none⟩) (lt_of_cell k1)).trans k1
                    go_step
                    exact fam_e hK rfl rfl (Below.refl _ _) hC
                  ·
                    refine tab_plain fun K Q hK => ?_
                    simp only [puts, foldr_nil]
                    go_step
                    exact fam_e hK rfl rfl (Below.refl _ _) hC
                  ·
                    refine tab_plain fun K Q hK => ?_
                    simp only [puts, foldr_nil]
                    go_step
                    exact fam_e hK rfl rfl (Below.refl _ _) hC
                  ·
                    obtain ⟨h4, h5, -⟩ := hh
                    have g4 : f 4 = _ := h4
                    have g5 : f 5 = _ := h5
                    refine tab_plain fun K Q hK => ?_
                    simp only [puts, foldr_cons, foldr_nil, setIfInBounds_toArray, set_cons_succ, set_cons_zero, g4, g5]
                    go_step
                    exact fam_e hK rfl rfl (Below.refl _ _) hC
                  ·
                    obtain ⟨h6, -⟩ := hh
                    have g6 : f 6 = _ := h6
                    refine tab_plain fun K Q hK => ?_
                    simp only [puts, foldr_cons, foldr_nil, setIfInBounds_toArray, set_cons_succ, set_cons_zero, g6]
                    have m2 := (hC.cell (p := ⟨g, i, none⟩) (lt_of_cell k2)).trans k2
                    go_step
                    exact fam_e hK rfl rfl (Below.refl _ _) hC
                  ·
                    obtain ⟨h3, h7, -⟩ := hh
                    have g3 : f 3 = _ := h3
                    have g7 : f 7 = _ := h7
                    refine tab_plain fun K Q hK => ?_
                    simp only [puts, foldr_cons, foldr_nil, setIfInBounds_toArray, set_cons_succ, set_cons_zero, g3, g7]
                    go_step
                    exact fam_e hK rfl rfl (Below.refl _ _) hC
                  ·
                    obtain ⟨h8, -⟩ := hh
                    have g8 : f 8 = _ := h8
                    refine tab_plain fun K Q hK => ?_
                    simp only [puts, foldr_cons, foldr_nil, setIfInBounds_toArray, set_cons_succ, set_cons_zero, g8]
                    go_step
                    exact fam_e hK rfl rfl (Below.refl _ _) hC
                  ·
                    obtain ⟨h9, -⟩ := hh
                    have g9 : f 9 = _ := h9
                    refine tab_yes g9 fun K Q hK => ?_
                    simp only [puts, foldr_cons, foldr_nil, setIfInBounds_toArray, set_cons_succ, set_cons_zero, g9]
                    have m1 := (hC.cell (p := ⟨bt, 0, none⟩) (lt_of_cell c1)).trans c1
                    rw [← HN.out] at m1
                    have m2 := (hC.cell (p := ⟨bt, 1, none⟩) (lt_of_cell c2)).trans c2
                    have m3 := (hC.cell (p := ⟨bt, 2, none⟩) (lt_of_cell c3)).trans c3
                    have m4 := (hC.cell (p := ⟨bt, 3, none⟩) (lt_of_cell c4)).trans c4
                    go_step
                    exact fam_e hK rfl rfl (Below.refl _ _) hC
                  ·
                    obtain ⟨h9, -⟩ := hh
                    have g9 : f 9 = _ := h9
                    refine tab_yes g9 fun K Q hK => ?_
                    simp only [puts, foldr_cons, foldr_nil, setIfInBounds_toArray, set_cons_succ, set_cons_zero, g9]
                    go_step
                    exact fam_e hK rfl rfl (Below.refl _ _) hC
                  ·
                    obtain ⟨h9, -⟩ := hh
                    have g9 : f 9 = _ := h9
                    refine tab_yes g9 fun K Q hK => ?_
                    simp only [puts, foldr_cons, foldr_nil, setIfInBounds_toArray, set_cons_succ, set_cons_zero, g9]
                    go_step
                    exact fam_e hK rfl rfl (Below.refl _ _) hC
                  ·
                    obtain ⟨h9, -⟩ := hh
                    have g9 : f 9 = _ := h9
                    refine tab_yes g9 fun K Q hK => ?_
                    simp only [puts, foldr_cons, foldr_nil, setIfInBounds_toArray, set_cons_succ, set_cons_zero, g9]
                    go_step
                    exact fam_e hK rfl rfl (Below.refl _ _) hC
                  ·
                    obtain ⟨h10, h11, h12, h13, h9, _, -⟩ := hh
                    have g10 : f 10 = _ := h10
                    have g11 : f 11 = _ := h11
                    have g12 : f 12 = _ := h12
                    have g13 : f 13 = _ := h13
                    have g9 : f 9 = _ := h9
                    refine tab_yes g9 fun K Q hK => ?_
                    simp only [puts, foldr_cons, foldr_nil, setIfInBounds_toArray, set_cons_succ, set_cons_zero, g10, g11, g12, g13, g9]
                    go_step
                    go_at_call 48
                    have hal := refAlike_any (a := i) (b := p) HTV.out (HTI.out.later hC) (HIC.out.later hC) (by rw [HN.out]) (by rw [HN.out]; have := HLT.out; omega) (by rw [HN.out]; have := HPN.out; omega)
                    rw [HAB.out] at hal
                    refine hal.mono ?_
                    rintro e w' ⟨rfl, hb⟩
                    exact fam_fin hK rfl rfl hb (hC.trans (hb.mono hC.size))
                  ·
                    obtain ⟨h9, h14, -⟩ := hh
                    have g9 : f 9 = _ := h9
                    have g14 : f 14 = _ := h14
                    refine tab_plain fun K Q hK => ?_
                    simp only [puts, foldr_cons, foldr_nil, setIfInBounds_toArray, set_cons_succ, set_cons_zero, g9, g14]
                    go_step
                    exact fam_e hK rfl rfl (Below.refl _ _) hC
                case arest =>
                  intro f WD hC hh
                  obtain ⟨h0, h1, h2, h3, h4, h5, h6, h7, h8, h9, h10, h11, h12, h13, h14, h15, -⟩ := hh
                  have g0 : f 0 = _ := h0
                  have g1 : f 1 = _ := h1
                  have g2 : f 2 = _ := h2
                  have g3 : f 3 = _ := h3
                  have g4 : f 4 = _ := h4
                  have g5 : f 5 = _ := h5
                  have g6 : f 6 = _ := h6
                  have g7 : f 7 = _ := h7
                  have g8 : f 8 = _ := h8
                  have g9 : f 9 = _ := h9
                  have g10 : f 10 = _ := h10
                  have g11 : f 11 = _ := h11
                  have g12 : f 12 = _ := h12
                  have g13 : f 13 = _ := h13
                  have g14 : f 14 = _ := h14
                  have g15 : f 15 = _ := h15
                  simp only [puts, foldr_cons, foldr_nil, setIfInBounds_toArray, set_cons_succ, set_cons_zero, g0, g1, g2, g3, g4, g5, g6, g7, g8, g9, g10, g11, g12, g13, g14, g15]
                  clear h0 h1 h2 h3 h4 h5 h6 h7 h8 h9 h10 h11 h12 h13 h14 h15 g0 g1 g2 g3 g4 g5 g6 g7 g8 g9 g10 g11 g12 g13 g14 g15
                  have HPD := Lib.hid (HP.out.quiet (below_grows hC none))
                  have HBD : Hid (Below B W4 WD) := Lib.hid (HB.out.trans (hC.mono hz))
                  have HZD : Hid (B ≤ WD.heap.size) := Lib.hid (Nat.le_trans hz hC.size)
                  clear hC hz k1 k2 c1 c2 c3 c4 f1 f2
                  cases AB
                  · have HNS : Hid (sigR TD.arcs TD.fin C p ≠ sigR TD.arcs TD.fin C i) := Lib.hid (fun h => by have := (HSG.out.1 h).2; cases this)
                    go_wp2_with (fail)
                    go_roundw
                    case rel => exact ⟨p, m, by have := HQI.out; omega, by go_num, Lib.hid (HFA.out.no HNS.out), HPD.out, HBD.out, HZD.out⟩
                    case measure => simp [intOf]
                  · skip
                    obtain ⟨f1, f2⟩ := own_cell (HPD.out.row 1 rfl) i HLT.out (by rw [List.length_set, freshP_len])
                    have HPE : Hid (Pcs (WD.setCell ⟨fb, i, none⟩ (.int .i64 (p : Int))) B (rdPs g fb N C ((freshP TD.arcs TD.fin C N i).set i (p : Int)))) := Lib.hid (by
                      have h1 := HPD.out.rowStore 1 rfl i (.int .i64 (p : Int))
                      unfold rdPs
                      have e1 : ((freshP TD.arcs TD.fin C N i).set i (m : Int)).set i (p : Int) = (freshP TD.arcs TD.fin C N i).set i (p : Int) := List.set_set ..
                      rw [← e1, ← ivs_set]
                      exact h1)
                    have HBE : Hid (Below B W4 (WD.setCell ⟨fb, i, none⟩ (.int .i64 (p : Int)))) := Lib.hid (HBD.out.setCell (HPD.out.row 1 rfl |>.lt fb rfl).1 _)
                    have HZE : Hid (B ≤ (WD.setCell ⟨fb, i, none⟩ (.int .i64 (p : Int))).heap.size) := Lib.hid (by rw [World.size_setCell]; exact HZD.out)
                    have HYS := Lib.hid (HSG.out.2 ⟨rfl, rfl⟩)
                    go_wp2_with (fail)
                    go_roundw
                    case rel => exact ⟨p, p, by have := HQI.out; omega, by go_num, Lib.hid (HFA.out.yes HYS.out), HPE.out, HBE.out, HZE.out⟩
                    case measure => simp [intOf]
              · have HNS : Hid (sigR TD.arcs TD.fin C p ≠ sigR TD.arcs TD.fin C i) := Lib.hid (fun h => hu (HSG.out.1 h).1)
                have t5 : decide (u1 = u2) = false := decide_eq_false hu
                have t6 : (u1 == u2) = false := by simp [hu]
                refine wp_region_grow mixed (by kernel_rfl) [[], [], [(0, 45), (1, 46)], [(2, 47)], [], [], [(4, 49), (5, 50)], [(6, 51)], [(3, 48), (7, 52)], [(8, 53)], [(9, 54)], [(9, 54)], [(9, 54)], [(9, 54)], [(10, 55), (11, 56), (12, 57), (13, 58), (9, 54), (9, 54)], [(9, 54), (14, 59)]] [(0, 45), (1, 46), (2, 47), (3, 48), (4, 49), (5, 50), (6, 51), (7, 52), (8, 53), (9, 54), (10, 55), (11, 56), (12, 57), (13, 58), (14, 59), (15, 60)] rfl rfl [Ex ?eb0, Ex ?eb1, Ex ?eb2, Ex ?eb3, Ex ?eb4, Ex ?eb5, Ex ?eb6, Ex ?eb7, Ex ?eb8, Ex ?eb9, Ex undef, Ex undef, Ex undef, Ex undef, Ex undef, Ex ?eb15] ⟨stays_ex _, stays_ex _, stays_ex _, stays_ex _, stays_ex _, stays_ex _, stays_ex _, stays_ex _, stays_ex _, stays_ex _, stays_ex _, stays_ex _, stays_ex _, stays_ex _, stays_ex _, stays_ex _, trivial⟩ ?bsteps ?brest
                case bsteps =>
                  refine ⟨fun f W hC hh => ?_, fun f W hC hh => ?_, fun f W hC hh => ?_, fun f W hC hh => ?_, fun f W hC hh => ?_, fun f W hC hh => ?_, fun f W hC hh => ?_, fun f W hC hh => ?_, fun f W hC hh => ?_, fun f W hC hh => ?_, fun f W hC hh => ?_, fun f W hC hh => ?_, fun f W hC hh => ?_, fun f W hC hh => ?_, fun f W hC hh => ?_, fun f W hC hh => ?_, trivial⟩
                  ·
                    refine tab_plain fun K Q hK => ?_
                    simp only [puts, foldr_nil]
                    go_step
                    exact fam_e hK rfl rfl (Below.refl _ _) hC
                  ·
                    refine tab_plain fun K Q hK => ?_
                    simp only [puts, foldr_nil]
                    go_step
                    exact fam_e hK rfl rfl (Below.refl _ _) hC
                  ·
                    obtain ⟨h0, h1, -⟩ := hh
                    have g0 : f 0 = _ := h0
                    have g1 : f 1 = _ := h1
                    refine tab_plain fun K Q hK => ?_
                    simp only [puts, foldr_cons, foldr_nil, setIfInBounds_toArray, set_cons_succ, set_cons_zero, g0, g1]
                    go_step
                    exact fam_e hK rfl rfl (Below.refl _ _) hC
                  ·
                    obtain ⟨h2, -⟩ := hh
                    have g2 : f 2 = _ := h2
                    refine tab_plain fun K Q hK => ?_
                    simp only [puts, foldr_cons, foldr_nil, setIfInBounds_toArray, set_cons_succ, set_cons_zero, g2]
                    have m1 := (hC.cell (p := ⟨g, p, none⟩) (lt_of_cell k1)).trans k1
                    go_step
                    exact fam_e hK rfl rfl (Below.refl _ _) hC
                  ·
                    refine tab_plain fun K Q hK => ?_
                    simp only [puts, foldr_nil]
                    go_step
                    exact fam_e hK rfl rfl (Below.refl _ _) hC
                  ·
                    refine tab_plain fun K Q hK => ?_
                    simp only [puts, foldr_nil]
                    go_step
                    exact fam_e hK rfl rfl (Below.refl _ _) hC
                  ·
                    obtain ⟨h4, h5, -⟩ := hh
                    have g4 : f 4 = _ := h4
                    have g5 : f 5 = _ := h5
                    refine tab_plain fun K Q hK => ?_
                    simp only [puts, foldr_cons, foldr_nil, setIfInBounds_toArray, set_cons_succ, set_cons_zero, g4, g5]
                    go_step
                    exact fam_e hK rfl rfl (Below.refl _ _) hC
                  ·
                    obtain ⟨h6, -⟩ := hh
                    have g6 : f 6 = _ := h6
                    refine tab_plain fun K Q hK => ?_
                    simp only [puts, foldr_cons, foldr_nil, setIfInBounds_toArray, set_cons_succ, set_cons_zero, g6]
                    have m2 := (hC.cell (p := ⟨g, i, none⟩) (lt_of_cell k2)).trans k2
                    go_step
                    exact fam_e hK rfl rfl (Below.refl _ _) hC
                  ·
                    obtain ⟨h3, h7, -⟩ := hh
                    have g3 : f 3 = _ := h3
                    have g7 : f 7 = _ := h7
                    refine tab_plain fun K Q hK => ?_
                    simp only [puts, foldr_cons, foldr_nil, setIfInBounds_toArray, set_cons_succ, set_cons_zero, g3, g7]
                    go_step
                    exact fam_e hK rfl rfl (Below.refl _ _) hC
                  ·
                    obtain ⟨h8, -⟩ := hh
                    have g8 : f 8 = _ := h8
                    refine tab_plain fun K Q hK => ?_
                    simp only [puts, foldr_cons, foldr_nil, setIfInBounds_toArray, set_cons_succ, set_cons_zero, g8]
                    go_step
                    exact fam_e hK rfl rfl (Below.refl _ _) hC
                  ·
                    obtain ⟨h9, -⟩ := hh
                    have g9 : f 9 = _ := h9
                    exact tab_no rfl g9 (by decide) rfl
                  ·
                    obtain ⟨h9, -⟩ := hh
                    have g9 : f 9 = _ := h9
                    exact tab_no rfl g9 (by decide) rfl
                  ·
                    obtain ⟨h9, -⟩ := hh
                    have g9 : f 9 = _ := h9
                    exact tab_no rfl g9 (by decide) rfl
                  ·
                    obtain ⟨h9, -⟩ := hh
                    have g9 : f 9 = _ := h9
                    exact tab_no rfl g9 (by decide) rfl
                  ·
                    obtain ⟨h10, h11, h12, h13, h9, _, -⟩ := hh
                    have g10 : f 10 = _ := h10
                    have g11 : f 11 = _ := h11
                    have g12 : f 12 = _ := h12
                    have g13 : f 13 = _ := h13
                    have g9 : f 9 = _ := h9
                    exact tab_no rfl g9 (by decide) rfl
                  ·
                    obtain ⟨h9, h14, -⟩ := hh
                    have g9 : f 9 = _ := h9
                    have g14 : f 14 = _ := h14
                    refine tab_plain fun K Q hK => ?_
                    simp only [puts, foldr_cons, foldr_nil, setIfInBounds_toArray, set_cons_succ, set_cons_zero, g9, g14]
                    go_step
                    exact fam_e hK rfl rfl (Below.refl _ _) hC
                case brest =>
                  intro f WD hC hh
                  obtain ⟨h0, h1, h2, h3, h4, h5, h6, h7, h8, h9, h10, h11, h12, h13, h14, h15, -⟩ := hh
                  have g0 : f 0 = _ := h0
                  have g1 : f 1 = _ := h1
                  have g2 : f 2 = _ := h2
                  have g3 : f 3 = _ := h3
                  have g4 : f 4 = _ := h4
                  have g5 : f 5 = _ := h5
                  have g6 : f 6 = _ := h6
                  have g7 : f 7 = _ := h7
                  have g8 : f 8 = _ := h8
                  have g9 : f 9 = _ := h9
                  have g10 : f 10 = _ := h10
                  have g11 : f 11 = _ := h11
                  have g12 : f 12 = _ := h12
                  have g13 : f 13 = _ := h13
                  have g14 : f 14 = _ := h14
                  have g15 : f 15 = _ := h15
                  simp only [puts, foldr_cons, foldr_nil, setIfInBounds_toArray, set_cons_succ, set_cons_zero, g0, g1, g2, g3, g4, g5, g6, g7, g8, g9, g10, g11, g12, g13, g14, g15]
                  clear h0 h1 h2 h3 h4 h5 h6 h7 h8 h9 h10 h11 h12 h13 h14 h15 g0 g1 g2 g3 g4 g5 g6 g7 g8 g9 g10 g11 g12 g13 g14 g15
                  have HPD := Lib.hid (HP.out.quiet (below_grows hC none))
                  have HBD : Hid (Below B W4 WD) := Lib.hid (HB.out.trans (hC.mono hz))
                  have HZD : Hid (B ≤ WD.heap.size) := Lib.hid (Nat.le_trans hz hC.size)
                  clear hC hz k1 k2 c1 c2 c3 c4 f1 f2
                  go_wp2_with (fail)
                  go_roundw
                  case rel => exact ⟨p, m, by have := HQI.out; omega, by go_num, Lib.hid (HFA.out.no HNS.out), HPD.out, HBD.out, HZD.out⟩
                  case measure => simp [intOf]
        · obtain rfl : i = N := by omega
          have t1 : decide (i < i) = false := decide_eq_false (by omega)
          have HNX : Hid (Coarse TD (freshC TD.arcs TD.fin C i) ∧ LeastC (freshC TD.arcs TD.fin C i) i ∧ (freshC TD.arcs TD.fin C i).length = i) := Lib.hid ⟨by
            have h1 := fresh_coarse HTV.out HTU.out HC.out.1
            rw [HN.out] at h1
            exact h1, fresh_least _ _ _ _, freshC_len⟩
          have HCH : Hid (chP TD.arcs TD.fin C i i = decide (freshC TD.arcs TD.fin C i ≠ C)) := Lib.hid (chP_iff HC.out.2.2)
          rw [freshP_full] at hP
          have HP := Lib.hid (Pcs.at1 hP)
          have HB := Lib.hid hb
          have HFX : Hid (chP TD.arcs TD.fin C i i = false → freshC TD.arcs TD.fin (freshC TD.arcs TD.fin C i) i = freshC TD.arcs TD.fin C i) := Lib.hid (fun h => by
            rw [HCH.out] at h
            have h2 : freshC TD.arcs TD.fin C i = C := by simpa using h
            rw [h2, h2])
          have HGH : Hid (ghR (freshC TD.arcs TD.fin C i) i (chP TD.arcs TD.fin C i i) < ghR C i true) := Lib.hid (by rw [HCH.out]; exact ghR_less HC.out.2.1 HC.out.2.2)
          clear hP hb hti hi hge
          go_wp2_with (fail)
          go_roundg (ghR (freshC TD.arcs TD.fin C i) i (chP TD.arcs TD.fin C i i))
          case rel => exact ⟨fb, freshC TD.arcs TD.fin C i, chP TD.arcs TD.fin C i i, rfl, rfl, HP.out, HNX, HFX, Lib.hid rfl, HB.out, hz⟩
          case measure => exact HGH.out
theorem refMinimize_any {d : Dfa} {h : DH} {w : World} (hd : IsDfa w h d) : Calls Try.prog 19 #[vDf d h] w (GivesDE (orZero d (minD d)) (orErr d) w) := by
  by_cases hv : ValidD d
  · unfold orZero orErr
    rw [if_pos hv, if_pos hv]
    exact refMinimize_yes hv hd
  · unfold orZero orErr
    rw [if_neg hv, if_neg hv]
    exact refMinimize_no hv hd
end Go.Proofs.Ytpcbmhfnefhenaa
