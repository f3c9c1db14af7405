/-
  The plain laws of the log: parts of records, cells, what reading a byte string yields. No program in sight.
-/
import Derived.Test.YtpmhnmkpmkeadaaWalA
set_option linter.unusedSimpArgs false
set_option linter.unusedVariables false
namespace Go.Proofs.Ytpmhnmkpmkeadaa
open Go.RowKit

theorem snoc_ind {α : Type} {motive : List α → Prop} (nil : motive []) (append_singleton : ∀ (xs : List α) (x : α), motive xs → motive (xs ++ [x])) (l : List α) : motive l := by
  have : ∀ l : List α, motive l.reverse := by
    intro l
    induction l with
    | nil => exact nil
    | cons x l ih => rw [List.reverse_cons]; exact append_singleton _ _ ih
  simpa using this l.reverse

def basis : Int := 14695981039346656037
theorem basis_bd : 0 ≤ basis ∧ basis < 18446744073709551616 := by decide

/-- A part of a record: the type of its cell, its bytes. -/
abbrev Prt := Int × List Int

/-- The head of a cell: the type, the number of bytes, the bytes, zeros. -/
def headL (x : Prt) : List Int := x.1 :: (x.2.length : Int) :: (x.2 ++ List.replicate (22 - x.2.length) 0)
def cellL (s : Int) (x : Prt) : List Int := headL x ++ eightL (fromH s (headL x))
def hashP (s : Int) (ps : List Prt) : Int := ps.foldl (fun s x => fromH s (headL x)) s
def encP : Int → List Prt → List Int
  | _, [] => []
  | s, x :: ps => cellL s x ++ encP (fromH s (headL x)) ps

/-- A part that may lie in a cell. -/
def OkP (x : Prt) : Prop := (x.1 = 1 ∧ x.2.length = 22 ∨ x.1 = 2 ∧ x.2.length ≤ 22) ∧ Bytes x.2
theorem OkP.len {x : Prt} (h : OkP x) : x.2.length ≤ 22 := by rcases h.1 with h | h <;> omega
theorem OkP.kind {x : Prt} (h : OkP x) : 0 ≤ x.1 ∧ x.1 < 256 := by rcases h.1 with h | h <;> omega

theorem headL_length {x : Prt} (h : x.2.length ≤ 22) : (headL x).length = 24 := by simp [headL]; omega
theorem cellL_length {s : Int} {x : Prt} (h : x.2.length ≤ 22) : (cellL s x).length = 32 := by rw [cellL, List.length_append, headL_length h, eightL_length]
theorem headL_bytes {x : Prt} (h : OkP x) : Bytes (headL x) := by
  have hl := h.len
  have hk := h.kind
  intro z hz
  simp only [headL, List.mem_cons, List.mem_append, List.mem_replicate] at hz
  rcases hz with rfl | rfl | hz | ⟨_, rfl⟩
  · exact hk
  · omega
  · exact h.2 z hz
  · omega
theorem hashP_bd {s : Int} (ps : List Prt) (h0 : 0 ≤ s) (h1 : s < 18446744073709551616) : 0 ≤ hashP s ps ∧ hashP s ps < 18446744073709551616 := by
  induction ps generalizing s with
  | nil => exact ⟨h0, h1⟩
  | cons x ps ih => exact ih (fromH_bd s _ h0 h1).1 (fromH_bd s _ h0 h1).2
theorem cellL_bytes {s : Int} {x : Prt} (h0 : 0 ≤ s) (h1 : s < 18446744073709551616) (h : OkP x) : Bytes (cellL s x) :=
  (headL_bytes h).append (eightL_bytes _ (fromH_bd s _ h0 h1).1 (fromH_bd s _ h0 h1).2)
theorem encP_bytes {s : Int} {ps : List Prt} (h0 : 0 ≤ s) (h1 : s < 18446744073709551616) (h : ∀ x ∈ ps, OkP x) : Bytes (encP s ps) := by
  induction ps generalizing s with
  | nil => intro z hz; simp [encP] at hz
  | cons x ps ih => exact (cellL_bytes h0 h1 (h x List.mem_cons_self)).append (ih (fromH_bd s _ h0 h1).1 (fromH_bd s _ h0 h1).2 fun y hy => h y (List.mem_cons_of_mem _ hy))
theorem encP_length {s : Int} {ps : List Prt} (h : ∀ x ∈ ps, OkP x) : (encP s ps).length = 32 * ps.length := by
  induction ps generalizing s with
  | nil => rfl
  | cons x ps ih =>
    rw [encP, List.length_append, cellL_length (h x List.mem_cons_self).len, ih fun y hy => h y (List.mem_cons_of_mem _ hy), List.length_cons]
    omega
theorem hashP_append (s : Int) (ps qs : List Prt) : hashP s (ps ++ qs) = hashP (hashP s ps) qs := by simp [hashP]
theorem encP_append (s : Int) (ps qs : List Prt) : encP s (ps ++ qs) = encP s ps ++ encP (hashP s ps) qs := by
  induction ps generalizing s with
  | nil => rfl
  | cons x ps ih => simp only [List.cons_append, encP, ih, List.append_assoc]; rfl

/-- The number of the cells of a record. -/
def cellsN (n : Nat) : Nat := if n = 0 then 1 else (n + 21) / 22
theorem cellsN_pos (n : Nat) : 0 < cellsN n := by unfold cellsN; split <;> omega
/-- The i-th part of a record. -/
def partR (r : List Int) (i : Nat) : Prt := if r.length ≤ 22 * (i + 1) then (2, r.drop (22 * i)) else (1, (r.drop (22 * i)).take 22)
def partsL (r : List Int) : List Prt := (List.range (cellsN r.length)).map (partR r)
theorem partsL_length (r : List Int) : (partsL r).length = cellsN r.length := by simp [partsL]
theorem partR_more {r : List Int} {i : Nat} (h : 22 * (i + 1) < r.length) : partR r i = (1, (r.drop (22 * i)).take 22) := if_neg (by omega)
theorem partR_last {r : List Int} {i : Nat} (h : r.length ≤ 22 * (i + 1)) : partR r i = (2, r.drop (22 * i)) := if_pos h
theorem lt_cellsN {n i : Nat} : i + 1 < cellsN n ↔ 22 * (i + 1) < n := by unfold cellsN; split <;> omega
theorem cellsN_last (n : Nat) : n ≤ 22 * cellsN n ∧ (22 * (cellsN n - 1) < n ∨ n = 0 ∧ cellsN n = 1) := by unfold cellsN; split <;> omega
theorem OkP.partR {r : List Int} (hr : Bytes r) {i : Nat} (hi : i < cellsN r.length) : OkP (partR r i) := by
  by_cases h : 22 * (i + 1) < r.length
  · rw [partR_more h]
    exact ⟨.inl ⟨rfl, by simp; omega⟩, (hr.drop _).take _⟩
  · rw [partR_last (by omega)]
    exact ⟨.inr ⟨rfl, by simp; omega⟩, hr.drop _⟩
theorem partsL_ok {r : List Int} (hr : Bytes r) : ∀ x ∈ partsL r, OkP x := by
  intro x hx
  simp only [partsL, List.mem_map, List.mem_range] at hx
  obtain ⟨i, hi, rfl⟩ := hx
  exact OkP.partR hr hi

/-- What has been read: records, the bytes of the record that is not ended, the ends, the number of cells. -/
structure RS where
  recs : List (List Int)
  now : List Int
  ends : List Int
  n : Nat
def RS.step (s : RS) (x : Prt) : RS :=
  if x.1 = 2 then ⟨s.recs ++ [s.now ++ x.2], [], s.ends ++ [32 * ((s.n : Int) + 1)], s.n + 1⟩ else ⟨s.recs, s.now ++ x.2, s.ends, s.n + 1⟩
def stP (ps : List Prt) : RS := ps.foldl RS.step ⟨[], [], [], 0⟩
theorem stP_snoc (ps : List Prt) (x : Prt) : stP (ps ++ [x]) = (stP ps).step x := by simp [stP]
theorem step_n (s : RS) (x : Prt) : (s.step x).n = s.n + 1 := by unfold RS.step; split <;> rfl
theorem stP_n (ps : List Prt) : (stP ps).n = ps.length := by
  induction ps using snoc_ind with
  | nil => rfl
  | append_singleton ps x ih => rw [stP_snoc, step_n, ih, List.length_append]; rfl
theorem stP_lens (ps : List Prt) : (stP ps).recs.length = (stP ps).ends.length := by
  induction ps using snoc_ind with
  | nil => rfl
  | append_singleton ps x ih =>
    rw [stP_snoc]
    unfold RS.step
    split
    · simp [ih]
    · exact ih

/-- The cells of a byte string, as they lie. -/
def hdB (b : List Int) (k : Nat) : List Int := (b.drop (32 * k)).take 24
def ckB (b : List Int) (k : Nat) : List Int := (b.drop (32 * k + 24)).take 8
def decP (b : List Int) (k : Nat) : Prt := (gi (hdB b k) 0, ((hdB b k).drop 2).take (gi (hdB b k) 1).toNat)
def dec (b : List Int) (k : Nat) : List Prt := (List.range k).map (decP b)
def seedB (b : List Int) : Nat → Int
  | 0 => basis
  | k + 1 => fromH (seedB b k) (hdB b k)
theorem seedB_bd (b : List Int) (k : Nat) : 0 ≤ seedB b k ∧ seedB b k < 18446744073709551616 := by
  cases k with
  | zero => exact basis_bd
  | succ k =>
    induction k with
    | zero => exact fromH_bd _ _ basis_bd.1 basis_bd.2
    | succ k ih => exact fromH_bd _ _ ih.1 ih.2
theorem dec_succ (b : List Int) (k : Nat) : dec b (k + 1) = dec b k ++ [decP b k] := by simp [dec, List.range_succ]
theorem dec_length (b : List Int) (k : Nat) : (dec b k).length = k := by simp [dec]
def stB (b : List Int) (k : Nat) : RS := stP (dec b k)
theorem stB_succ (b : List Int) (k : Nat) : stB b (k + 1) = (stB b k).step (decP b k) := by rw [stB, dec_succ, stP_snoc]; rfl
theorem stB_n (b : List Int) (k : Nat) : (stB b k).n = k := by rw [stB, stP_n, dec_length]
def sumB (b : List Int) (k : Nat) : Prop := eightL (seedB b (k + 1)) = ckB b k
/-- The head of a cell is formed as described, where so many bytes of the record were read. -/
def properL (hd : List Int) (before : Nat) : Prop :=
  (gi hd 0 = 1 ∨ gi hd 0 = 2) ∧ gi hd 1 ≤ 22 ∧ (before : Int) + gi hd 1 ≤ 2000 ∧ ¬ (gi hd 0 = 1 ∧ gi hd 1 ≠ 22) ∧ ¬ (gi hd 0 = 2 ∧ gi hd 1 = 0 ∧ 0 < before) ∧ ∀ i : Nat, 2 + gi hd 1 ≤ i → i < 24 → gi hd i = 0
def formB (b : List Int) (k : Nat) : Prop := properL (hdB b k) (stB b k).now.length
def lastD (l : List Int) : Int := l.getLast?.getD 0

/-- Reading b stops behind k cells, with the number e. -/
def ReadIs (b : List Int) (k : Nat) (e : Int) : Prop :=
  (∀ j, j < k → 32 * (j + 1) ≤ b.length ∧ sumB b j ∧ formB b j) ∧
  (32 * (k + 1) ≤ b.length ∧ ¬ sumB b k ∧ e = 5 ∨ 32 * (k + 1) ≤ b.length ∧ sumB b k ∧ ¬ formB b k ∧ e = 4 ∨
    b.length < 32 * (k + 1) ∧ (lastD (stB b k).ends = b.length ∧ e = 0 ∨ lastD (stB b k).ends ≠ b.length ∧ e = 4))
theorem ReadIs.uniq {b : List Int} {k k' : Nat} {e e' : Int} (h : ReadIs b k e) (h' : ReadIs b k' e') : k = k' ∧ e = e' := by
  obtain ⟨h1, h2⟩ := h
  obtain ⟨h1', h2'⟩ := h'
  have hk : k = k' := by
    rcases Nat.lt_trichotomy k k' with hlt | heq | hlt
    · have := h1' k hlt
      rcases h2 with h2 | h2 | h2
      · exact absurd this.2.1 h2.2.1
      · exact absurd this.2.2 h2.2.2.1
      · omega
    · exact heq
    · have := h1 k' hlt
      rcases h2' with h2 | h2 | h2
      · exact absurd this.2.1 h2.2.1
      · exact absurd this.2.2 h2.2.2.1
      · omega
  subst hk
  refine ⟨rfl, ?_⟩
  rcases h2 with h2 | h2 | ⟨ha, h2 | h2⟩ <;> rcases h2' with h2' | h2' | ⟨ha', h2' | h2'⟩ <;> first | omega | (exact absurd h2'.2.1 h2.2.1) | (exact absurd h2.2.1 h2'.2.1) | (exact absurd h2'.1 h2.1) | (exact absurd h2.1 h2'.1)

/-! A byte string that begins with the cells of parts. -/
theorem split_cell {b : List Int} {s : Int} {ps : List Prt} {t : List Int} (h : ∀ x ∈ ps, OkP x) (hb : b = encP s ps ++ t) (j : Nat) (hj : j < ps.length) :
    hdB b j = headL ps[j] ∧ ckB b j = eightL (hashP s (ps.take (j + 1))) := by
  induction ps generalizing s b j with
  | nil => simp at hj
  | cons x ps ih =>
    have hx := (h x List.mem_cons_self).len
    have hc := headL_length hx
    cases j with
    | zero =>
      subst hb
      constructor
      · simp only [hdB, encP, cellL, Nat.mul_zero, List.drop_zero, List.append_assoc, List.getElem_cons_zero]
        rw [← hc, List.take_left]
      · have e1 : hashP s ((x :: ps).take (0 + 1)) = fromH s (headL x) := by simp [hashP]
        rw [e1]
        obtain ⟨E, hE⟩ : ∃ E, eightL (fromH s (headL x)) = E := ⟨_, rfl⟩
        have h8 : E.length = 8 := by rw [← hE]; rfl
        simp only [ckB, encP, cellL, Nat.mul_zero, Nat.zero_add, List.append_assoc, hE]
        rw [List.drop_left' hc, List.take_left' h8]
    | succ j =>
      have hl := cellL_length (s := s) hx
      have hb' : b.drop 32 = encP (fromH s (headL x)) ps ++ t := by
        rw [hb, encP, List.append_assoc, ← hl, List.drop_left]
      have hj' : j < ps.length := by simpa using hj
      obtain ⟨h1, h2⟩ := ih (fun y hy => h y (List.mem_cons_of_mem _ hy)) hb' j hj'
      constructor
      · rw [List.getElem_cons_succ, ← h1]
        simp only [hdB, List.drop_drop]
        congr 2
        omega
      · rw [List.take_succ_cons, show hashP s (x :: ps.take (j + 1)) = hashP (fromH s (headL x)) (ps.take (j + 1)) from rfl, ← h2]
        simp only [ckB, List.drop_drop]
        congr 2
        omega
theorem gi_head0 (x : Prt) : gi (headL x) 0 = x.1 := rfl
theorem gi_head1 (x : Prt) : gi (headL x) 1 = x.2.length := rfl
theorem head_part {x : Prt} : ((headL x).drop 2).take (gi (headL x) 1).toNat = x.2 := by
  rw [gi_head1]
  simp only [headL, List.drop_succ_cons, List.drop_zero, Int.toNat_natCast]
  exact List.take_left
theorem head_zeros {x : Prt} (h : x.2.length ≤ 22) (i : Nat) (h1 : 2 + gi (headL x) 1 ≤ i) (h2 : i < 24) : gi (headL x) i = 0 := by
  rw [gi_head1] at h1
  obtain ⟨j, rfl⟩ : ∃ j, i = (x.2.length + j) + 2 := ⟨i - x.2.length - 2, by omega⟩
  have : gi (headL x) (x.2.length + j + 2) = gi (x.2 ++ List.replicate (22 - x.2.length) 0) (x.2.length + j) := rfl
  rw [this, gi_append_right, gi_eq _ _ (by simp; omega), List.getElem_replicate]
theorem dec_cell {b : List Int} {s : Int} {ps : List Prt} {t : List Int} (h : ∀ x ∈ ps, OkP x) (hb : b = encP s ps ++ t) (j : Nat) (hj : j < ps.length) : decP b j = ps[j] := by
  unfold decP
  rw [(split_cell h hb j hj).1, gi_head0, head_part]
theorem dec_pre {b : List Int} {s : Int} {ps : List Prt} {t : List Int} (h : ∀ x ∈ ps, OkP x) (hb : b = encP s ps ++ t) (j : Nat) (hj : j ≤ ps.length) : dec b j = ps.take j := by
  induction j with
  | zero => rfl
  | succ j ih => rw [dec_succ, ih (by omega), dec_cell h hb j (by omega), List.take_succ_eq_append_getElem (by omega)]
theorem hashP_snoc (s : Int) (ps : List Prt) (x : Prt) : hashP s (ps ++ [x]) = fromH (hashP s ps) (headL x) := by simp [hashP]
theorem seed_pre {b : List Int} {ps : List Prt} {t : List Int} (h : ∀ x ∈ ps, OkP x) (hb : b = encP basis ps ++ t) (j : Nat) (hj : j ≤ ps.length) : seedB b j = hashP basis (ps.take j) := by
  induction j with
  | zero => rfl
  | succ j ih => rw [seedB, ih (by omega), (split_cell h hb j (by omega)).1, List.take_succ_eq_append_getElem (by omega), hashP_snoc]
theorem sum_pre {b : List Int} {ps : List Prt} {t : List Int} (h : ∀ x ∈ ps, OkP x) (hb : b = encP basis ps ++ t) (j : Nat) (hj : j < ps.length) : sumB b j := by
  unfold sumB
  rw [seed_pre h hb (j + 1) (by omega), (split_cell h hb j hj).2]

/-! Records and their parts. -/
theorem take_add22 (r : List Int) (j : Nat) : r.take (22 * j) ++ (r.drop (22 * j)).take 22 = r.take (22 * (j + 1)) := by
  rw [show 22 * (j + 1) = 22 * j + 22 by omega, List.take_add]
theorem partsL_get (r : List Int) (j : Nat) (h : j < (partsL r).length) : (partsL r)[j] = partR r j := by simp [partsL]
theorem step_parts (s : RS) (hs : s.now = []) (r : List Int) (j : Nat) (hj : j < cellsN r.length) : ((partsL r).take j).foldl RS.step s = ⟨s.recs, r.take (22 * j), s.ends, s.n + j⟩ := by
  induction j with
  | zero => cases s; simp at hs; simp [hs]
  | succ j ih =>
    rw [List.take_succ_eq_append_getElem (by rw [partsL_length]; omega), List.foldl_append, ih (by omega), partsL_get, partR_more (lt_cellsN.1 hj)]
    simp only [List.foldl_cons, List.foldl_nil, RS.step]
    rw [if_neg (by decide), take_add22]
    rfl
theorem step_rec (s : RS) (hs : s.now = []) (r : List Int) : (partsL r).foldl RS.step s = ⟨s.recs ++ [r], [], s.ends ++ [32 * ((s.n : Int) + cellsN r.length)], s.n + cellsN r.length⟩ := by
  obtain ⟨c, hc⟩ : ∃ c, cellsN r.length = c + 1 := ⟨cellsN r.length - 1, by have := cellsN_pos r.length; omega⟩
  have hlast := cellsN_last r.length
  have ht : partsL r = (partsL r).take c ++ [partR r c] := by
    conv => lhs; rw [← List.take_of_length_le (Nat.le_refl (partsL r).length), partsL_length, hc]
    rw [List.take_succ_eq_append_getElem (by rw [partsL_length]; omega), partsL_get]
  rw [ht, List.foldl_append, step_parts s hs r c (by omega), partR_last (by omega)]
  simp only [List.foldl_cons, List.foldl_nil, RS.step, if_true]
  rw [List.take_append_drop, hc]
  simp only [RS.mk.injEq, true_and, List.append_cancel_left_eq, List.cons.injEq, and_true]
  constructor
  · simp; omega
  · omega
def allP (rs : List (List Int)) : List Prt := rs.flatMap partsL
theorem allP_append (xs ys : List (List Int)) : allP (xs ++ ys) = allP xs ++ allP ys := by simp [allP]
theorem allP_one (r : List Int) : allP [r] = partsL r := by simp [allP]
/-- Records as they may be appended. -/
def OkR (rs : List (List Int)) : Prop := ∀ r ∈ rs, Bytes r ∧ r.length ≤ 2000
theorem OkR.take {rs : List (List Int)} (h : OkR rs) (n : Nat) : OkR (rs.take n) := fun r hr => h r (List.mem_of_mem_take hr)
theorem OkR.append {xs ys : List (List Int)} (h : OkR xs) (k : OkR ys) : OkR (xs ++ ys) := fun r hr => by
  rcases List.mem_append.1 hr with hr | hr
  · exact h r hr
  · exact k r hr
theorem allP_ok {rs : List (List Int)} (h : OkR rs) : ∀ x ∈ allP rs, OkP x := by
  intro x hx
  simp only [allP, List.mem_flatMap] at hx
  obtain ⟨r, hr, hx⟩ := hx
  exact partsL_ok (h r hr).1 x hx
theorem lastD_snoc (l : List Int) (x : Int) : lastD (l ++ [x]) = x := by simp [lastD]
theorem stP_all (rs : List (List Int)) : (stP (allP rs)).recs = rs ∧ (stP (allP rs)).now = [] ∧ lastD (stP (allP rs)).ends = 32 * ((allP rs).length : Int) := by
  induction rs using snoc_ind with
  | nil => exact ⟨rfl, rfl, rfl⟩
  | append_singleton rs r ih =>
    have := step_rec (stP (allP rs)) ih.2.1 r
    rw [allP_append, allP_one, stP, List.foldl_append, show List.foldl RS.step ⟨[], [], [], 0⟩ (allP rs) = stP (allP rs) from rfl, this]
    refine ⟨by rw [ih.1], rfl, ?_⟩
    rw [lastD_snoc, stP_n, List.length_append, partsL_length]
    simp
/-- A record by its number. -/
def gl (rs : List (List Int)) (n : Nat) : List Int := rs.getD n []
theorem gl_eq (rs : List (List Int)) (i : Nat) (h : i < rs.length) : gl rs i = rs[i] := by simp [gl, List.getD, h]
theorem take_succ_gl (rs : List (List Int)) (k : Nat) (h : k < rs.length) : rs.take (k + 1) = rs.take k ++ [gl rs k] := by
  rw [List.take_succ_eq_append_getElem h, gl_eq rs k h]
theorem gl_mem (rs : List (List Int)) (k : Nat) (h : k < rs.length) : gl rs k ∈ rs := by rw [gl_eq rs k h]; exact List.getElem_mem h
/-- Where a number of cells ends. -/
theorem cut_at (rs : List (List Int)) (k : Nat) (hk : k ≤ (allP rs).length) :
    ∃ n j, n ≤ rs.length ∧ (n = rs.length → j = 0) ∧ (n < rs.length → j < cellsN (gl rs n).length) ∧ k = (allP (rs.take n)).length + j ∧ (allP rs).take k = allP (rs.take n) ++ (partsL (gl rs n)).take j := by
  induction rs using snoc_ind generalizing k with
  | nil =>
    have : k = 0 := by simpa [allP] using hk
    subst this
    exact ⟨0, 0, Nat.le_refl _, fun _ => rfl, (fun h => by simp at h), rfl, by simp [allP]⟩
  | append_singleton rs r ih =>
    by_cases hle : k < (allP rs).length
    · obtain ⟨n, j, h1, h2, h3, h4, h5⟩ := ih k (by omega)
      have hn : n < rs.length := by
        rcases Nat.lt_or_ge n rs.length with h | h
        · exact h
        · have hnn : n = rs.length := by omega
          have := h2 hnn
          subst this
          rw [hnn, List.take_length] at h4
          omega
      have hg : gl (rs ++ [r]) n = gl rs n := by simp [gl, List.getD, List.getElem?_append_left hn]
      have ht : (rs ++ [r]).take n = rs.take n := List.take_append_of_le_length (by omega)
      refine ⟨n, j, by simp; omega, (fun h => by simp at h; omega), (fun _ => by rw [hg]; exact h3 hn), by rw [ht]; exact h4, ?_⟩
      rw [ht, hg, allP_append, List.take_append_of_le_length (by omega)]
      exact h5
    · rw [allP_append, allP_one, List.length_append, partsL_length] at hk
      by_cases he : k = (allP rs).length + cellsN r.length
      · refine ⟨rs.length + 1, 0, by simp, fun _ => rfl, (fun h => by simp at h), ?_, ?_⟩
        · rw [show rs.length + 1 = (rs ++ [r]).length by simp, List.take_length, allP_append, allP_one, List.length_append, partsL_length]; omega
        · rw [show rs.length + 1 = (rs ++ [r]).length by simp, List.take_length, List.take_zero, List.append_nil]
          exact List.take_of_length_le (by rw [allP_append, allP_one, List.length_append, partsL_length]; omega)
      · have hg : gl (rs ++ [r]) rs.length = r := by simp [gl, List.getD]
        have ht : (rs ++ [r]).take rs.length = rs := by simp
        refine ⟨rs.length, k - (allP rs).length, by simp, (fun h => by simp at h), (fun _ => by rw [hg]; omega), by rw [ht]; omega, ?_⟩
        rw [ht, hg, allP_append, allP_one, List.take_append, List.take_of_length_le (by omega)]
theorem stP_cut {rs : List (List Int)} (n j : Nat) (hj : n = rs.length → j = 0) (hj2 : n < rs.length → j < cellsN (gl rs n).length) (hn : n ≤ rs.length) :
    stP (allP (rs.take n) ++ (partsL (gl rs n)).take j) = ⟨rs.take n, (gl rs n).take (22 * j), (stP (allP (rs.take n))).ends, (allP (rs.take n)).length + j⟩ := by
  obtain ⟨h1, h2, _⟩ := stP_all (rs.take n)
  rw [stP, List.foldl_append, show List.foldl RS.step ⟨[], [], [], 0⟩ (allP (rs.take n)) = stP (allP (rs.take n)) from rfl]
  rcases Nat.lt_or_ge n rs.length with h | h
  · rw [step_parts _ h2 _ j (hj2 h), h1, stP_n]
  · have := hj (by omega)
    subst this
    have hs := stP_n (allP (rs.take n))
    generalize stP (allP (rs.take n)) = s at h1 h2 hs ⊢
    cases s
    simp at h1 h2 hs
    simp [h1, h2, hs]
theorem proper_part {r : List Int} (hr : r.length ≤ 2000) {j : Nat} (hj : j < cellsN r.length) : properL (headL (partR r j)) (r.take (22 * j)).length := by
  have hlast := cellsN_last r.length
  have hl : (r.take (22 * j)).length = min (22 * j) r.length := by simp
  by_cases h : 22 * (j + 1) < r.length
  · rw [partR_more h]
    have h2 : ((r.drop (22 * j)).take 22).length = 22 := by simp; omega
    refine ⟨.inl rfl, by rw [gi_head1, h2]; decide, by rw [gi_head1, h2, hl]; omega, (fun hh => hh.2 (by rw [gi_head1, h2]; rfl)), (fun hh => by simp [gi_head0] at hh), head_zeros (by rw [h2]; decide)⟩
  · rw [partR_last (by omega)]
    have hj2 : ¬ (j + 1 < cellsN r.length) := fun hh => h (lt_cellsN.1 hh)
    have h2 : (r.drop (22 * j)).length = r.length - 22 * j := by simp
    refine ⟨.inr rfl, by rw [gi_head1, h2]; omega, by rw [gi_head1, h2, hl]; omega, (fun hh => by simp [gi_head0] at hh), (fun hh => ?_), head_zeros (by rw [h2]; omega)⟩
    have h3 := hh.2.1
    have h4 := hh.2.2
    rw [gi_head1, h2] at h3
    rw [hl] at h4
    omega
theorem cut_next {rs : List (List Int)} {k n j : Nat} (hn : n < rs.length) (hj : j < cellsN (gl rs n).length) (hk : k = (allP (rs.take n)).length + j) : ∃ h : k < (allP rs).length, (allP rs)[k] = partR (gl rs n) j := by
  have hs : allP rs = allP (rs.take n) ++ (partsL (gl rs n) ++ allP (rs.drop (n + 1))) := by
    rw [← allP_one, ← allP_append, ← allP_append]
    congr 1
    conv => lhs; rw [← List.take_append_drop n rs, List.drop_eq_getElem_cons hn, ← gl_eq rs n hn]
    rfl
  have hl : j < (partsL (gl rs n)).length := by rw [partsL_length]; exact hj
  have hlt : k < (allP rs).length := by rw [hs]; simp only [List.length_append]; omega
  refine ⟨hlt, ?_⟩
  have : (allP rs)[k]? = some (partR (gl rs n) j) := by
    rw [hs, List.getElem?_append_right (by omega), show k - (allP (rs.take n)).length = j by omega, List.getElem?_append_left hl, List.getElem?_eq_getElem hl, partsL_get]
  rw [List.getElem?_eq_getElem hlt] at this
  exact Option.some.inj this

/-- A byte string that begins with k cells of a log of records: its first cells read well. -/
theorem read_pre {rs : List (List Int)} (h : OkR rs) {b t : List Int} {k : Nat} (hk : k ≤ (allP rs).length) (hb : b = encP basis ((allP rs).take k) ++ t) :
    (∀ j, j < k → 32 * (j + 1) ≤ b.length ∧ sumB b j ∧ formB b j) ∧ stB b k = stP ((allP rs).take k) := by
  have hP : ∀ x ∈ (allP rs).take k, OkP x := fun x hx => allP_ok h x (List.mem_of_mem_take hx)
  have hlen : ((allP rs).take k).length = k := by simp; omega
  have hbl : b.length = 32 * k + t.length := by rw [hb, List.length_append, encP_length hP, hlen]
  refine ⟨fun j hj => ⟨by omega, sum_pre hP hb j (by omega), ?_⟩, ?_⟩
  · obtain ⟨n, i, h1, h2, h3, h4, h5⟩ := cut_at rs j (by omega)
    have hn : n < rs.length := by
      rcases Nat.lt_or_ge n rs.length with hh | hh
      · exact hh
      · have hnn : n = rs.length := by omega
        have := h2 hnn
        rw [hnn, List.take_length] at h4
        omega
    obtain ⟨hlt, hg⟩ := cut_next hn (h3 hn) h4
    unfold formB
    rw [(split_cell hP hb j (by omega)).1, stB, dec_pre hP hb j (by omega), List.getElem_take, hg, List.take_take, Nat.min_eq_left (by omega), h5, stP_cut n i h2 h3 h1]
    exact proper_part (h _ (gl_mem rs n hn)).2 (h3 hn)
  · rw [stB, dec_pre hP hb k (by omega), List.take_of_length_le (by omega)]
theorem read_all {rs : List (List Int)} (h : OkR rs) {b : List Int} (hb : b = encP basis (allP rs)) : ReadIs b (allP rs).length 0 ∧ stB b (allP rs).length = stP (allP rs) := by
  have h0 : (allP rs).take (allP rs).length = allP rs := List.take_length
  obtain ⟨h1, h2⟩ := read_pre (b := b) h (t := []) (Nat.le_refl (allP rs).length) (by rw [h0, List.append_nil]; exact hb)
  rw [h0] at h2
  refine ⟨⟨h1, .inr (.inr ?_)⟩, h2⟩
  have hl : b.length = 32 * (allP rs).length := by rw [hb, encP_length (allP_ok h)]
  refine ⟨by omega, .inl ⟨?_, rfl⟩⟩
  rw [h2, (stP_all rs).2.2, hl]
  simp
/-- A beginning of a log of records. -/
theorem read_part {rs : List (List Int)} (h : OkR rs) {b : List Int} {L : Nat} (hL : L ≤ 32 * (allP rs).length) (hb : b = (encP basis (allP rs)).take L) :
    ∃ e n, ReadIs b (L / 32) e ∧ n ≤ rs.length ∧ (stB b (L / 32)).recs = rs.take n ∧ (stB b (L / 32)).ends = (stP (allP (rs.take n))).ends ∧ (stB b (L / 32)).ends.length = n ∧
      32 * (allP (rs.take n)).length ≤ L ∧ (n < rs.length → L < 32 * (allP (rs.take (n + 1))).length) ∧ b.take (32 * (allP (rs.take n)).length) = encP basis (allP (rs.take n)) := by
  have hP := allP_ok h
  have hle : (encP basis (allP rs)).length = 32 * (allP rs).length := encP_length hP
  have hsplit : encP basis (allP rs) = encP basis ((allP rs).take (L / 32)) ++ encP (hashP basis ((allP rs).take (L / 32))) ((allP rs).drop (L / 32)) := by
    rw [← encP_append, List.take_append_drop]
  have hPk : ∀ x ∈ (allP rs).take (L / 32), OkP x := fun x hx => hP x (List.mem_of_mem_take hx)
  have hlk : (encP basis ((allP rs).take (L / 32))).length = 32 * (L / 32) := by rw [encP_length hPk, List.length_take]; omega
  have hb2 : b = encP basis ((allP rs).take (L / 32)) ++ (encP (hashP basis ((allP rs).take (L / 32))) ((allP rs).drop (L / 32))).take (L - 32 * (L / 32)) := by
    rw [hb, hsplit, List.take_append, hlk, List.take_of_length_le (by omega)]
  have hbl : b.length = L := by rw [hb, List.length_take, hle]; omega
  obtain ⟨h1, h2⟩ := read_pre h (by omega) hb2
  obtain ⟨n, j, g1, g2, g3, g4, g5⟩ := cut_at rs (L / 32) (by omega)
  rw [g5, stP_cut n j g2 g3 g1] at h2
  have hends : (stB b (L / 32)).ends = (stP (allP (rs.take n))).ends := by rw [h2]
  have hrest : (n < rs.length → L < 32 * (allP (rs.take (n + 1))).length) := by
    intro hn
    rw [take_succ_gl rs n hn, allP_append, allP_one, List.length_append, partsL_length]
    have := g3 hn
    omega
  have hcnt : (stB b (L / 32)).ends.length = n := by rw [hends, ← stP_lens, (stP_all _).1, List.length_take]; omega
  have htake : b.take (32 * (allP (rs.take n)).length) = encP basis (allP (rs.take n)) := by
    have hpre : allP rs = allP (rs.take n) ++ allP (rs.drop n) := by rw [← allP_append, List.take_append_drop]
    have hln : (encP basis (allP (rs.take n))).length = 32 * (allP (rs.take n)).length := encP_length (allP_ok (h.take n))
    rw [hb, List.take_take, Nat.min_eq_left (by omega), hpre, encP_append, ← hln, List.take_left]
  by_cases he : lastD (stB b (L / 32)).ends = b.length
  · exact ⟨0, n, ⟨h1, .inr (.inr ⟨by omega, .inl ⟨he, rfl⟩⟩)⟩, g1, by rw [h2], hends, hcnt, by omega, hrest, htake⟩
  · exact ⟨4, n, ⟨h1, .inr (.inr ⟨by omega, .inr ⟨he, rfl⟩⟩)⟩, g1, by rw [h2], hends, hcnt, by omega, hrest, htake⟩
theorem ends_mem (rs : List (List Int)) (m : Nat) (hm : m ≤ rs.length) : m = 0 ∨ 32 * ((allP (rs.take m)).length : Int) ∈ (stP (allP rs)).ends := by
  induction rs using snoc_ind with
  | nil => left; simpa using hm
  | append_singleton rs r ih =>
    have := step_rec (stP (allP rs)) (stP_all rs).2.1 r
    rw [allP_append, allP_one, stP, List.foldl_append, show List.foldl RS.step ⟨[], [], [], 0⟩ (allP rs) = stP (allP rs) from rfl, this]
    rcases Nat.lt_or_ge rs.length m with h | h
    · right
      have hm' : m = (rs ++ [r]).length := by simp at hm ⊢; omega
      rw [hm', List.take_length, allP_append, allP_one, List.length_append, partsL_length, stP_n]
      simp
    · rw [List.take_append_of_le_length h]
      rcases ih h with h' | h'
      · exact .inl h'
      · exact .inr (List.mem_append_left _ h')
end Go.Proofs.Ytpmhnmkpmkeadaa
