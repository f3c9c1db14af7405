/-
  Heights step by step; the test of the reduction; the reference's count. No walk.
-/
import Derived.Test.YtofnbndpoiohhaaDoorOrdN
import Derived.Test.YtofnbndpoiohhaaDoorOrdV
import Derived.Test.YtofnbndpoiohhaaDoorOrdSm
set_option linter.unusedVariables false
namespace Go.Proofs.YtofnbndpoiohhaaDoor
open Go.RowKit Go.Shelf

variable {N : Nat} {es : List (Int × Int)}

def updN (H : Nat → Nat) (x v : Nat) : Nat → Nat := fun i => if i = x then v else H i
theorem updN_self (H : Nat → Nat) (x v : Nat) : updN H x v x = v := if_pos rfl
theorem updN_ne (H : Nat → Nat) {x i : Nat} (v : Nat) (h : i ≠ x) : updN H x v i = H i := if_neg h
theorem updN_upd (H : Nat → Nat) (x v u i : Nat) : updN (updN H x v) x u i = updN H x u i := by
  unfold updN
  split <;> rfl

theorem take_new {ls : List Nat} (hn : ls.Nodup) {k : Nat} (hk : k < ls.length) : ls[k] ∉ ls.take k := by
  intro h
  obtain ⟨j, hj, e⟩ := List.mem_iff_getElem.1 h
  rw [List.getElem_take] at e
  rw [List.length_take] at hj
  have h1 := hn.idxOf_getElem j (by omega)
  have h2 := hn.idxOf_getElem k hk
  rw [e, h2] at h1
  omega
theorem mem_take_idx {ls : List Nat} (hn : ls.Nodup) {k c : Nat} : c ∈ ls.take k ↔ c ∈ ls ∧ ls.idxOf c < k := by
  constructor
  · intro h
    have hc := List.mem_of_mem_take h
    refine ⟨hc, ?_⟩
    obtain ⟨j, hj, e⟩ := List.mem_iff_getElem.1 h
    rw [List.getElem_take] at e
    rw [List.length_take] at hj
    have := hn.idxOf_getElem j (by omega)
    rw [e] at this
    omega
  · rintro ⟨h1, h2⟩
    have h3 := List.idxOf_lt_length_of_mem h1
    have : (ls.take k)[ls.idxOf c]'(by rw [List.length_take]; omega) = c := by rw [List.getElem_take]; exact List.getElem_idxOf h3
    rw [← this]
    exact List.getElem_mem _
theorem pre_take {ls : List Nat} (ht : Topo (Ed es) N ls) {k : Nat} (hk : k < ls.length) {c : Nat} (p : Path (Ed es) c ls[k]) : c ∈ ls.take k := by
  have := ht.path p (List.getElem_mem hk)
  rw [ht.nodup.idxOf_getElem k hk] at this
  exact (mem_take_idx ht.nodup).2 this
theorem down_take {ls : List Nat} (ht : Topo (Ed es) N ls) {k x c : Nat} (hx : x ∈ ls.take k) (p : Path (Ed es) c x) : c ∈ ls.take k := by
  obtain ⟨h1, h2⟩ := (mem_take_idx ht.nodup).1 hx
  have := ht.path p h1
  exact (mem_take_idx ht.nodup).2 ⟨this.1, by omega⟩

/-- The height of an event from those before it. -/
def HtAt (es : List (Int × Int)) (H : Nat → Nat) (x v : Nat) (seen : Nat → Prop) : Prop := 1 ≤ v ∧ (∀ c, seen c → Path (Ed es) c x → H c + 1 ≤ v) ∧ (v = 1 ∨ ∃ c, Path (Ed es) c x ∧ v = H c + 1)
theorem HtAt.start (H : Nat → Nat) (x : Nat) {seen : Nat → Prop} (h : ∀ c, ¬ seen c) : HtAt es H x 1 seen := ⟨Nat.le_refl _, fun c hc => absurd hc (h c), .inl rfl⟩
theorem HtAt.step {H : Nat → Nat} {x v : Nat} {seen seen' : Nat → Prop} (h : HtAt es H x v seen) {c : Nat} (p : Path (Ed es) c x) (hs : ∀ d, seen' d → seen d ∨ d = c) : HtAt es H x (max v (H c + 1)) seen' := by
  obtain ⟨h1, h2, h3⟩ := h
  refine ⟨by omega, fun d hd pd => ?_, ?_⟩
  · rcases hs d hd with h | rfl
    · have := h2 d h pd
      omega
    · omega
  · by_cases hle : H c + 1 ≤ v
    · rw [Nat.max_eq_left hle]; exact h3
    · rw [Nat.max_eq_right (by omega)]; exact .inr ⟨c, p, rfl⟩
theorem HtAt.skip {H : Nat → Nat} {x v : Nat} {seen seen' : Nat → Prop} (h : HtAt es H x v seen) (hs : ∀ d, seen' d → seen d ∨ ¬ Path (Ed es) d x) : HtAt es H x v seen' :=
  ⟨h.1, fun d hd pd => (hs d hd).elim (fun h' => h.2.1 d h' pd) fun hn => absurd pd hn, h.2.2⟩
theorem ht_snoc {ls : List Nat} (ht : Topo (Ed es) N ls) {k : Nat} (hk : k < ls.length) {H : Nat → Nat} {v : Nat} (h : HtOk es (ls.take k) H) {seen : Nat → Prop} (hv : HtAt es H ls[k] v seen) (hs : ∀ c, Path (Ed es) c ls[k] → seen c) :
    HtOk es (ls.take (k + 1)) (updN H ls[k] v) := by
  have hnew := take_new ht.nodup hk
  intro x hx
  rw [List.take_succ_eq_append_getElem hk, List.mem_append, List.mem_singleton] at hx
  have hne : ∀ c, Path (Ed es) c ls[k] → c ≠ ls[k] := fun c p e => hnew (by rw [← e]; exact pre_take ht hk p)
  rcases hx with hx | rfl
  · have hxk : x ≠ ls[k] := fun e => hnew (by rw [← e]; exact hx)
    obtain ⟨h1, h2, h3⟩ := h x hx
    have hck : ∀ c, Path (Ed es) c x → c ≠ ls[k] := fun c p e => hnew (by rw [← e]; exact down_take ht hx p)
    refine ⟨by rw [updN_ne _ _ hxk]; exact h1, fun c p => by rw [updN_ne _ _ hxk, updN_ne _ _ (hck c p)]; exact h2 c p, ?_⟩
    rw [updN_ne _ _ hxk]
    rcases h3 with e | ⟨c, p, e⟩
    · exact .inl e
    · exact .inr ⟨c, p, by rw [updN_ne _ _ (hck c p)]; exact e⟩
  · rw [updN_self]
    refine ⟨hv.1, fun c p => by rw [updN_ne _ _ (hne c p)]; exact hv.2.1 c (hs c p) p, ?_⟩
    rcases hv.2.2 with e | ⟨c, p, e⟩
    · exact .inl e
    · exact .inr ⟨c, p, by rw [updN_ne _ _ (hne c p)]; exact e⟩
theorem top_snoc {ls : List Nat} (hn : ls.Nodup) {k : Nat} (hk : k < ls.length) {H : Nat → Nat} {v m : Nat} (h : HtTop (ls.take k) H m) : HtTop (ls.take (k + 1)) (updN H ls[k] v) (max m v) := by
  have hnew := take_new hn hk
  have hne : ∀ x, x ∈ ls.take k → x ≠ ls[k] := fun x hx e => hnew (by rw [← e]; exact hx)
  have hmem : ls[k] ∈ ls.take (k + 1) := by rw [List.take_succ_eq_append_getElem hk]; exact List.mem_append_right _ (List.mem_singleton.2 rfl)
  refine ⟨fun x hx => ?_, ?_⟩
  · rw [List.take_succ_eq_append_getElem hk, List.mem_append, List.mem_singleton] at hx
    rcases hx with hx | rfl
    · rw [updN_ne _ _ (hne x hx)]
      have := h.1 x hx
      omega
    · rw [updN_self]; omega
  · by_cases hle : v ≤ m
    · rw [Nat.max_eq_left hle]
      rcases h.2 with e | ⟨x, hx, e⟩
      · exact .inl e
      · refine .inr ⟨x, ?_, by rw [updN_ne _ _ (hne x hx)]; exact e⟩
        rw [List.take_succ_eq_append_getElem hk]; exact List.mem_append_left _ hx
    · rw [Nat.max_eq_right (by omega)]
      exact .inr ⟨_, hmem, by rw [updN_self]⟩
theorem ht_nil (H : Nat → Nat) (ls : List Nat) : HtOk es (ls.take 0) H ∧ HtTop (ls.take 0) H 0 := ⟨fun x hx => (by rw [List.take_zero] at hx; cases hx), fun x hx => (by rw [List.take_zero] at hx; cases hx), .inl rfl⟩
theorem ht_done {ls : List Nat} (hk : KL (Ed es) N ls) (hl : ls.length = N) {H : Nat → Nat} {m : Nat} (h1 : HtOk es (ls.take N) H) (h2 : HtTop (ls.take N) H m) : IsHeight N es m := by
  rw [← hl, List.take_length] at h1 h2
  exact ⟨ls, H, hk, hl, h1, h2⟩
/-- Heights of a beginning are bounded by its length. -/
theorem ht_bound {ls : List Nat} (ht : Topo (Ed es) N ls) {k : Nat} {H : Nat → Nat} (h : HtOk es (ls.take k) H) : ∀ (i x : Nat), ls.idxOf x < i → x ∈ ls.take k → H x ≤ ls.idxOf x + 1
  | 0, _, hi, _ => absurd hi (Nat.not_lt_zero _)
  | i + 1, x, hi, hx => by
    obtain ⟨a1, a2, a3⟩ := h x hx
    rcases a3 with e | ⟨c, p, e⟩
    · omega
    · have hp := ht.path p (List.mem_of_mem_take hx)
      have := ht_bound ht h i c (by omega) (down_take ht hx p)
      omega
theorem ht_le {ls : List Nat} (ht : Topo (Ed es) N ls) {k x : Nat} {H : Nat → Nat} (h : HtOk es (ls.take k) H) (hx : x ∈ ls.take k) : H x ≤ N := by
  have := ht_bound ht h _ x (Nat.lt_succ_self _) hx
  have := List.idxOf_lt_length_of_mem (List.mem_of_mem_take hx)
  have := ht.length_le
  omega

/-! The reduction: both tests. -/
def dirB (M : Nat → Nat → Bool) (i j k : Nat) : Bool := M i j && (List.range k).all fun m => !(M i m && M m j)
theorem dirB_zero (M : Nat → Nat → Bool) (i j : Nat) : dirB M i j 0 = M i j := by simp [dirB]
theorem dirB_succ (M : Nat → Nat → Bool) (i j k : Nat) : dirB M i j (k + 1) = (dirB M i j k && !(M i k && M k j)) := by
  simp [dirB, List.range_succ, Bool.and_assoc]
open Classical in
theorem dirB_red (hv : ValidO N es) {i j : Nat} : dirB (pathB es) i j N = true ↔ RedP es i j := by
  unfold dirB RedP pathB
  simp only [Bool.and_eq_true, List.all_eq_true, List.mem_range, Bool.not_eq_true', Bool.and_eq_false_iff, decide_eq_true_iff, decide_eq_false_iff_not]
  refine and_congr_right fun _ => ⟨?_, ?_⟩
  · rintro h ⟨c, h1, h2⟩
    obtain ⟨d, e⟩ := h2.first
    rcases h c (hv.2.2.1.ed _ _ e).1 with h | h
    · exact h h1
    · exact h h2
  · intro h m hm
    refine Classical.byContradiction fun hc => ?_
    refine h ⟨m, ?_, ?_⟩
    · exact Classical.byContradiction fun h1 => hc (.inl h1)
    · exact Classical.byContradiction fun h1 => hc (.inr h1)

/-- Between, while the bits z are still to be seen. -/
def MidZ (es : List (Int × Int)) (a : Nat) (bv : Bool) (z : Nat) (b : Nat) : Prop := (bv = true ∨ ∃ c ∈ upB 64 0 z, Path (Ed es) a c) ↔ ∃ c, Path (Ed es) a c ∧ Path (Ed es) c b
theorem MidZ.start {ps : List Int} (hv : ValidO N es) (hps : PastOf es ps) {a b : Nat} (hb : b < 60) {z : Nat} (hz : gi ps b = (z : Int)) : MidZ es a false z b := by
  unfold MidZ
  have hlt : ∀ c, Path (Ed es) c b → c < 64 := fun c p => by
    obtain ⟨d, e⟩ := p.first
    have := (hv.2.2.1.ed _ _ e).1
    have := hv.1.2
    omega
  constructor
  · rintro (h | ⟨c, hc, p⟩)
    · cases h
    · obtain ⟨h1, h2⟩ := mem_upB.1 hc
      exact ⟨c, p, (hps.2.2 b hb c h1).1 (by rw [hz]; exact h2)⟩
  · rintro ⟨c, p, q⟩
    have h2 := (hps.2.2 b hb c (hlt c q)).2 q
    rw [hz] at h2
    exact .inr ⟨c, mem_upB.2 ⟨hlt c q, h2⟩, p⟩
theorem MidZ.done {a b : Nat} {bv : Bool} (h : MidZ es a bv 0 b) : bv = true ↔ ∃ c, Path (Ed es) a c ∧ Path (Ed es) c b := by
  unfold MidZ at h
  rw [upB_zero] at h
  rw [← h]
  exact ⟨.inl, fun h => h.elim id fun ⟨c, hc, _⟩ => by cases hc⟩
theorem MidZ.step {a b z : Nat} {bv bv' : Bool} (h : MidZ es a bv z b) (h0 : z ≠ 0) (h1 : z < 18446744073709551616) (hb : bv' = true ↔ bv = true ∨ Path (Ed es) a (Lib.ctz 64 z)) : MidZ es a bv' (z &&& (z - 1)) b := by
  unfold MidZ at h ⊢
  rw [← h, hb, upB_ctz z h0 h1]
  constructor
  · rintro ((h | h) | ⟨c, hc, p⟩)
    · exact .inl h
    · exact .inr ⟨_, List.mem_cons_self, h⟩
    · exact .inr ⟨c, List.mem_cons_of_mem _ hc, p⟩
  · rintro (h | ⟨c, hc, p⟩)
    · exact .inl (.inl h)
    · rcases List.mem_cons.1 hc with rfl | hc
      · exact .inl (.inr p)
      · exact .inr ⟨c, hc, p⟩
theorem ctz_past {ps : List Int} (hps : PastOf es ps) {b z : Nat} (hb : b < 60) (h : ∀ c ∈ upB 64 0 z, c ∈ upB 64 0 (gi ps b).toNat) (h0 : z ≠ 0) (h1 : z < 18446744073709551616) : Path (Ed es) (Lib.ctz 64 z) b := by
  obtain ⟨h2, h3⟩ := mem_upB.1 (h _ (by rw [upB_ctz z h0 h1]; exact List.mem_cons_self))
  exact (hps.2.2 b hb _ h2).1 h3
end Go.Proofs.YtofnbndpoiohhaaDoor
