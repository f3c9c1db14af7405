import Derived.Test.YtofaifeadhimjaaDoorMG15
import Derived.Test.YtofaifeadhimjaaDoorMG21
import Derived.Test.YtofaifeadhimjaaDoorMG23
import Derived.Test.YtofaifeadhimjaaDoorMG24
/-
  BtY, BtAl
-/
set_option linter.unusedSimpArgs false
set_option linter.unusedVariables false
namespace Go.Proofs.YtofaifeadhimjaaDoor.Bt
open Go.RowKit Go.Shelf
attribute [local go_sem] Oper.semAt_some

theorem below_putObj {B : Nat} {w W : World} (hB : Below B w W) (j : Nat) (o : Obj) (hj : B ≤ j) : Below B w (W.putObj j o) :=
 ⟨hB.os, hB.tape, hB.output, by simpa [World.putObj] using hB.size, fun k hk => (World.putObj_heap_other (by omega)).trans (hB.block k hk)⟩
theorem boxed_putObj {W : World} {B : Nat} {t : TypeId} {v : Value} (h : Boxed W B t v) (j : Nat) (o : Obj) (hj : B ≠ j) : Boxed (W.putObj j o) B t v :=
 (World.putObj_heap_other (by omega)).trans h

theorem setCell_block {W : World} {j b : Nat} {o : Obj} (ho : W.heap[j]? = some o) (hne : j ≠ b) (v : Value) : (W.setCell ⟨b, 0, none⟩ v).heap[j]? = some o :=
 ((grownBy_setCell' W b v).block j (Array.getElem?_eq_some_iff.1 ho).1 (fun e => hne (Option.some.inj e))).trans ho

end Go.Proofs.YtofaifeadhimjaaDoor.Bt

set_option linter.unusedSimpArgs false
set_option linter.unusedVariables false
namespace Go.Proofs.YtofaifeadhimjaaDoor.Bt
open Go.RowKit Go.Shelf

def SetIs (zs : List Int) (p : Nat → Bool) : Prop := W64 zs ∧ Canon zs ∧ ∀ n, n < 4096 → bt zs n = p n
theorem SetIs.uniq {xs ys : List Int} {p q : Nat → Bool} (hx : SetIs xs p) (hy : SetIs ys q) (h : ∀ n, n < 4096 → p n = q n) : xs = ys :=
 canon_ext hx.1 hy.1 hx.2.1 hy.2.1 fun n hn => by rw [hx.2.2 n hn, hy.2.2 n hn, h n hn]
theorem SetIs.set {zs : List Int} {p : Nat → Bool} (h : SetIs zs p) : setL (bt zs) = setL p := setL_congr h.2.2
theorem wd_over {ws : List Int} {i : Nat} (h : ws.length ≤ i) : wd ws i = 0 := by
 unfold wd
 split
 ·exact gi_over h
 ·rfl

theorem or_is {xs ys : List Int} (hx : W64 xs) (hy : W64 ys) : SetIs (bw (opW .or xs ys) (min (max xs.length ys.length) 64)) (fun n => bt xs n || bt ys n) := by
 refine ⟨w64_bw _ fun i => opW_bd (.inl rfl) hx hy i, canon_bw _ _ (by omega), fun n hn => ?_⟩
 rw [bt_bw hn, tb_opW_or hx hy]
 ·rfl
 ·intro i h1 h2
  rw [opW_or hx hy, wd_over (by omega), wd_over (by omega)]
  rfl
theorem and_is {xs ys : List Int} (hx : W64 xs) (hy : W64 ys) : SetIs (bw (opW .and xs ys) (min (min xs.length ys.length) 64)) (fun n => bt xs n && bt ys n) := by
 refine ⟨w64_bw _ fun i => opW_bd (.inr (.inl rfl)) hx hy i, canon_bw _ _ (by omega), fun n hn => ?_⟩
 rw [bt_bw hn, tb_opW_and hx hy]
 ·rfl
 ·intro i h1 h2
  rw [opW_and hx hy]
  rcases Nat.lt_or_ge i xs.length with h | h
  ·rw [wd_over (ws := ys) (by omega)]
   simp
  ·rw [wd_over h]
   simp
theorem andNot_is {xs ys : List Int} (hx : W64 xs) (hy : W64 ys) : SetIs (bw (opW .andNot xs ys) (min xs.length 64)) (fun n => bt xs n && !bt ys n) := by
 refine ⟨w64_bw _ fun i => opW_bd (.inr (.inr rfl)) hx hy i, canon_bw _ _ (by omega), fun n hn => ?_⟩
 rw [bt_bw hn, tb_opW_andNot hx hy _ _ (Nat.mod_lt _ (by decide))]
 ·rfl
 ·intro i h1 h2
  rw [opW_andNot hx hy, wd_over (ws := xs) (by omega)]
  simp

def Gives (w : World) (p : Nat → Bool) (e : Ending) (w' : World) : Prop :=
 ∃ g t zs, e = .returned (.slice (some ⟨g, 0, none⟩) t t) ∧ IsInts .u64 w' (some ⟨g, 0, none⟩) t t zs ∧ SetIs zs p ∧ t ≤ 64 ∧ Below w.heap.size w w'
def GivesL (w : World) (p : Nat → Bool) (e : Ending) (w' : World) : Prop :=
 ∃ a n c, e = .returned (.slice a n c) ∧ IsInts .i64 w' a n c (setL p) ∧ n ≤ 4096 ∧ Below w.heap.size w w'

theorem gives_of {w w' : World} {e : Ending} {zs : List Int} {p : Nat → Bool} {g t : Nat} (he : e = .returned (.slice (some ⟨g, 0, none⟩) t t)) (hp : PartOf .u64 93 w' w.heap.size g t zs) (hz : SetIs zs p) (hb : Below w.heap.size w w') : Gives w p e w' :=
 ⟨g, t, zs, he, hp.ints, hz, by rw [← hp.length]; exact hz.2.1.1, hb⟩
theorem givesL_of {w w' : World} {e : Ending} {p : Nat → Bool} {l : List Int} {a3 : Option Addr} {n3 c3 : Nat} (he : e = .returned (.slice a3 n3 c3)) (ho : w'.ownsRow w.heap.size 3 1 (.slice a3 n3 c3) n3 (ivs .i64 l)) (hl : l = setL p) (hb : Below w.heap.size w w') : GivesL w p e w' := by
 rw [hl] at ho
 have hn : n3 ≤ 4096 := by have h1 := owns_len ho; have h2 := setL_len p; omega
 exact ⟨a3, n3, c3, he, (IsInts.of_owns ho).1, hn, hb⟩

variable {a : Option Addr} {len cap : Nat} {xs : List Int} {a' : Option Addr} {len' cap' : Nat} {ys : List Int} {w : World} {p q : Nat → Bool}

set_option maxRecDepth 20000 in
theorem union_s (hs : IsInts .u64 w a len cap xs) (hs' : IsInts .u64 w a' len' cap' ys) (hx : W64 xs) (hy : W64 ys) (hl : len ≤ 1000) (hl' : len' ≤ 1000) :
  Calls Tryd.prog 31 #[.slice a len cap, .slice a' len' cap'] w (Gives w fun n => bt xs n || bt ys n) := by
 refine (union_any _ _ _ _ _ _ _ _ _ hs hs' (by omega) (by omega)).mono ?_
 rintro e w' ⟨g, t, he, hp, hb⟩
 rw [← hs.length, ← hs'.length] at hp
 exact gives_of he hp (or_is hx hy) hb
set_option maxRecDepth 20000 in
theorem make_s {l : List Int} (hs : IsInts .i64 w a len cap l) (hw : ∀ n ∈ l, (Lit.int .i64 n).wf = true) :
  Calls Tryd.prog 30 #[.slice a len cap] w (Gives w fun n => decide ((n : Int) ∈ l)) := by
 refine (make_any _ _ _ _ _ hs hw).mono ?_
 rintro e w' ⟨g, t, he, hp, hb⟩
 exact gives_of he hp (make_spec l) hb
theorem opW_andNot_zero {xs ys : List Int} (hx : W64 xs) (hy : W64 ys) (i : Nat) : opW .andNot xs ys i = 0 ↔ ∀ r, r < 64 → tb (wd xs i) r = true → tb (wd ys i) r = true := by
 constructor
 ·intro h r hr h1
  have := tb_opW_andNot hx hy i r hr
  rw [h, h1] at this
  have h0 : tb 0 r = false := by simp [tb]
  rw [h0] at this
  simpa using this.symm
 ·intro h
  refine tb_ext (opW_bd (.inr (.inr rfl)) hx hy i) (by decide) fun r hr => ?_
  rw [tb_opW_andNot hx hy i r hr, show tb 0 r = false by simp [tb]]
  cases h1 : tb (wd xs i) r with
  | false => rfl
  | true => rw [h r hr h1]; rfl
theorem subB_iff {xs ys : List Int} (hx : W64 xs) (hy : W64 ys) : subB xs ys = true ↔ ∀ n, n < 4096 → bt xs n = true → bt ys n = true := by
 unfold subB
 rw [List.all_eq_true]
 constructor
 ·intro h n hn h1
  by_cases hi : n / 64 < min xs.length 64
  ·have := h (n / 64) (List.mem_range.2 hi)
   exact (opW_andNot_zero hx hy _).1 (by simpa using this) (n % 64) (Nat.mod_lt _ (by decide)) h1
  ·unfold bt at h1
   rw [wd_over (by omega)] at h1
   simp [tb] at h1
 ·intro h i hi
  have hi := List.mem_range.1 hi
  rw [beq_iff_eq, opW_andNot_zero hx hy]
  intro r hr h1
  have e1 : (64 * i + r) / 64 = i := by omega
  have e2 : (64 * i + r) % 64 = r := by omega
  have := h (64 * i + r) (by omega)
  unfold bt at this
  rw [e1, e2] at this
  exact this h1
def eqB (xs ys : List Int) : Bool := subB xs ys && subB ys xs
theorem eqB_iff {xs ys : List Int} (hx : W64 xs) (hy : W64 ys) : eqB xs ys = true ↔ ∀ n, n < 4096 → bt xs n = bt ys n := by
 unfold eqB
 rw [Bool.and_eq_true, subB_iff hx hy, subB_iff hy hx]
 constructor
 ·intro ⟨h1, h2⟩ n hn
  rw [Bool.eq_iff_iff]
  exact ⟨h1 n hn, h2 n hn⟩
 ·intro h
  exact ⟨fun n hn h1 => by rw [← h n hn]; exact h1, fun n hn h1 => by rw [h n hn]; exact h1⟩
theorem eqB_set {xs ys : List Int} (hx : W64 xs) (hy : W64 ys) : eqB xs ys = decide (setL (bt xs) = setL (bt ys)) := by
 rw [Bool.eq_iff_iff, eqB_iff hx hy, decide_eq_true_iff]
 exact ⟨fun h => setL_congr h, fun h => setL_inj h⟩

set_option maxRecDepth 20000 in
theorem sub_yes (hs : IsInts .u64 w a len cap xs) (hs' : IsInts .u64 w a' len' cap' ys) (hx : W64 xs) (hy : W64 ys) (h : ∀ n, n < 4096 → bt xs n = true → bt ys n = true) :
  Calls Tryd.prog 29 #[.slice a len cap, .slice a' len' cap'] w fun e w' => e = .returned (.bool true) ∧ Below w.heap.size w w' := by
 have := sub_any _ _ _ xs _ _ _ ys _ hs hs'
 rw [(subB_iff hx hy).2 h] at this
 exact this
set_option maxRecDepth 20000 in
theorem sub_no (hs : IsInts .u64 w a len cap xs) (hs' : IsInts .u64 w a' len' cap' ys) (hx : W64 xs) (hy : W64 ys) {n : Nat} (hn : n < 4096) (h : bt xs n = true) (h' : bt ys n = false) :
  Calls Tryd.prog 29 #[.slice a len cap, .slice a' len' cap'] w fun e w' => e = .returned (.bool false) ∧ Below w.heap.size w w' := by
 have := sub_any _ _ _ xs _ _ _ ys _ hs hs'
 rw [show subB xs ys = false by rw [Bool.eq_false_iff]; intro hh; have := (subB_iff hx hy).1 hh n hn h; rw [h'] at this; cases this] at this
 exact this
set_option maxRecDepth 20000 in
theorem equal_s (hs : IsInts .u64 w a len cap xs) (hs' : IsInts .u64 w a' len' cap' ys) :
  Calls Tryd.prog 28 #[.slice a len cap, .slice a' len' cap'] w fun e w' => e = .returned (.bool (eqB xs ys)) ∧ Below w.heap.size w w' := equal_any _ _ _ xs _ _ _ ys _ hs hs'
set_option maxRecDepth 20000 in
theorem equal_yes (hs : IsInts .u64 w a len cap xs) (hs' : IsInts .u64 w a' len' cap' ys) (hx : W64 xs) (hy : W64 ys) (h : ∀ n, n < 4096 → bt xs n = bt ys n) :
  Calls Tryd.prog 28 #[.slice a len cap, .slice a' len' cap'] w fun e w' => e = .returned (.bool true) ∧ Below w.heap.size w w' := by
 have := equal_s hs hs'
 rw [(eqB_iff hx hy).2 h] at this
 exact this
set_option maxRecDepth 20000 in
theorem equal_no (hs : IsInts .u64 w a len cap xs) (hs' : IsInts .u64 w a' len' cap' ys) (hx : W64 xs) (hy : W64 ys) {n : Nat} (hn : n < 4096) (h : bt xs n ≠ bt ys n) :
  Calls Tryd.prog 28 #[.slice a len cap, .slice a' len' cap'] w fun e w' => e = .returned (.bool false) ∧ Below w.heap.size w w' := by
 have := equal_s hs hs'
 rw [show eqB xs ys = false by rw [Bool.eq_false_iff]; intro hh; exact h ((eqB_iff hx hy).1 hh n hn)] at this
 exact this

def cnt (p : Nat → Bool) : Nat := (setL p).length
theorem cnt_le (p : Nat → Bool) : cnt p ≤ 4096 := setL_len p
theorem cnt_eq (p : Nat → Bool) : cnt p = (List.range 4096).countP p := by unfold cnt setL; rw [List.length_map, List.countP_eq_length_filter]
theorem cnt_congr {p q : Nat → Bool} (h : ∀ n, n < 4096 → p n = q n) : cnt p = cnt q := by unfold cnt; rw [setL_congr h]
theorem cnt_zero {p : Nat → Bool} : cnt p = 0 ↔ ∀ n, n < 4096 → p n = false := by
 rw [cnt_eq, List.countP_eq_zero]
 exact ⟨fun h n hn => by simpa using h n (List.mem_range.2 hn), fun h n hn => by simpa using h n (List.mem_range.1 hn)⟩
theorem cnt_or_and (p q : Nat → Bool) : cnt (fun n => p n || q n) + cnt (fun n => p n && q n) = cnt p + cnt q := by
 simp only [cnt_eq]
 generalize List.range 4096 = l
 induction l with
 | nil => rfl
 | cons x l ih =>
  simp only [List.countP_cons]
  cases p x <;> cases q x <;> simp <;> omega

set_option maxRecDepth 20000 in
theorem len_s (hs : IsInts .u64 w a len cap xs) (hx : W64 xs) :
  Calls Tryd.prog 35 #[.slice a len cap] w fun e w' => e = .returned (.int .i64 (cnt (bt xs) : Nat)) ∧ Below w.heap.size w w' := len_any _ _ _ _ _ hs hx
set_option maxRecDepth 20000 in
theorem len_zero (hs : IsInts .u64 w a len cap xs) (hx : W64 xs) (h : ∀ n, n < 4096 → bt xs n = false) :
  Calls Tryd.prog 35 #[.slice a len cap] w fun e w' => e = .returned (.int .i64 0) ∧ Below w.heap.size w w' := by
 have := len_s hs hx
 rw [cnt_zero.2 h] at this
 exact this

set_option maxRecDepth 20000 in
theorem list_s (hs : IsInts .u64 w a len cap xs) (hx : W64 xs) (hT : TabAt 0 Lib.deBruijn64tab w) :
  Calls Tryd.prog 27 #[.slice a len cap] w (GivesL w (bt xs)) := by
 refine (list_any _ _ _ _ _ hs hx hT).mono ?_
 rintro e w' ⟨a3, n3, c3, he, ho, hb⟩
 exact givesL_of he ho rfl hb
set_option maxRecDepth 20000 in
theorem refWith_s {k : Nat} (hs : IsInts .i64 w a len cap (setL p)) (hl : len ≤ 4096) (hk : k < 4096) :
  Calls Tryd.prog 49 #[.slice a len cap, .int .i64 (k : Int)] w (GivesL w fun n => p n || n == k) := by
 refine (refWith_any _ _ _ _ _ _ hs (by omega)).mono ?_
 rintro e w' ⟨a3, n3, c3, he, ho, hb⟩
 exact givesL_of he ho (withL_setL p k hk) hb
theorem filter_ne_setL (p : Nat → Bool) (k : Int) : (setL p).filter (fun x => x != k) = setL fun n => p n && !decide ((n : Int) = k) := by
 rw [setL_filter]
 refine setL_congr fun n hn => ?_
 congr 1
set_option maxRecDepth 20000 in
theorem refSame_yes (hs : IsInts .i64 w a len cap (setL p)) (hs' : IsInts .i64 w a' len' cap' (setL q)) (hl : len ≤ 4096) (h : ∀ n, n < 4096 → p n = q n) :
  Calls Tryd.prog 26 #[.slice a len cap, .slice a' len' cap'] w fun e w' => e = .returned (.bool true) ∧ Below w.heap.size w w' := by
 have := same_any _ _ _ (setL p) _ _ _ (setL q) _ hs hs' (by omega)
 rw [decide_eq_true (setL_congr h)] at this
 exact this
set_option maxRecDepth 20000 in
theorem refSame_eqB (hs : IsInts .i64 w a len cap (setL (bt xs))) (hs' : IsInts .i64 w a' len' cap' (setL (bt ys))) (hx : W64 xs) (hy : W64 ys) (hl : len ≤ 4096) :
  Calls Tryd.prog 26 #[.slice a len cap, .slice a' len' cap'] w fun e w' => e = .returned (.bool (eqB xs ys)) ∧ Below w.heap.size w w' := by
 have := same_any _ _ _ (setL (bt xs)) _ _ _ (setL (bt ys)) _ hs hs' (by omega)
 rw [← eqB_set hx hy] at this
 exact this
set_option maxRecDepth 20000 in
theorem refCompare_s (hs : IsInts .i64 w a len cap (setL p)) (hs' : IsInts .i64 w a' len' cap' (setL q)) (hl : len ≤ 4096) (hl' : len' ≤ 4096) :
  Calls Tryd.prog 34 #[.slice a len cap, .slice a' len' cap'] w fun e w' => e = .returned (.int .i64 (cmpL (setL p) (setL q))) ∧ Below w.heap.size w w' :=
 refCompare_any _ _ _ _ _ _ _ _ _ hs hs' (by omega) (by omega)
set_option maxRecDepth 20000 in
theorem valid_yes (hs : IsInts .u64 w a len cap xs) (hz : SetIs xs p) :
  Calls Tryd.prog 43 #[.slice a len cap] w fun e w' => e = .returned (.bool true) ∧ Below w.heap.size w w' := by
 have h := valid_any _ _ _ xs _ hs
 have e : validB xs = true := by
  unfold validB
  rw [Bool.and_eq_true, decide_eq_true_iff]
  refine ⟨hz.2.1.1, ?_⟩
  rcases hz.2.1.2 with h | h
  ·rw [h]; rfl
  ·rw [Bool.or_eq_true]; exact .inr (by simpa using h)
 rw [e] at h
 refine h.mono ?_
 rintro e w' ⟨rfl, rfl⟩
 exact ⟨rfl, Below.refl _ _⟩
end Go.Proofs.YtofaifeadhimjaaDoor.Bt
