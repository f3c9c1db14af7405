import Derived.Test.YtbjdglopkpigbaaGreatDoorMG1
import Derived.Test.YtbjdglopkpigbaaGreatDoorMG3
/-
  NaC, NaP, CmpL
-/
set_option linter.unusedSimpArgs false
set_option linter.unusedVariables false
namespace Go.Proofs.YtbjdglopkpigbaaGreatDoor.Na
open Go.RowKit
attribute [local go_sem] Oper.semAt_some
theorem _root_.Go.Proofs.YtbjdglopkpigbaaGreatDoor.IsArcs.partN {w : World} {b off al ac : Nat} {es : List A3} (h : IsArcs w (some ⟨b, off, none⟩) al ac es) {i k c : Nat} (hik : i ≤ k) (hk : k ≤ al) (hc : k - i ≤ c) (hcm : c ≤ maxLen) : IsArcs w (some ⟨b, off + i * 3, none⟩) (k - i) c ((es.drop i).take (k - i)) := by
 have hl := h.length
 refine .inr ⟨b, off + i * 3, rfl, hc, hcm, by rw [List.length_take, List.length_drop]; omega, fun j hj => ?_⟩
 have e : g3 ((es.drop i).take (k - i)) j = g3 es (i + j) := by
  unfold g3
  rw [List.getD_eq_getElem?_getD, List.getD_eq_getElem?_getD, List.getElem?_take_of_lt (by omega), List.getElem?_drop]
 rw [e]
 have := h.get (i + j) (by omega)
 rwa [show off + (i + j) * 3 = off + i * 3 + j * 3 by omega] at this
set_option maxRecDepth 20000 in
theorem arcs_in (d : Nfa) (h : NH) (q c : Int) (w : World) (hd : IsNfa w h d) (hS : SortedN d.arcs) (hL : ∀ x ∈ d.arcs, 0 ≤ x.t) (hl : d.arcs.length ≤ 20000) (hq : 0 ≤ c ∧ c < 1000000) :
  Calls Tryz.prog 45 #[vNf d h, .int .i64 q, .int .i64 c] w fun e w' => (∃ a' c', e = .returned (.slice a' (arcsN d.arcs q c).length c') ∧ ∀ W0, IsNfa W0 h d → IsArcs W0 a' (arcsN d.arcs q c).length c' (arcsN d.arcs q c)) ∧ Below w.heap.size w w' := by
 obtain ⟨n, s, fin, es⟩ := d
 obtain ⟨sa, sl, sc, fa, fl, fc, aa, al, ac⟩ := h
 obtain ⟨-, -, he⟩ := hd
 simp only at he hS hl hL ⊢
 have hlen := he.length
 have hcap := he.capLe
 unfold maxLen at hcap
 rw [hlen] at hl
 obtain ⟨hb1, hs1, hO⟩ := boxN n sa sl sc fa fl fc aa al ac w
 obtain ⟨W1, hW1⟩ : ∃ W1, w.alloc (.cells #[.int .i64 n, .slice sa sl sc, .slice fa fl fc, .slice aa al ac] 43) = W1 := ⟨_, rfl⟩
 rw [hW1] at hb1 hs1 hO
 obtain ⟨-, -, -, co⟩ := hO W1 (Below.refl _ _)
 have hcall := fun W (hb : Below w.heap.size w W) (c : Int) => search_any _ al ac es q c W (he.later hb) hS (by omega)
 obtain ⟨hik, hpart⟩ := arcsN_part hS hL q c
 have hk := loN_le es ⟨q, c + 1, -1⟩
 rw [hlen] at hk
 have hc0 := hcall W1 hb1 c
 have hc1 := fun W hb => hcall W hb (c + 1)
 obtain ⟨i, hi⟩ : ∃ i, loN es ⟨q, c, -1⟩ = i := ⟨_, rfl⟩
 obtain ⟨k, hk'⟩ : ∃ k, loN es ⟨q, c + 1, -1⟩ = k := ⟨_, rfl⟩
 rw [hi] at hc0 hik hpart
 rw [hk'] at hc1 hik hpart hk
 simp only [vA] at hc0 hc1
 have HC := Lib.hid hc1
 have hol : (arcsN es q c).length = k - i := by rw [← hpart, List.length_take, List.length_drop]; omega
 have HP := Lib.hid hpart
 have HE := Lib.hid he
 unfold vNf
 rw [hol]
 clear hcall hi hk' hpart hc1 he hol
 have hi64 : ((i : Int) ≤ k) := by omega
 have hk64 : ((k : Int) ≤ ac) := by omega
 go_enter Tryz.func45, Tryz.ntmps45
 go_wp2_with (first | (go_at_call 33; with_reducible refine hc0.mono ?_; rintro e w2 ⟨⟨u, rfl⟩, hb2⟩; have HB2 : Hid (Below w.heap.size w w2) := Lib.hid (hb1.trans (hb2.mono hb1.size)); obtain ⟨-, -, -, co2⟩ := hO w2 (hb2.mono (by omega)); have hc2 := HC.out w2 HB2.out) | (go_at_call 33; with_reducible refine hc2.mono ?_; rintro e w3 ⟨⟨u3, rfl⟩, hb3⟩; obtain ⟨-, -, -, co3⟩ := hO w3 ((hb2.trans (hb3.mono hb2.size)).mono (by omega))))
 all_goals (
  have hB3 : Below w.heap.size w w3 := HB2.out.trans (hb3.mono HB2.out.size)
  rw [← HP.out])
 ·go_ret
  have h0 : k - i = 0 := by omega
  exact ⟨⟨aa, 0, by rw [h0]; rfl, fun W0 _ => .inl ⟨h0, rfl, by rw [h0]; rfl⟩⟩, hB3⟩
 ·rcases HE.out with ⟨h1, h2, h3⟩ | ⟨b, off, rfl, h4⟩
  ·go_ret
   have h0 : k - i = 0 := by omega
   exact ⟨⟨_, ac - i, by rw [h0]; rfl, fun W0 _ => .inl ⟨h0, by omega, by rw [h0]; rfl⟩⟩, hB3⟩
  ·go_ret
   exact ⟨⟨some ⟨b, off + i * 3, none⟩, ac - i, by rw [← addr_add]; rfl, fun W0 hW0 => IsArcs.partN hW0.arcs hik hk (by omega) (by unfold maxLen; omega)⟩, hB3⟩
end Go.Proofs.YtbjdglopkpigbaaGreatDoor.Na
namespace Go.Proofs.YtbjdglopkpigbaaGreatDoor.Na
def setN (p : Nat → Bool) : List Int := ((List.range 4096).filter p).map fun n : Nat => (n : Int)
theorem mem_setN {p : Nat → Bool} {z : Int} : z ∈ setN p ↔ ∃ n : Nat, n < 4096 ∧ p n = true ∧ z = (n : Int) := by
 unfold setN
 rw [List.mem_map]
 constructor
 ·rintro ⟨n, hn, rfl⟩
  rw [List.mem_filter, List.mem_range] at hn
  exact ⟨n, hn.1, hn.2, rfl⟩
 ·rintro ⟨n, h1, h2, rfl⟩
  exact ⟨n, List.mem_filter.2 ⟨List.mem_range.2 h1, h2⟩, rfl⟩
theorem setN_asc (p : Nat → Bool) : (setN p).Pairwise (· < ·) := by
 unfold setN
 rw [List.pairwise_map]
 exact (List.pairwise_lt_range.filter p).imp fun h => by omega
theorem pairwise_ext : ∀ {xs ys : List Int}, xs.Pairwise (· < ·) → ys.Pairwise (· < ·) → (∀ z, z ∈ xs ↔ z ∈ ys) → xs = ys
 | [], [], _, _, _ => rfl
 | [], y :: ys, _, _, h => absurd ((h y).2 List.mem_cons_self) List.not_mem_nil
 | x :: xs, [], _, _, h => absurd ((h x).1 List.mem_cons_self) List.not_mem_nil
 | x :: xs, y :: ys, hx, hy, h => by
  have hx' := List.pairwise_cons.1 hx
  have hy' := List.pairwise_cons.1 hy
  have e : x = y := by
   rcases List.mem_cons.1 ((h x).1 List.mem_cons_self) with h1 | h1
   ·exact h1
   ·rcases List.mem_cons.1 ((h y).2 List.mem_cons_self) with h2 | h2
    ·exact h2.symm
    ·have h3 := hy'.1 x h1
     have h4 := hx'.1 y h2
     omega
  subst e
  rw [pairwise_ext hx'.2 hy'.2 fun z => ?_]
  have := h z
  rw [List.mem_cons, List.mem_cons] at this
  constructor
  ·intro hz
   rcases this.1 (.inr hz) with h1 | h1
   ·have := hx'.1 z hz; omega
   ·exact h1
  ·intro hz
   rcases this.2 (.inr hz) with h1 | h1
   ·have := hy'.1 z hz; omega
   ·exact h1
def Bd (n : Int) (l : List Int) : Prop := ∀ z ∈ l, 0 ≤ z ∧ z < n
inductive Eps (ar : List A3) : Int → Int → Prop
 | refl (q : Int) : Eps ar q q
 | step {x : A3} {z : Int} : x ∈ ar → x.l = 0 → Eps ar x.t z → Eps ar x.f z
theorem Eps.trans {ar : List A3} {x y z : Int} (h : Eps ar x y) (h' : Eps ar y z) : Eps ar x z := by
 induction h with
 | refl => exact h'
 | step h1 h2 _ ih => exact .step h1 h2 (ih h')
theorem Eps.one {ar : List A3} {x : A3} (h : x ∈ ar) (h0 : x.l = 0) : Eps ar x.f x.t := .step h h0 (.refl _)
def Clo (ar : List A3) (l : List Int) (z : Int) : Prop := ∃ y ∈ l, Eps ar y z
theorem Clo.of_mem {ar : List A3} {l : List Int} {z : Int} (h : z ∈ l) : Clo ar l z := ⟨z, h, .refl z⟩
theorem Clo.arc {ar : List A3} {l : List Int} {x : A3} (h : Clo ar l x.f) (hx : x ∈ ar) (h0 : x.l = 0) : Clo ar l x.t := by
 obtain ⟨y, hy, he⟩ := h
 exact ⟨y, hy, he.trans (.one hx h0)⟩
theorem Clo.least {ar : List A3} {l : List Int} {P : Int → Prop} (h0 : ∀ y ∈ l, P y) (hs : ∀ x ∈ ar, x.l = 0 → P x.f → P x.t) {z : Int} (h : Clo ar l z) : P z := by
 obtain ⟨y, hy, he⟩ := h
 have := h0 y hy
 clear hy
 induction he with
 | refl => exact this
 | step h1 h2 _ ih => exact ih (hs _ h1 h2 this)
open Classical in
noncomputable def cloL (ar : List A3) (l : List Int) : List Int := setN fun n => decide (Clo ar l n)
def ArcsIn (n : Int) (ar : List A3) : Prop := n ≤ 4096 ∧ ∀ x ∈ ar, (0 ≤ x.f ∧ x.f < n) ∧ (0 ≤ x.t ∧ x.t < n)
theorem ValidN.arcsIn {a : Nfa} (h : ValidN a) : ArcsIn a.n a.arcs := ⟨by have := h.1; omega, fun x hx => (h.arc hx).1⟩
theorem ValidN.startIn {a : Nfa} (h : ValidN a) : Bd a.n a.s := fun z hz => h.start hz
section
variable {n : Int} {ar : List A3} {l : List Int}
theorem clo_bd (ha : ArcsIn n ar) (hl : Bd n l) {z : Int} (h : Clo ar l z) : 0 ≤ z ∧ z < n :=
 h.least (P := fun z => 0 ≤ z ∧ z < n) hl fun x hx _ _ => (ha.2 x hx).2
open Classical in
theorem mem_cloL (ha : ArcsIn n ar) (hl : Bd n l) {z : Int} : z ∈ cloL ar l ↔ Clo ar l z := by
 unfold cloL
 rw [mem_setN]
 constructor
 ·rintro ⟨k, _, h, rfl⟩
  exact of_decide_eq_true h
 ·intro h
  have := clo_bd ha hl h
  have h1 := ha.1
  exact ⟨z.toNat, by omega, decide_eq_true (by rw [Int.toNat_of_nonneg this.1]; exact h), by omega⟩
theorem cloL_bd (ha : ArcsIn n ar) (hl : Bd n l) : Bd n (cloL ar l) := fun z hz => clo_bd ha hl ((mem_cloL ha hl).1 hz)
theorem cloL_asc (ar : List A3) (l : List Int) : (cloL ar l).Pairwise (· < ·) := setN_asc _
theorem clo_congr {l l' : List Int} (h : ∀ z, z ∈ l ↔ z ∈ l') (z : Int) : Clo ar l z ↔ Clo ar l' z :=
 ⟨fun ⟨y, hy, he⟩ => ⟨y, (h y).1 hy, he⟩, fun ⟨y, hy, he⟩ => ⟨y, (h y).2 hy, he⟩⟩
open Classical in
theorem cloL_congr {l l' : List Int} (h : ∀ z, Clo ar l z ↔ Clo ar l' z) : cloL ar l = cloL ar l' := by
 unfold cloL
 congr 1
 funext k
 exact decide_eq_decide.2 (h _)
theorem cloL_mems {l l' : List Int} (h : ∀ z, z ∈ l ↔ z ∈ l') : cloL ar l = cloL ar l' := cloL_congr (clo_congr h)
theorem clo_clo (ha : ArcsIn n ar) (hl : Bd n l) (z : Int) : Clo ar (cloL ar l) z ↔ Clo ar l z := by
 constructor
 ·rintro ⟨y, hy, he⟩
  obtain ⟨x, hx, he'⟩ := (mem_cloL ha hl).1 hy
  exact ⟨x, hx, he'.trans he⟩
 ·intro h
  exact .of_mem ((mem_cloL ha hl).2 h)
theorem cloL_cloL (ha : ArcsIn n ar) (hl : Bd n l) : cloL ar (cloL ar l) = cloL ar l := cloL_congr (clo_clo ha hl)
theorem cloL_uniq (ha : ArcsIn n ar) (hl : Bd n l) {xs : List Int} (hx : xs.Pairwise (· < ·)) (h : ∀ z, z ∈ xs ↔ Clo ar l z) : xs = cloL ar l :=
 pairwise_ext hx (cloL_asc _ _) fun z => (h z).trans (mem_cloL ha hl).symm
def tgtL (ar : List A3) (S : List Int) (c : Int) : List Int := (ar.filter fun x => decide (0 < c) && (decide (x.l = c) && decide (x.f ∈ S))).map A3.t
theorem mem_tgtL {S : List Int} {c z : Int} : z ∈ tgtL ar S c ↔ 0 < c ∧ ∃ x ∈ ar, x.l = c ∧ x.f ∈ S ∧ x.t = z := by
 unfold tgtL
 rw [List.mem_map]
 constructor
 ·rintro ⟨x, hx, rfl⟩
  rw [List.mem_filter] at hx
  simp only [Bool.and_eq_true, decide_eq_true_eq] at hx
  exact ⟨hx.2.1, x, hx.1, hx.2.2.1, hx.2.2.2, rfl⟩
 ·rintro ⟨hc, x, hx, h1, h2, rfl⟩
  exact ⟨x, List.mem_filter.2 ⟨hx, by simp [hc, h1, h2]⟩, rfl⟩
theorem tgtL_bd (ha : ArcsIn n ar) (S : List Int) (c : Int) : Bd n (tgtL ar S c) := fun z hz => by
 obtain ⟨_, x, hx, _, _, rfl⟩ := mem_tgtL.1 hz
 exact (ha.2 x hx).2
noncomputable def movL (ar : List A3) (S : List Int) (c : Int) : List Int := cloL ar (tgtL ar S c)
noncomputable def stpL (ar : List A3) (l : List Int) (c : Int) : List Int := movL ar (cloL ar l) c
theorem movL_bd (ha : ArcsIn n ar) (S : List Int) (c : Int) : Bd n (movL ar S c) := cloL_bd ha (tgtL_bd ha S c)
theorem stpL_bd (ha : ArcsIn n ar) (l : List Int) (c : Int) : Bd n (stpL ar l c) := movL_bd ha _ c
theorem cloL_movL (ha : ArcsIn n ar) (S : List Int) (c : Int) : cloL ar (movL ar S c) = movL ar S c := cloL_cloL ha (tgtL_bd ha S c)
noncomputable def runL (ar : List A3) (l : List Int) (w : List Int) : List Int := w.foldl (movL ar) (cloL ar l)
theorem runL_nil (l : List Int) : runL ar l [] = cloL ar l := by unfold runL; simp only [List.foldl_nil]
theorem runL_snoc (l w : List Int) (c : Int) : runL ar l (w ++ [c]) = movL ar (runL ar l w) c := by unfold runL; simp only [List.foldl_append, List.foldl_cons, List.foldl_nil]
theorem runL_cons (ha : ArcsIn n ar) (hl : Bd n l) (c : Int) (w : List Int) : runL ar l (c :: w) = runL ar (tgtL ar (cloL ar l) c) w := by unfold runL; simp only [List.foldl_cons]; unfold movL; simp only []
theorem runL_bd (ha : ArcsIn n ar) : ∀ (w : List Int) {l : List Int}, Bd n l → Bd n (runL ar l w)
 | [], l, hl => by rw [runL_nil]; exact cloL_bd ha hl
 | c :: w, l, hl => by rw [runL_cons ha hl]; exact runL_bd ha w (tgtL_bd ha _ c)
theorem runL_asc (ar : List A3) (l w : List Int) : (runL ar l w).Pairwise (· < ·) := by
 rcases List.eq_nil_or_concat w with rfl | ⟨w, c, rfl⟩
 ·rw [runL_nil]; exact cloL_asc _ _
 ·rw [List.concat_eq_append, runL_snoc]; unfold movL; exact cloL_asc _ _
theorem cloL_runL (ha : ArcsIn n ar) (hl : Bd n l) (w : List Int) : cloL ar (runL ar l w) = runL ar l w := by
 rcases List.eq_nil_or_concat w with rfl | ⟨w, c, rfl⟩
 ·rw [runL_nil]; exact cloL_cloL ha hl
 ·rw [List.concat_eq_append, runL_snoc]; exact cloL_movL ha _ _
theorem stpL_runL (ha : ArcsIn n ar) (hl : Bd n l) (w : List Int) (c : Int) : stpL ar (runL ar l w) c = runL ar l (w ++ [c]) := by
 unfold stpL
 rw [cloL_runL ha hl, runL_snoc]
inductive Rd (ar : List A3) : Int → List Int → Int → Prop
 | nil (q : Int) : Rd ar q [] q
 | eps {x : A3} {w : List Int} {z : Int} : x ∈ ar → x.l = 0 → Rd ar x.t w z → Rd ar x.f w z
 | arc {x : A3} {w : List Int} {z : Int} : x ∈ ar → 0 < x.l → Rd ar x.t w z → Rd ar x.f (x.l :: w) z
theorem Rd.of_eps {x y z : Int} {w : List Int} (h : Eps ar x y) (h' : Rd ar y w z) : Rd ar x w z := by
 induction h with
 | refl => exact h'
 | step h1 h2 _ ih => exact .eps h1 h2 (ih h')
theorem Rd.trans {x y z : Int} {u v : List Int} (h : Rd ar x u y) (h' : Rd ar y v z) : Rd ar x (u ++ v) z := by
 induction h with
 | nil => exact h'
 | eps h1 h2 _ ih => exact .eps h1 h2 (ih h')
 | arc h1 h2 _ ih => exact .arc h1 h2 (ih h')
theorem rd_nil {y z : Int} : Rd ar y [] z ↔ Eps ar y z := by
 constructor
 ·intro h
  generalize e : ([] : List Int) = w at h
  induction h with
  | nil => exact .refl _
  | eps h1 h2 _ ih => exact .step h1 h2 (ih e)
  | arc => cases e
 ·intro h; exact .of_eps h (.nil _)
theorem rd_cons {y z c : Int} {w : List Int} : Rd ar y (c :: w) z ↔ ∃ x ∈ ar, 0 < c ∧ x.l = c ∧ Eps ar y x.f ∧ Rd ar x.t w z := by
 constructor
 ·intro h
  generalize e : c :: w = u at h
  induction h with
  | nil => cases e
  | eps h1 h2 _ ih =>
   obtain ⟨x, hx, h3, h4, h5, h6⟩ := ih e
   exact ⟨x, hx, h3, h4, .step h1 h2 h5, h6⟩
  | arc h1 h2 h3 _ =>
   injection e with e1 e2
   subst e1 e2
   exact ⟨_, h1, h2, rfl, .refl _, h3⟩
 ·rintro ⟨x, hx, h1, rfl, h2, h3⟩
  exact .of_eps h2 (.arc hx h1 h3)
theorem mem_runL (ha : ArcsIn n ar) : ∀ (w : List Int) {l : List Int}, Bd n l → ∀ z, z ∈ runL ar l w ↔ ∃ y ∈ l, Rd ar y w z
 | [], l, hl, z => by
  rw [runL_nil, mem_cloL ha hl]
  exact ⟨fun ⟨y, hy, he⟩ => ⟨y, hy, rd_nil.2 he⟩, fun ⟨y, hy, he⟩ => ⟨y, hy, rd_nil.1 he⟩⟩
 | c :: w, l, hl, z => by
  rw [runL_cons ha hl, mem_runL ha w (tgtL_bd ha _ c)]
  constructor
  ·rintro ⟨y, hy, hr⟩
   obtain ⟨hc, x, hx, h1, h2, rfl⟩ := mem_tgtL.1 hy
   obtain ⟨u, hu, he⟩ := (mem_cloL ha hl).1 h2
   exact ⟨u, hu, rd_cons.2 ⟨x, hx, hc, h1, he, hr⟩⟩
  ·rintro ⟨u, hu, hr⟩
   obtain ⟨x, hx, hc, h1, he, hr⟩ := rd_cons.1 hr
   exact ⟨x.t, mem_tgtL.2 ⟨hc, x, hx, h1, (mem_cloL ha hl).2 ⟨u, hu, he⟩, rfl⟩, hr⟩
end
def finL (fin : List Bool) (l : List Int) : Bool := l.any fun z => gb fin z.toNat
theorem finL_iff {fin : List Bool} {l : List Int} : finL fin l = true ↔ ∃ z ∈ l, gb fin z.toNat = true := by unfold finL; rw [List.any_eq_true]
noncomputable def acN (a : Nfa) (w : List Int) : Bool := finL a.fin (runL a.arcs a.s w)
noncomputable def accN (a : Nfa) (w : List Int) : Bool := vN a && acN a w
end Go.Proofs.YtbjdglopkpigbaaGreatDoor.Na
namespace Go.Proofs.YtbjdglopkpigbaaGreatDoor
def cmpL : List Int → List Int → Int
 | [], [] => 0
 | [], _ :: _ => -1
 | _ :: _, [] => 1
 | x :: xs, y :: ys => if x < y then -1 else if y < x then 1 else cmpL xs ys
theorem cmpL_cons (x y : Int) (xs ys : List Int) : cmpL (x :: xs) (y :: ys) = if x < y then -1 else if y < x then 1 else cmpL xs ys := rfl
theorem cmpL_anti : ∀ xs ys : List Int, cmpL ys xs = -cmpL xs ys
 | [], [] => rfl
 | [], _ :: _ => rfl
 | _ :: _, [] => rfl
 | x :: xs, y :: ys => by
  have := cmpL_anti xs ys
  rw [cmpL_cons, cmpL_cons]
  rcases Int.lt_trichotomy x y with h | h | h
  ·rw [if_neg (by omega : ¬ y < x), if_pos h, if_pos h]; rfl
  ·rw [if_neg (by omega : ¬ y < x), if_neg (by omega : ¬ x < y), if_neg (by omega : ¬ x < y), if_neg (by omega : ¬ y < x)]; exact this
  ·rw [if_pos h, if_neg (by omega : ¬ x < y), if_pos h]
theorem cmpL_zero : ∀ xs ys : List Int, cmpL xs ys = 0 ↔ xs = ys
 | [], [] => by simp [cmpL]
 | [], _ :: _ => by simp [cmpL]
 | _ :: _, [] => by simp [cmpL]
 | x :: xs, y :: ys => by
  have := cmpL_zero xs ys
  rw [cmpL_cons]
  split
  ·rename_i h
   constructor
   ·intro h0; cases h0
   ·intro e; injection e; omega
  ·split
   ·constructor
    ·intro h0; cases h0
    ·intro e; injection e; omega
   ·rw [this, List.cons.injEq]
    constructor
    ·intro e; exact ⟨by omega, e⟩
    ·intro e; exact e.2
theorem cmpL_trans : ∀ xs ys zs : List Int, cmpL xs ys ≤ 0 → cmpL ys zs ≤ 0 → cmpL xs zs ≤ 0
 | [], _, [], _, _ => by decide
 | [], _, _ :: _, _, _ => by show (-1 : Int) ≤ 0; decide
 | x :: xs, [], _, h, _ => by exact absurd h (by show ¬ (1 : Int) ≤ 0; decide)
 | x :: xs, y :: ys, [], _, h => by exact absurd h (by show ¬ (1 : Int) ≤ 0; decide)
 | x :: xs, y :: ys, z :: zs, h1, h2 => by
  have ih := cmpL_trans xs ys zs
  rw [cmpL_cons] at h1 h2 ⊢
  split
  ·decide
  ·rename_i ha
   split
   ·rename_i hb
    split at h1
    ·split at h2
     ·omega
     ·split at h2
      ·omega
      ·omega
    ·split at h1
     ·omega
     ·split at h2
      ·omega
      ·split at h2
       ·omega
       ·omega
   ·rename_i hb
    split at h1
    ·split at h2
     ·omega
     ·split at h2
      ·omega
      ·omega
    ·split at h1
     ·omega
     ·split at h2
      ·omega
      ·split at h2
       ·omega
       ·exact ih h1 h2
theorem cmpL_snoc (c d : Int) : ∀ xs ys : List Int, xs.length = ys.length → cmpL (xs ++ [c]) (ys ++ [d]) = if cmpL xs ys = 0 then cmpL [c] [d] else cmpL xs ys
 | [], [], _ => by rw [if_pos (by rfl)]; rfl
 | [], _ :: _, h => by simp at h
 | _ :: _, [], h => by simp at h
 | x :: xs, y :: ys, h => by
  have ih := cmpL_snoc c d xs ys (by simpa using h)
  rw [List.cons_append, List.cons_append, cmpL_cons, cmpL_cons]
  split
  ·rw [if_neg (by decide)]
  ·split
   ·rw [if_neg (by decide)]
   ·exact ih
def SL (u v : List Int) : Prop := u.length < v.length ∨ (u.length = v.length ∧ cmpL u v < 0)
def SLe (u v : List Int) : Prop := u.length < v.length ∨ (u.length = v.length ∧ cmpL u v ≤ 0)
theorem SL.le {u v : List Int} (h : SL u v) : SLe u v := by unfold SL at h; unfold SLe; omega
theorem SLe.refl (u : List Int) : SLe u u := .inr ⟨rfl, by rw [(cmpL_zero u u).2 rfl]; exact Int.le_refl 0⟩
theorem cmpL_lt_trans {x y z : List Int} (h1 : cmpL x y < 0) (h2 : cmpL y z ≤ 0) : cmpL x z < 0 := by
 have h := cmpL_trans x y z (by omega) h2
 rcases Int.lt_or_eq_of_le h with h | h
 ·exact h
 ·have e := (cmpL_zero x z).1 h
  subst e
  have := cmpL_anti x y
  omega
theorem SL.trans_le {x y z : List Int} (h1 : SL x y) (h2 : SLe y z) : SL x z := by
 unfold SL SLe at *
 rcases h1 with h1 | ⟨h1, h3⟩
 ·rcases h2 with h2 | ⟨h2, _⟩
  ·exact .inl (by omega)
  ·exact .inl (by omega)
 ·rcases h2 with h2 | ⟨h2, h4⟩
  ·exact .inl (by omega)
  ·exact .inr ⟨by omega, cmpL_lt_trans h3 h4⟩
theorem SL.trans {x y z : List Int} (h1 : SL x y) (h2 : SL y z) : SL x z := h1.trans_le h2.le
theorem SLe.trans {x y z : List Int} (h1 : SLe x y) (h2 : SLe y z) : SLe x z := by
 unfold SLe at *
 rcases h1 with h1 | ⟨h1, h3⟩
 ·rcases h2 with h2 | ⟨h2, _⟩
  ·exact .inl (by omega)
  ·exact .inl (by omega)
 ·rcases h2 with h2 | ⟨h2, h4⟩
  ·exact .inl (by omega)
  ·exact .inr ⟨by omega, cmpL_trans _ _ _ h3 h4⟩
theorem SL.irrefl {x : List Int} : ¬ SL x x := by
 rintro (h | ⟨_, h⟩)
 ·exact absurd h (Nat.lt_irrefl _)
 ·rw [(cmpL_zero x x).2 rfl] at h; exact absurd h (Int.lt_irrefl 0)
theorem SL.snoc {u v : List Int} (h : SL u v) (c d : Int) : SL (u ++ [c]) (v ++ [d]) := by
 unfold SL at *
 simp only [List.length_append, List.length_singleton]
 rcases h with h | ⟨h, h'⟩
 ·exact .inl (by omega)
 ·refine .inr ⟨by omega, ?_⟩
  rw [cmpL_snoc _ _ _ _ h, if_neg (by omega)]
  exact h'
theorem SL.last {u : List Int} {c d : Int} (h : c < d) : SL (u ++ [c]) (u ++ [d]) := by
 refine .inr ⟨by simp, ?_⟩
 rw [cmpL_snoc _ _ _ _ rfl, if_pos ((cmpL_zero u u).2 rfl), cmpL_cons, if_pos h]
 decide
theorem SLe.snoc {u v : List Int} (h : SLe u v) (c : Int) : SLe (u ++ [c]) (v ++ [c]) := by
 rcases h with h | ⟨h, h'⟩
 ·exact (SL.snoc (.inl h) c c).le
 ·rcases Int.lt_or_eq_of_le h' with h' | h'
  ·exact (SL.snoc (.inr ⟨h, h'⟩) c c).le
  ·have e := (cmpL_zero u v).1 h'
   subst e
   exact SLe.refl _
end Go.Proofs.YtbjdglopkpigbaaGreatDoor
