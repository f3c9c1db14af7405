/-
  What the functions of graphs return, told alike for the program and for the document's answer.
-/
import Derived.Test.YtlogmgkjikamaaaGraY
import Derived.Test.YtlogmgkjikamaaaGraH
import Derived.Test.YtlogmgkjikamaaaGraL
import Derived.Test.YtlogmgkjikamaaaGraV
import Derived.Test.YtlogmgkjikamaaaGraW
set_option linter.unusedSimpArgs false
set_option linter.unusedVariables false
set_option maxHeartbeats 4000000
namespace Go.Proofs.Ytlogmgkjikamaaa
open Go.RowKit

variable {a : Option Addr} {len cap : Nat} {g : List (List Int)} {w w' : World} {e : Ending}

/-- Rows and the number of an error. -/
def GRes (rows : List (List Int)) (er : Int) (e : Ending) (w' : World) : Prop := ∃ a len cap, e = .returned (.tuple #[.slice a len cap, .int .i64 er]) ∧ IsRows w' a len cap rows ∧ len ≤ 400
/-- Numbers and the number of an error. -/
def LRes (zs : List Int) (er : Int) (e : Ending) (w' : World) : Prop := ∃ a len cap, e = .returned (.tuple #[.slice a len cap, .int .i64 er]) ∧ IsRow .i64 w' a len cap zs ∧ len ≤ 401
theorem isRows_nil (w : World) : IsRows w none 0 0 [] := ⟨Nat.le_refl _, by decide, rfl, fun h => absurd h (Nat.lt_irrefl _)⟩
theorem isRow_nil (w : World) : IsRow .i64 w none 0 0 [] := .inl (.inl ⟨rfl, rfl, rfl, rfl⟩)

open Classical in
noncomputable def mkE (n : Int) (es : List (Int × Int)) : Int := if OkM n es then 0 else 2
open Classical in
noncomputable def mkR (n : Int) (es : List (Int × Int)) : List (List Int) := if OkM n es then makeG n.toNat es else []
theorem MakeRes.gres {n : Int} {es : List (Int × Int)} {B : Nat} (h : MakeRes n es B e w') : GRes (mkR n es) (mkE n es) e w' := by
  unfold mkR mkE
  rcases h with ⟨h, rfl⟩ | ⟨h, ao, co, ms, rfl, ho⟩
  · rw [if_neg h, if_neg h]; exact ⟨_, _, _, rfl, isRows_nil _, by omega⟩
  · rw [if_pos h, if_pos h]; exact ⟨_, _, _, rfl, ho.read, by have := h.2.1; omega⟩
noncomputable def bkE (g : List (List Int)) : Int := if validGB g = true then 0 else 1
noncomputable def bkR (g : List (List Int)) : List (List Int) := if validGB g = true then backG g else []
theorem BackRes.gres {B : Nat} (hl : g.length = len) (h : BackRes g len B e w') : GRes (bkR g) (bkE g) e w' := by
  unfold bkR bkE
  rcases h with ⟨h, rfl⟩ | ⟨h, ao, co, ms, rfl, ho⟩
  · rw [validGB_no h]; exact ⟨_, _, _, rfl, isRows_nil _, by omega⟩
  · rw [validGB_yes h]; exact ⟨_, _, _, rfl, ho.read, by have := h.1; omega⟩
noncomputable def cpR (g : List (List Int)) : List (List Int) := if validGB g = true then compG g else []
theorem compG_le (g : List (List Int)) : (compG g).length ≤ g.length := by rw [compG_length]; exact rts_len _ _
theorem CompRes.gres {B : Nat} (h : CompRes g B e w') : GRes (cpR g) (bkE g) e w' := by
  unfold cpR bkE
  rcases h with ⟨h, rfl⟩ | ⟨h, ao, co, ms, rfl, ho⟩
  · rw [validGB_no h]; exact ⟨_, _, _, rfl, isRows_nil _, by omega⟩
  · rw [validGB_yes h]; exact ⟨_, _, _, rfl, ho.read, by have := h.1; have := compG_le g; omega⟩
open Classical in
/-- The distances of a graph's nodes from some nodes, or none. -/
noncomputable def dsR (g : List (List Int)) (l : List Int) : List Int := if h : checkV g l = 0 ∧ ∃ zs, DistL g l zs then Classical.choose h.2 else []
theorem dsR_of {l zs : List Int} (hc : checkV g l = 0) (h : DistL g l zs) : dsR g l = zs := by
  have hx : checkV g l = 0 ∧ ∃ zs, DistL g l zs := ⟨hc, zs, h⟩
  unfold dsR
  rw [dif_pos hx]
  exact (Classical.choose_spec hx.2).uniq h
theorem dsR_no {l : List Int} (hc : checkV g l ≠ 0) : dsR g l = [] := by
  unfold dsR
  rw [dif_neg fun h => hc h.1]
theorem DistRes.lres {l : List Int} {B : Nat} (hl : g.length = len) (h : DistRes g l len B e w') : LRes (dsR g l) (checkV g l) e w' ∧ (checkV g l = 0 → DistL g l (dsR g l)) := by
  rcases h with ⟨h, rfl⟩ | ⟨h, ad, cd, zs, rfl, ho, hz⟩
  · rw [dsR_no h]; exact ⟨⟨_, _, _, rfl, isRow_nil _, by omega⟩, fun e => absurd e h⟩
  · rw [dsR_of h hz, h]; exact ⟨⟨_, _, _, rfl, .inl (IsInts.of_owns ho).1, by have := (checkV_zero.1 h).1.1; omega⟩, fun _ => hz⟩
/-- The nodes that are reached. -/
noncomputable def rcR (g : List (List Int)) (l : List Int) : List Int := if checkV g l = 0 then reachL (dsR g l) g.length else []
theorem reachL_len (zs : List Int) (k : Nat) : (reachL zs k).length ≤ k := rowE_len _ _
theorem ReachRes.lres {l : List Int} {B : Nat} (hl : g.length = len) (h : ReachRes g l len B e w') : LRes (rcR g l) (checkV g l) e w' ∧ (checkV g l = 0 → DistL g l (dsR g l)) := by
  unfold rcR
  rcases h with ⟨h, rfl⟩ | ⟨h, ad, k, cd, zs, rfl, hk, ho, hz⟩
  · rw [if_neg h]; exact ⟨⟨_, _, _, rfl, isRow_nil _, by omega⟩, fun e => absurd e h⟩
  · rw [if_pos h, dsR_of h hz, hl, h]; exact ⟨⟨_, _, _, rfl, .inl (IsInts.of_owns ho).1, by have := (checkV_zero.1 h).1.1; have := reachL_len zs len; omega⟩, fun _ => hz⟩
open Classical in
/-- The least topological order, or none. -/
noncomputable def orA (g : List (List Int)) : Option (List Nat) := if h : ∃ r, OrdAns g g.length r then Classical.choose h else none
theorem orA_of {r : Option (List Nat)} (h : OrdAns g g.length r) : orA g = r := by
  have hx : ∃ r, OrdAns g g.length r := ⟨r, h⟩
  unfold orA
  rw [dif_pos hx]
  exact (Classical.choose_spec hx).uniq h
noncomputable def orE (g : List (List Int)) : Int := if validGB g = true then (match orA g with | some _ => 0 | none => 6) else 1
noncomputable def orR (g : List (List Int)) : List Int := if validGB g = true then (match orA g with | some o => o.map Int.ofNat | none => []) else []
theorem OrdAns.full {out : List Nat} (h : OrdAns g g.length (some out)) : out.length = g.length := by
  rcases h with ⟨o, e, _, h⟩ | ⟨e, _⟩
  · injection e with e; rw [e]; exact h
  · cases e
theorem OrdRes.lres {B : Nat} (h : OrdRes g B e w') : LRes (orR g) (orE g) e w' ∧ (ValidG g → OrdAns g g.length (orA g)) := by
  unfold orR orE
  rcases h with ⟨h, rfl⟩ | ⟨h, ⟨h1, rfl⟩ | ⟨ao, co, out, h1, rfl, ho⟩⟩
  · rw [validGB_no h]; exact ⟨⟨_, _, _, rfl, isRow_nil _, by omega⟩, fun e => absurd e h⟩
  · rw [validGB_yes h, orA_of h1]; exact ⟨⟨_, _, _, rfl, isRow_nil _, by omega⟩, fun _ => h1⟩
  · rw [validGB_yes h, orA_of h1]; exact ⟨⟨_, _, _, rfl, .inl (IsInts.of_owns ho).1, by have := h1.full; have := h.1; omega⟩, fun _ => h1⟩

theorem back_g (hg : IsRows w a len cap g) :
    Calls Try.prog 30 #[.slice a len cap] w fun e w' => GRes (bkR g) (bkE g) e w' ∧ Below w.heap.size w w' := (back_any hg).mono fun _ _ h => ⟨h.1.gres hg.length, h.2⟩
theorem refBack_g (hg : IsRows w a len cap g) :
    Calls Try.prog 35 #[.slice a len cap] w fun e w' => GRes (bkR g) (bkE g) e w' ∧ Below w.heap.size w w' := (refBack_any hg).mono fun _ _ h => ⟨h.1.gres hg.length, h.2⟩
theorem comps_g (hg : IsRows w a len cap g) :
    Calls Try.prog 15 #[.slice a len cap] w fun e w' => GRes (cpR g) (bkE g) e w' ∧ Below w.heap.size w w' := (comps_any hg).mono fun _ _ h => ⟨h.1.gres, h.2⟩
theorem dist_l {al : Option Addr} {ll cl : Nat} {l : List Int} (hg : IsRows w a len cap g) (hl : IsRow .i64 w al ll cl l) :
    Calls Try.prog 22 #[.slice a len cap, .slice al ll cl] w fun e w' => (LRes (dsR g l) (checkV g l) e w' ∧ Hid (checkV g l = 0 → DistL g l (dsR g l))) ∧ Below w.heap.size w w' := (dist_any hg hl).mono fun _ _ h => ⟨⟨(h.1.lres hg.length).1, Lib.hid (h.1.lres hg.length).2⟩, h.2⟩
theorem refDist_l {al : Option Addr} {ll cl : Nat} {l : List Int} (hg : IsRows w a len cap g) (hl : IsRow .i64 w al ll cl l) :
    Calls Try.prog 26 #[.slice a len cap, .slice al ll cl] w fun e w' => (LRes (dsR g l) (checkV g l) e w' ∧ Hid (checkV g l = 0 → DistL g l (dsR g l))) ∧ Below w.heap.size w w' := (refDist_any hg hl).mono fun _ _ h => ⟨⟨(h.1.lres hg.length).1, Lib.hid (h.1.lres hg.length).2⟩, h.2⟩
theorem reach_l {al : Option Addr} {ll cl : Nat} {l : List Int} (hg : IsRows w a len cap g) (hl : IsRow .i64 w al ll cl l) :
    Calls Try.prog 24 #[.slice a len cap, .slice al ll cl] w fun e w' => (LRes (rcR g l) (checkV g l) e w' ∧ Hid (checkV g l = 0 → DistL g l (dsR g l))) ∧ Below w.heap.size w w' := (reach_any hg hl).mono fun _ _ h => ⟨⟨(h.1.lres hg.length).1, Lib.hid (h.1.lres hg.length).2⟩, h.2⟩
theorem refReach_l {al : Option Addr} {ll cl : Nat} {l : List Int} (hg : IsRows w a len cap g) (hl : IsRow .i64 w al ll cl l) :
    Calls Try.prog 25 #[.slice a len cap, .slice al ll cl] w fun e w' => (LRes (rcR g l) (checkV g l) e w' ∧ Hid (checkV g l = 0 → DistL g l (dsR g l))) ∧ Below w.heap.size w w' := (refReach_any hg hl).mono fun _ _ h => ⟨⟨(h.1.lres hg.length).1, Lib.hid (h.1.lres hg.length).2⟩, h.2⟩
theorem order_l (hg : IsRows w a len cap g) :
    Calls Try.prog 13 #[.slice a len cap] w fun e w' => (LRes (orR g) (orE g) e w' ∧ Hid (ValidG g → OrdAns g g.length (orA g))) ∧ Below w.heap.size w w' := (order_any hg).mono fun _ _ h => ⟨⟨h.1.lres.1, Lib.hid h.1.lres.2⟩, h.2⟩
end Go.Proofs.Ytlogmgkjikamaaa
