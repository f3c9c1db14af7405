/-
  The walks of the reference: Open, Valid, Crash, Cells.
-/
import Derived.Test.YtpmhnmkpmkeadaaWalQ
set_option linter.unusedSimpArgs false
set_option linter.unusedVariables false
set_option maxHeartbeats 4000000
namespace Go.Proofs.Ytpmhnmkpmkeadaa
open Go.RowKit

theorem ref_load_log {W : World} {b : Nat} {u v : Value} (h : Box2 W b u v) : (loadVar 46 ⟨b, 0, none⟩).run Try.prog W = .ok (.agg #[u, v]) W := by
  obtain ⟨T, h⟩ := h
  exact run_loadVar_row W b T 46 #[u, v] (0, 0) _ h Try.underlying46 rfl (by kernel_rfl)
theorem ref_res_log_tmp {fn : Func} {p t : Tmp} (hf : fn.results = #[.cell p 46, .tmp t]) {W : World} {tmps : Array Value} {b : Nat} {u v x : Value} (hp : tmps[p]?.getD undef = .pointer (some ⟨b, 0, none⟩)) (hx : tmps[t]?.getD undef = x) (h : Box2 W b u v) :
    (results fn tmps).run Try.prog W = .ok (.tuple #[.agg #[u, v], x]) W := by
  simp [results, hf, hp, hx, asAddr, ref_load_log h]
theorem ref_res_log {fn : Func} {p : Tmp} (hf : fn.results = #[.cell p 46]) {W : World} {tmps : Array Value} {b : Nat} {u v : Value} (hp : tmps[p]?.getD undef = .pointer (some ⟨b, 0, none⟩)) (h : Box2 W b u v) :
    (results fn tmps).run Try.prog W = .ok (.agg #[u, v]) W := by
  simp [results, hf, hp, asAddr, ref_load_log h]

theorem ret_dec {p : Prop} [Decidable p] {b : Bool} (h : b = decide p) : Ending.returned (.bool b) = .returned (.bool (decide p)) := by rw [h]
theorem refCells_any (a : Option Addr) (len cap : Nat) (w : World) (hlen : len ≤ 1000000000) :
    Calls Try.prog 25 #[.slice a len cap] w fun e w' => e = .returned (.int .i64 (cellsN len)) ∧ w = w' := by
  go_enter Try.func25, Try.ntmps25
  by_cases h0 : len = 0
  · subst h0
    go_wp2
    go_ret
    exact ⟨rfl, rfl⟩
  · obtain ⟨c, hc⟩ : ∃ c, cellsN len = c := ⟨_, rfl⟩
    have e1 : ((len : Int) + 22 - 1) / 22 = (c : Int) := by
      rw [← hc]; unfold cellsN; split <;> omega
    have hc0 : 0 < c := by rw [← hc]; exact cellsN_pos _
    have d0 : ((c : Int) == 0) = false := by simp; omega
    rw [hc]
    clear hc
    go_wp2
    go_ret
    exact ⟨ret_int e1, rfl⟩

theorem refOpen_any (a : Option Addr) (len cap : Nat) (zs : List Int) (w : World) (hs : IsInts .u8 w a len cap zs) (hb : Bytes zs) (hlen : len ≤ 100000) :
    Calls Try.prog 20 #[.slice a len cap] w fun e w' => ∃ k e' rv af cf U, e = .returned (.tuple #[.agg #[.slice af U cf, .int .i64 U], rv]) ∧ ReadIs zs k e' ∧ (U : Int) = lastD (stB zs k).ends ∧ w'.ownsRow w.heap.size 5 1 (.slice af U cf) U (ivs .u8 (zs.take U)) ∧ RecSt w' w.heap.size w'.heap.size rv (stB zs k).recs (.slice none 0 0) [] ∧ Below w.heap.size w w' := by
  have hcap := hs.cap
  unfold maxLen at hcap
  have hz := hs.length
  have hs1 := hs.later ((Below.refl _ w).alloc (Nat.le_refl _) (.cells #[.slice none 0 0, .int .i64 0] 46))
  go_enter Try.func20, Try.ntmps20
  have hbA : Below w.heap.size w (w.alloc (.cells #[.slice none 0 0, .int .i64 0] 46)) := (Below.refl _ w).alloc (Nat.le_refl _) _
  go_wp2_with (fail)
  refine (refRead_any _ _ _ _ _ hs1 hb hlen).mono ?_
  rintro e w1 ⟨k, e', rv, rfl, hR, hS, hb1⟩
  obtain ⟨ar, cr, hrv, hrec⟩ := hS.recs
  subst hrv
  obtain ⟨l0, l1⟩ := lastD_le zs k hR.cells
  obtain ⟨U, hU0⟩ : ∃ U : Nat, lastD (stB zs k).ends = U := ⟨(lastD (stB zs k).ends).toNat, by omega⟩
  have hU := Lib.hid hU0
  rw [hU0] at l1 ⊢
  clear hU0 l0
  have hb1' : Below w.heap.size w w1 := hbA.trans (hb1.mono hbA.size)
  have hbx := ((Box2.new w (.slice none 0 0) (.int .i64 0) 46).later hb1)
  have hbl : Below w1.heap.size w1 (w1.alloc (.cells #[] 5)) := (Below.refl _ w1).alloc (Nat.le_refl _) _
  have hsU : IsInts .u8 (w1.alloc (.cells #[] 5)) a U cap (zs.take U) := by
    have := (((hs1.later hb1).later hbl)).slice 0 U cap (by omega) (by omega) (by omega) (by omega) (a' := a) (fun h => (by cases a with | none => rfl | some x => simp [Addr.add])) (fun _ => rfl)
    simpa using this
  go_wp2_with (first | (at_builtin; refine app_ints0 (k := .u8) (v := .slice (some ⟨w1.heap.size, 0, none⟩) 0 0) elU8 rfl _ _ rfl rfl (World.ownsRow_made _ _ _ (Nat.le_refl _) (by decide) rfl) rfl hsU (by omega) (by simp) ?_; intro a2 c2 w2 h2 hgr hbel hnil; clear hnil hgr; have hb2 := hbl.trans hbel; have hbx2 := hbx.later hb2; obtain ⟨q0, q1, q2, q3⟩ := hbx2.cells) | fail)
  have hst := hbx2.store (.slice a2 U c2) (.int .i64 (U : Int))
  have hB : Below w.heap.size w2 ((w2.setCell ⟨w.heap.size, 0, none⟩ (.slice a2 U c2)).setCell ⟨w.heap.size, 1, none⟩ (.int .i64 (U : Int))) := ((Below.refl _ _).setCell (p := ⟨w.heap.size, 0, none⟩) (Nat.le_refl _) _).setCell (p := ⟨w.heap.size, 1, none⟩) (Nat.le_refl _) _
  have hlt : w.heap.size < w1.heap.size := by have := hb1.size; simp at this; omega
  have hlt0 : w.heap.size < (w.alloc (.cells #[.slice none 0 0, .int .i64 0] 46)).heap.size := by simp
  have hfin := ownsRow_setCell_below (ownsRow_setCell_below h2 (a := ⟨w.heap.size, 0, none⟩) hlt (.slice a2 U c2)) (a := ⟨w.heap.size, 1, none⟩) hlt (.int .i64 (U : Int))
  have hSf := ((hS.later hb2).setBelow (p := ⟨w.heap.size, 0, none⟩) hlt0 (.slice a2 U c2)).setBelow (p := ⟨w.heap.size, 1, none⟩) hlt0 (.int .i64 (U : Int))
  exact bodyPost_ret (ref_res_log_tmp rfl rfl rfl hst) rfl ⟨k, e', _, _, _, U, rfl, hR, hU.out.symm, hfin.from_mono (Nat.le_of_lt hlt), (hSf.base_mono (Nat.le_of_lt hlt0)).mono (by simpa using hb2.size), (hb1'.trans (hb2.mono hb1'.size)).trans hB⟩

theorem refValid_any (a : Option Addr) (len cap : Nat) (zs : List Int) (s : Int) (w : World) (hs : IsInts .u8 w a len cap zs) (hb : Bytes zs) (hlen : len ≤ 100000) :
    Calls Try.prog 22 #[.agg #[.slice a len cap, .int .i64 s]] w fun e w' => ∃ k e', e = .returned (.bool (decide (e' = 0 ∧ (s = 0 ∨ s ∈ (stB zs k).ends)))) ∧ ReadIs zs k e' ∧ Below w.heap.size w w' := by
  have hcap := hs.cap
  unfold maxLen at hcap
  have hbA : Below w.heap.size w (w.alloc (.cells #[.slice a len cap, .int .i64 s] 46)) := (Below.refl _ w).alloc (Nat.le_refl _) _
  have hs1 := hs.later hbA
  have hbx := Box2.new w (.slice a len cap) (.int .i64 s) 46
  have hc0 := hbx.cells.1
  go_enter Try.func22, Try.ntmps22
  go_wp2_with (fail)
  refine (refRead_any _ _ _ _ _ hs1 hb hlen).mono ?_
  rintro e w1 ⟨k, e', rv, rfl, hR, hS, hb1⟩
  have hbx1 := hbx.later hb1
  obtain ⟨q0, q1, -, -⟩ := hbx1.cells
  have hb1' : Below w.heap.size w w1 := hbA.trans (hb1.mono hbA.size)
  have hs2 := hs1.later hb1
  have hin : ∀ x ∈ (stB zs k).ends, 0 < x ∧ x ≤ len := by
    intro x hx
    obtain ⟨j, hj, -, rfl⟩ := (mem_ends _ _ _).1 hx
    have := hR.cells
    rw [hs.length] at this
    omega
  have HIN := Lib.hid hin
  clear hin
  obtain ⟨LD, hLD⟩ : ∃ LD, lastD (stB zs k).ends = LD := ⟨_, rfl⟩
  rw [hLD]
  clear hLD hS
  by_cases he : e' = 0
  · subst he
    by_cases h0 : s < 0
    · have d0 : decide (s < 0) = true := decide_eq_true h0
      go_wp2_with (fail)
      go_ret
      have hno : ¬ ((0 : Int) = 0 ∧ (s = 0 ∨ s ∈ (stB zs k).ends)) := by
        rintro ⟨-, h | h⟩
        · omega
        · have := (HIN.out s h).1
          omega
      exact ⟨k, 0, ret_dec (decide_eq_false hno).symm, hR, hb1'⟩
    have d0 : decide (s < 0) = false := decide_eq_false h0
    by_cases h1 : (len : Int) < s
    · have d1 : decide ((len : Int) < s) = true := decide_eq_true h1
      go_wp2_with (fail)
      go_ret
      have hno : ¬ ((0 : Int) = 0 ∧ (s = 0 ∨ s ∈ (stB zs k).ends)) := by
        rintro ⟨-, h | h⟩
        · omega
        · have := (HIN.out s h).2
          omega
      exact ⟨k, 0, ret_dec (decide_eq_false hno).symm, hR, hb1'⟩
    have d1 : decide ((len : Int) < s) = false := decide_eq_false h1
    obtain ⟨S, rfl⟩ := Int.eq_ofNat_of_zero_le (show 0 ≤ s by omega)
    have hSl : S ≤ len := by omega
    have hcut : IsInts .u8 w1 a S cap (zs.take S) := by
      have := hs2.slice 0 S cap (by omega) (by omega) (by omega) (by omega) (a' := a) (fun h => (by cases a with | none => rfl | some x => simp [Addr.add])) (fun _ => rfl)
      simpa using this
    obtain ⟨e2, hR2, he2⟩ := read_take hR (s := S) (by rw [hs.length]; exact hSl)
    have HE2 := Lib.hid he2
    have HR2 := Lib.hid hR2
    clear he2 hR2
    go_wp2_with (fail)
    refine (refRead_any _ _ _ _ _ hcut (hb.take _) (by omega)).mono ?_
    rintro e w2 ⟨k3, e3, rv3, rfl, hR3, hS3, hb3⟩
    obtain ⟨-, rfl⟩ := HR2.out.uniq hR3
    obtain ⟨ar3, cr3, hrv3, -⟩ := hS3.recs
    subst hrv3
    clear hR3 hS3 HR2
    go_wp2_with (fail)
    go_ret
    have hdd : (e2 == 0) = decide ((0 : Int) = 0 ∧ ((S : Int) = 0 ∨ (S : Int) ∈ (stB zs k).ends)) := by
      rw [Bool.eq_iff_iff, beq_iff_eq, decide_eq_true_eq, HE2.out]
      constructor
      · rintro (h | h)
        · exact ⟨rfl, .inl (by omega)⟩
        · exact ⟨rfl, .inr h⟩
      · rintro ⟨-, h | h⟩
        · exact .inl (by omega)
        · exact .inr h
    exact ⟨k, 0, ret_dec hdd, hR, hb1'.trans (hb3.mono hb1'.size)⟩
  · have d0 : (e' != 0) = true := by simpa using he
    have H0 := Lib.hid he
    clear he
    go_wp2_with (fail)
    go_ret
    exact ⟨k, e', by simp [H0.out], hR, hb1'⟩

theorem refCrash_any (a : Option Addr) (len cap : Nat) (zs : List Int) (s keep : Int) (w : World) (hs : IsInts .u8 w a len cap zs) (hlen : len ≤ 100000) (h0 : -9223372036854775808 ≤ keep) (h1 : keep ≤ 9223372036854775807) :
    Calls Try.prog 23 #[.agg #[.slice a len cap, .int .i64 s], .int .i64 keep] w fun e w' => (∃ a' n' c', e = .returned (.slice a' n' c') ∧ w'.ownsRow w.heap.size 5 1 (.slice a' n' c') n' (ivs .u8 (crashL zs s keep))) ∧ Below w.heap.size w w' := by
  have hbA : Below w.heap.size w (w.alloc (.cells #[.slice a len cap, .int .i64 s] 46)) := (Below.refl _ w).alloc (Nat.le_refl _) _
  have hs1 := hs.later hbA
  have hcap := hs.cap
  unfold maxLen at hcap
  have hbx := Box2.new w (.slice a len cap) (.int .i64 s) 46
  obtain ⟨hc0, hc1, -, -⟩ := hbx.cells
  by_cases hs0 : s < 0
  · have d0 : decide (s < 0) = true := decide_eq_true hs0
    go_enter Try.func23, Try.ntmps23
    go_wp2
    go_ret
    exact ⟨⟨none, 0, 0, rfl, by rw [crashL_lo hs0]; exact World.ownsRow_nil _ _ _ _⟩, hbA⟩
  have d0 : decide (s < 0) = false := decide_eq_false hs0
  by_cases hsl : (len : Int) < s
  · have d1 : decide ((len : Int) < s) = true := decide_eq_true hsl
    go_enter Try.func23, Try.ntmps23
    go_wp2
    go_ret
    exact ⟨⟨none, 0, 0, rfl, by rw [crashL_hi (by rw [hs.length]; exact hsl)]; exact World.ownsRow_nil _ _ _ _⟩, hbA⟩
  have d1 : decide ((len : Int) < s) = false := decide_eq_false hsl
  obtain ⟨S, rfl⟩ := Int.eq_ofNat_of_zero_le (show 0 ≤ s by omega)
  obtain ⟨mx, hmx⟩ : ∃ mx : Int, (if 0 < keep then keep else 0) = mx := ⟨_, rfl⟩
  have hmx2 : (if keep < 0 then 0 else keep) = mx := by rw [← hmx]; split <;> split <;> omega
  have hmx0 : 0 ≤ mx ∧ mx ≤ 9223372036854775807 := by rw [← hmx]; split <;> omega
  obtain ⟨Q, hQ⟩ : ∃ Q : Nat, mx % ((len : Int) - S + 1) = Q := ⟨(mx % ((len : Int) - S + 1)).toNat, by have := Int.emod_nonneg mx (show (len : Int) - S + 1 ≠ 0 by omega); omega⟩
  have hQ1 : S + Q ≤ len := by have := Int.emod_lt_of_pos mx (show 0 < (len : Int) - S + 1 by omega); omega
  have hbl := hbA.trans (((Below.refl _ (w.alloc (.cells #[.slice a len cap, .int .i64 (S : Int)] 46))).alloc (Nat.le_refl _) (.cells #[] 5)).mono hbA.size)
  have hcut : IsInts .u8 ((w.alloc (.cells #[.slice a len cap, .int .i64 (S : Int)] 46)).alloc (.cells #[] 5)) a (S + Q) cap (zs.take (S + Q)) := by
    have := (hs.later hbl).slice 0 (S + Q) cap (by omega) (by omega) (by omega) (by omega) (a' := a) (fun h => (by cases a with | none => rfl | some x => simp [Addr.add])) (fun _ => rfl)
    simpa using this
  have hmk : ((w.alloc (.cells #[.slice a len cap, .int .i64 (S : Int)] 46)).alloc (.cells #[] 5)).ownsRow w.heap.size 5 1 (.slice (some ⟨w.heap.size + 1, 0, none⟩) 0 0) 0 [] := by
    have := World.ownsRow_made (base := w.heap.size) (e := 5) (size := 1) (w.alloc (.cells #[.slice a len cap, .int .i64 (S : Int)] 46)) #[] 0 (by simp) (by decide) rfl
    simpa using this
  have hfin : Hid (crashL zs S keep = zs.take (S + Q)) := Lib.hid (by
    rw [crashL_in (by omega) (by rw [hs.length]; omega), keepN, hs.length, show max 0 keep = mx by rw [← hmx]; split <;> omega, hQ]
    congr 1)
  have hbx2 := hbx.later ((Below.refl _ _).alloc (Nat.le_refl _) (.cells #[] 5))
  obtain ⟨r0, r1, -, -⟩ := hbx2.cells
  go_enter Try.func23, Try.ntmps23
  go_wp2_with (at_builtin; refine app_ints0 (k := .u8) (v := .slice (some ⟨w.heap.size + 1, 0, none⟩) 0 0) elU8 rfl _ _ rfl rfl hmk rfl hcut (by omega) (by simp only [World.size_alloc]; omega) ?_; intro a2 c2 w2 h2 hgr hbel hnil; clear hnil hgr)
  go_ret
  exact ⟨⟨_, _, _, rfl, by rw [hfin.out]; exact h2⟩, hbl.trans hbel⟩
end Go.Proofs.Ytpmhnmkpmkeadaa
