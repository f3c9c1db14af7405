/-
  Make, reversed, Back.
-/
import Derived.Test.YtlogmgkjikamaaaGraE
set_option linter.unusedSimpArgs false
set_option linter.unusedVariables false
set_option maxHeartbeats 4000000
namespace Go.Proofs.Ytlogmgkjikamaaa
open Go.RowKit
attribute [local go_sem] Oper.semAt_some

variable {a : Option Addr} {len cap : Nat} {g : List (List Int)} {w : World}

theorem InN.snoc {N : Nat} {es : List (Int × Int)} {e : Int × Int} (h : InN N es) (he : (0 ≤ e.1 ∧ e.1 < (N : Int)) ∧ 0 ≤ e.2 ∧ e.2 < (N : Int)) : InN N (es ++ [e]) := by
  intro x hx
  rcases List.mem_append.1 hx with hx | hx
  · exact h x hx
  · rw [List.mem_singleton.1 hx]; exact he
def OkM (n : Int) (es : List (Int × Int)) : Prop := 0 ≤ n ∧ n ≤ 400 ∧ InN n.toNat es
/-- What Make returns. -/
def MakeRes (n : Int) (es : List (Int × Int)) (B : Nat) (e : Ending) (w' : World) : Prop :=
  (¬ OkM n es ∧ e = .returned (.tuple #[.slice none 0 0, .int .i64 2])) ∨ (OkM n es ∧ ∃ ao co ms, e = .returned (.tuple #[.slice ao n.toNat co, .int .i64 0]) ∧ OwnG w' B 25 3 ao n.toNat co ms ms (makeG n.toNat es))

def revRow (l : List Int) (i : Nat) : List (Int × Int) := l.map fun z => (z, (i : Int))
def revTo (g : List (List Int)) (i : Nat) : List (Int × Int) := (List.range i).flatMap fun r => revRow (gr g r) r
theorem revTo_succ (g : List (List Int)) (i : Nat) : revTo g (i + 1) = revTo g i ++ revRow (gr g i) i := by
  unfold revTo
  rw [List.range_succ, List.flatMap_append]
  simp
theorem revRow_succ (l : List Int) (i : Nat) {k : Nat} (hk : k < l.length) : revRow (l.take (k + 1)) i = revRow (l.take k) i ++ [(gi l k, (i : Int))] := by
  rw [take_succ_gi l k hk]
  simp [revRow]
theorem mem_revTo {g : List (List Int)} {i : Nat} {e : Int × Int} : e ∈ revTo g i ↔ ∃ r, r < i ∧ e.1 ∈ gr g r ∧ e.2 = (r : Int) := by
  unfold revTo
  rw [List.mem_flatMap]
  constructor
  · rintro ⟨r, hr, he⟩
    obtain ⟨z, hz, rfl⟩ := List.mem_map.1 he
    exact ⟨r, List.mem_range.1 hr, hz, rfl⟩
  · rintro ⟨r, hr, h1, h2⟩
    exact ⟨r, List.mem_range.2 hr, List.mem_map.2 ⟨e.1, h1, by rw [← h2]⟩⟩
theorem rev_in {g : List (List Int)} (hv : ValidG g) : InN g.length (revTo g g.length) := by
  intro e he
  obtain ⟨r, hr, h1, h2⟩ := mem_revTo.1 he
  have := (hv.2 _ (gr_mem hr)).2 _ h1
  omega
theorem rev_make {g : List (List Int)} (hv : ValidG g) : makeG g.length (revTo g g.length) = backG g := by
  unfold makeG backG
  refine graphE_congr fun a b ha hb => ?_
  rw [Bool.eq_iff_iff, prB_iff, geB_iff, mem_revTo]
  constructor
  · rintro ⟨r, _, h1, h2⟩
    have : r = b := by simp only at h2; omega
    subst this
    exact h1
  · intro h
    exact ⟨b, hb, h, rfl⟩
theorem asc_len {l : List Int} {N : Nat} (h : Asc l) (hb : ∀ z ∈ l, 0 ≤ z ∧ z < (N : Int)) : l.length ≤ N := by
  have key : ∀ (l : List Int) (lo : Int), Asc l → (∀ z ∈ l, lo ≤ z ∧ z < (N : Int)) → lo ≤ N → (l.length : Int) ≤ N - lo := by
    intro l
    induction l with
    | nil => intro lo _ _ h; simp; omega
    | cons x l ih =>
      intro lo h1 h2 h3
      have h1' := List.pairwise_cons.1 h1
      have hx := h2 x List.mem_cons_self
      have := ih (x + 1) h1'.2 (fun z hz => by have a := h1'.1 z hz; have b := h2 z (List.mem_cons_of_mem _ hz); omega) (by omega)
      rw [List.length_cons]
      omega
  have := key l 0 h (fun z hz => hb z hz) (by omega)
  omega
theorem row_len {g : List (List Int)} (hv : ValidG g) {i : Nat} (hi : i < g.length) : (gr g i).length ≤ 400 := by
  have h1 := hv.2 _ (gr_mem hi)
  have := asc_len h1.1 h1.2
  have := hv.1
  omega
theorem revTo_len {g : List (List Int)} (hv : ValidG g) : ∀ i, i ≤ g.length → (revTo g i).length ≤ i * 400
  | 0, _ => by simp [revTo]
  | i + 1, hi => by
    have := revTo_len hv i (by omega)
    have h2 := row_len hv (i := i) (by omega)
    rw [revTo_succ, List.length_append]
    simp only [revRow, List.length_map]
    omega

set_option maxRecDepth 20000 in
theorem reversed_any (hg : IsRows w a len cap g) (hv : ValidG g) :
    Calls Try.prog 41 #[.slice a len cap] w fun e w' => ∃ ao co ms, e = .returned (.slice ao len co) ∧ OwnG w' w.heap.size 25 3 ao len co ms ms (backG g) ∧ Below w.heap.size w w' := by
  have hl := hg.length
  have HL := Lib.hid hl
  have hN4 : len ≤ 400 := by rw [← hl]; exact hv.1
  have HN := Lib.hid hN4
  have HV := Lib.hid hv
  clear hl hv
  go_enter Try.func41, Try.ntmps41
  go_wp2_with (fail)
  go_loopw [3, 10] (fun v c W => ∃ (i : Nat) (ps : List (Int × Int)) (ao : Option Addr) (co : Nat), i ≤ len ∧ c = .int .i64 (i : Int) ∧ v = .slice ao ps.length co ∧ Hid (ps = revTo g i) ∧ W.ownsRow w.heap.size 56 2 (.slice ao ps.length co) ps.length (pvs ps) ∧ Below w.heap.size w W) (fun _ c _ => len - (intOf c).toNat)
  case atStart => exact ⟨0, [], none, 0, Nat.zero_le _, rfl, rfl, Lib.hid rfl, World.ownsRow_nil _ _ _ _, Below.refl _ _⟩
  case round =>
    obtain ⟨i, ps, ao, co, hi, rfl, rfl, HP, ho, hB⟩ := hrel
    rcases Nat.lt_or_ge i len with hlt | hge
    · have t1 : decide ((i : Int) < len) = true := decide_eq_true (by omega)
      obtain ⟨b, off, ai, li, ci, rfl, hcell, hrow⟩ := hg.fix i hlt
      have hc := hcell wr hB
      have HRL : Hid ((gr g i).length = li) := Lib.hid hrow.length
      have hli : li ≤ 400 := by rw [← HRL.out]; exact row_len HV.out (by rw [HL.out]; exact hlt)
      have hP0 : Hid (ps = revTo g i ++ revRow ((gr g i).take 0) i) := Lib.hid (by rw [HP.out]; simp [revRow])
      have HLI := Lib.hid hli
      clear hcell
      go_wp2_with (fail)
      go_loopw [3, 17] (fun v c W => ∃ (j : Nat) (ps : List (Int × Int)) (ao : Option Addr) (co : Nat), j ≤ li ∧ c = .int .i64 (j : Int) ∧ v = .slice ao ps.length co ∧ Hid (ps = revTo g i ++ revRow ((gr g i).take j) i) ∧ W.ownsRow w.heap.size 56 2 (.slice ao ps.length co) ps.length (pvs ps) ∧ Below w.heap.size w W) (fun _ c _ => li - (intOf c).toNat)
      case atStart => exact ⟨0, ps, ao, co, Nat.zero_le _, rfl, rfl, hP0, ho, hB⟩
      case round =>
        clear ho hB hc hP0 HP
        obtain ⟨j, ps, ao, co, hj, rfl, rfl, HP, ho, hB⟩ := hrel
        rcases Nat.lt_or_ge j li with hjl | hjg
        · have t2 : decide ((j : Int) < li) = true := decide_eq_true (by omega)
          obtain ⟨br, o2, rfl, hcz⟩ := hrow.fix j hjl
          have hz := hcz wr hB
          obtain ⟨z, hzz⟩ : ∃ z, gi (gr g i) j = z := ⟨_, rfl⟩
          rw [hzz] at hz
          have hpl : Hid (ps.length ≤ 200000) := Lib.hid (by
            have h1 := revTo_len HV.out i (by rw [HL.out]; omega)
            have h2 := HN.out
            have h3 := HLI.out
            rw [HP.out, List.length_append]
            simp only [revRow, List.length_map, List.length_take]
            omega)
          have HP2 : Hid (ps ++ [(z, (i : Int))] = revTo g i ++ revRow ((gr g i).take (j + 1)) i) := Lib.hid (by rw [HP.out, revRow_succ _ _ (by rw [HRL.out]; exact hjl), hzz, List.append_assoc])
          clear hcz hzz
          go_wp2_with (at_builtin; refine app_pair elPr rfl _ _ rfl rfl ho rfl (by have := hpl.out; omega) hB.size ?_; intro a1 c1 w1 ho1 hb1 hs1)
          go_roundw
          case rel => exact ⟨j + 1, ps ++ [(z, (i : Int))], a1, c1, hjl, by go_num, by rw [List.length_append]; rfl, HP2, by rw [List.length_append]; exact ho1, hB.trans hb1⟩
          case measure => simp [intOf]; omega
        · obtain rfl : j = li := by omega
          have t2 : decide ((j : Int) < j) = false := decide_eq_false (by omega)
          have HP2 : Hid (ps = revTo g (i + 1)) := Lib.hid (by rw [HP.out, revTo_succ, List.take_of_length_le (by rw [HRL.out]; exact Nat.le_refl _)])
          go_wp2_with (fail)
          go_roundw
          case rel => exact ⟨i + 1, ps, ao, co, hlt, by go_num, rfl, HP2, ho, hB⟩
          case measure => simp [intOf]; omega
    · obtain rfl : i = len := by omega
      have t1 : decide ((i : Int) < i) = false := decide_eq_false (by omega)
      obtain ⟨hI, -⟩ := IsPairs.of_owns ho
      have hpl : ps.length ≤ 1000000 := by
        have h1 := revTo_len HV.out i (by rw [HL.out]; omega)
        have h2 := HN.out
        rw [HP.out]; omega
      have hs := sorted_any HN.out hI (by rw [HP.out]; have := rev_in HV.out; rwa [HL.out] at this) hpl
      have hm : makeG i ps = backG g := by rw [HP.out]; have := rev_make HV.out; rwa [HL.out] at this
      rw [hm] at hs
      clear ho hI hm hpl
      go_wp2_with (fail)
      go_at_call 37
      refine hs.mono ?_
      rintro e w2 ⟨ao2, co2, ms, rfl, hG, hb2⟩
      clear hs
      go_wp2
      go_ret
      exact ⟨ao2, co2, ms, rfl, hG.base hB.size, hB.trans (hb2.mono hB.size)⟩

/-- What Back returns. -/
def BackRes (g : List (List Int)) (len B : Nat) (e : Ending) (w' : World) : Prop :=
  (¬ ValidG g ∧ e = .returned (.tuple #[.slice none 0 0, .int .i64 1])) ∨ (ValidG g ∧ ∃ ao co ms, e = .returned (.tuple #[.slice ao len co, .int .i64 0]) ∧ OwnG w' B 25 3 ao len co ms ms (backG g))
theorem back_any (hg : IsRows w a len cap g) :
    Calls Try.prog 30 #[.slice a len cap] w fun e w' => BackRes g len w.heap.size e w' ∧ Below w.heap.size w w' := by
  have hval := valid_any hg
  by_cases hv : ValidG g
  · rw [validGB_yes hv] at hval
    have hrev := reversed_any hg hv
    have HV := Lib.hid hv
    clear hv
    go_enter Try.func30, Try.ntmps30
    go_wp2_with (go_at_call 32; refine hval.mono ?_; rintro e w' ⟨rfl, rfl⟩)
    go_at_call 41
    refine hrev.mono ?_
    rintro e w2 ⟨ao, co, ms, rfl, hG, hb⟩
    clear hrev hval
    go_wp2
    go_ret2
    exact ⟨.inr ⟨HV.out, ao, co, ms, rfl, hG⟩, hb⟩
  · rw [validGB_no hv] at hval
    have HV := Lib.hid hv
    clear hv
    go_enter Try.func30, Try.ntmps30
    go_wp2_with (go_at_call 32; refine hval.mono ?_; rintro e w' ⟨rfl, rfl⟩)
    go_ret2
    exact ⟨.inl ⟨HV.out, rfl⟩, Below.refl _ _⟩
end Go.Proofs.Ytlogmgkjikamaaa
