/-
  finished: the walk.
-/
import Derived.Test.YtlogmgkjikamaaaGraP
import Derived.Deep.QuietTactic
import Derived.BigQuiet
import Derived.Test.YtlogmgkjikamaaaGraCr
set_option linter.unusedSimpArgs false
set_option linter.unusedVariables false
set_option maxHeartbeats 4000000
namespace Go.Proofs.Ytlogmgkjikamaaa
open Go.RowKit
attribute [local go_sem] Oper.semAt_some

variable {a : Option Addr} {len cap : Nat} {g : List (List Int)} {w : World}

theorem FinW.drop {W : World} {B N : Nat} {ss : List Bool} {out : List Nat} {vo vs : Value} {st : List (Nat × Nat)} (h : FinW W B N ss out vo st vs) : FinW W B N ss out vo [] (.slice none 0 0) :=
  ⟨h.len, h.seen, h.out, World.ownsRow_nil _ _ _ _, fun k _ e => by cases e⟩
theorem FinW.cells {W : World} {B N gs cs : Nat} {ss : List Bool} {out : List Nat} {vo : Value} {s0 : List (Nat × Nat)} {u k : Nat} (h : FinW W B N ss out vo (s0 ++ [(u, k)]) (.slice (some ⟨gs, 0, none⟩) (s0.length + 1) cs)) :
    W.cell? ⟨gs, s0.length * 2, none⟩ = some (.int .i64 (u : Int)) ∧ W.cell? ⟨gs, s0.length * 2 + 1, none⟩ = some (.int .i64 (k : Int)) ∧ W.frozen? ⟨gs, s0.length * 2 + 1, none⟩ = false := by
  obtain ⟨gs', cs', e, _, h1⟩ := h.top
  injection e with e1
  injection e1 with e1
  injection e1 with e1
  subst e1
  exact h1
theorem owns_base {W : World} {B B' e s n : Nat} {v : Value} {xs : List Value} (h : W.ownsRow B e s v n xs) (hb : B' ≤ B) : W.ownsRow B' e s v n xs :=
  ⟨h.1, h.2.imp id fun ⟨g, c, cur, e, hg, r⟩ => ⟨g, c, cur, e, Nat.le_trans hb hg, r⟩⟩
theorem FinW.room {W : World} {B N gs cs n : Nat} {ss : List Bool} {out : List Nat} {vo : Value} {st : List (Nat × Nat)} (h : FinW W B N ss out vo st (.slice (some ⟨gs, 0, none⟩) n cs)) : n ≤ cs ∧ cs ≤ 9223372036854775807 := by
  rcases h.st.2 with ⟨h0, _⟩ | ⟨g', c', cur, e, _, _, h1, h2, _⟩
  · cases h0
  · cases e
    unfold maxLen at h2
    exact ⟨h1, h2⟩
theorem Dfs.grow {g : List (List Int)} {N : Nat} {ss : List Bool} {out : List Nat} {s0 : List (Nat × Nat)} {u i k x : Nat} (hl : ss.length = N) (hD : Dfs g N (fun n => gb ss n = true) out (s0 ++ [(u, i)]) ∧ ∀ n, n < k + 1 → gb ss n = true) (hx : x < N) (hi : i < (gr g u).length) (hg : gi (gr g u) i = (x : Int)) (hs : gb ss x = false) (hk : k < N) :
    Dfs g N (fun n => gb (ss.set x true) n = true) out (s0 ++ [(u, i + 1)] ++ [(x, 0)]) ∧ ∀ n, n < k + 1 → gb (ss.set x true) n = true := by
  refine ⟨hD.1.push hx hi hg (by simp [hs]) (fun n hn => ?_), fun n hn => ?_⟩
  · rw [gb_put (by omega)]
    by_cases e : n = x <;> simp [e]
  · rw [gb_put (by omega)]
    by_cases e : n = x
    · simp [e]
    · rw [if_neg e]; exact hD.2 n hn
theorem st_cases (st : List (Nat × Nat)) : st = [] ∨ ∃ s0 u k, st = s0 ++ [(u, k)] := by
  rcases List.eq_nil_or_concat st with h | ⟨l, x, h⟩
  · exact .inl h
  · exact .inr ⟨l, x.1, x.2, by rw [h, List.concat_eq_append]⟩
/-- What the order of leaving of a whole search is. -/
def FinL (g : List (List Int)) (out : List Nat) : Prop := out.Nodup ∧ (∀ n, n ∈ out ↔ n < g.length) ∧ FinP (GE g) out

set_option maxRecDepth 20000 in
theorem finished_any (hg : IsRows w a len cap g) (hv : ValidG g) :
    Calls Try.prog 49 #[.slice a len cap] w fun e w' => ∃ vo out, e = .returned vo ∧ FinL g out ∧ w'.ownsRow w.heap.size 3 1 vo out.length (ivs .i64 (out.map Int.ofNat)) ∧ Below w.heap.size w w' := by
  have HL := Lib.hid hg.length
  have hN4 : len ≤ 400 := by rw [← hg.length]; exact hv.1
  have HN := Lib.hid hN4
  have HV := Lib.hid hv
  clear hv
  go_enter Try.func49, Try.ntmps49
  go_wp2_with (refine make_rows elBo rfl rfl _ _ rfl rfl rfl rfl rfl (by omega) (Nat.le_refl _) ?_; intro w1 ho1 hb1)
  have hF0 := FinW.init ho1
  clear ho1
  go_loopw [4, 14] (fun v c W => ∃ (k : Nat) (ss : List Bool) (out : List Nat), k ≤ len ∧ c = .int .i64 (k : Int) ∧ Hid (Dfs g len (fun n => gb ss n = true) out [] ∧ ∀ n, n < k → gb ss n = true) ∧ FinW W w.heap.size len ss out v [] (.slice none 0 0) ∧ Below w.heap.size w W) (fun _ c _ => len - (intOf c).toNat)
  case atStart => exact ⟨0, _, [], Nat.zero_le _, rfl, Lib.hid ⟨Dfs.nil _ _ (fun n hn => by rw [gb_eq _ _ (by simpa using hn)]; simp), fun n hn => by omega⟩, hF0, hb1⟩
  case round =>
    clear hF0 hb1
    obtain ⟨k, ss, out, hk, rfl, HD, hF, hB⟩ := hrel
    rcases Nat.lt_or_ge k len with hlt | hge
    · have t1 : decide ((k : Int) < len) = true := decide_eq_true (by omega)
      obtain ⟨hc, hf⟩ := hF.cell hlt
      obtain ⟨z, hz⟩ : ∃ z, gb ss k = z := ⟨_, rfl⟩
      rw [hz] at hc
      replace hz := Lib.hid hz
      cases z with
      | true =>
        have HD2 : Hid (Dfs g len (fun n => gb ss n = true) out [] ∧ ∀ n, n < k + 1 → gb ss n = true) := Lib.hid ⟨HD.out.1, fun n hn => by
          by_cases e : n = k
          · rw [e]; exact hz.out
          · exact HD.out.2 n (by omega)⟩
        go_wp2_with (fail)
        go_step3
        go_wp2_with (fail)
        rw [Exit.noGoto_exit]
        go_wp2_with (fail)
        go_roundw
        case rel => exact ⟨k + 1, ss, out, hlt, by go_num, HD2, hF, hB⟩
        case measure => simp [intOf]; omega
      | false =>
        have hF2 := hF.see k
        have hB2 := hB.setCell (p := ⟨w.heap.size, k, none⟩) (Nat.le_refl _) (.bool true)
        have HD2 : Hid (Dfs g len (fun n => gb (ss.set k true) n = true) out [(k, 0)] ∧ (∀ n, n < k + 1 → gb (ss.set k true) n = true)) := Lib.hid (by
          have hsl := hF.len
          refine ⟨HD.out.1.root hlt (by rw [hz.out]; simp) (fun n hn => ?_), fun n hn => ?_⟩
          · rw [gb_put (by omega)]
            by_cases e : n = k
            · simp [e]
            · simp [e]
          · rw [gb_put (by omega)]
            by_cases e : n = k
            · simp [e]
            · rw [if_neg e]; exact HD.out.2 n (by omega))
        go_wp2_with (fail)
        go_step3
        go_wp2_with (fail)
        go_step3
        obtain ⟨w5, hw5⟩ : ∃ w5, wr.setCell ⟨w.heap.size, k, none⟩ (.bool true) = w5 := ⟨_, rfl⟩
        rw [hw5] at hF2 hB2 ⊢
        have hs5 : Hid (w5.heap.size = wr.heap.size) := Lib.hid (by rw [← hw5, World.size_setCell])
        clear hw5
        have hF3 := hF2.start k
        rw [hs5.out] at hF3
        have hB3 := hB2.alloc (by have := hB2.size; exact this) (.cells #[.int .i64 (k : Int), .int .i64 0] 70)
        have hz2 := Lib.hid hz.out
        clear hF hB hF2 hB2 hc hf hz HD
        go_wp2_with (fail)
        go_loopg [4, 6] (2 * len - (2 * out.length + 1)) (fun q v s W => ∃ (ss : List Bool) (out : List Nat) (st : List (Nat × Nat)), Hid (2 * out.length + st.length + q = 2 * len) ∧ Hid (Dfs g len (fun n => gb ss n = true) out st ∧ ∀ n, n < k + 1 → gb ss n = true) ∧ FinW W w.heap.size len ss out v st s ∧ Below w.heap.size w W)
        case atStart => exact ⟨_, out, [(k, 0)], Lib.hid (by have := HD2.out.1.len; simp at this ⊢; omega), HD2, hF3, hB3⟩
        case round =>
          clear hF3 hB3 HD2 hz2
          obtain ⟨ss, out, st, HQ, HD, hF, hB⟩ := hrel
          rcases st_cases st with rfl | ⟨s0, u, i, rfl⟩
          · obtain ⟨aq, cq, rfl, -⟩ := owns_slice hF.st
            go_wp2_with (fail)
            rw [Exit.noGoto_normal]
            go_wp2_with (fail)
            go_roundw
            case rel => exact ⟨k + 1, ss, out, hlt, by go_num, HD, hF.drop, hB⟩
            case measure => simp [intOf]; omega
          · obtain ⟨gs, cs, rfl, hgs, hc0, hc1, hf1⟩ := hF.top
            have hsl : s0.length ≤ 400 := by
              have h1 := HD.out.1.len
              have h2 := HN.out
              simp at h1
              omega
            have huk := HD.out.1.top
            obtain ⟨b, off, au, lu, cu, rfl, hcell, hrow⟩ := hg.fix u huk
            have HRL : Hid ((gr g u).length = lu) := Lib.hid hrow.length
            have hlu : lu ≤ 400 := by rw [← HRL.out]; exact row_len4 HV.out (by rw [HL.out]; exact huk)
            have hrc := hrow.cap
            unfold maxLen at hrc
            go_wp2_with (fail)
            clear hc0 hc1 hf1
            go_loopg [6] (lu - i) (fun q s W => ∃ (i : Nat), s = .slice (some ⟨gs, 0, none⟩) (s0.length + 1) cs ∧ Hid (lu ≤ i + q) ∧ Hid (Dfs g len (fun n => gb ss n = true) out (s0 ++ [(u, i)]) ∧ ∀ n, n < k + 1 → gb ss n = true) ∧ FinW W w.heap.size len ss out u4 (s0 ++ [(u, i)]) (.slice (some ⟨gs, 0, none⟩) (s0.length + 1) cs) ∧ Below w.heap.size w W)
            case atStart => exact ⟨i, rfl, Lib.hid (by omega), HD, hF, hB⟩
            case round =>
              clear hF hB HD
              obtain ⟨i, rfl, HI, HD, hF, hB⟩ := hrel
              have hcu := hcell wr hB
              obtain ⟨hc0, hc1, hf1⟩ := hF.cells
              rcases Nat.lt_or_ge i lu with hlu2 | hge2
              · have t3 : decide ((i : Int) < lu) = true := decide_eq_true (by omega)
                obtain ⟨bl, ol, rfl, hcl⟩ := hrow.fix i hlu2
                have hcx := hcl wr hB
                have hiL : i < (gr g u).length := by rw [HRL.out]; exact hlu2
                have hxr := (HV.out.2 _ (gr_mem (by rw [HL.out]; exact huk))).2 _ (gi_mem (gr g u) i hiL)
                rw [HL.out] at hxr
                obtain ⟨x, hx⟩ := Int.eq_ofNat_of_zero_le hxr.1
                rw [hx] at hxr hcx
                have hxk : x < len := by omega
                have HX := Lib.hid hx
                have HCL := Lib.hid hcl
                clear hcl hx hxr
                go_wp2_with (fail)
                go_quiet (fail)
                have hb2 := below_drewN wr nq
                obtain ⟨w2, hw2⟩ : ∃ w2, wr.drewN nq = w2 := ⟨_, rfl⟩
                rw [hw2] at hb2 ⊢
                clear hw2 nq
                replace hF := hF.kept hb2
                replace hB := hB.trans (hb2.mono hB.size)
                clear hb2 hcu hc0 hc1 hf1 hcx
                have hcu := hcell w2 hB
                have hcx := HCL.out w2 hB
                rw [HX.out] at hcx
                obtain ⟨hc0, hc1, hf1⟩ := hF.cells
                go_wp2_with (fail)
                go_quiet (fail)
                have hb2 := below_drewN w2 nq
                obtain ⟨w3, hw3⟩ : ∃ w3, w2.drewN nq = w3 := ⟨_, rfl⟩
                rw [hw3] at hb2 ⊢
                clear hw3 nq
                replace hF := hF.kept hb2
                replace hB := hB.trans (hb2.mono hB.size)
                clear hb2 hcu hc0 hc1 hf1 hcx
                obtain ⟨hc0, hc1, hf1⟩ := hF.cells
                have hF4 := hF.next
                have hB4 := hB.setCell (p := ⟨gs, s0.length * 2 + 1, none⟩) (show w.heap.size ≤ gs by omega) (.int .i64 ((i : Int) + 1))
                have hss := hF.len
                obtain ⟨hcs, hfs⟩ := hF4.cell hxk
                have hcap := hF4.room
                obtain ⟨z, hz⟩ : ∃ z, gb ss x = z := ⟨_, rfl⟩
                rw [hz] at hcs
                cases z with
                | true =>
                  have HD2 : Hid (Dfs g len (fun n => gb ss n = true) out (s0 ++ [(u, i + 1)]) ∧ ∀ n, n < k + 1 → gb ss n = true) := Lib.hid ⟨HD.out.1.skip hxk hiL HX.out hz, HD.out.2⟩
                  clear hz hF hB
                  go_wp2_with (fail)
                  go_roundg (lu - i - 1)
                  case rel => exact ⟨i + 1, rfl, Lib.hid (by omega), HD2, hF4, hB4⟩
                  case measure => have := HI.out; omega
                | false =>
                  have HD2 := Lib.hid (Dfs.grow hss HD.out hxk hiL HX.out hz hlt)
                  have hF5 := hF4.see x
                  have hB5 := hB4.setCell (p := ⟨w.heap.size, x, none⟩) (Nat.le_refl _) (.bool true)
                  have hs5 : Hid (((w3.setCell ⟨gs, s0.length * 2 + 1, none⟩ (.int .i64 ((i : Int) + 1))).setCell ⟨w.heap.size, x, none⟩ (.bool true)).heap.size = w3.heap.size) := Lib.hid (by rw [World.size_setCell, World.size_setCell])
                  have HS2 : Hid ((s0 ++ [(u, i + 1)]).length = s0.length + 1) := Lib.hid (by simp)
                  clear hz hF hB hss
                  obtain ⟨w5, hw5⟩ : ∃ w5, (w3.setCell ⟨gs, s0.length * 2 + 1, none⟩ (.int .i64 ((i : Int) + 1))).setCell ⟨w.heap.size, x, none⟩ (.bool true) = w5 := ⟨_, rfl⟩
                  rw [hw5] at hF5 hB5 hs5
                  replace hw5 := Lib.hid hw5
                  go_wp2_with (at_builtin; rw [hw5.out]; refine push_st (n := x) elPl rfl _ _ rfl hF5 rfl (by rw [hs5.out]; rfl) (by rw [HS2.out]; omega) ?_; intro a6 c6 w6 hF6 hb6)
                  have HQ2 : Hid (2 * out.length + (s0 ++ [(u, i + 1)] ++ [(x, 0)]).length + (2 * len - (2 * out.length + s0.length + 2)) = 2 * len) := Lib.hid (by
                    have h1 := HD2.out.1.len
                    simp at h1 ⊢
                    omega)
                  go_roundg (2 * len - (2 * out.length + s0.length + 2))
                  case rel => exact ⟨ss.set x true, out, s0 ++ [(u, i + 1)] ++ [(x, 0)], HQ2, HD2, by rw [HS2.out] at hF6; exact hF6, hB5.trans hb6⟩
                  case measure => have := HQ.out; have h1 := HD2.out.1.len; simp at this h1; omega
              · have t3 : decide ((i : Int) < lu) = false := decide_eq_false (by omega)
                go_wp2_with (fail)
                go_quiet (fail)
                have hb2 := below_drewN wr nq
                obtain ⟨w2, hw2⟩ : ∃ w2, wr.drewN nq = w2 := ⟨_, rfl⟩
                rw [hw2] at hb2 ⊢
                clear hw2 nq
                replace hF := hF.kept hb2
                replace hB := hB.trans (hb2.mono hB.size)
                clear hb2 hcu hc0 hc1 hf1
                obtain ⟨hc0, hc1, hf1⟩ := hF.cells
                have hcap := hF.room
                have HD2 : Hid (Dfs g len (fun n => gb ss n = true) (out ++ [u]) s0 ∧ ∀ n, n < k + 1 → gb ss n = true) := Lib.hid ⟨HD.out.1.pop (by rw [HRL.out]; exact hge2), HD.out.2⟩
                have hol : out.length ≤ 400 := by
                  have h1 := HD.out.1.len
                  have h2 := HN.out
                  omega
                go_wp2_with (at_builtin; refine leave_out elI64 rfl _ _ rfl hF rfl rfl (by omega) ?_; intro a6 c6 w6 hF6 hb6)
                have HQ2 : Hid (2 * (out ++ [u]).length + s0.length + (2 * len - (2 * (out.length + 1) + s0.length)) = 2 * len) := Lib.hid (by
                  have h1 := HD2.out.1.len
                  simp at h1 ⊢
                  omega)
                go_roundg (2 * len - (2 * (out.length + 1) + s0.length))
                case rel => exact ⟨ss, out ++ [u], s0, HQ2, HD2, hF6.pop, hB.trans hb6⟩
                case measure => have := HQ.out; have h1 := HD2.out.1.len; simp at this h1; omega
    · obtain rfl : k = len := by omega
      have t1 : decide ((k : Int) < k) = false := decide_eq_false (by omega)
      have HF : Hid (FinL g out) := Lib.hid (by
        have := HD.out.1.full HD.out.2
        rw [← HL.out] at this
        exact this)
      have hoM := owns_base hF.out (Nat.le_succ _)
      go_wp2
      go_ret
      exact ⟨_, out, rfl, HF.out, hoM, hB⟩
end Go.Proofs.Ytlogmgkjikamaaa
