/-
  Order: the least topological order.
-/
import Derived.Test.YtlogmgkjikamaaaGraX
import Derived.Test.YtlogmgkjikamaaaGraJ
set_option linter.unusedSimpArgs false
set_option linter.unusedVariables false
set_option maxHeartbeats 4000000
namespace Go.Proofs.Ytlogmgkjikamaaa
open Go.RowKit
attribute [local go_sem] Oper.semAt_some

variable {a : Option Addr} {len cap : Nat} {g : List (List Int)} {w : World}

/-- slices.Index for 0 in a row of numbers. -/
def IdxZ (zs : List Int) (r : Int) : Prop := (r = -1 ∧ ∀ k, k < zs.length → gi zs k ≠ 0) ∨ ∃ i : Nat, i < zs.length ∧ r = (i : Int) ∧ gi zs i = 0 ∧ ∀ k, k < i → gi zs k ≠ 0
theorem first_zero (zs : List Int) : ∀ n, (∀ k, k < n → gi zs k ≠ 0) ∨ ∃ i, i < n ∧ gi zs i = 0 ∧ ∀ k, k < i → gi zs k ≠ 0
  | 0 => .inl fun k hk => absurd hk (Nat.not_lt_zero _)
  | n + 1 => by
    rcases first_zero zs n with h | ⟨i, h1, h2, h3⟩
    · by_cases e : gi zs n = 0
      · exact .inr ⟨n, Nat.lt_succ_self n, e, h⟩
      · refine .inl fun k hk => ?_
        rcases Nat.lt_or_ge k n with h1 | h1
        · exact h k h1
        · obtain rfl : k = n := by omega
          exact e
    · exact .inr ⟨i, by omega, h2, h3⟩
theorem index_own {W : World} {B b n : Nat} {zs : List Int} (h : W.ownsRow B 3 1 (.slice (some ⟨b, 0, none⟩) n n) n (ivs .i64 zs)) (hl : zs.length = n) (hn : n ≤ 1000000) :
    Calls Try.prog 33 #[.slice (some ⟨b, 0, none⟩) n n, .int .i64 0] W fun e w' => ∃ r, e = .returned (.int .i64 r) ∧ IdxZ zs r ∧ w' = W := by
  refine (Try.slices_Index_int b 0 n n zs 0 W (by omega) (by omega) (fun j hj => ?_)).mono ?_
  · rw [Nat.zero_add]
    exact (own_cell h j (by omega) hl).1
  · rintro e w' ⟨rfl, rfl⟩
    refine ⟨_, rfl, ?_, rfl⟩
    rcases first_zero zs n with h1 | ⟨i, h1, h2, h3⟩
    · exact .inl ⟨Go.Lib.idxOf_miss zs n 0 h1, fun k hk => h1 k (by omega)⟩
    · exact .inr ⟨i, by omega, Go.Lib.idxOf_hit zs n i 0 h1 (by omega) h2 h3, h2, h3⟩
/-- What Order returns. -/
def OrdRes (g : List (List Int)) (B : Nat) (e : Ending) (w' : World) : Prop :=
  (¬ ValidG g ∧ e = .returned (.tuple #[.slice none 0 0, .int .i64 1])) ∨ (ValidG g ∧ ((OrdAns g g.length none ∧ e = .returned (.tuple #[.slice none 0 0, .int .i64 6])) ∨
    ∃ ao co out, OrdAns g g.length (some out) ∧ e = .returned (.tuple #[.slice ao out.length co, .int .i64 0]) ∧ w'.ownsRow B 3 1 (.slice ao out.length co) out.length (ivs .i64 (out.map Int.ofNat))))
theorem OrdB.start (g : List (List Int)) (N : Nat) : OrdB g N [] := .nil
/-- Nothing is free: none or the whole. -/
theorem AheadIs.stop {g : List (List Int)} {N : Nat} {out : List Nat} {zs : List Int} (h : AheadIs g N out (gi zs)) (hl : zs.length = N) (hb : OrdB g N out) (ho : out.length < N) (hz : ∀ k, k < zs.length → gi zs k ≠ 0) : OrdAns g N none :=
  .inr ⟨rfl, out, hb, ho, fun i hi hf => hz i (by omega) ((h.free hi).2 hf)⟩
theorem AheadIs.take {g : List (List Int)} {N : Nat} {out : List Nat} {zs : List Int} {i : Nat} (h : AheadIs g N out (gi zs)) (hb : OrdB g N out) (hi : i < N) (h0 : gi zs i = 0) (hz : ∀ k, k < i → gi zs k ≠ 0) : OrdB g N (out ++ [i]) ∧ Free g N out i :=
  ⟨.snoc hb hi ((h.free hi).1 h0) fun j hj hf => hz j hj ((h.free (by omega)).2 hf), (h.free hi).1 h0⟩

set_option maxRecDepth 20000 in
theorem order_ok (hg : IsRows w a len cap g) (hv : ValidG g) :
    Calls Try.prog 13 #[.slice a len cap] w fun e w' => OrdRes g w.heap.size e w' ∧ Below w.heap.size w w' := by
  have hval := valid_any hg
  rw [validGB_yes hv] at hval
  have HL := Lib.hid hg.length
  have hN4 : len ≤ 400 := by rw [← hg.length]; exact hv.1
  have HN := Lib.hid hN4
  have HV := Lib.hid hv
  clear hv
  go_enter Try.func13, Try.ntmps13
  go_wp2_with (first | (go_at_call 32; refine hval.mono ?_; rintro e w' ⟨rfl, rfl⟩) | (refine make_ints (k := .i64) elI64 rfl _ _ rfl rfl rfl rfl rfl (by omega) (Nat.le_refl _) ?_; intro w1 ho1 hb1 hs1))
  clear hval
  go_loopw [21] (fun c W => ∃ (k : Nat) (zs : List Int), k ≤ len ∧ c = .int .i64 (k : Int) ∧ zs.length = len ∧ Hid (∀ n, n < len → gi zs n = (cntP (ptsTo g n) k : Int)) ∧ W.ownsRow w.heap.size 3 1 (.slice (some ⟨w.heap.size, 0, none⟩) len len) len (ivs .i64 zs) ∧ w.heap.size + 1 ≤ W.heap.size ∧ Below w.heap.size w W) (fun c _ => len - (intOf c).toNat)
  case atStart => exact ⟨0, _, Nat.zero_le _, rfl, by simp, Lib.hid (fun n hn => by rw [gi_eq _ _ (by simpa using hn)]; simp [cntP]), ho1, by omega, hb1⟩
  case round =>
    clear ho1 hb1 hs1
    obtain ⟨k, zs, hk, rfl, hzl, HZ, ho, hsz, hB⟩ := hrel
    rcases Nat.lt_or_ge k len with hlt | hge
    · have t1 : decide ((k : Int) < len) = true := decide_eq_true (by omega)
      obtain ⟨b, off, au, lu, cu, rfl, hcell, hrow⟩ := hg.fix k hlt
      have hcu := hcell wr hB
      have HRL : Hid ((gr g k).length = lu) := Lib.hid hrow.length
      have hlu : lu ≤ 400 := by rw [← HRL.out]; exact row_len4 HV.out (by rw [HL.out]; exact hlt)
      have HC0 : Hid (CntAt g len k 0 (gi zs)) := Lib.hid (CntAt.zero HZ.out)
      clear hcell
      go_wp2_with (fail)
      clear hcu
      go_loopw [27] (fun c W => ∃ (j : Nat) (zs : List Int), j ≤ lu ∧ c = .int .i64 (j : Int) ∧ zs.length = len ∧ Hid (CntAt g len k j (gi zs)) ∧ W.ownsRow w.heap.size 3 1 (.slice (some ⟨w.heap.size, 0, none⟩) len len) len (ivs .i64 zs) ∧ w.heap.size + 1 ≤ W.heap.size ∧ Below w.heap.size w W) (fun c _ => lu - (intOf c).toNat)
      case atStart => exact ⟨0, zs, Nat.zero_le _, rfl, hzl, HC0, ho, hsz, hB⟩
      case round =>
        clear ho hsz hB HC0 hzl HZ
        obtain ⟨j, zs, hj, rfl, hzl, HC, ho, hsz, hB⟩ := hrel
        rcases Nat.lt_or_ge j lu with hjl | hjg
        · have t2 : decide ((j : Int) < lu) = true := decide_eq_true (by omega)
          obtain ⟨br, o2, rfl, hcz⟩ := hrow.fix j hjl
          have hcx := hcz wr hB
          have hjL : j < (gr g k).length := by rw [HRL.out]; exact hjl
          have hvr := HV.out.2 _ (gr_mem (g := g) (i := k) (by rw [HL.out]; exact hlt))
          have hxr := hvr.2 _ (gi_mem (gr g k) j hjL)
          rw [HL.out] at hxr
          obtain ⟨x, hx⟩ := Int.eq_ofNat_of_zero_le hxr.1
          rw [hx] at hxr hcx
          have hxk : x < len := by omega
          obtain ⟨hc, hf⟩ := own_cell ho x hxk hzl
          obtain ⟨z, hz⟩ : ∃ z, gi zs x = z := ⟨_, rfl⟩
          have hzb : 0 ≤ z ∧ z ≤ 400 := by have := HC.out.bound x hxk; rw [hz] at this; omega
          rw [hz] at hc
          have HC2 : Hid (CntAt g len k (j + 1) (gi (zs.set x (z + 1)))) := Lib.hid (HC.out.step hjL hvr.1 hx (fun n hn => by rw [gi_put (by omega), hz]) hxk)
          have ho2 := own_store ho x (z + 1)
          have hB2 := hB.setCell (p := ⟨w.heap.size, x, none⟩) (Nat.le_refl _) (.int .i64 (z + 1))
          clear hcz hx hxr ho hB hz hvr
          go_wp2
          go_roundw
          case rel => exact ⟨j + 1, _, hjl, by go_num, by rw [List.length_set]; exact hzl, HC2, ho2, by rw [World.size_setCell]; exact hsz, hB2⟩
          case measure => simp [intOf]; omega
        · obtain rfl : j = lu := by omega
          have t2 : decide ((j : Int) < j) = false := decide_eq_false (by omega)
          have HZ2 : Hid (∀ n, n < len → gi zs n = (cntP (ptsTo g n) (k + 1) : Int)) := Lib.hid (HC.out.next (by rw [HRL.out]; exact Nat.le_refl _))
          go_wp2_with (fail)
          go_roundw
          case rel => exact ⟨k + 1, zs, hlt, by go_num, hzl, HZ2, ho, hsz, hB⟩
          case measure => simp [intOf]; omega
    · obtain rfl : k = len := by omega
      have t1 : decide ((k : Int) < k) = false := decide_eq_false (by omega)
      have HA0 : Hid (AheadIs g k [] (gi zs) ∧ OrdB g k []) := Lib.hid ⟨AheadIs.start HZ.out, .nil⟩
      clear HZ
      go_wp2_with (fail)
      go_loopw [9, 41] (fun v c W => ∃ (out : List Nat) (ao : Option Addr) (co : Nat) (zs : List Int), out.length ≤ k ∧ c = .int .i64 (out.length : Int) ∧ v = .slice ao out.length co ∧ zs.length = k ∧ Hid (AheadIs g k out (gi zs) ∧ OrdB g k out) ∧ W.ownsRow w.heap.size 3 1 (.slice (some ⟨w.heap.size, 0, none⟩) k k) k (ivs .i64 zs) ∧ W.ownsRow (w.heap.size + 1) 3 1 (.slice ao out.length co) out.length (ivs .i64 (out.map Int.ofNat)) ∧ w.heap.size + 1 ≤ W.heap.size ∧ Below w.heap.size w W) (fun _ c _ => k - (intOf c).toNat)
      case atStart => exact ⟨[], none, 0, zs, Nat.zero_le _, rfl, rfl, hzl, HA0, ho, World.ownsRow_nil _ _ _ _, hsz, hB⟩
      case round =>
        clear ho hsz hB HA0 hzl
        obtain ⟨out, ao, co, zs, hol, rfl, rfl, hzl, HA, ho, hoo, hsz, hB⟩ := hrel
        rcases Nat.lt_or_ge out.length k with hlt | hge
        · have t3 : decide ((out.length : Int) < k) = true := decide_eq_true (by omega)
          have hidx := index_own ho hzl (by omega)
          go_wp2_with (fail)
          go_at_call 33
          refine hidx.mono ?_
          rintro e w2 ⟨r, rfl, hr, rfl⟩
          clear hidx
          rcases hr with ⟨rfl, hz⟩ | ⟨i, hi, rfl, h0, hz⟩
          · have HR : Hid (OrdAns g k none) := Lib.hid (HA.out.1.stop hzl HA.out.2 hlt hz)
            clear hz
            go_wp2
            go_ret2
            exact ⟨.inr ⟨HV.out, .inl ⟨by rw [HL.out]; exact HR.out, rfl⟩⟩, hB⟩
          · have t4 : decide ((i : Int) < 0) = false := decide_eq_false (by omega)
            have hik : i < k := by omega
            have HF : Hid (OrdB g k (out ++ [i]) ∧ Free g k out i) := Lib.hid (HA.out.1.take HA.out.2 hik h0 hz)
            have HOA : Hid (OutAt g k out i 0 (gi (zs.set i (-1)))) := Lib.hid (OutAt.start HA.out.1 hik fun n hn => gi_put (by omega) (-1) n)
            have hci := (own_cell ho i hik hzl).2
            have ho2 := own_store ho i (-1)
            have hoo2 := ownsRow_setCell_below hoo (a := ⟨w.heap.size, i, none⟩) (by show w.heap.size < _; omega) (.int .i64 (-1))
            have hB2 := hB.setCell (p := ⟨w.heap.size, i, none⟩) (Nat.le_refl _) (.int .i64 (-1))
            have hs2 : w.heap.size + 1 ≤ (w2.setCell ⟨w.heap.size, i, none⟩ (.int .i64 (-1))).heap.size := by rw [World.size_setCell]; exact hsz
            obtain ⟨b, off, au, lu, cu, rfl, hcell, hrow⟩ := hg.fix i hik
            have HCL := Lib.hid hcell
            have HRL : Hid ((gr g i).length = lu) := Lib.hid hrow.length
            have hlu : lu ≤ 400 := by rw [← HRL.out]; exact row_len4 HV.out (by rw [HL.out]; exact hik)
            have hci0 : w2.cell? ⟨w.heap.size, i, none⟩ = some (.int .i64 0) := by have := (own_cell ho i hik hzl).1; rwa [h0] at this
            clear hcell hz h0 ho hoo hB hi
            obtain ⟨w5, hw5⟩ : ∃ w5, w2.setCell ⟨w.heap.size, i, none⟩ (.int .i64 (-1)) = w5 := ⟨_, rfl⟩
            rw [hw5] at ho2 hoo2 hB2 hs2
            have hs5 : Hid (w5.heap.size = w2.heap.size) := Lib.hid (by rw [← hw5, World.size_setCell])
            replace hw5 := Lib.hid hw5
            go_wp2_with (at_builtin; rw [hw5.out]; refine app_one (k := .i64) elI64 rfl _ _ rfl rfl hoo2 (by rw [hs5.out]; rfl) (by omega) hs2 ?_; intro a6 c6 w6 ho6 hb6; have hcu := HCL.out w6 (hB2.trans (hb6.mono (by omega))))
            have ho7 := own_out ho2 hb6
            have hs7 := Nat.le_trans hs2 hb6.size
            have hB7 := hB2.trans (hb6.mono (Nat.le_succ _))
            have HZL : Hid ((zs.set i (-1)).length = k) := Lib.hid (by rw [List.length_set]; exact hzl)
            clear ho2 hB2 hs2 hb6 hoo2 hw5 hs5 hci hci0 hcu
            go_loopw [59] (fun c W => ∃ (j : Nat) (zs : List Int), j ≤ lu ∧ c = .int .i64 (j : Int) ∧ zs.length = k ∧ Hid (OutAt g k out i j (gi zs)) ∧ W.ownsRow w.heap.size 3 1 (.slice (some ⟨w.heap.size, 0, none⟩) k k) k (ivs .i64 zs) ∧ W.ownsRow (w.heap.size + 1) 3 1 (.slice a6 (out.length + 1) c6) (out.length + 1) (ivs .i64 (out.map Int.ofNat ++ [(i : Int)])) ∧ w.heap.size + 1 ≤ W.heap.size ∧ Below w.heap.size w W) (fun c _ => lu - (intOf c).toNat)
            case atStart => exact ⟨0, _, Nat.zero_le _, rfl, HZL.out, HOA, ho7, ho6, hs7, hB7⟩
            case round =>
              clear ho7 ho6 hs7 hB7 HZL HOA hzl
              obtain ⟨j, zs, hj, rfl, hzl, HC, ho, hoo, hsz, hB⟩ := hrel
              rcases Nat.lt_or_ge j lu with hjl | hjg
              · have t2 : decide ((j : Int) < lu) = true := decide_eq_true (by omega)
                obtain ⟨br, o2, rfl, hcz⟩ := hrow.fix j hjl
                have hcx := hcz wr hB
                have hjL : j < (gr g i).length := by rw [HRL.out]; exact hjl
                have hvr := HV.out.2 _ (gr_mem (g := g) (i := i) (by rw [HL.out]; exact hik))
                have hxr := hvr.2 _ (gi_mem (gr g i) j hjL)
                rw [HL.out] at hxr
                obtain ⟨x, hx⟩ := Int.eq_ofNat_of_zero_le hxr.1
                rw [hx] at hxr hcx
                have hxk : x < k := by omega
                obtain ⟨hc, hf⟩ := own_cell ho x hxk hzl
                obtain ⟨z, hz⟩ : ∃ z, gi zs x = z := ⟨_, rfl⟩
                have hzb : -1 ≤ z ∧ z ≤ 400 := by have := HC.out.bound x hxk; rw [hz] at this; omega
                rw [hz] at hc
                have HC2 : Hid (OutAt g k out i (j + 1) (gi (zs.set x (z - 1)))) := Lib.hid (HC.out.step HA.out.2 hik HF.out.2 hjL hvr.1 hx (fun n hn => by rw [gi_put (by omega), hz]) hxk)
                have ho2 := own_store ho x (z - 1)
                have hoo2 := ownsRow_setCell_below hoo (a := ⟨w.heap.size, x, none⟩) (by show w.heap.size < _; omega) (.int .i64 (z - 1))
                have hB2 := hB.setCell (p := ⟨w.heap.size, x, none⟩) (Nat.le_refl _) (.int .i64 (z - 1))
                clear hcz hx hxr ho hB hz hvr hoo
                go_wp2
                go_roundw
                case rel => exact ⟨j + 1, _, hjl, by go_num, by rw [List.length_set]; exact hzl, HC2, ho2, hoo2, by rw [World.size_setCell]; exact hsz, hB2⟩
                case measure => simp [intOf]; omega
              · obtain rfl : j = lu := by omega
                have t2 : decide ((j : Int) < j) = false := decide_eq_false (by omega)
                have HA2 : Hid (AheadIs g k (out ++ [i]) (gi zs) ∧ OrdB g k (out ++ [i])) := Lib.hid ⟨HC.out.next hik HF.out.2.1 (by rw [HRL.out]; exact Nat.le_refl _), HF.out.1⟩
                go_wp2_with (fail)
                go_roundw
                case rel => exact ⟨out ++ [i], a6, c6, zs, by rw [List.length_append]; exact hlt, by rw [List.length_append]; go_num, by rw [List.length_append]; rfl, hzl, HA2, ho, by rw [List.length_append, List.map_append]; exact hoo, hsz, hB⟩
                case measure => simp [intOf]; omega
        · have hlk : out.length = k := by omega
          have t3 : decide ((out.length : Int) < k) = false := decide_eq_false (by omega)
          have HR : Hid (OrdAns g g.length (some out)) := Lib.hid (.inl ⟨out, rfl, by rw [HL.out]; exact HA.out.2, by rw [HL.out]; exact hlk⟩)
          go_wp2
          go_ret2
          exact ⟨.inr ⟨HV.out, .inr ⟨ao, co, out, HR.out, rfl, hoo.from_mono (Nat.le_succ _)⟩⟩, hB⟩

theorem order_any (hg : IsRows w a len cap g) :
    Calls Try.prog 13 #[.slice a len cap] w fun e w' => OrdRes g w.heap.size e w' ∧ Below w.heap.size w w' := by
  by_cases hv : ValidG g
  · exact order_ok hg hv
  · have hval := valid_any hg
    rw [validGB_no hv] at hval
    have HV := Lib.hid hv
    clear hv
    go_enter Try.func13, Try.ntmps13
    go_wp2_with (go_at_call 32; refine hval.mono ?_; rintro e w' ⟨rfl, rfl⟩)
    go_ret2
    exact ⟨.inl ⟨HV.out, rfl⟩, Below.refl _ _⟩
end Go.Proofs.Ytlogmgkjikamaaa
