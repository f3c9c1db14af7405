/-
  Condense of the document's answer.
-/
import Derived.Test.YtlogmgkjikamaaaGraCd
import Derived.Test.YtlogmgkjikamaaaGraCo
import Derived.Test.YtlogmgkjikamaaaGraG
set_option linter.unusedSimpArgs false
set_option linter.unusedVariables false
set_option maxHeartbeats 4000000
namespace Go.Proofs.Ytlogmgkjikamaaa
open Go.RowKit
attribute [local go_sem] Oper.semAt_some

variable {a : Option Addr} {len cap : Nat} {g : List (List Int)} {w : World}

theorem comp_row {i : Nat} (hi : i < (rts (both (GE g)) g.length).length) : gr (compG g) i = memb (both (GE g)) g.length (rts (both (GE g)) g.length)[i] := by
  unfold gr compG cmps
  simp [List.getD, hi]
/-- A node is in the component that has its number. -/
theorem comp_mem {i x : Nat} (hi : i < (compG g).length) (hx : x < g.length) : (x : Int) ∈ gr (compG g) i ↔ ix (both (GE g)) x = i := by
  have hq := eqv_both (GE g)
  have hi' : i < (rts (both (GE g)) g.length).length := by rw [← compG_length]; exact hi
  have hrow := comp_row hi'
  have hr := mem_rts.1 (List.getElem_mem hi')
  have hat := ix_at hq (k := g.length) hr.1
  rw [rt_self hq hr.2] at hat
  have hnd : (rts (both (GE g)) g.length).Nodup := by unfold rts; exact List.Pairwise.filter _ List.nodup_range
  have hix : ix (both (GE g)) (rts (both (GE g)) g.length)[i] = i := by
    have h1 := (List.getElem?_eq_some_iff.1 hat)
    exact (List.getElem_inj hnd).1 h1.2
  rw [hrow, mem_memb]
  constructor
  · rintro ⟨y, hy, hs, e⟩
    have : x = y := by omega
    subst this
    rw [← ix_same hq hs, hix]
  · intro e
    exact ⟨x, hx, ix_inj hq (by rw [hix, e]), rfl⟩
theorem comp_node {i : Nat} {z : Int} (hi : i < (compG g).length) (hz : z ∈ gr (compG g) i) : ∃ x : Nat, z = (x : Int) ∧ x < g.length := by
  have hi' : i < (rts (both (GE g)) g.length).length := by rw [← compG_length]; exact hi
  have hrow := comp_row hi'
  rw [hrow] at hz
  obtain ⟨y, h1, -, h2⟩ := mem_memb.1 hz
  exact ⟨y, h2, h1⟩
theorem comp_rowlen (g : List (List Int)) (i : Nat) : (gr (compG g) i).length ≤ g.length := by
  rcases Nat.lt_or_ge i (compG g).length with hi | hi
  · have hi' : i < (rts (both (GE g)) g.length).length := by rw [← compG_length]; exact hi
    have hrow := comp_row hi'
    rw [hrow]
    exact memb_len _ _ _
  · rw [gr_over hi]; exact Nat.zero_le _
/-- The numbers of the components, as far as they are told. -/
def OfAt (f : Nat → Nat) (N : Nat) (l : List Int) (i j : Nat) (d : Nat → Int) : Prop := ∀ x : Nat, x < N → (f x < i ∨ (f x = i ∧ (x : Int) ∈ l.take j)) → d x = (f x : Int)
theorem OfAt.start (f : Nat → Nat) (N : Nat) (l : List Int) (d : Nat → Int) : OfAt f N l 0 0 d := fun x hx hu => by
  rcases hu with hu | ⟨-, hu⟩
  · exact absurd hu (Nat.not_lt_zero _)
  · rw [List.take_zero] at hu; cases hu
theorem OfAt.step {f : Nat → Nat} {N : Nat} {l : List Int} {i j y : Nat} {d d' : Nat → Int} (h : OfAt f N l i j d) (hj : j < l.length) (hy : gi l j = (y : Int)) (hf : f y = i) (hd : ∀ n, n < N → d' n = if n = y then (i : Int) else d n) : OfAt f N l i (j + 1) d' := fun x hx hu => by
  rw [hd x hx]
  by_cases e : x = y
  · rw [if_pos e, e, hf]
  · rw [if_neg e]
    refine h x hx (hu.imp id fun hu => ⟨hu.1, ?_⟩)
    have := hu.2
    rw [take_succ_gi l j hj, List.mem_append, List.mem_singleton, hy] at this
    exact this.resolve_right (by omega)
theorem OfAt.next {f : Nat → Nat} {N : Nat} {l l' : List Int} {i j : Nat} {d : Nat → Int} (h : OfAt f N l i j d) (hj : l.length ≤ j) (hm : ∀ x : Nat, x < N → f x = i → (x : Int) ∈ l) : OfAt f N l' (i + 1) 0 d := fun x hx hu => by
  rcases hu with hu | ⟨-, hu⟩
  · refine h x hx ?_
    rcases Nat.lt_or_ge (f x) i with h1 | h1
    · exact .inl h1
    · have e : f x = i := by omega
      exact .inr ⟨e, by rw [List.take_of_length_le hj]; exact hm x hx e⟩
  · rw [List.take_zero] at hu; cases hu

set_option maxRecDepth 20000 in
theorem refCondense_ok (hg : IsRows w a len cap g) (hv : ValidG g) :
    Calls Try.prog 18 #[.slice a len cap] w fun e w' => GRes (condG g) 0 e w' ∧ Below w.heap.size w w' := by
  have HL := Lib.hid hg.length
  have hN4 : len ≤ 400 := by rw [← HL.out]; exact hv.1
  have HV := Lib.hid hv
  have hcm := refComps_g hg
  unfold cpR at hcm
  rw [validGB_yes hv, if_pos rfl, bkE_yes hv] at hcm
  clear hv
  go_enter Try.func18, Try.ntmps18
  go_wp2_with (fail)
  refine hcm.mono ?_
  rintro e w1 ⟨⟨ac, M, cc, rfl, hcr, hM4⟩, hb1⟩
  have hg1 := hg.later hb1
  have HB1 := Lib.hid hb1
  obtain ⟨f, hf⟩ : ∃ f, ix (both (GE g)) = f := ⟨_, rfl⟩
  have HCL : Hid ((compG g).length = M) := Lib.hid hcr.length
  have HFM : Hid (∀ x, x < len → f x < M) := Lib.hid (fun x hx => by rw [← hf, ← HCL.out, compG_length]; exact ix_lt (eqv_both _) (by rw [HL.out]; exact hx))
  have HCG : Hid (condG g = makeG M (ceTo f g len)) := Lib.hid (by unfold condG; rw [hf, HL.out, HCL.out])
  have HMM : Hid (∀ i x : Nat, i < M → x < len → ((x : Int) ∈ gr (compG g) i ↔ f x = i)) := Lib.hid (fun i x hi hx => by rw [← hf]; exact comp_mem (by rw [HCL.out]; exact hi) (by rw [HL.out]; exact hx))
  have HG0 : Hid (∀ W, Below w1.heap.size w1 W → IsRows W a len cap g ∧ IsRows W ac M cc (compG g)) := Lib.hid (fun W h => ⟨hg1.later h, hcr.later h⟩)
  clear hcm hcr hg hb1 hf
  go_wp2_with (refine make_ints (k := .i64) elI64 rfl _ _ rfl rfl rfl rfl rfl (by omega) (Nat.le_refl _) ?_; intro w2 ho2 hb2 hs2)
  go_loopw [7] (fun c W => ∃ (i : Nat) (zs : List Int), i ≤ M ∧ c = .int .i64 (i : Int) ∧ zs.length = len ∧ Hid (OfAt f len (gr (compG g) i) i 0 (gi zs)) ∧ W.ownsRow w1.heap.size 3 1 (.slice (some ⟨w1.heap.size, 0, none⟩) len len) len (ivs .i64 zs) ∧ w1.heap.size + 1 ≤ W.heap.size ∧ Below w1.heap.size w1 W) (fun c _ => M - (intOf c).toNat)
  case atStart => exact ⟨0, _, Nat.zero_le _, rfl, by simp, Lib.hid (OfAt.start _ _ _ _), ho2, by omega, hb2⟩
  case round =>
    clear ho2 hb2 hs2
    obtain ⟨i, zs, hi, rfl, hzl, HO, ho, hsz, hB⟩ := hrel
    rcases Nat.lt_or_ge i M with hlt | hge
    · have t1 : decide ((i : Int) < M) = true := decide_eq_true (by omega)
      obtain ⟨b, off, au, lu, cu, rfl, hcell, hrow⟩ := (HG0.out _ (Below.refl _ _)).2.fix i hlt
      have HRL : Hid ((gr (compG g) i).length = lu) := Lib.hid hrow.length
      have hlu : lu ≤ 400 := by rw [← HRL.out]; have := comp_rowlen g i; rw [HL.out] at this; omega
      have HC := Lib.hid hcell
      clear hcell
      go_wp2_with (fail)
      go_loopw [8] (fun c W => ∃ (j : Nat) (zs : List Int), j ≤ lu ∧ c = .int .i64 (j : Int) ∧ zs.length = len ∧ Hid (OfAt f len (gr (compG g) i) i j (gi zs)) ∧ W.ownsRow w1.heap.size 3 1 (.slice (some ⟨w1.heap.size, 0, none⟩) len len) len (ivs .i64 zs) ∧ w1.heap.size + 1 ≤ W.heap.size ∧ Below w1.heap.size w1 W) (fun c _ => lu - (intOf c).toNat)
      case atStart => exact ⟨0, zs, Nat.zero_le _, rfl, hzl, HO, ho, hsz, hB⟩
      case round =>
        clear ho hsz hB HO hzl
        obtain ⟨j, zs, hj, rfl, hzl, HO, ho, hsz, hB⟩ := hrel
        have hcu := HC.out _ hB
        rcases Nat.lt_or_ge j lu with hjl | hjg
        · have t2 : decide ((j : Int) < lu) = true := decide_eq_true (by omega)
          obtain ⟨br, orr, rfl, hcz⟩ := hrow.fix j hjl
          have hcx := hcz wr hB
          have hjL : j < (gr (compG g) i).length := by rw [HRL.out]; exact hjl
          have hmem := gi_mem (gr (compG g) i) j hjL
          obtain ⟨x, hx, hxg⟩ := comp_node (by rw [HCL.out]; exact hlt) hmem
          have hxk : x < len := by rw [← HL.out]; exact hxg
          rw [hx] at hcx hmem
          have hfx := (HMM.out i x hlt hxk).1 hmem
          have HO2 : Hid (OfAt f len (gr (compG g) i) i (j + 1) (gi (zs.set x (i : Int)))) := Lib.hid (HO.out.step hjL hx hfx fun n hn => gi_put (by omega) _ n)
          obtain ⟨hc, hfz⟩ := own_cell ho x hxk hzl
          have ho2 := own_store ho x (i : Int)
          have hB2 := hB.setCell (p := ⟨w1.heap.size, x, none⟩) (Nat.le_refl _) (.int .i64 (i : Int))
          clear hcz hx hxg hmem hfx hjL ho hB
          go_wp2
          go_roundw
          case rel => exact ⟨j + 1, _, hjl, by go_num, by rw [List.length_set]; exact hzl, HO2, ho2, by rw [World.size_setCell]; exact hsz, hB2⟩
          case measure => simp [intOf]; omega
        · obtain rfl : j = lu := by omega
          have t2 : decide ((j : Int) < j) = false := decide_eq_false (by omega)
          have HO2 : Hid (OfAt f len (gr (compG g) (i + 1)) (i + 1) 0 (gi zs)) := Lib.hid (HO.out.next (by rw [HRL.out]; exact Nat.le_refl _) fun x hx e => (HMM.out i x hlt hx).2 e)
          go_wp2_with (fail)
          go_roundw
          case rel => exact ⟨i + 1, zs, hlt, by go_num, hzl, HO2, ho, hsz, hB⟩
          case measure => simp [intOf]; omega
    · obtain rfl : i = M := by omega
      have t1 : decide ((i : Int) < i) = false := decide_eq_false (by omega)
      have hIo := (IsInts.of_owns ho).1
      have HOF : Hid (∀ x, x < len → gi zs x = ((f x : Nat) : Int)) := Lib.hid (fun x hx => HO.out x hx (.inl (HFM.out x hx)))
      clear ho HO
      go_wp2_with (refine make_rows elG2 rfl rfl _ _ rfl rfl rfl rfl rfl (by omega) (Nat.le_refl _) ?_; intro w3 ho3 hb3)
      have HG1 : Hid (∀ W, Below wr.heap.size wr W → IsRows W a len cap g ∧ ∀ x, x < len → W.cell? ⟨w1.heap.size, x, none⟩ = some (.int .i64 ((f x : Nat) : Int))) := Lib.hid (fun W h => ⟨(HG0.out W (hB.trans (h.mono hB.size))).1, fun x hx => by
        have h1 := (hIo.later h).row.get x hx
        rw [Nat.zero_add, HOF.out x hx] at h1
        exact h1⟩)
      have hbF := HB1.out.trans (hB.mono HB1.out.size)
      have HBF := Lib.hid hbF
      have hG0 := OwnG.made (Ti := 3) ho3
      rw [← graphE_none] at hG0
      clear ho3 hIo HOF hB hbF hsz
      obtain ⟨wo, hwo⟩ : ∃ wo, wo = wr := ⟨wr, rfl⟩
      subst hwo
      obtain ⟨B, hBe⟩ : ∃ B, wo.heap.size = B := ⟨_, rfl⟩
      rw [hBe] at hG0 hb3 HG1
      rw [hBe]
      have HBE := Lib.hid hBe
      clear hBe
      go_loopw [10] (fun c W => ∃ (k : Nat) (ms : List Value), k ≤ len ∧ c = .int .i64 (k : Int) ∧ OwnG W B 25 3 (some ⟨B, 0, none⟩) i i ms ms (graphE i (prB (ceTo f g k))) ∧ Below B wo W) (fun c _ => len - (intOf c).toNat)
      case atStart => exact ⟨0, _, Nat.zero_le _, rfl, hG0, hb3⟩
      case round =>
        clear hG0 hb3
        obtain ⟨k, ms, hk, rfl, hG, hB⟩ := hrel
        rcases Nat.lt_or_ge k len with hkl | hkg
        · have t3 : decide ((k : Int) < len) = true := decide_eq_true (by omega)
          obtain ⟨b, off, au, lu, cu, rfl, hcell, hrow⟩ := (HG1.out _ (Below.refl _ _)).1.fix k hkl
          have HRL : Hid ((gr g k).length = lu) := Lib.hid hrow.length
          have hlu : lu ≤ 400 := by rw [← HRL.out]; exact row_len4 HV.out (by rw [HL.out]; exact hkl)
          have HC : Hid (∀ W, Below B wo W → W.cell? ⟨b, off + k, none⟩ = some (.slice au lu cu) ∧ IsRow .i64 W au lu cu (gr g k)) := Lib.hid (fun W h => ⟨hcell W (by rw [HBE.out]; exact h), hrow.later (by rw [HBE.out]; exact h)⟩)
          have HP0 : Hid (ceTo f g k ++ ceRow f ((gr g k).take 0) k = ceTo f g k) := Lib.hid (by simp [ceRow])
          rw [← HP0.out] at hG
          clear hcell hrow
          go_wp2_with (fail)
          go_loopw [11] (fun c W => ∃ (j : Nat) (ms : List Value), j ≤ lu ∧ c = .int .i64 (j : Int) ∧ OwnG W B 25 3 (some ⟨B, 0, none⟩) i i ms ms (graphE i (prB (ceTo f g k ++ ceRow f ((gr g k).take j) k))) ∧ Below B wo W) (fun c _ => lu - (intOf c).toNat)
          case atStart => exact ⟨0, ms, Nat.zero_le _, rfl, hG, hB⟩
          case round =>
            clear hG hB
            obtain ⟨j, ms, hj, rfl, hG, hB⟩ := hrel
            obtain ⟨hcu, hrW⟩ := HC.out _ hB
            rcases Nat.lt_or_ge j lu with hjl | hjg
            · have t2 : decide ((j : Int) < lu) = true := decide_eq_true (by omega)
              have hjL : j < (gr g k).length := by rw [HRL.out]; exact hjl
              have hxr := (HV.out.2 _ (gr_mem (g := g) (i := k) (by rw [HL.out]; exact hkl))).2 _ (gi_mem (gr g k) j hjL)
              rw [HL.out] at hxr
              obtain ⟨x, hx⟩ := Int.eq_ofNat_of_zero_le hxr.1
              rw [hx] at hxr
              have hxk : x < len := by omega
              obtain ⟨br, orr, e0, -⟩ := hrW.fix j hjl
              subst e0
              have hAk := HFM.out k hkl
              have hYk := HFM.out x hxk
              obtain ⟨A, hA⟩ : ∃ A, f k = A := ⟨_, rfl⟩
              obtain ⟨Y, hY⟩ : ∃ Y, f x = Y := ⟨_, rfl⟩
              have HF : Hid (∀ W, Below B wo W → W.cell? ⟨w1.heap.size, k, none⟩ = some (.int .i64 (A : Int)) ∧ W.cell? ⟨w1.heap.size, x, none⟩ = some (.int .i64 (Y : Int)) ∧ W.cell? ⟨b, off + k, none⟩ = some (.slice (some ⟨br, orr, none⟩) lu cu) ∧ W.cell? ⟨br, orr + j, none⟩ = some (.int .i64 (x : Int))) := Lib.hid (fun W h => by
                have h1 := (HG1.out W h).2
                have h2 := HC.out W h
                have h3 := h2.2.get j hjl
                rw [hx] at h3
                rw [← hA, ← hY]
                exact ⟨h1 k hkl, h1 x hxk, h2.1, h3⟩)
              rw [hA] at hAk
              rw [hY] at hYk
              have hBs : B ≤ wr.heap.size := by have := hB.size; rw [HBE.out] at this; exact this
              have HBS := Lib.hid hBs
              clear hcu hrW hxr
              by_cases hAY : A = Y
              · have d1 : ((A : Int) != (Y : Int)) = false := by simp [hAY]
                have HP2 : Hid (ceTo f g k ++ ceRow f ((gr g k).take j) k = ceTo f g k ++ ceRow f ((gr g k).take (j + 1)) k) := Lib.hid (by rw [ceRow_no hjL hx (by rw [hA, hY]; exact hAY)])
                rw [HP2.out] at hG
                clear hA hY hAY hjL hx hBs hAk hYk
                have hc9 := (HF.out _ hB).2.2.1
                go_wp2_with (fail)
                clear hc9
                obtain ⟨q1, q2, q3, q4⟩ := HF.out _ hB
                go_quiet (fail)
                have hdn := below_drewN wr nq
                replace hG := hG.kept hdn
                replace hB := hB.trans (hdn.mono HBS.out)
                clear q1 q2 q3 q4
                go_wp2
                go_roundw
                case rel => exact ⟨j + 1, ms, hjl, by go_num, hG, hB⟩
                case measure => simp [intOf]; omega
              · have d1 : ((A : Int) != (Y : Int)) = true := by simp; omega
                have HP2 : Hid ((graphE i (prB (ceTo f g k ++ ceRow f ((gr g k).take j) k))).set A (withL (gr (graphE i (prB (ceTo f g k ++ ceRow f ((gr g k).take j) k))) A) (Y : Int)) = graphE i (prB (ceTo f g k ++ ceRow f ((gr g k).take (j + 1)) k))) := Lib.hid (by
                  rw [graphE_snoc (e := ((A : Int), (Y : Int))) hAk hYk rfl rfl, ceRow_yes hjL hx (by rw [hA, hY]; exact hAY), List.append_assoc, hA, hY])
                obtain ⟨rs, hrs⟩ : ∃ rs, graphE i (prB (ceTo f g k ++ ceRow f ((gr g k).take j) k)) = rs := ⟨_, rfl⟩
                rw [hrs] at HP2 hG
                have hrl : (gr rs A).length ≤ 400 := by rw [← hrs, gr_graphE hAk]; have := rowE_len i (prB (ceTo f g k ++ ceRow f ((gr g k).take j) k) A); omega
                have hc9 := (HF.out _ hB).2.2.1
                clear hA hY hAY hjL hx hBs hrs
                go_wp2_with (fail)
                clear hc9
                obtain ⟨q1, q2, q3, q4⟩ := HF.out _ hB
                go_quiet (fail)
                have hdn := below_drewN wr nq
                replace hG := hG.kept hdn
                replace hB := hB.trans (hdn.mono HBS.out)
                have HS2 : Hid (B ≤ (wr.drewN nq).heap.size) := Lib.hid HBS.out
                clear q1 q2 q3 q4 hdn
                obtain ⟨v0, hv0, hrow0⟩ := hG.mem hAk
                obtain ⟨a0, c0, rfl, -⟩ := owns_slice hrow0
                obtain ⟨n0, hn0⟩ : ∃ n0, (gr rs A).length = n0 := ⟨_, rfl⟩
                rw [hn0] at hv0 hrow0 hrl
                have HN0 := Lib.hid hn0
                clear hrow0 hn0
                go_wp2_with (fail)
                obtain ⟨S, hSd⟩ : ∃ S : (Nat → Bool) → (Nat → Value) → World → Prop, S = fun L f W => Below B wo W ∧ B ≤ W.heap.size ∧ OwnG W B 25 3 (some ⟨B, 0, none⟩) i i (if L 24 = true then ms.set A (f 22) else ms) (if L 22 = true then ms.set A (f 22) else ms) (if L 22 = true then rs.set A (withL (gr rs A) (Y : Int)) else rs) := ⟨_, rfl⟩
                refine wp_region_st mixed (by kernel_rfl) [[], [], [], [(1, 82), (2, 83)], [(3, 84)], [], [], [], [(6, 87), (7, 88)], [(8, 89)], [(5, 86), (9, 90)], [(10, 91)], [], [], [], [(13, 94), (14, 95)], [(15, 96)], [], [(16, 97), (17, 98)], [(18, 99)], [(12, 93), (19, 100)], [(20, 101)], [(11, 92), (21, 102)], [(0, 81), (4, 85), (0, 81), (1, 82), (2, 83), (3, 84), (4, 85), (5, 86), (6, 87), (7, 88), (8, 89), (9, 90), (10, 91), (11, 92), (12, 93), (13, 94), (14, 95), (15, 96), (16, 97), (17, 98), (18, 99), (19, 100), (20, 101), (21, 102), (22, 103)], [(23, 104), (22, 103), (22, 103), (0, 81), (1, 82), (2, 83), (3, 84), (4, 85), (5, 86), (6, 87), (7, 88), (8, 89), (9, 90), (10, 91), (11, 92), (12, 93), (13, 94), (14, 95), (15, 96), (16, 97), (17, 98), (18, 99), (19, 100), (20, 101), (21, 102), (22, 103)]] [(0, 81), (1, 82), (2, 83), (3, 84), (4, 85), (5, 86), (6, 87), (7, 88), (8, 89), (9, 90), (10, 91), (11, 92), (12, 93), (13, 94), (14, 95), (15, 96), (16, 97), (17, 98), (18, 99), (19, 100), (20, 101), (21, 102), (22, 103), (23, 104)] rfl rfl [EV ?e0, EV ?e1, EV ?e2, EV ?e3, EV ?e4, EV ?e5, EV ?e6, EV ?e7, EV ?e8, EV ?e9, EV ?e10, EV ?e11, EV ?e12, EV ?e13, EV ?e14, EV ?e15, EV ?e16, EV ?e17, EV ?e18, EV ?e19, EV ?e20, EV ?e21, fun v => ∃ a n c, v = .slice a n c, EV ?e23, fun _ => True] S ?start ?steps ?rest
                case start =>
                  intro f
                  rw [hSd]
                  exact ⟨hB.drew, HS2.out, hG.kept ((Below.refl _ _).drew)⟩
                case steps =>
                  refine ⟨fun L f W hi hd hdn hh hS => ?_, fun L f W hi hd hdn hh hS => ?_, fun L f W hi hd hdn hh hS => ?_, fun L f W hi hd hdn hh hS => ?_, fun L f W hi hd hdn hh hS => ?_, fun L f W hi hd hdn hh hS => ?_, fun L f W hi hd hdn hh hS => ?_, fun L f W hi hd hdn hh hS => ?_, fun L f W hi hd hdn hh hS => ?_, fun L f W hi hd hdn hh hS => ?_, fun L f W hi hd hdn hh hS => ?_, fun L f W hi hd hdn hh hS => ?_, fun L f W hi hd hdn hh hS => ?_, fun L f W hi hd hdn hh hS => ?_, fun L f W hi hd hdn hh hS => ?_, fun L f W hi hd hdn hh hS => ?_, fun L f W hi hd hdn hh hS => ?_, fun L f W hi hd hdn hh hS => ?_, fun L f W hi hd hdn hh hS => ?_, fun L f W hi hd hdn hh hS => ?_, fun L f W hi hd hdn hh hS => ?_, fun L f W hi hd hdn hh hS => ?_, fun L f W hi hd hdn hh hS => ?_, fun L f W hi hd hdn hh hS => ?_, fun L f W hi hd hdn hh hS => ?_, trivial⟩
                  · -- 0: Op.move (Operand.tmp 9)
                    unfold stStep
                    rw [if_pos (by simp [Region.wanted])]
                    intro K Q hK
                    simp only [puts, List.foldr_nil]
                    go_step
                    refine st_ex hK rfl rfl (by simp only [Act.put, List.setIfInBounds_toArray, List.set_cons_succ, List.set_cons_zero, Array.getD_eq_getD_getElem?, List.getElem?_toArray, List.getElem?_cons_succ, List.getElem?_cons_zero, Option.getD_some] <;> rfl) rfl (by rw [hSd] at hS ⊢; exact hS)
                  · -- 1: Op.move (Operand.tmp 6)
                    unfold stStep
                    rw [if_pos (by simp [Region.wanted])]
                    intro K Q hK
                    simp only [puts, List.foldr_nil]
                    go_step
                    refine st_ex hK rfl rfl (by simp only [Act.put, List.setIfInBounds_toArray, List.set_cons_succ, List.set_cons_zero, Array.getD_eq_getD_getElem?, List.getElem?_toArray, List.getElem?_cons_succ, List.getElem?_cons_zero, Option.getD_some] <;> rfl) rfl (by rw [hSd] at hS ⊢; exact hS)
                  · -- 2: Op.move (Operand.tmp 10)
                    unfold stStep
                    rw [if_pos (by simp [Region.wanted])]
                    intro K Q hK
                    simp only [puts, List.foldr_nil]
                    go_step
                    refine st_ex hK rfl rfl (by simp only [Act.put, List.setIfInBounds_toArray, List.set_cons_succ, List.set_cons_zero, Array.getD_eq_getD_getElem?, List.getElem?_toArray, List.getElem?_cons_succ, List.getElem?_cons_zero, Option.getD_some] <;> rfl) rfl (by rw [hSd] at hS ⊢; exact hS)
                  · -- 3: Op.indexAddr 25 (Operand.tmp 82) (Operand.tmp 83)
                    obtain ⟨h1, h2, -⟩ := hh
                    have g1 : f 1 = _ := h1
                    have g2 : f 2 = _ := h2
                    unfold stStep
                    rw [if_pos (by simp [Region.wanted])]
                    intro K Q hK
                    simp only [puts, List.foldr_cons, List.foldr_nil, List.setIfInBounds_toArray, List.set_cons_succ, List.set_cons_zero, g1, g2]
                    go_step
                    refine st_ex hK rfl rfl (by simp only [Act.put, List.setIfInBounds_toArray, List.set_cons_succ, List.set_cons_zero, Array.getD_eq_getD_getElem?, List.getElem?_toArray, List.getElem?_cons_succ, List.getElem?_cons_zero, Option.getD_some] <;> rfl) rfl (by rw [hSd] at hS ⊢; exact hS)
                  · -- 4: Op.load 3 (Operand.tmp 84)
                    obtain ⟨h3, -⟩ := hh
                    have g3 : f 3 = _ := h3
                    unfold stStep
                    rw [if_pos (by simp [Region.wanted])]
                    intro K Q hK
                    simp only [puts, List.foldr_cons, List.foldr_nil, List.setIfInBounds_toArray, List.set_cons_succ, List.set_cons_zero, g3]
                    have hS' := hS
                    rw [hSd] at hS'
                    obtain ⟨q1, q2, q3, q4⟩ := HF.out W hS'.1
                    go_step
                    refine st_ex hK rfl rfl (by simp only [Act.put, List.setIfInBounds_toArray, List.set_cons_succ, List.set_cons_zero, Array.getD_eq_getD_getElem?, List.getElem?_toArray, List.getElem?_cons_succ, List.getElem?_cons_zero, Option.getD_some] <;> rfl) rfl (by rw [hSd] at hS ⊢; exact hS)
                  · -- 5: Op.move (Operand.tmp 9)
                    unfold stStep
                    rw [if_pos (by simp [Region.wanted])]
                    intro K Q hK
                    simp only [puts, List.foldr_nil]
                    go_step
                    refine st_ex hK rfl rfl (by simp only [Act.put, List.setIfInBounds_toArray, List.set_cons_succ, List.set_cons_zero, Array.getD_eq_getD_getElem?, List.getElem?_toArray, List.getElem?_cons_succ, List.getElem?_cons_zero, Option.getD_some] <;> rfl) rfl (by rw [hSd] at hS ⊢; exact hS)
                  · -- 6: Op.move (Operand.tmp 6)
                    unfold stStep
                    rw [if_pos (by simp [Region.wanted])]
                    intro K Q hK
                    simp only [puts, List.foldr_nil]
                    go_step
                    refine st_ex hK rfl rfl (by simp only [Act.put, List.setIfInBounds_toArray, List.set_cons_succ, List.set_cons_zero, Array.getD_eq_getD_getElem?, List.getElem?_toArray, List.getElem?_cons_succ, List.getElem?_cons_zero, Option.getD_some] <;> rfl) rfl (by rw [hSd] at hS ⊢; exact hS)
                  · -- 7: Op.move (Operand.tmp 10)
                    unfold stStep
                    rw [if_pos (by simp [Region.wanted])]
                    intro K Q hK
                    simp only [puts, List.foldr_nil]
                    go_step
                    refine st_ex hK rfl rfl (by simp only [Act.put, List.setIfInBounds_toArray, List.set_cons_succ, List.set_cons_zero, Array.getD_eq_getD_getElem?, List.getElem?_toArray, List.getElem?_cons_succ, List.getElem?_cons_zero, Option.getD_some] <;> rfl) rfl (by rw [hSd] at hS ⊢; exact hS)
                  · -- 8: Op.indexAddr 25 (Operand.tmp 87) (Operand.tmp 88)
                    obtain ⟨h6, h7, -⟩ := hh
                    have g6 : f 6 = _ := h6
                    have g7 : f 7 = _ := h7
                    unfold stStep
                    rw [if_pos (by simp [Region.wanted])]
                    intro K Q hK
                    simp only [puts, List.foldr_cons, List.foldr_nil, List.setIfInBounds_toArray, List.set_cons_succ, List.set_cons_zero, g6, g7]
                    go_step
                    refine st_ex hK rfl rfl (by simp only [Act.put, List.setIfInBounds_toArray, List.set_cons_succ, List.set_cons_zero, Array.getD_eq_getD_getElem?, List.getElem?_toArray, List.getElem?_cons_succ, List.getElem?_cons_zero, Option.getD_some] <;> rfl) rfl (by rw [hSd] at hS ⊢; exact hS)
                  · -- 9: Op.load 3 (Operand.tmp 89)
                    obtain ⟨h8, -⟩ := hh
                    have g8 : f 8 = _ := h8
                    unfold stStep
                    rw [if_pos (by simp [Region.wanted])]
                    intro K Q hK
                    simp only [puts, List.foldr_cons, List.foldr_nil, List.setIfInBounds_toArray, List.set_cons_succ, List.set_cons_zero, g8]
                    have hS' := hS
                    rw [hSd] at hS'
                    obtain ⟨q1, q2, q3, q4⟩ := HF.out W hS'.1
                    go_step
                    refine st_ex hK rfl rfl (by simp only [Act.put, List.setIfInBounds_toArray, List.set_cons_succ, List.set_cons_zero, Array.getD_eq_getD_getElem?, List.getElem?_toArray, List.getElem?_cons_succ, List.getElem?_cons_zero, Option.getD_some] <;> rfl) rfl (by rw [hSd] at hS ⊢; exact hS)
                  · -- 10: Op.indexAddr 22 (Operand.tmp 86) (Operand.tmp 90)
                    obtain ⟨h5, h9, -⟩ := hh
                    have g5 : f 5 = _ := h5
                    have g9 : f 9 = _ := h9
                    unfold stStep
                    rw [if_pos (by simp [Region.wanted])]
                    intro K Q hK
                    simp only [puts, List.foldr_cons, List.foldr_nil, List.setIfInBounds_toArray, List.set_cons_succ, List.set_cons_zero, g5, g9]
                    go_step
                    refine st_ex hK rfl rfl (by simp only [Act.put, List.setIfInBounds_toArray, List.set_cons_succ, List.set_cons_zero, Array.getD_eq_getD_getElem?, List.getElem?_toArray, List.getElem?_cons_succ, List.getElem?_cons_zero, Option.getD_some] <;> rfl) rfl (by rw [hSd] at hS ⊢; exact hS)
                  · -- 11: Op.load 25 (Operand.tmp 91)
                    obtain ⟨h10, -⟩ := hh
                    have g10 : f 10 = _ := h10
                    have l22 : L 22 = false := Bool.eq_false_iff.2 fun h => by have q := hdn 22 _ h rfl 11 (by decide); rw [show L 11 = false from hi] at q; cases q
                    have l24 : L 24 = false := Bool.eq_false_iff.2 fun h => by have q := hdn 24 _ h rfl 22 (by decide); rw [show L 22 = false from l22] at q; cases q
                    unfold stStep
                    rw [if_pos (by simp [Region.wanted])]
                    intro K Q hK
                    simp only [puts, List.foldr_cons, List.foldr_nil, List.setIfInBounds_toArray, List.set_cons_succ, List.set_cons_zero, g10]
                    have hS' := hS
                    rw [hSd] at hS'
                    simp only [l24, if_false, Bool.false_eq_true] at hS'
                    obtain ⟨c7, -⟩ := hS'.2.2.cell hv0
                    go_step
                    refine st_ex hK rfl rfl (by simp only [Act.put, List.setIfInBounds_toArray, List.set_cons_succ, List.set_cons_zero, Array.getD_eq_getD_getElem?, List.getElem?_toArray, List.getElem?_cons_succ, List.getElem?_cons_zero, Option.getD_some] <;> rfl) rfl (by rw [hSd] at hS ⊢; exact hS)
                  · -- 12: Op.move (Operand.tmp 6)
                    unfold stStep
                    rw [if_pos (by simp [Region.wanted])]
                    intro K Q hK
                    simp only [puts, List.foldr_nil]
                    go_step
                    refine st_ex hK rfl rfl (by simp only [Act.put, List.setIfInBounds_toArray, List.set_cons_succ, List.set_cons_zero, Array.getD_eq_getD_getElem?, List.getElem?_toArray, List.getElem?_cons_succ, List.getElem?_cons_zero, Option.getD_some] <;> rfl) rfl (by rw [hSd] at hS ⊢; exact hS)
                  · -- 13: Op.move (Operand.tmp 0)
                    unfold stStep
                    rw [if_pos (by simp [Region.wanted])]
                    intro K Q hK
                    simp only [puts, List.foldr_nil]
                    go_step
                    refine st_ex hK rfl rfl (by simp only [Act.put, List.setIfInBounds_toArray, List.set_cons_succ, List.set_cons_zero, Array.getD_eq_getD_getElem?, List.getElem?_toArray, List.getElem?_cons_succ, List.getElem?_cons_zero, Option.getD_some] <;> rfl) rfl (by rw [hSd] at hS ⊢; exact hS)
                  · -- 14: Op.move (Operand.tmp 10)
                    unfold stStep
                    rw [if_pos (by simp [Region.wanted])]
                    intro K Q hK
                    simp only [puts, List.foldr_nil]
                    go_step
                    refine st_ex hK rfl rfl (by simp only [Act.put, List.setIfInBounds_toArray, List.set_cons_succ, List.set_cons_zero, Array.getD_eq_getD_getElem?, List.getElem?_toArray, List.getElem?_cons_succ, List.getElem?_cons_zero, Option.getD_some] <;> rfl) rfl (by rw [hSd] at hS ⊢; exact hS)
                  · -- 15: Op.indexAddr 22 (Operand.tmp 94) (Operand.tmp 95)
                    obtain ⟨h13, h14, -⟩ := hh
                    have g13 : f 13 = _ := h13
                    have g14 : f 14 = _ := h14
                    unfold stStep
                    rw [if_pos (by simp [Region.wanted])]
                    intro K Q hK
                    simp only [puts, List.foldr_cons, List.foldr_nil, List.setIfInBounds_toArray, List.set_cons_succ, List.set_cons_zero, g13, g14]
                    go_step
                    refine st_ex hK rfl rfl (by simp only [Act.put, List.setIfInBounds_toArray, List.set_cons_succ, List.set_cons_zero, Array.getD_eq_getD_getElem?, List.getElem?_toArray, List.getElem?_cons_succ, List.getElem?_cons_zero, Option.getD_some] <;> rfl) rfl (by rw [hSd] at hS ⊢; exact hS)
                  · -- 16: Op.load 25 (Operand.tmp 96)
                    obtain ⟨h15, -⟩ := hh
                    have g15 : f 15 = _ := h15
                    unfold stStep
                    rw [if_pos (by simp [Region.wanted])]
                    intro K Q hK
                    simp only [puts, List.foldr_cons, List.foldr_nil, List.setIfInBounds_toArray, List.set_cons_succ, List.set_cons_zero, g15]
                    have hS' := hS
                    rw [hSd] at hS'
                    obtain ⟨q1, q2, q3, q4⟩ := HF.out W hS'.1
                    go_step
                    refine st_ex hK rfl rfl (by simp only [Act.put, List.setIfInBounds_toArray, List.set_cons_succ, List.set_cons_zero, Array.getD_eq_getD_getElem?, List.getElem?_toArray, List.getElem?_cons_succ, List.getElem?_cons_zero, Option.getD_some] <;> rfl) rfl (by rw [hSd] at hS ⊢; exact hS)
                  · -- 17: Op.move (Operand.tmp 11)
                    unfold stStep
                    rw [if_pos (by simp [Region.wanted])]
                    intro K Q hK
                    simp only [puts, List.foldr_nil]
                    go_step
                    refine st_ex hK rfl rfl (by simp only [Act.put, List.setIfInBounds_toArray, List.set_cons_succ, List.set_cons_zero, Array.getD_eq_getD_getElem?, List.getElem?_toArray, List.getElem?_cons_succ, List.getElem?_cons_zero, Option.getD_some] <;> rfl) rfl (by rw [hSd] at hS ⊢; exact hS)
                  · -- 18: Op.indexAddr 25 (Operand.tmp 97) (Operand.tmp 98)
                    obtain ⟨h16, h17, -⟩ := hh
                    have g16 : f 16 = _ := h16
                    have g17 : f 17 = _ := h17
                    unfold stStep
                    rw [if_pos (by simp [Region.wanted])]
                    intro K Q hK
                    simp only [puts, List.foldr_cons, List.foldr_nil, List.setIfInBounds_toArray, List.set_cons_succ, List.set_cons_zero, g16, g17]
                    go_step
                    refine st_ex hK rfl rfl (by simp only [Act.put, List.setIfInBounds_toArray, List.set_cons_succ, List.set_cons_zero, Array.getD_eq_getD_getElem?, List.getElem?_toArray, List.getElem?_cons_succ, List.getElem?_cons_zero, Option.getD_some] <;> rfl) rfl (by rw [hSd] at hS ⊢; exact hS)
                  · -- 19: Op.load 3 (Operand.tmp 99)
                    obtain ⟨h18, -⟩ := hh
                    have g18 : f 18 = _ := h18
                    unfold stStep
                    rw [if_pos (by simp [Region.wanted])]
                    intro K Q hK
                    simp only [puts, List.foldr_cons, List.foldr_nil, List.setIfInBounds_toArray, List.set_cons_succ, List.set_cons_zero, g18]
                    have hS' := hS
                    rw [hSd] at hS'
                    obtain ⟨q1, q2, q3, q4⟩ := HF.out W hS'.1
                    go_step
                    refine st_ex hK rfl rfl (by simp only [Act.put, List.setIfInBounds_toArray, List.set_cons_succ, List.set_cons_zero, Array.getD_eq_getD_getElem?, List.getElem?_toArray, List.getElem?_cons_succ, List.getElem?_cons_zero, Option.getD_some] <;> rfl) rfl (by rw [hSd] at hS ⊢; exact hS)
                  · -- 20: Op.indexAddr 25 (Operand.tmp 93) (Operand.tmp 100)
                    obtain ⟨h12, h19, -⟩ := hh
                    have g12 : f 12 = _ := h12
                    have g19 : f 19 = _ := h19
                    unfold stStep
                    rw [if_pos (by simp [Region.wanted])]
                    intro K Q hK
                    simp only [puts, List.foldr_cons, List.foldr_nil, List.setIfInBounds_toArray, List.set_cons_succ, List.set_cons_zero, g12, g19]
                    go_step
                    refine st_ex hK rfl rfl (by simp only [Act.put, List.setIfInBounds_toArray, List.set_cons_succ, List.set_cons_zero, Array.getD_eq_getD_getElem?, List.getElem?_toArray, List.getElem?_cons_succ, List.getElem?_cons_zero, Option.getD_some] <;> rfl) rfl (by rw [hSd] at hS ⊢; exact hS)
                  · -- 21: Op.load 3 (Operand.tmp 101)
                    obtain ⟨h20, -⟩ := hh
                    have g20 : f 20 = _ := h20
                    unfold stStep
                    rw [if_pos (by simp [Region.wanted])]
                    intro K Q hK
                    simp only [puts, List.foldr_cons, List.foldr_nil, List.setIfInBounds_toArray, List.set_cons_succ, List.set_cons_zero, g20]
                    have hS' := hS
                    rw [hSd] at hS'
                    obtain ⟨q1, q2, q3, q4⟩ := HF.out W hS'.1
                    go_step
                    refine st_ex hK rfl rfl (by simp only [Act.put, List.setIfInBounds_toArray, List.set_cons_succ, List.set_cons_zero, Array.getD_eq_getD_getElem?, List.getElem?_toArray, List.getElem?_cons_succ, List.getElem?_cons_zero, Option.getD_some] <;> rfl) rfl (by rw [hSd] at hS ⊢; exact hS)
                  · -- 22: Op.call { callee := Callee.value (Operand.func 41), args := #[Operand.tmp 92, Operand.tmp 
                    obtain ⟨h11, h21, -⟩ := hh
                    have g11 : f 11 = _ := h11
                    have g21 : f 21 = _ := h21
                    have l24 : L 24 = false := Bool.eq_false_iff.2 fun h => by have q := hdn 24 _ h rfl 22 (by decide); rw [show L 22 = false from hi] at q; cases q
                    unfold stStep
                    rw [if_pos (by simp [Region.wanted])]
                    intro K Q hK
                    simp only [puts, List.foldr_cons, List.foldr_nil, List.setIfInBounds_toArray, List.set_cons_succ, List.set_cons_zero, g11, g21]
                    rw [hSd] at hS hK
                    have l22 : L 22 = false := hi
                    try simp only [stage, l24, l22, if_true, if_false, Bool.false_eq_true] at hS
                    obtain ⟨hbW, hsW, hGW⟩ := hS
                    obtain ⟨u, hu, hrow⟩ := hGW.mem hAk
                    rw [hv0] at hu
                    injection hu with hu
                    subst hu
                    have hI := (IsInts.of_owns hrow).1
                    go_step
                    go_at_call 38
                    refine (refWith_any a0 n0 c0 (gr rs A) (Y : Int) W hI.row (by omega)).mono ?_
                    rintro e w3 ⟨a3, n3, c3, rfl, ho3, hb3⟩
                    have hn3 : (withL (gr rs A) (Y : Int)).length = n3 := by have := ho3.1; simp [ivs] at this; exact this
                    have hG3 := hGW.grow' hAk hv0 (below_grownBy hb3 _) (by rw [hn3]; exact ho3.from_mono hsW) (fun q hq => .inr (ho3.lt q hq).1)
                    refine hK.out _ _ rfl ⟨a3, n3, c3, rfl⟩ ?_
                    refine ⟨hbW.trans (hb3.mono hsW), Nat.le_trans hsW hb3.size, ?_⟩
                    simp only [l24, Bool.false_eq_true, ↓reduceIte, Nat.reduceEqDiff]
                    exact hG3
                  · -- 23: Op.indexAddr 22 (Operand.tmp 81) (Operand.tmp 85)
                    obtain ⟨h0, h4, _, h1, h2, h3, _, h5, h6, h7, h8, h9, h10, h11, h12, h13, h14, h15, h16, h17, h18, h19, h20, h21, h22, -⟩ := hh
                    have g0 : f 0 = _ := h0
                    have g4 : f 4 = _ := h4
                    have g1 : f 1 = _ := h1
                    have g2 : f 2 = _ := h2
                    have g3 : f 3 = _ := h3
                    have g5 : f 5 = _ := h5
                    have g6 : f 6 = _ := h6
                    have g7 : f 7 = _ := h7
                    have g8 : f 8 = _ := h8
                    have g9 : f 9 = _ := h9
                    have g10 : f 10 = _ := h10
                    have g11 : f 11 = _ := h11
                    have g12 : f 12 = _ := h12
                    have g13 : f 13 = _ := h13
                    have g14 : f 14 = _ := h14
                    have g15 : f 15 = _ := h15
                    have g16 : f 16 = _ := h16
                    have g17 : f 17 = _ := h17
                    have g18 : f 18 = _ := h18
                    have g19 : f 19 = _ := h19
                    have g20 : f 20 = _ := h20
                    have g21 : f 21 = _ := h21
                    obtain ⟨a22, n22, c22, (g22 : f 22 = _)⟩ := h22
                    unfold stStep
                    rw [if_pos (by simp [Region.wanted])]
                    intro K Q hK
                    simp only [puts, List.foldr_cons, List.foldr_nil, List.setIfInBounds_toArray, List.set_cons_succ, List.set_cons_zero, g0, g4, g1, g2, g3, g5, g6, g7, g8, g9, g10, g11, g12, g13, g14, g15, g16, g17, g18, g19, g20, g21, g22]
                    go_step
                    refine st_ex hK rfl rfl (by simp only [Act.put, List.setIfInBounds_toArray, List.set_cons_succ, List.set_cons_zero, Array.getD_eq_getD_getElem?, List.getElem?_toArray, List.getElem?_cons_succ, List.getElem?_cons_zero, Option.getD_some] <;> rfl) rfl (by rw [hSd] at hS ⊢; exact hS)
                  · -- 24: Op.store 25 (Operand.tmp 104) (Operand.tmp 103)
                    obtain ⟨h23, h22, _, h0, h1, h2, h3, h4, h5, h6, h7, h8, h9, h10, h11, h12, h13, h14, h15, h16, h17, h18, h19, h20, h21, _, -⟩ := hh
                    have g23 : f 23 = _ := h23
                    obtain ⟨a22, n22, c22, (g22 : f 22 = _)⟩ := h22
                    have g0 : f 0 = _ := h0
                    have g1 : f 1 = _ := h1
                    have g2 : f 2 = _ := h2
                    have g3 : f 3 = _ := h3
                    have g4 : f 4 = _ := h4
                    have g5 : f 5 = _ := h5
                    have g6 : f 6 = _ := h6
                    have g7 : f 7 = _ := h7
                    have g8 : f 8 = _ := h8
                    have g9 : f 9 = _ := h9
                    have g10 : f 10 = _ := h10
                    have g11 : f 11 = _ := h11
                    have g12 : f 12 = _ := h12
                    have g13 : f 13 = _ := h13
                    have g14 : f 14 = _ := h14
                    have g15 : f 15 = _ := h15
                    have g16 : f 16 = _ := h16
                    have g17 : f 17 = _ := h17
                    have g18 : f 18 = _ := h18
                    have g19 : f 19 = _ := h19
                    have g20 : f 20 = _ := h20
                    have g21 : f 21 = _ := h21
                    have l22 : L 22 = true := hd 22 (by decide)
                    unfold stStep
                    rw [if_pos (by simp [Region.wanted])]
                    intro K Q hK
                    simp only [puts, List.foldr_cons, List.foldr_nil, List.setIfInBounds_toArray, List.set_cons_succ, List.set_cons_zero, g23, g22, g0, g1, g2, g3, g4, g5, g6, g7, g8, g9, g10, g11, g12, g13, g14, g15, g16, g17, g18, g19, g20, g21]
                    rw [hSd] at hS hK
                    have l24 : L 24 = false := hi
                    try simp only [stage, l24, l22, if_true, if_false, Bool.false_eq_true] at hS
                    obtain ⟨hbW, hsW, hGW⟩ := hS
                    have l22' : L 22 = true := hd 22 (by decide)
                    try simp only [l22', l24, if_false, if_true, Bool.false_eq_true] at hGW
                    rw [g22] at hGW
                    obtain ⟨c13, f13⟩ := hGW.cell hv0
                    go_step
                    refine hK.out _ _ rfl trivial ?_
                    refine ⟨hbW.setCell (Nat.le_refl _) _, by rw [World.size_setCell]; exact hsW, ?_⟩
                    simp only [l22', ↓reduceIte, Nat.reduceEqDiff, g22]
                    exact hGW.put hAk _
                case rest =>
                  intro L f WA hL hh hS
                  rw [hSd] at hS
                  clear hSd
                  have l22 : L 22 = true := hL 22 (by decide)
                  have l24 : L 24 = true := hL 24 (by decide)
                  simp only [stage, l22, l24, if_true] at hS
                  clear hL l22 l24
                  obtain ⟨h0, h1, h2, h3, h4, h5, h6, h7, h8, h9, h10, h11, h12, h13, h14, h15, h16, h17, h18, h19, h20, h21, h22, h23, -⟩ := hh
                  have g0 : f 0 = _ := h0
                  have g1 : f 1 = _ := h1
                  have g2 : f 2 = _ := h2
                  have g3 : f 3 = _ := h3
                  have g4 : f 4 = _ := h4
                  have g5 : f 5 = _ := h5
                  have g6 : f 6 = _ := h6
                  have g7 : f 7 = _ := h7
                  have g8 : f 8 = _ := h8
                  have g9 : f 9 = _ := h9
                  have g10 : f 10 = _ := h10
                  have g11 : f 11 = _ := h11
                  have g12 : f 12 = _ := h12
                  have g13 : f 13 = _ := h13
                  have g14 : f 14 = _ := h14
                  have g15 : f 15 = _ := h15
                  have g16 : f 16 = _ := h16
                  have g17 : f 17 = _ := h17
                  have g18 : f 18 = _ := h18
                  have g19 : f 19 = _ := h19
                  have g20 : f 20 = _ := h20
                  have g21 : f 21 = _ := h21
                  obtain ⟨a22, n22, c22, (g22 : f 22 = _)⟩ := h22
                  have g23 : f 23 = _ := h23
                  simp only [puts, List.foldr_cons, List.foldr_nil, List.setIfInBounds_toArray, List.set_cons_succ, List.set_cons_zero, g0, g1, g2, g3, g4, g5, g6, g7, g8, g9, g10, g11, g12, g13, g14, g15, g16, g17, g18, g19, g20, g21, g22, g23]
                  clear h0 h1 h2 h3 h4 h5 h6 h7 h8 h9 h10 h11 h12 h13 h14 h15 h16 h17 h18 h19 h20 h21 h23 g0 g1 g2 g3 g4 g5 g6 g7 g8 g9 g10 g11 g12 g13 g14 g15 g16 g17 g18 g19 g20 g21 g23
                  simp only [g22] at hS
                  obtain ⟨hB5, -, hG5⟩ := hS
                  rw [HP2.out] at hG5
                  go_wp2
                  go_roundw
                  case rel => exact ⟨j + 1, _, hjl, by go_num, hG5, hB5⟩
                  case measure => simp [intOf]; omega
            · obtain rfl : j = lu := by omega
              have t2 : decide ((j : Int) < j) = false := decide_eq_false (by omega)
              have HP2 : Hid (ceTo f g k ++ ceRow f ((gr g k).take j) k = ceTo f g (k + 1)) := Lib.hid (by rw [ceTo_succ, List.take_of_length_le (by rw [HRL.out]; exact Nat.le_refl _)])
              rw [HP2.out] at hG
              clear hrW
              go_wp2_with (fail)
              go_roundw
              case rel => exact ⟨k + 1, ms, hkl, by go_num, hG, hB⟩
              case measure => simp [intOf]; omega
        · obtain rfl : k = len := by omega
          have t3 : decide ((k : Int) < k) = false := decide_eq_false (by omega)
          have hR := hG.read
          have HE : Hid (condG g = graphE i (prB (ceTo f g k))) := Lib.hid HCG.out
          rw [← HE.out] at hR
          have hfin := HBF.out.trans (hB.mono (by have := HBF.out.size; rw [HBE.out] at this; exact this))
          go_wp2
          go_ret2
          exact ⟨⟨_, _, _, rfl, hR, hM4⟩, hfin⟩

theorem refCondense_g (hg : IsRows w a len cap g) :
    Calls Try.prog 18 #[.slice a len cap] w fun e w' => GRes (cdR g) (bkE g) e w' ∧ Below w.heap.size w w' := by
  by_cases hv : ValidG g
  · unfold cdR
    rw [validGB_yes hv, bkE_yes hv]
    exact refCondense_ok hg hv
  · have hcm := refComps_g hg
    have hE : bkE g = 1 := by unfold bkE; rw [validGB_no hv]; rfl
    have HR : Hid (cdR g = []) := Lib.hid (by unfold cdR; rw [validGB_no hv]; rfl)
    rw [hE] at hcm ⊢
    clear hv hE
    go_enter Try.func18, Try.ntmps18
    go_wp2_with (fail)
    refine hcm.mono ?_
    rintro e w1 ⟨⟨ac, M, cc, rfl, -, -⟩, hb1⟩
    clear hcm
    go_wp2
    go_ret2
    exact ⟨by rw [HR.out]; exact ⟨_, _, _, rfl, isRows_nil _, by omega⟩, hb1⟩
end Go.Proofs.Ytlogmgkjikamaaa
