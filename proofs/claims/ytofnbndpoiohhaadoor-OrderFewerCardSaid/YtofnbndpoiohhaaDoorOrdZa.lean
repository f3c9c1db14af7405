/-
  Package order: Height.
-/
import Derived.Test.YtofnbndpoiohhaaDoorOrdW
import Derived.Test.YtofnbndpoiohhaaDoorOrdP
import Derived.Test.YtofnbndpoiohhaaDoorOrdI
set_option linter.unusedSimpArgs false
set_option linter.unusedVariables false
set_option maxHeartbeats 8000000
namespace Go.Proofs.YtofnbndpoiohhaaDoor
open Go.RowKit Go.Shelf
attribute [local go_sem] Oper.semAt_some

variable {n : Int} {a : Option Addr} {len cap : Nat} {es : List (Int × Int)} {w : World}

theorem height_no (he : IsPairs w a len cap es) (hT : TabAt 0 Lib.deBruijn64tab w) (hv : ¬ ValidO n es) :
    Calls Tryd.prog 27 #[.agg #[.int .i64 n, .slice a len cap]] w fun e w' => e = .returned (.tuple #[.int .i64 0, .int .i64 1]) ∧ Below w.heap.size w w' := by
  obtain ⟨hb1, hs1, hO⟩ := boxO n a len cap w
  obtain ⟨c0, c1⟩ := hO _ (Below.refl _ _)
  have hc := closed_no (he.later hb1) (tab_later hT hb1) hv
  clear hv he hT
  go_enter Tryd.func27, Tryd.ntmps27
  go_wp2_with (fail)
  go_at_call 33
  refine hc.mono ?_
  rintro e w2 ⟨ps, rfl, hpl, hb2⟩
  clear hc
  go_wp2_with (show wpList _ _ _ (⟨_, .store 56 _ _, _, _, _, _⟩ :: _) _ _; refine store_past rfl _ _ rfl rfl rfl rfl hpl ?_; intro w3 hs3 hb3 hP3)
  go_ret2
  exact ⟨rfl, hb1.trans ((hb2.trans (hb3.mono hb2.size)).mono (by omega))⟩

/-- Sixty numbers, all 0, in a block that was made last. -/
theorem row60 (W : World) (T : TypeId) : RowIs (W.alloc (.cells #[.int .i64 0, .int .i64 0, .int .i64 0, .int .i64 0, .int .i64 0, .int .i64 0, .int .i64 0, .int .i64 0, .int .i64 0, .int .i64 0, .int .i64 0, .int .i64 0, .int .i64 0, .int .i64 0, .int .i64 0, .int .i64 0, .int .i64 0, .int .i64 0, .int .i64 0, .int .i64 0, .int .i64 0, .int .i64 0, .int .i64 0, .int .i64 0, .int .i64 0, .int .i64 0, .int .i64 0, .int .i64 0, .int .i64 0, .int .i64 0, .int .i64 0, .int .i64 0, .int .i64 0, .int .i64 0, .int .i64 0, .int .i64 0, .int .i64 0, .int .i64 0, .int .i64 0, .int .i64 0, .int .i64 0, .int .i64 0, .int .i64 0, .int .i64 0, .int .i64 0, .int .i64 0, .int .i64 0, .int .i64 0, .int .i64 0, .int .i64 0, .int .i64 0, .int .i64 0, .int .i64 0, .int .i64 0, .int .i64 0, .int .i64 0, .int .i64 0, .int .i64 0, .int .i64 0, .int .i64 0] T)) W.heap.size 60 fun _ => .int .i64 ((0 : Nat) : Int) :=
  ⟨T, by rw [heap_alloc_new]; rfl⟩

theorem height_yes (he : IsPairs w a len cap es) (hT : TabAt 0 Lib.deBruijn64tab w) (hv : ValidO n es) :
    Calls Tryd.prog 27 #[.agg #[.int .i64 n, .slice a len cap]] w fun e w' => (∃ m : Nat, e = .returned (.tuple #[.int .i64 (m : Int), .int .i64 0]) ∧ IsHeight n.toNat es m) ∧ Below w.heap.size w w' := by
  obtain ⟨hb1, hs1, hO⟩ := boxO n a len cap w
  obtain ⟨c0, c1⟩ := hO _ (Below.refl _ _)
  have he1 := he.later hb1
  have hT1 := tab_later hT hb1
  have hc := closed_yes he1 hT1 hv
  obtain ⟨N, rfl⟩ := Int.eq_ofNat_of_zero_le hv.1.1
  rw [Int.toNat_natCast]
  have hN60 : N ≤ 60 := by have := hv.1.2; omega
  have HV := Lib.hid hv
  obtain ⟨W1, hW1⟩ : ∃ W1, w.alloc (.cells #[.int .i64 N, .slice a len cap] 27) = W1 := ⟨_, rfl⟩
  rw [hW1] at hb1 hs1 hO hc c0 c1 hT1
  have H1 := Lib.hid hW1
  have HT1 := Lib.hid hT1
  clear hv he hT he1 hT1 hW1 hO
  go_enter Tryd.func27, Tryd.ntmps27
  go_wp2_with (fail)
  rw [H1.out]
  go_at_call 33
  refine hc.mono ?_
  rintro e w2 ⟨ps, lo, ao, co, rfl, hps, hK, hlo, hrow, hb2⟩
  rw [Int.toNat_natCast] at hK hlo
  have hpl := hps.1
  have HPS := Lib.hid hps
  have HK := Lib.hid hK
  clear hc hK hps c0 c1
  go_wp2_with (show wpList _ _ _ (⟨_, .store 56 _ _, _, _, _, _⟩ :: _) _ _; refine store_past rfl _ _ rfl rfl rfl rfl hpl ?_; intro w3 hs3 hb3 hP3; replace hs3 := Lib.hid hs3; have hb13 := hb2.trans (hb3.mono hb2.size))
  have hr0 := row60 w3 64
  have hb34 : Below w3.heap.size w3 (w3.alloc (.cells #[.int .i64 0, .int .i64 0, .int .i64 0, .int .i64 0, .int .i64 0, .int .i64 0, .int .i64 0, .int .i64 0, .int .i64 0, .int .i64 0, .int .i64 0, .int .i64 0, .int .i64 0, .int .i64 0, .int .i64 0, .int .i64 0, .int .i64 0, .int .i64 0, .int .i64 0, .int .i64 0, .int .i64 0, .int .i64 0, .int .i64 0, .int .i64 0, .int .i64 0, .int .i64 0, .int .i64 0, .int .i64 0, .int .i64 0, .int .i64 0, .int .i64 0, .int .i64 0, .int .i64 0, .int .i64 0, .int .i64 0, .int .i64 0, .int .i64 0, .int .i64 0, .int .i64 0, .int .i64 0, .int .i64 0, .int .i64 0, .int .i64 0, .int .i64 0, .int .i64 0, .int .i64 0, .int .i64 0, .int .i64 0, .int .i64 0, .int .i64 0, .int .i64 0, .int .i64 0, .int .i64 0, .int .i64 0, .int .i64 0, .int .i64 0, .int .i64 0, .int .i64 0, .int .i64 0, .int .i64 0] 64)) := (Below.refl _ _).alloc (Nat.le_refl _) _
  have hsW1 := hb13.size
  have hI2 := (IsInts.of_owns hrow).1
  rw [hlo] at hI2
  generalize w3.alloc (.cells #[.int .i64 0, .int .i64 0, .int .i64 0, .int .i64 0, .int .i64 0, .int .i64 0, .int .i64 0, .int .i64 0, .int .i64 0, .int .i64 0, .int .i64 0, .int .i64 0, .int .i64 0, .int .i64 0, .int .i64 0, .int .i64 0, .int .i64 0, .int .i64 0, .int .i64 0, .int .i64 0, .int .i64 0, .int .i64 0, .int .i64 0, .int .i64 0, .int .i64 0, .int .i64 0, .int .i64 0, .int .i64 0, .int .i64 0, .int .i64 0, .int .i64 0, .int .i64 0, .int .i64 0, .int .i64 0, .int .i64 0, .int .i64 0, .int .i64 0, .int .i64 0, .int .i64 0, .int .i64 0, .int .i64 0, .int .i64 0, .int .i64 0, .int .i64 0, .int .i64 0, .int .i64 0, .int .i64 0, .int .i64 0, .int .i64 0, .int .i64 0, .int .i64 0, .int .i64 0, .int .i64 0, .int .i64 0, .int .i64 0, .int .i64 0, .int .i64 0, .int .i64 0, .int .i64 0, .int .i64 0] 64) = W4 at hr0 hb34 ⊢
  have HD := Lib.hid (fun W (h : Below w3.heap.size W4 W) => (⟨hP3.kept (hb34.trans h) (by have := hs3.out; omega), tab_later HT1.out (hb13.trans ((hb34.trans h).mono hsW1)), hI2.later (hb3.trans ((hb34.trans h).mono hb3.size))⟩ : PastIs W w2.heap.size ps ∧ TabAt 0 Lib.deBruijn64tab W ∧ IsInts .i64 W ao N co (lo.map Int.ofNat)))
  have HB : Hid (∀ W, Below w3.heap.size W4 W → Below w.heap.size w W) := Lib.hid (fun W h => hb1.trans ((hb13.trans ((hb34.trans h).mono hsW1)).mono (by omega)))
  clear hP3 hb13 hb34 hb3 hb2 hb1 hI2 hrow hsW1 hs3 hs1
  have HLO := Lib.hid hlo
  go_loopw [8, 22] (fun mo c W => ∃ (k m : Nat) (H : Nat → Nat), k ≤ N ∧ c = .int .i64 (k : Int) ∧ mo = .int .i64 (m : Int) ∧ m ≤ N ∧ Hid (HtOk es (lo.take k) H ∧ HtTop (lo.take k) H m) ∧ RowIs W w3.heap.size 60 (fun i => .int .i64 ((H i : Nat) : Int)) ∧ Below w3.heap.size W4 W) (fun _ c _ => N - (intOf c).toNat)
  case atStart => exact ⟨0, 0, fun _ => 0, Nat.zero_le _, rfl, rfl, Nat.zero_le _, Lib.hid (ht_nil _ _), hr0, Below.refl _ _⟩
  case round =>
    clear hr0
    obtain ⟨k, m, H, hk, rfl, rfl, hmN, HH, hR, hB⟩ := hrel
    rcases Nat.lt_or_ge k N with hlt | hge
    · have t1 : decide ((k : Int) < N) = true := decide_eq_true (by omega)
      have hkl : k < lo.length := by rw [HLO.out]; exact hlt
      obtain ⟨hP, -, hI⟩ := HD.out wr hB
      obtain ⟨bf, of, rfl, hbf, hcx⟩ := hI.at wr (Below.refl _ _) k hlt
      rw [gi_map _ _ hkl] at hcx
      obtain ⟨x, hx⟩ : ∃ x, lo[k] = x := ⟨_, rfl⟩
      rw [hx] at hcx
      have hxN : x < N := by rw [← hx]; exact HK.out.topo.lt _ (List.getElem_mem hkl)
      have hx60 : x < 60 := by omega
      have HX := Lib.hid hx
      clear hx hI
      obtain ⟨hca, hfa⟩ := hR.cell x hx60
      have hR5 : RowIs (wr.setCell ⟨w3.heap.size, x, none⟩ (.int .i64 1)) w3.heap.size 60 (fun i => .int .i64 ((updN H x 1 i : Nat) : Int)) := (hR.store x (.int .i64 1)).congr fun i _ => by unfold updN; split <;> rfl
      have hB5 : Below w3.heap.size W4 (wr.setCell ⟨w3.heap.size, x, none⟩ (.int .i64 1)) := hB.setCell (Nat.le_refl _) _
      obtain ⟨hP5, -, -⟩ := HD.out _ hB5
      obtain ⟨hcp, -⟩ := hP5.cell x (by omega)
      have hgx := HPS.out.2.1.gi x
      obtain ⟨z0, hz0, hz0b⟩ : ∃ z0 : Nat, gi ps x = (z0 : Int) ∧ z0 < 18446744073709551616 := ⟨(gi ps x).toNat, by omega, by omega⟩
      rw [hz0] at hcp
      have HZ0 : Hid ((gi ps x).toNat = z0) := Lib.hid (by omega)
      clear hgx hz0 hP5 hP hR hB
      go_wp2_with (fail)
      clear hcp hca hfa hcx
      generalize wr.setCell ⟨w3.heap.size, x, none⟩ (.int .i64 1) = w5 at hR5 hB5 ⊢
      go_loopw [11] (fun c W => ∃ z v : Nat, c = .int .u64 (z : Int) ∧ z < 18446744073709551616 ∧ v ≤ 61 ∧ Hid (HtAt es H x v (fun c => c ∈ upB 64 0 z0 ∧ c ∉ upB 64 0 z)) ∧ Hid (∀ c ∈ upB 64 0 z, c ∈ upB 64 0 z0) ∧ RowIs W w3.heap.size 60 (fun i => .int .i64 ((updN H x v i : Nat) : Int)) ∧ Below w3.heap.size W4 W) (fun c _ => (intOf c).toNat)
      case atStart => exact ⟨z0, 1, rfl, hz0b, by omega, Lib.hid (HtAt.start _ _ (fun c h => h.2 h.1)), Lib.hid (fun c h => h), hR5, hB5⟩
      case round =>
        clear hR5 hB5 hz0b
        obtain ⟨z, v, rfl, hz, hv61, HV2, HU, hR, hB⟩ := hrel
        by_cases hzz : z = 0
        · subst hzz
          have hnew := ht_snoc HK.out.topo hkl HH.out.1 (v := v) (seen := fun c => c ∈ upB 64 0 z0 ∧ c ∉ upB 64 0 0) (by rw [HX.out]; exact HV2.out) (by
            intro c p
            rw [HX.out] at p
            obtain ⟨d, e⟩ := p.first
            have hc := (HV.out.2.2.1.ed _ _ e).1
            refine ⟨?_, by rw [upB_zero]; exact fun h => by cases h⟩
            have := (HPS.out.2.2 x hx60 c (by omega)).2 p
            rw [← HZ0.out]
            exact mem_upB.2 ⟨by omega, by have h0 := (HPS.out.2.1.gi x).1; rw [Int.toNat_of_nonneg h0]; exact this⟩)
          have htop := top_snoc HK.out.topo.nodup hkl (v := v) HH.out.2
          rw [HX.out] at hnew htop
          have hvN : v ≤ N := by
            have := ht_le HK.out.topo hnew (x := x) (by rw [← HX.out, List.take_succ_eq_append_getElem hkl]; exact List.mem_append_right _ (List.mem_singleton.2 rfl))
            rwa [updN_self] at this
          obtain ⟨mm, hmm⟩ : ∃ mm, max m v = mm := ⟨_, rfl⟩
          rw [hmm] at htop
          have hmi : (if m < v then (v : Int) else (m : Int)) = (mm : Int) := by split <;> omega
          have hmmN : mm ≤ N := by omega
          have HNEW : Hid (HtOk es (lo.take (k + 1)) (updN H x v) ∧ HtTop (lo.take (k + 1)) (updN H x v) mm) := Lib.hid ⟨hnew, htop⟩
          obtain ⟨hca, -⟩ := hR.cell x hx60
          simp only [updN_self] at hca
          clear hnew htop hmm HV2 HU
          go_wp2_with (fail)
          go_roundw
          case rel => exact ⟨k + 1, mm, updN H x v, hlt, by go_num, by first | rfl | rw [hmi], hmmN, HNEW, hR, hB⟩
          case measure => simp [intOf]; omega
        · obtain ⟨c, hcz⟩ : ∃ c : Nat, Lib.ctz 64 z = c := ⟨_, rfl⟩
          have hpc := ctz_past HPS.out (b := x) hx60 (by rw [HZ0.out]; exact HU.out) hzz hz
          rw [hcz] at hpc
          have hcm : c ∈ lo.take k := pre_take HK.out.topo hkl (by rw [HX.out]; exact hpc)
          have hHc := ht_le HK.out.topo HH.out.1 hcm
          have hcN := HK.out.topo.lt c (List.mem_of_mem_take hcm)
          have hcx : c ≠ x := fun e => take_new HK.out.topo.nodup hkl (by rw [HX.out, ← e]; exact hcm)
          have hc60 : c < 60 := by omega
          have hupc := upB_ctz z hzz hz
          rw [hcz] at hupc
          have HU2 : Hid (∀ c ∈ upB 64 0 (z &&& (z - 1)), c ∈ upB 64 0 z0) := Lib.hid (fun d hd => HU.out d (by rw [hupc]; exact List.mem_cons_of_mem _ hd))
          obtain ⟨u, hu⟩ : ∃ u, H c = u := ⟨_, rfl⟩
          rw [hu] at hHc
          obtain ⟨mx, hmx⟩ : ∃ mx, max v (u + 1) = mx := ⟨_, rfl⟩
          have HV3 : Hid (HtAt es H x mx (fun d => d ∈ upB 64 0 z0 ∧ d ∉ upB 64 0 (z &&& (z - 1)))) := Lib.hid (by
            rw [← hmx, ← hu]
            refine HV2.out.step hpc fun d hd => ?_
            by_cases e : d = c
            · exact .inr e
            · refine .inl ⟨hd.1, fun h => ?_⟩
              rw [hupc] at h
              rcases List.mem_cons.1 h with h | h
              · exact e h
              · exact hd.2 h)
          have hmi : (if (v : Int) < (u : Int) + 1 then (u : Int) + 1 else (v : Int)) = (mx : Int) := by split <;> omega
          have hmx61 : mx ≤ 61 := by omega
          have hband : bits BinOp.and IntKind.u64 (z : Int) ((z : Int) - 1) = ((z &&& (z - 1) : Nat) : Int) := by
            rw [show ((z : Int) - 1) = ((z - 1 : Nat) : Int) by omega]
            exact bits_and_u64_nat z (z - 1) hz (by omega)
          have hlow : z &&& (z - 1) < z := by
            have := Nat.and_le_right (n := z) (m := z - 1)
            omega
          have hne : ((z : Int) != 0) = true := by simp; omega
          have HC := Lib.hid hcz
          have HUu := Lib.hid hu
          have HBW := Lib.hid (fun (W : World) (hr : RowIs W w3.heap.size 60 (fun i => .int .i64 ((updN H x v i : Nat) : Int))) => (⟨by have q := (hr.cell x hx60).1; simpa only [updN_self] using q, by have q := (hr.cell c hc60).1; simp only [updN_ne H v hcx, hu] at q; exact q⟩ : W.cell? ⟨w3.heap.size, x, none⟩ = some (.int .i64 (v : Int)) ∧ W.cell? ⟨w3.heap.size, c, none⟩ = some (.int .i64 (u : Int))))
          have HST := Lib.hid (fun (W : World) (hr : RowIs W w3.heap.size 60 (fun i => .int .i64 ((updN H x v i : Nat) : Int))) => ((hr.store x (.int .i64 (mx : Int))).congr fun i _ => by unfold updN; split <;> rfl : RowIs (W.setCell ⟨w3.heap.size, x, none⟩ (.int .i64 (mx : Int))) w3.heap.size 60 (fun i => .int .i64 ((updN H x mx i : Nat) : Int))))
          clear hcz hpc hcm hcx hupc hu hmx HV2 HU
          go_wp2
          obtain ⟨S, hSd⟩ : ∃ S : (Nat → Bool) → (Nat → Value) → World → Prop, S = fun L f W => (Below w3.heap.size W4 W ∧ stage L f W (fun W => RowIs W w3.heap.size 60 (fun i => .int .i64 ((updN H x v i : Nat) : Int))) [(11, fun _ W => RowIs W w3.heap.size 60 (fun i => .int .i64 ((updN H x mx i : Nat) : Int)))]) := ⟨_, rfl⟩
          refine wp_region_st mixed (by kernel_rfl) [[], [], [(1, 38)], [(2, 39)], [], [(4, 41)], [(5, 42)], [(6, 43)], [(7, 44)], [(3, 40), (8, 45)], [(0, 37), (0, 37), (1, 38), (2, 39), (3, 40), (4, 41), (5, 42), (6, 43), (7, 44), (8, 45), (9, 46)], [(10, 47), (9, 46), (5, 42), (0, 37), (1, 38), (2, 39), (3, 40), (4, 41), (5, 42), (6, 43), (7, 44), (8, 45), (9, 46)]] [(0, 37), (1, 38), (2, 39), (3, 40), (4, 41), (5, 42), (6, 43), (7, 44), (8, 45), (9, 46), (10, 47)] rfl rfl [EV ?e0, EV ?e1, EV ?e2, EV ?e3, EV ?e4, EV ?e5, EV ?e6, EV ?e7, EV ?e8, EV (.int .i64 (mx : Int)), EV ?e10, fun _ => True] S ?start ?steps ?rest
          case start =>
            intro f
            rw [hSd]
            exact ⟨hB.drew, hR⟩
          case steps =>
            refine ⟨fun L f W hi hd hdn hh hS => ?_, fun L f W hi hd hdn hh hS => ?_, fun L f W hi hd hdn hh hS => ?_, fun L f W hi hd hdn hh hS => ?_, fun L f W hi hd hdn hh hS => ?_, fun L f W hi hd hdn hh hS => ?_, fun L f W hi hd hdn hh hS => ?_, fun L f W hi hd hdn hh hS => ?_, fun L f W hi hd hdn hh hS => ?_, fun L f W hi hd hdn hh hS => ?_, fun L f W hi hd hdn hh hS => ?_, fun L f W hi hd hdn hh hS => ?_, trivial⟩
            · -- 0: Op.move (Operand.tmp 10)
              unfold stStep
              rw [if_pos (by simp [Region.wanted])]
              intro K Q hK
              simp only [puts, List.foldr_nil]
              go_step
              refine st_ex hK rfl rfl (by simp only [Act.put, List.setIfInBounds_toArray, List.set_cons_succ, List.set_cons_zero, Array.getD_eq_getD_getElem?, List.getElem?_toArray, List.getElem?_cons_succ, List.getElem?_cons_zero, Option.getD_some] <;> rfl) rfl (by rw [hSd] at hS ⊢; exact hS)
            · -- 1: Op.move (Operand.tmp 10)
              unfold stStep
              rw [if_pos (by simp [Region.wanted])]
              intro K Q hK
              simp only [puts, List.foldr_nil]
              go_step
              refine st_ex hK rfl rfl (by simp only [Act.put, List.setIfInBounds_toArray, List.set_cons_succ, List.set_cons_zero, Array.getD_eq_getD_getElem?, List.getElem?_toArray, List.getElem?_cons_succ, List.getElem?_cons_zero, Option.getD_some] <;> rfl) rfl (by rw [hSd] at hS ⊢; exact hS)
            · -- 2: Op.indexAddr 64 (Operand.tmp 7) (Operand.tmp 38)
              obtain ⟨h1, -⟩ := hh
              have g1 : f 1 = _ := h1
              unfold stStep
              rw [if_pos (by simp [Region.wanted])]
              intro K Q hK
              simp only [puts, List.foldr_cons, List.foldr_nil, List.setIfInBounds_toArray, List.set_cons_succ, List.set_cons_zero, g1]
              go_step
              refine st_ex hK rfl rfl (by simp only [Act.put, List.setIfInBounds_toArray, List.set_cons_succ, List.set_cons_zero, Array.getD_eq_getD_getElem?, List.getElem?_toArray, List.getElem?_cons_succ, List.getElem?_cons_zero, Option.getD_some] <;> rfl) rfl (by rw [hSd] at hS ⊢; exact hS)
            · -- 3: Op.load 3 (Operand.tmp 39)
              obtain ⟨h2, -⟩ := hh
              have g2 : f 2 = _ := h2
              have l9 : L 9 = false := Bool.eq_false_iff.2 fun h => by have q := hdn 9 _ h rfl 3 (by decide); rw [show L 3 = false from hi] at q; cases q
              have l11 : L 11 = false := Bool.eq_false_iff.2 fun h => by have q := hdn 11 _ h rfl 9 (by decide); rw [show L 9 = false from l9] at q; cases q
              unfold stStep
              rw [if_pos (by simp [Region.wanted])]
              intro K Q hK
              simp only [puts, List.foldr_cons, List.foldr_nil, List.setIfInBounds_toArray, List.set_cons_succ, List.set_cons_zero, g2]
              have hS' := hS
              rw [hSd] at hS'
              simp only [stage, l11, if_false, Bool.false_eq_true] at hS'
              obtain ⟨hc3, -⟩ := HBW.out W hS'.2
              go_step
              refine st_ex hK rfl rfl (by simp only [Act.put, List.setIfInBounds_toArray, List.set_cons_succ, List.set_cons_zero, Array.getD_eq_getD_getElem?, List.getElem?_toArray, List.getElem?_cons_succ, List.getElem?_cons_zero, Option.getD_some] <;> rfl) rfl (by rw [hSd] at hS ⊢; exact hS)
            · -- 4: Op.move (Operand.tmp 11)
              unfold stStep
              rw [if_pos (by simp [Region.wanted])]
              intro K Q hK
              simp only [puts, List.foldr_nil]
              go_step
              refine st_ex hK rfl rfl (by simp only [Act.put, List.setIfInBounds_toArray, List.set_cons_succ, List.set_cons_zero, Array.getD_eq_getD_getElem?, List.getElem?_toArray, List.getElem?_cons_succ, List.getElem?_cons_zero, Option.getD_some] <;> rfl) rfl (by rw [hSd] at hS ⊢; exact hS)
            · -- 5: Op.call { callee := Callee.value (Operand.func 39), args := #[Operand.tmp 41], argTypes :=
              obtain ⟨h4, -⟩ := hh
              have g4 : f 4 = _ := h4
              unfold stStep
              rw [if_pos (by simp [Region.wanted])]
              intro K Q hK
              simp only [puts, List.foldr_cons, List.foldr_nil, List.setIfInBounds_toArray, List.set_cons_succ, List.set_cons_zero, g4]
              have hS' := hS
              rw [hSd] at hS'
              have htz := tz_any z hz W (HD.out W hS'.1).2.1
              rw [HC.out] at htz
              go_step
              go_at_call 39
              refine htz.mono ?_
              rintro e w' ⟨rfl, rfl⟩
              refine st_ex hK rfl rfl (by simp only [Act.put, List.setIfInBounds_toArray, List.set_cons_succ, List.set_cons_zero, Array.getD_eq_getD_getElem?, List.getElem?_toArray, List.getElem?_cons_succ, List.getElem?_cons_zero, Option.getD_some] <;> rfl) rfl (by rw [hSd] at hS ⊢; exact hS)
            · -- 6: Op.indexAddr 64 (Operand.tmp 7) (Operand.tmp 42)
              obtain ⟨h5, -⟩ := hh
              have g5 : f 5 = _ := h5
              unfold stStep
              rw [if_pos (by simp [Region.wanted])]
              intro K Q hK
              simp only [puts, List.foldr_cons, List.foldr_nil, List.setIfInBounds_toArray, List.set_cons_succ, List.set_cons_zero, g5]
              go_step
              refine st_ex hK rfl rfl (by simp only [Act.put, List.setIfInBounds_toArray, List.set_cons_succ, List.set_cons_zero, Array.getD_eq_getD_getElem?, List.getElem?_toArray, List.getElem?_cons_succ, List.getElem?_cons_zero, Option.getD_some] <;> rfl) rfl (by rw [hSd] at hS ⊢; exact hS)
            · -- 7: Op.load 3 (Operand.tmp 43)
              obtain ⟨h6, -⟩ := hh
              have g6 : f 6 = _ := h6
              have l8 : L 8 = false := Bool.eq_false_iff.2 fun h => by have q := hdn 8 _ h rfl 7 (by decide); rw [show L 7 = false from hi] at q; cases q
              have l9 : L 9 = false := Bool.eq_false_iff.2 fun h => by have q := hdn 9 _ h rfl 8 (by decide); rw [show L 8 = false from l8] at q; cases q
              have l11 : L 11 = false := Bool.eq_false_iff.2 fun h => by have q := hdn 11 _ h rfl 9 (by decide); rw [show L 9 = false from l9] at q; cases q
              unfold stStep
              rw [if_pos (by simp [Region.wanted])]
              intro K Q hK
              simp only [puts, List.foldr_cons, List.foldr_nil, List.setIfInBounds_toArray, List.set_cons_succ, List.set_cons_zero, g6]
              have hS' := hS
              rw [hSd] at hS'
              simp only [stage, l11, if_false, Bool.false_eq_true] at hS'
              obtain ⟨-, hc7⟩ := HBW.out W hS'.2
              go_step
              refine st_ex hK rfl rfl (by simp only [Act.put, List.setIfInBounds_toArray, List.set_cons_succ, List.set_cons_zero, Array.getD_eq_getD_getElem?, List.getElem?_toArray, List.getElem?_cons_succ, List.getElem?_cons_zero, Option.getD_some] <;> rfl) rfl (by rw [hSd] at hS ⊢; exact hS)
            · -- 8: Op.binOp BinOp.add 3 (Operand.tmp 44) (Operand.const (Value.int IntKind.i64 1)) 3
              obtain ⟨h7, -⟩ := hh
              have g7 : f 7 = _ := h7
              unfold stStep
              rw [if_pos (by simp [Region.wanted])]
              intro K Q hK
              simp only [puts, List.foldr_cons, List.foldr_nil, List.setIfInBounds_toArray, List.set_cons_succ, List.set_cons_zero, g7]
              go_step
              refine st_ex hK rfl rfl (by simp only [Act.put, List.setIfInBounds_toArray, List.set_cons_succ, List.set_cons_zero, Array.getD_eq_getD_getElem?, List.getElem?_toArray, List.getElem?_cons_succ, List.getElem?_cons_zero, Option.getD_some] <;> rfl) rfl (by rw [hSd] at hS ⊢; exact hS)
            · -- 9: Op.call { callee := Callee.builtin Builtin.max, args := #[Operand.tmp 40, Operand.tmp 45],
              obtain ⟨h3, h8, -⟩ := hh
              have g3 : f 3 = _ := h3
              have g8 : f 8 = _ := h8
              unfold stStep
              rw [if_pos (by simp [Region.wanted])]
              intro K Q hK
              simp only [puts, List.foldr_cons, List.foldr_nil, List.setIfInBounds_toArray, List.set_cons_succ, List.set_cons_zero, g3, g8]
              go_step
              refine st_ex hK rfl rfl (by simp only [Act.put, List.setIfInBounds_toArray, List.set_cons_succ, List.set_cons_zero, Array.getD_eq_getD_getElem?, List.getElem?_toArray, List.getElem?_cons_succ, List.getElem?_cons_zero, Option.getD_some] <;> rfl) rfl (by rw [hSd] at hS ⊢; exact hS)
            · -- 10: Op.indexAddr 64 (Operand.tmp 7) (Operand.tmp 37)
              obtain ⟨h0, _, h1, h2, h3, h4, h5, h6, h7, h8, h9, -⟩ := hh
              have g0 : f 0 = _ := h0
              have g1 : f 1 = _ := h1
              have g2 : f 2 = _ := h2
              have g3 : f 3 = _ := h3
              have g4 : f 4 = _ := h4
              have g5 : f 5 = _ := h5
              have g6 : f 6 = _ := h6
              have g7 : f 7 = _ := h7
              have g8 : f 8 = _ := h8
              have g9 : f 9 = _ := h9
              unfold stStep
              rw [if_pos (by simp [Region.wanted])]
              intro K Q hK
              simp only [puts, List.foldr_cons, List.foldr_nil, List.setIfInBounds_toArray, List.set_cons_succ, List.set_cons_zero, g0, g1, g2, g3, g4, g5, g6, g7, g8, g9]
              go_step
              refine st_ex hK rfl rfl (by simp only [Act.put, List.setIfInBounds_toArray, List.set_cons_succ, List.set_cons_zero, Array.getD_eq_getD_getElem?, List.getElem?_toArray, List.getElem?_cons_succ, List.getElem?_cons_zero, Option.getD_some] <;> rfl) rfl (by rw [hSd] at hS ⊢; exact hS)
            · -- 11: Op.store 3 (Operand.tmp 47) (Operand.tmp 46)
              obtain ⟨h10, h9, h5, h0, h1, h2, h3, h4, _, h6, h7, h8, _, -⟩ := hh
              have g10 : f 10 = _ := h10
              have g9 : f 9 = _ := h9
              have g5 : f 5 = _ := h5
              have g0 : f 0 = _ := h0
              have g1 : f 1 = _ := h1
              have g2 : f 2 = _ := h2
              have g3 : f 3 = _ := h3
              have g4 : f 4 = _ := h4
              have g6 : f 6 = _ := h6
              have g7 : f 7 = _ := h7
              have g8 : f 8 = _ := h8
              unfold stStep
              rw [if_pos (by simp [Region.wanted])]
              intro K Q hK
              simp only [puts, List.foldr_cons, List.foldr_nil, List.setIfInBounds_toArray, List.set_cons_succ, List.set_cons_zero, g10, g9, g5, g0, g1, g2, g3, g4, g6, g7, g8]
              rw [hSd] at hS hK
              have l11 : L 11 = false := hi
              try simp only [stage, l11, if_true, if_false, Bool.false_eq_true] at hS
              obtain ⟨hbW, hRW⟩ := hS
              obtain ⟨hc11, hf11⟩ := hRW.cell x hx60
              go_step
              refine hK.out _ _ rfl trivial ?_
              exact ⟨hbW.setCell (Nat.le_refl _) _, HST.out W hRW⟩
          case rest =>
            intro L f W2 hL hh hS
            rw [hSd] at hS
            clear hSd
            have l11 : L 11 = true := hL 11 (by decide)
            simp only [stage, l11, if_true] at hS
            clear hL l11
            obtain ⟨h0, h1, h2, h3, h4, h5, h6, h7, h8, h9, h10, -⟩ := hh
            have g0 : f 0 = _ := h0
            have g1 : f 1 = _ := h1
            have g2 : f 2 = _ := h2
            have g3 : f 3 = _ := h3
            have g4 : f 4 = _ := h4
            have g5 : f 5 = _ := h5
            have g6 : f 6 = _ := h6
            have g7 : f 7 = _ := h7
            have g8 : f 8 = _ := h8
            have g9 : f 9 = _ := h9
            have g10 : f 10 = _ := h10
            simp only [puts, List.foldr_cons, List.foldr_nil, List.setIfInBounds_toArray, List.set_cons_succ, List.set_cons_zero, g0, g1, g2, g3, g4, g5, g6, g7, g8, g9, g10]
            clear h0 h1 h2 h3 h4 h5 h6 h7 h8 h9 h10 g0 g1 g2 g3 g4 g5 g6 g7 g8 g9 g10
            obtain ⟨hbW, hRW⟩ := hS
            clear hR hB
            go_wp2
            go_roundw
            case rel => exact ⟨z &&& (z - 1), mx, rfl, by omega, hmx61, HV3, HU2, hRW, hbW⟩
            case measure => simp [intOf]; omega
    · obtain rfl : N = k := by omega
      have t1 : decide ((N : Int) < N) = false := decide_eq_false (by omega)
      go_wp2
      go_ret2
      exact ⟨⟨m, rfl, ht_done HK.out HLO.out HH.out.1 HH.out.2⟩, HB.out _ hB⟩
end Go.Proofs.YtofnbndpoiohhaaDoor
