import Derived.Test.YtpcbmhfnefhenaaMG6
import Derived.Test.YtpcbmhfnefhenaaMG7
import Derived.Test.YtpcbmhfnefhenaaMG8
import Derived.Test.YtpcbmhfnefhenaaMG15
/-
  DfaH, DfaE
-/
set_option linter.unusedSimpArgs false
set_option linter.unusedVariables false
namespace Go.Proofs.Ytpcbmhfnefhenaa
open Go.RowKit
attribute [local go_sem] Oper.semAt_some

theorem elRA : Elem Try.prog 23 66 (.agg #[.int .i64 0, .int .i64 0, .int .i64 0]) 3 24 := ⟨Try.underlying23, by kernel_rfl, rfl, by decide⟩
variable {d : Dfa} {h : DH} {w : World}
theorem refIndex_any {a : Option Addr} {len cap : Nat} {zs : List Int} {z : Int} (hs : IsInts .i64 w a len cap zs) (hl : len ≤ 1000000) :
    Calls Try.prog 66 #[.slice a len cap, .int .i64 z] w fun e w' => e = .returned (.int .i64 (idxI zs z)) ∧ w = w' := by
  have HX : Hid (zs.length = len) := Lib.hid hs.length
  go_enter Try.func66, Try.ntmps66
  go_wp2
  go_loop [5] (fun c => ∃ k : Nat, k ≤ len ∧ c = .int .i64 (k : Int) ∧ Hid (∀ i, i < k → gi zs i ≠ z)) (fun c => len - (intOf c).toNat)
  case atStart => exact ⟨0, Nat.zero_le _, rfl, Lib.hid (fun i hi => by omega)⟩
  case round =>
    obtain ⟨k, hk, rfl, HA⟩ := hrel
    rcases Nat.lt_or_ge k len with hlt | hge
    · obtain ⟨b, off, rfl, hbl, hc⟩ := hs.at w (Below.refl _ _) k hlt
      obtain ⟨x, hx⟩ : ∃ x, gi zs k = x := ⟨_, rfl⟩
      rw [hx] at hc
      by_cases h0 : x = z
      · have hq : (x == z) = true := by simpa using h0
        have HR : Hid (idxI zs z = (k : Int)) := Lib.hid (idxI_at (by rw [HX.out]; exact hlt) HA.out (hx.trans h0))
        clear h0 hx hs
        go_wp2
        go_ret
        exact ⟨by rw [HR.out]; rfl, rfl⟩
      · have hq : (x == z) = false := by simpa using h0
        have HN : Hid (gi zs k ≠ z) := Lib.hid (by rw [hx]; exact h0)
        clear h0 hx hs
        go_wp2
        go_round
        case rel => exact ⟨k + 1, by omega, by go_num, Lib.hid (fun i hi => by rcases Nat.lt_or_ge i k with h | h; exact HA.out i h; rw [show i = k by omega]; exact HN.out)⟩
        case measure => simp [intOf]; omega
    · have HR : Hid (idxI zs z = -1) := Lib.hid (idxI_miss fun j hj => HA.out j (by rw [HX.out] at hj; omega))
      go_wp2
      go_ret
      exact ⟨by rw [HR.out]; rfl, rfl⟩
set_option maxRecDepth 20000 in
theorem refNext_any (q c : Int) (hd : IsDfa w h d) (hl : d.arcs.length ≤ 20000) :
    Calls Try.prog 54 #[vDf d h, .int .i64 q, .int .i64 c] w fun e w' => e = .returned (.int .i64 (nxI d.arcs q c)) ∧ Below w.heap.size w w' := by
  obtain ⟨W1, hW1, hs1, hb1, hO⟩ := boxRW d h w hd
  obtain ⟨⟨c1, c2, c3, c4⟩, hd1, -⟩ := hO W1 (Below.refl _ _)
  have he := hd1.arcs
  obtain ⟨n, s, fin, es⟩ := d
  obtain ⟨fa, fl, fc, aa, al, ac⟩ := h
  simp only [vDf] at hW1 hs1 hb1 c1 c2 c3 c4 he hl ⊢
  have hlen := he.length
  rw [hlen] at hl
  have HX := Lib.hid hlen
  clear hlen hO hd hd1
  go_enter Try.func54, Try.ntmps54
  go_wp2_with (fail)
  clear hW1
  go_loop [7] (fun x => ∃ k : Nat, k ≤ al ∧ x = .int .i64 (k : Int) ∧ Hid (∀ i, i < k → ¬ ((g3 es i).f = q ∧ (g3 es i).l = c))) (fun x => al - (intOf x).toNat)
  case atStart => exact ⟨0, Nat.zero_le _, rfl, Lib.hid (fun i hi => by omega)⟩
  case round =>
    obtain ⟨k, hk, rfl, HA⟩ := hrel
    rcases Nat.lt_or_ge k al with hlt | hge
    · obtain ⟨b, off, rfl, hcell⟩ := he.fix (by omega)
      obtain ⟨x1, x2, x3, hx⟩ : ∃ x1 x2 x3, g3 es k = ⟨x1, x2, x3⟩ := ⟨_, _, _, rfl⟩
      obtain ⟨cx1, cx2, cx3⟩ := hcell W1 (Below.refl _ _) k hlt
      rw [hx] at cx1 cx2 cx3
      have HK := Lib.hid hx
      clear hx hcell he
      by_cases h1 : x1 = q
      case neg =>
        have t1 : (x1 == q) = false := by simpa using h1
        have HN : Hid (¬ ((g3 es k).f = q ∧ (g3 es k).l = c)) := Lib.hid (by rw [HK.out]; exact fun h => h1 h.1)
        clear h1
        go_wp2
        go_round
        case rel => exact ⟨k + 1, by omega, by go_num, Lib.hid (fun i hi => by rcases Nat.lt_or_ge i k with h | h; exact HA.out i h; rw [show i = k by omega]; exact HN.out)⟩
        case measure => simp [intOf]; omega
      have t1 : (x1 == q) = true := by simpa using h1
      by_cases h2 : x2 = c
      case neg =>
        have t2 : (x2 == c) = false := by simpa using h2
        have HN : Hid (¬ ((g3 es k).f = q ∧ (g3 es k).l = c)) := Lib.hid (by rw [HK.out]; exact fun h => h2 h.2)
        clear h1 h2
        go_wp2
        go_round
        case rel => exact ⟨k + 1, by omega, by go_num, Lib.hid (fun i hi => by rcases Nat.lt_or_ge i k with h | h; exact HA.out i h; rw [show i = k by omega]; exact HN.out)⟩
        case measure => simp [intOf]; omega
      have t2 : (x2 == c) = true := by simpa using h2
      have HR : Hid (nxI es q c = x3) := Lib.hid (by rw [nxI_some (nxtD_at (by rw [HX.out]; exact hlt) HA.out (by rw [HK.out]; exact ⟨h1, h2⟩)), HK.out])
      clear h1 h2
      go_wp2
      go_ret
      exact ⟨by rw [HR.out]; rfl, hb1⟩
    · have HR : Hid (nxI es q c = -1) := Lib.hid (nxI_none (nxtD_miss fun j hj => HA.out j (by rw [HX.out] at hj; omega)))
      go_wp2
      go_ret
      exact ⟨by rw [HR.out]; rfl, hb1⟩
theorem refValid_yes (hv : ValidD d) (hd : IsDfa w h d) : Calls Try.prog 25 #[vDf d h] w fun e w' => e = .returned (.bool true) ∧ Below w.heap.size w w' :=
  (refValid_any d h w hd).mono fun e w' ⟨h1, h2⟩ => ⟨by rw [h1, vD_yes hv], h2⟩
theorem refValid_no (hv : ¬ ValidD d) (hd : IsDfa w h d) : Calls Try.prog 25 #[vDf d h] w fun e w' => e = .returned (.bool false) ∧ Below w.heap.size w w' :=
  (refValid_any d h w hd).mono fun e w' ⟨h1, h2⟩ => ⟨by rw [h1, vD_no hv], h2⟩
theorem RefNext_any (q c : Int) (hd : IsDfa w h d) : Calls Try.prog 28 #[vDf d h, .int .i64 q, .int .i64 c] w fun e w' => e = .returned (nextR d q c) ∧ Below w.heap.size w w' := by
  by_cases hv : ValidD d
  · have HR : Hid (nextR d q c = nextV d.arcs q c) := Lib.hid (by unfold nextR; rw [if_pos hv])
    have hl := hv.2.2.2.1
    obtain ⟨W1, hW1, hs1, hb1, hO⟩ := boxRW d h w hd
    obtain ⟨⟨c1, c2, c3, c4⟩, hd1, -⟩ := hO W1 (Below.refl _ _)
    have hva := refValid_yes hv hd1
    have hne := fun W (hW : IsDfa W h d) => refNext_any q c hW hl
    cases hx : nxtD d.arcs q c with
    | some x =>
      have hx0 := (hv.arc (nxtD_mem hx).1).1.2.1
      have HV : Hid (nextV d.arcs q c = .tuple #[.int .i64 x.t, .bool true]) := Lib.hid (by unfold nextV; rw [hx])
      rw [nxI_some hx] at hne
      obtain ⟨X, hX⟩ := Int.eq_ofNat_of_zero_le hx0
      rw [hX] at hne HV
      obtain ⟨n, s, fin, es⟩ := d
      obtain ⟨fa, fl, fc, aa, al, ac⟩ := h
      simp only [vDf] at hW1 hs1 hb1 hO c1 c2 c3 c4 hva hne HR HV ⊢
      clear hv hx hX hx0
      go_enter Try.func28, Try.ntmps28
      go_wp2_with (first | (go_at_call 25; refine hva.mono ?_; rintro e w2 ⟨rfl, hb2⟩; obtain ⟨⟨c1', c2', c3', c4'⟩, hd2, hb02⟩ := hO w2 (hb2.mono (by omega))) | (go_at_call 54; refine (hne _ hd2).mono ?_; rintro e w3 ⟨rfl, hb3⟩))
      go_ret2
      exact ⟨by rw [HR.out, HV.out]; rfl, hb02.trans (hb3.mono hb02.size)⟩
    | none =>
      have HV : Hid (nextV d.arcs q c = .tuple #[.int .i64 0, .bool false]) := Lib.hid (by unfold nextV; rw [hx])
      rw [nxI_none hx] at hne
      obtain ⟨n, s, fin, es⟩ := d
      obtain ⟨fa, fl, fc, aa, al, ac⟩ := h
      simp only [vDf] at hW1 hs1 hb1 hO c1 c2 c3 c4 hva hne HR HV ⊢
      clear hv hx
      go_enter Try.func28, Try.ntmps28
      go_wp2_with (first | (go_at_call 25; refine hva.mono ?_; rintro e w2 ⟨rfl, hb2⟩; obtain ⟨⟨c1', c2', c3', c4'⟩, hd2, hb02⟩ := hO w2 (hb2.mono (by omega))) | (go_at_call 54; refine (hne _ hd2).mono ?_; rintro e w3 ⟨rfl, hb3⟩))
      go_ret2
      exact ⟨by rw [HR.out, HV.out]; rfl, hb02.trans (hb3.mono hb02.size)⟩
  · have HR : Hid (nextR d q c = .tuple #[.int .i64 0, .bool false]) := Lib.hid (by unfold nextR; rw [if_neg hv])
    obtain ⟨W1, hW1, hs1, hb1, hO⟩ := boxRW d h w hd
    obtain ⟨⟨c1, c2, c3, c4⟩, hd1, -⟩ := hO W1 (Below.refl _ _)
    have hva := refValid_no hv hd1
    obtain ⟨n, s, fin, es⟩ := d
    obtain ⟨fa, fl, fc, aa, al, ac⟩ := h
    simp only [vDf] at hW1 hs1 hb1 hO c1 c2 c3 c4 hva HR ⊢
    clear hv
    go_enter Try.func28, Try.ntmps28
    go_wp2_with (go_at_call 25; refine hva.mono ?_; rintro e w2 ⟨rfl, hb2⟩)
    go_ret2
    exact ⟨by rw [HR.out]; rfl, hb1.trans (hb2.mono (by omega))⟩
end Go.Proofs.Ytpcbmhfnefhenaa

set_option linter.unusedSimpArgs false
set_option linter.unusedVariables false
namespace Go.Proofs.Ytpcbmhfnefhenaa
open List (foldr_cons foldr_nil setIfInBounds_toArray set_cons_succ set_cons_zero)
open Go.RowKit
attribute [local go_sem] Oper.semAt_some

open Classical in
noncomputable def accV (d : Dfa) (zs : List Int) : Value := .tuple #[.bool (accD d zs), .int .i64 (if ValidD d then 0 else 1)]
theorem accV_yes {d : Dfa} (hv : ValidD d) (zs : List Int) : accV d zs = .tuple #[.bool (accQ d d.s zs), .int .i64 0] := by
  unfold accV accD
  rw [vD_yes hv, if_pos hv, Bool.true_and]
theorem accV_no {d : Dfa} (hv : ¬ ValidD d) (zs : List Int) : accV d zs = .tuple #[.bool false, .int .i64 1] := by
  unfold accV accD
  rw [vD_no hv, if_neg hv, Bool.false_and]
variable {d : Dfa} {h : DH} {w : World}
set_option maxRecDepth 20000 in
set_option maxHeartbeats 4000000 in
theorem accepts_any (hd : IsDfa w h d) {aw : Option Addr} {lw cw : Nat} {zs : List Int} (hw : IsInts .i64 w aw lw cw zs) (hlw : lw ≤ 1000000) :
    Calls Try.prog 23 #[vDf d h, .slice aw lw cw] w fun e w' => e = .returned (accV d zs) ∧ Below w.heap.size w w' := by
  have hwl := hw.length
  by_cases hv : ValidD d
  · obtain ⟨V, hV⟩ : ∃ V, accQ d d.s zs = V := ⟨_, rfl⟩
    have HR : Hid (accV d zs = .tuple #[.bool V, .int .i64 0]) := Lib.hid (by rw [accV_yes hv, hV])
    have HV := Lib.hid hV
    have hS := hv.sorted
    have hl := hv.2.2.2.1
    have hfin := hv.2.2.1
    have harc := fun (x : A3) (hx : x ∈ d.arcs) => (hv.arc hx).1.2
    obtain ⟨hn1, hn2⟩ := hv.1
    obtain ⟨hs1', hs2'⟩ := hv.2.1
    obtain ⟨W1, hW1, hs1, hb1, hO⟩ := boxDW d h w hd
    obtain ⟨⟨c1, c2, c3, c4⟩, hd1, -⟩ := hO W1 (Below.refl _ _)
    have hva := valid_yes hv hd1
    have hne := fun q c W hW => next_any d h q c W hW hS hl
    have hff := hd.fin
    have HACC : Hid (accQ d d.s zs = V) := HV
    have HSOME := Lib.hid (fun (q c : Int) (x : A3) (h : nxtD d.arcs q c = some x) (w : List Int) => accQ_some (d := d) h w)
    have HNONE := Lib.hid (fun (q c : Int) (h : nxtD d.arcs q c = none) (w : List Int) => accQ_none (d := d) h w)
    obtain ⟨acc, hacc⟩ : ∃ acc, accQ d = acc := ⟨_, rfl⟩
    have HNIL : Hid (∀ q, acc q [] = gb d.fin q.toNat) := Lib.hid (fun q => by rw [← hacc]; rfl)
    rw [hacc] at HV HSOME HNONE
    clear hV hacc HACC
    have hfl := hff.length
    obtain ⟨n, s, fin, es⟩ := d
    obtain ⟨fa, fl, fc, aa, al, ac⟩ := h
    simp only [vDf] at hW1 hs1 hb1 hO c1 c2 c3 c4 hva hne HR HV HNIL HSOME HNONE hS hl hfin harc hn1 hn2 hs1' hs2' hff hfl ⊢
    have hnfl : (fl : Int) = n := by omega
    have hflc := hff.capLe
    unfold maxLen at hflc
    obtain ⟨bf, of, rfl, hfc⟩ := hff.fix (by omega)
    obtain ⟨S, rfl⟩ := Int.eq_ofNat_of_zero_le hs1'
    have HFIN := Lib.hid hfin
    have hcapw := hw.cap
    clear hv hd hd1 hff hfin hfl
    go_enter Try.func23, Try.ntmps23
    go_wp2_with (go_at_call 22; refine hva.mono ?_; rintro e w2 ⟨rfl, hb2⟩; obtain ⟨⟨c1', c2', c3', c4'⟩, hd2, hb02⟩ := hO w2 (hb2.mono (by omega)))
    have hsz2 : w.heap.size + 1 ≤ w2.heap.size := by have := hb2.size; omega
    have HB2 := Lib.hid (show Below (w.heap.size + 1) W1 w2 from hb2.mono (by omega))
    have HO := Lib.hid hO
    have HB02 := Lib.hid hb02
    clear hO hs1 hb1 hW1 hb2 c1 c2 c3 c4 c1' c2' c3' c4' hva hd2 hb02
    go_loopw [6, 7, 8] (fun p u c W => ∃ (k q : Nat) (b : Bool), k ≤ lw ∧ c = .int .i64 (k : Int) ∧ u = .bool b ∧ p = .int .i64 (q : Int) ∧ q < fl ∧ Hid (V = if b then acc q (zs.drop k) else false) ∧ Below w2.heap.size w2 W) (fun _ _ c _ => lw - (intOf c).toNat)
    case atStart => exact ⟨0, S, true, Nat.zero_le _, rfl, rfl, rfl, by omega, Lib.hid (by rw [if_pos rfl]; exact HV.out.symm), Below.refl _ _⟩
    case round =>
      obtain ⟨k, q, b, hk, rfl, rfl, rfl, hq, HI, hb⟩ := hrel
      have hbb := HB2.out.trans (hb.mono hsz2)
      obtain ⟨⟨c1, c2, c3, c4⟩, hd2, hbW⟩ := HO.out wr hbb
      have cf := hfc wr hbW q hq
      have HBW := Lib.hid hbW
      cases b with
      | false =>
        have HF : Hid (V = false) := Lib.hid (by rw [HI.out]; rfl)
        clear hfc cf hbW
        by_cases hkl : k < lw
        · have t1 : decide ((k : Int) < lw) = true := decide_eq_true (by omega)
          go_wp2
          go_ret2
          exact ⟨by rw [HR.out, HF.out]; rfl, HBW.out⟩
        · have t1 : decide ((k : Int) < lw) = false := decide_eq_false (by omega)
          go_wp2
          go_ret2
          exact ⟨by rw [HR.out, HF.out]; rfl, HBW.out⟩
      | true =>
        rw [if_pos rfl] at HI
        rcases Nat.lt_or_ge k lw with hlt | hge
        · obtain ⟨bw, ow, rfl, hbw, hcw⟩ := hw.at w (Below.refl _ _) k hlt
          obtain ⟨z, hz⟩ : ∃ z, gi zs k = z := ⟨_, rfl⟩
          rw [hz] at hcw
          have HDROP : Hid (zs.drop k = z :: zs.drop (k + 1)) := Lib.hid (by rw [drop_gi zs k (by omega), hz])
          have hcm : ∀ W, Below wr.heap.size wr W → (W.cell? ⟨w.heap.size, 0, none⟩ = some (.int .i64 n) ∧ W.cell? ⟨w.heap.size, 1, none⟩ = some (.int .i64 (S : Int)) ∧ W.cell? ⟨w.heap.size, 2, none⟩ = some (.slice (some ⟨bf, of, none⟩) fl fc) ∧ W.cell? ⟨w.heap.size, 3, none⟩ = some (.slice aa al ac)) ∧ IsDfa W ⟨some ⟨bf, of, none⟩, fl, fc, aa, al, ac⟩ ⟨n, S, fin, es⟩ ∧ W.cell? ⟨bw, ow + k, none⟩ = some (.int .i64 z) := fun W h => by
            have h1 := HO.out W (hbb.trans (h.mono (Nat.le_trans hsz2 hb.size)))
            exact ⟨h1.1, h1.2.1, (h1.2.2.cell (p := ⟨bw, ow + k, none⟩) hbw).trans hcw⟩
          have HB := Lib.hid hb
          have t1 : decide ((k : Int) < lw) = true := decide_eq_true (by omega)
          clear hb hbb hfc cf hcw hbW hz hw c1 c2 c3 c4 hd2
          cases hx : nxtD es q z with
          | some x =>
            have HX : Hid (nextV es q z = .tuple #[.int .i64 x.t, .bool true]) := Lib.hid (by unfold nextV; rw [hx])
            have hxt := harc x (nxtD_mem hx).1
            have HA := Lib.hid (HSOME.out q z x hx (zs.drop (k + 1)))
            obtain ⟨x1, x2, x3⟩ := x
            simp only at HX hxt HA
            obtain ⟨X, rfl⟩ := Int.eq_ofNat_of_zero_le hxt.1
            clear hx harc
            go_wp2_with (fail)
            refine wp_region_grow mixed (by kernel_rfl) [[], [], [], [], [(2, 26), (3, 27)], [(4, 28)], [(0, 24), (1, 25), (5, 29)], [(6, 30)], [(7, 23)], [(7, 23)], [(8, 31), (6, 30), (0, 24), (1, 25), (2, 26), (3, 27), (4, 28), (5, 29), (6, 30), (7, 23), (8, 31)], [(9, 32), (10, 6), (0, 24), (1, 25), (2, 26), (3, 27), (4, 28), (5, 29), (6, 30), (7, 23), (8, 31), (9, 32), (10, 6)]] [(0, 24), (1, 25), (2, 26), (3, 27), (4, 28), (5, 29), (6, 30), (7, 23), (8, 31), (9, 32), (10, 6), (11, 7)] rfl rfl [Ex ?ea0, Ex ?ea1, Ex ?ea2, Ex ?ea3, Ex ?ea4, Ex ?ea5, Ex (.tuple #[.int .i64 (X : Int), .bool true]), Ex ?ea7, Ex ?ea8, Ex ?ea9, Ex ?ea10, Ex ?ea11] ⟨stays_ex _, stays_ex _, stays_ex _, stays_ex _, stays_ex _, stays_ex _, stays_ex _, stays_ex _, stays_ex _, stays_ex _, stays_ex _, stays_ex _, trivial⟩ ?asteps ?arest
            case asteps =>
              refine ⟨fun f W hC hh => ?_, fun f W hC hh => ?_, fun f W hC hh => ?_, fun f W hC hh => ?_, fun f W hC hh => ?_, fun f W hC hh => ?_, fun f W hC hh => ?_, fun f W hC hh => ?_, fun f W hC hh => ?_, fun f W hC hh => ?_, fun f W hC hh => ?_, fun f W hC hh => ?_, trivial⟩
              ·
                refine tab_plain fun K Q hK => ?_
                simp only [puts, foldr_nil]
                obtain ⟨⟨f1, f2, f3, f4⟩, f5, f6⟩ := hcm W hC
                go_step
                exact fam_e hK rfl rfl (Below.refl _ _) hC
              ·
                refine tab_plain fun K Q hK => ?_
                simp only [puts, foldr_nil]
                go_step
                exact fam_e hK rfl rfl (Below.refl _ _) hC
              ·
                refine tab_plain fun K Q hK => ?_
                simp only [puts, foldr_nil]
                go_step
                exact fam_e hK rfl rfl (Below.refl _ _) hC
              ·
                refine tab_plain fun K Q hK => ?_
                simp only [puts, foldr_nil]
                go_step
                exact fam_e hK rfl rfl (Below.refl _ _) hC
              ·
                obtain ⟨h2, h3, -⟩ := hh
                have g2 : f 2 = _ := h2
                have g3 : f 3 = _ := h3
                refine tab_plain fun K Q hK => ?_
                simp only [puts, foldr_cons, foldr_nil, setIfInBounds_toArray, set_cons_succ, set_cons_zero, g2, g3]
                go_step
                exact fam_e hK rfl rfl (Below.refl _ _) hC
              ·
                obtain ⟨h4, -⟩ := hh
                have g4 : f 4 = _ := h4
                refine tab_plain fun K Q hK => ?_
                simp only [puts, foldr_cons, foldr_nil, setIfInBounds_toArray, set_cons_succ, set_cons_zero, g4]
                obtain ⟨⟨f1, f2, f3, f4⟩, f5, f6⟩ := hcm W hC
                go_step
                exact fam_e hK rfl rfl (Below.refl _ _) hC
              ·
                obtain ⟨h0, h1, h5, -⟩ := hh
                have g0 : f 0 = _ := h0
                have g1 : f 1 = _ := h1
                have g5 : f 5 = _ := h5
                refine tab_plain fun K Q hK => ?_
                simp only [puts, foldr_cons, foldr_nil, setIfInBounds_toArray, set_cons_succ, set_cons_zero, g0, g1, g5]
                obtain ⟨⟨f1, f2, f3, f4⟩, f5, f6⟩ := hcm W hC
                go_step
                go_at_call 53
                refine (hne q z W f5).mono ?_
                rintro e w' ⟨rfl, hb⟩
                rw [HX.out]
                exact fam_fin hK rfl rfl hb (hC.trans (hb.mono hC.size))
              ·
                obtain ⟨h6, -⟩ := hh
                have g6 : f 6 = _ := h6
                refine tab_plain fun K Q hK => ?_
                simp only [puts, foldr_cons, foldr_nil, setIfInBounds_toArray, set_cons_succ, set_cons_zero, g6]
                go_step
                exact fam_e hK rfl rfl (Below.refl _ _) hC
              ·
                obtain ⟨h7, -⟩ := hh
                have g7 : f 7 = _ := h7
                refine tab_plain fun K Q hK => ?_
                simp only [puts, foldr_cons, foldr_nil, setIfInBounds_toArray, set_cons_succ, set_cons_zero, g7]
                go_step
                exact fam_e hK rfl rfl (Below.refl _ _) hC
              ·
                obtain ⟨h7, -⟩ := hh
                have g7 : f 7 = _ := h7
                refine tab_plain fun K Q hK => ?_
                simp only [puts, foldr_cons, foldr_nil, setIfInBounds_toArray, set_cons_succ, set_cons_zero, g7]
                go_step
                exact fam_e hK rfl rfl (Below.refl _ _) hC
              ·
                obtain ⟨h8, h6, h0, h1, h2, h3, h4, h5, _, h7, _, -⟩ := hh
                have g8 : f 8 = _ := h8
                have g6 : f 6 = _ := h6
                have g0 : f 0 = _ := h0
                have g1 : f 1 = _ := h1
                have g2 : f 2 = _ := h2
                have g3 : f 3 = _ := h3
                have g4 : f 4 = _ := h4
                have g5 : f 5 = _ := h5
                have g7 : f 7 = _ := h7
                refine tab_plain fun K Q hK => ?_
                simp only [puts, foldr_cons, foldr_nil, setIfInBounds_toArray, set_cons_succ, set_cons_zero, g8, g6, g0, g1, g2, g3, g4, g5, g7]
                go_step
                exact fam_e hK rfl rfl (Below.refl _ _) hC
              ·
                obtain ⟨h9, h10, h0, h1, h2, h3, h4, h5, h6, h7, h8, _, _, -⟩ := hh
                have g9 : f 9 = _ := h9
                have g10 : f 10 = _ := h10
                have g0 : f 0 = _ := h0
                have g1 : f 1 = _ := h1
                have g2 : f 2 = _ := h2
                have g3 : f 3 = _ := h3
                have g4 : f 4 = _ := h4
                have g5 : f 5 = _ := h5
                have g6 : f 6 = _ := h6
                have g7 : f 7 = _ := h7
                have g8 : f 8 = _ := h8
                refine tab_plain fun K Q hK => ?_
                simp only [puts, foldr_cons, foldr_nil, setIfInBounds_toArray, set_cons_succ, set_cons_zero, g9, g10, g0, g1, g2, g3, g4, g5, g6, g7, g8]
                go_step
                exact fam_e hK rfl rfl (Below.refl _ _) hC
            case arest =>
              intro f W2 hC hh
              obtain ⟨h0, h1, h2, h3, h4, h5, h6, h7, h8, h9, h10, h11, -⟩ := hh
              have g0 : f 0 = _ := h0
              have g1 : f 1 = _ := h1
              have g2 : f 2 = _ := h2
              have g3 : f 3 = _ := h3
              have g4 : f 4 = _ := h4
              have g5 : f 5 = _ := h5
              have g6 : f 6 = _ := h6
              have g7 : f 7 = _ := h7
              have g8 : f 8 = _ := h8
              have g9 : f 9 = _ := h9
              have g10 : f 10 = _ := h10
              have g11 : f 11 = _ := h11
              simp only [puts, foldr_cons, foldr_nil, setIfInBounds_toArray, set_cons_succ, set_cons_zero, g0, g1, g2, g3, g4, g5, g6, g7, g8, g9, g10, g11]
              clear h0 h1 h2 h3 h4 h5 h6 h7 h8 h9 h10 h11 g0 g1 g2 g3 g4 g5 g6 g7 g8 g9 g10 g11
              go_wp2
              go_roundw
              case rel => exact ⟨k + 1, X, true, by omega, by go_num, rfl, rfl, by omega, Lib.hid (by rw [if_pos rfl, HI.out, HDROP.out]; exact HA.out), HB.out.trans (hC.mono HB.out.size)⟩
              case measure => simp [intOf]; omega
          | none =>
            have HX : Hid (nextV es q z = .tuple #[.int .i64 0, .bool false]) := Lib.hid (by unfold nextV; rw [hx])
            have HA := Lib.hid (HNONE.out q z hx (zs.drop (k + 1)))
            clear hx harc
            go_wp2_with (fail)
            refine wp_region_grow mixed (by kernel_rfl) [[], [], [], [], [(2, 26), (3, 27)], [(4, 28)], [(0, 24), (1, 25), (5, 29)], [(6, 30)], [(7, 23)], [(7, 23)], [(8, 31), (6, 30), (0, 24), (1, 25), (2, 26), (3, 27), (4, 28), (5, 29), (6, 30), (7, 23), (8, 31)], [(9, 32), (10, 6), (0, 24), (1, 25), (2, 26), (3, 27), (4, 28), (5, 29), (6, 30), (7, 23), (8, 31), (9, 32), (10, 6)]] [(0, 24), (1, 25), (2, 26), (3, 27), (4, 28), (5, 29), (6, 30), (7, 23), (8, 31), (9, 32), (10, 6), (11, 7)] rfl rfl [Ex ?eb0, Ex ?eb1, Ex ?eb2, Ex ?eb3, Ex ?eb4, Ex ?eb5, Ex (.tuple #[.int .i64 0, .bool false]), Ex ?eb7, Ex ?eb8, Ex ?eb9, Ex ?eb10, Ex ?eb11] ⟨stays_ex _, stays_ex _, stays_ex _, stays_ex _, stays_ex _, stays_ex _, stays_ex _, stays_ex _, stays_ex _, stays_ex _, stays_ex _, stays_ex _, trivial⟩ ?bsteps ?brest
            case bsteps =>
              refine ⟨fun f W hC hh => ?_, fun f W hC hh => ?_, fun f W hC hh => ?_, fun f W hC hh => ?_, fun f W hC hh => ?_, fun f W hC hh => ?_, fun f W hC hh => ?_, fun f W hC hh => ?_, fun f W hC hh => ?_, fun f W hC hh => ?_, fun f W hC hh => ?_, fun f W hC hh => ?_, trivial⟩
              ·
                refine tab_plain fun K Q hK => ?_
                simp only [puts, foldr_nil]
                obtain ⟨⟨f1, f2, f3, f4⟩, f5, f6⟩ := hcm W hC
                go_step
                exact fam_e hK rfl rfl (Below.refl _ _) hC
              ·
                refine tab_plain fun K Q hK => ?_
                simp only [puts, foldr_nil]
                go_step
                exact fam_e hK rfl rfl (Below.refl _ _) hC
              ·
                refine tab_plain fun K Q hK => ?_
                simp only [puts, foldr_nil]
                go_step
                exact fam_e hK rfl rfl (Below.refl _ _) hC
              ·
                refine tab_plain fun K Q hK => ?_
                simp only [puts, foldr_nil]
                go_step
                exact fam_e hK rfl rfl (Below.refl _ _) hC
              ·
                obtain ⟨h2, h3, -⟩ := hh
                have g2 : f 2 = _ := h2
                have g3 : f 3 = _ := h3
                refine tab_plain fun K Q hK => ?_
                simp only [puts, foldr_cons, foldr_nil, setIfInBounds_toArray, set_cons_succ, set_cons_zero, g2, g3]
                go_step
                exact fam_e hK rfl rfl (Below.refl _ _) hC
              ·
                obtain ⟨h4, -⟩ := hh
                have g4 : f 4 = _ := h4
                refine tab_plain fun K Q hK => ?_
                simp only [puts, foldr_cons, foldr_nil, setIfInBounds_toArray, set_cons_succ, set_cons_zero, g4]
                obtain ⟨⟨f1, f2, f3, f4⟩, f5, f6⟩ := hcm W hC
                go_step
                exact fam_e hK rfl rfl (Below.refl _ _) hC
              ·
                obtain ⟨h0, h1, h5, -⟩ := hh
                have g0 : f 0 = _ := h0
                have g1 : f 1 = _ := h1
                have g5 : f 5 = _ := h5
                refine tab_plain fun K Q hK => ?_
                simp only [puts, foldr_cons, foldr_nil, setIfInBounds_toArray, set_cons_succ, set_cons_zero, g0, g1, g5]
                obtain ⟨⟨f1, f2, f3, f4⟩, f5, f6⟩ := hcm W hC
                go_step
                go_at_call 53
                refine (hne q z W f5).mono ?_
                rintro e w' ⟨rfl, hb⟩
                rw [HX.out]
                exact fam_fin hK rfl rfl hb (hC.trans (hb.mono hC.size))
              ·
                obtain ⟨h6, -⟩ := hh
                have g6 : f 6 = _ := h6
                refine tab_plain fun K Q hK => ?_
                simp only [puts, foldr_cons, foldr_nil, setIfInBounds_toArray, set_cons_succ, set_cons_zero, g6]
                go_step
                exact fam_e hK rfl rfl (Below.refl _ _) hC
              ·
                obtain ⟨h7, -⟩ := hh
                have g7 : f 7 = _ := h7
                refine tab_plain fun K Q hK => ?_
                simp only [puts, foldr_cons, foldr_nil, setIfInBounds_toArray, set_cons_succ, set_cons_zero, g7]
                go_step
                exact fam_e hK rfl rfl (Below.refl _ _) hC
              ·
                obtain ⟨h7, -⟩ := hh
                have g7 : f 7 = _ := h7
                refine tab_plain fun K Q hK => ?_
                simp only [puts, foldr_cons, foldr_nil, setIfInBounds_toArray, set_cons_succ, set_cons_zero, g7]
                go_step
                exact fam_e hK rfl rfl (Below.refl _ _) hC
              ·
                obtain ⟨h8, h6, h0, h1, h2, h3, h4, h5, _, h7, _, -⟩ := hh
                have g8 : f 8 = _ := h8
                have g6 : f 6 = _ := h6
                have g0 : f 0 = _ := h0
                have g1 : f 1 = _ := h1
                have g2 : f 2 = _ := h2
                have g3 : f 3 = _ := h3
                have g4 : f 4 = _ := h4
                have g5 : f 5 = _ := h5
                have g7 : f 7 = _ := h7
                refine tab_plain fun K Q hK => ?_
                simp only [puts, foldr_cons, foldr_nil, setIfInBounds_toArray, set_cons_succ, set_cons_zero, g8, g6, g0, g1, g2, g3, g4, g5, g7]
                go_step
                exact fam_e hK rfl rfl (Below.refl _ _) hC
              ·
                obtain ⟨h9, h10, h0, h1, h2, h3, h4, h5, h6, h7, h8, _, _, -⟩ := hh
                have g9 : f 9 = _ := h9
                have g10 : f 10 = _ := h10
                have g0 : f 0 = _ := h0
                have g1 : f 1 = _ := h1
                have g2 : f 2 = _ := h2
                have g3 : f 3 = _ := h3
                have g4 : f 4 = _ := h4
                have g5 : f 5 = _ := h5
                have g6 : f 6 = _ := h6
                have g7 : f 7 = _ := h7
                have g8 : f 8 = _ := h8
                refine tab_plain fun K Q hK => ?_
                simp only [puts, foldr_cons, foldr_nil, setIfInBounds_toArray, set_cons_succ, set_cons_zero, g9, g10, g0, g1, g2, g3, g4, g5, g6, g7, g8]
                go_step
                exact fam_e hK rfl rfl (Below.refl _ _) hC
            case brest =>
              intro f W2 hC hh
              obtain ⟨h0, h1, h2, h3, h4, h5, h6, h7, h8, h9, h10, h11, -⟩ := hh
              have g0 : f 0 = _ := h0
              have g1 : f 1 = _ := h1
              have g2 : f 2 = _ := h2
              have g3 : f 3 = _ := h3
              have g4 : f 4 = _ := h4
              have g5 : f 5 = _ := h5
              have g6 : f 6 = _ := h6
              have g7 : f 7 = _ := h7
              have g8 : f 8 = _ := h8
              have g9 : f 9 = _ := h9
              have g10 : f 10 = _ := h10
              have g11 : f 11 = _ := h11
              simp only [puts, foldr_cons, foldr_nil, setIfInBounds_toArray, set_cons_succ, set_cons_zero, g0, g1, g2, g3, g4, g5, g6, g7, g8, g9, g10, g11]
              clear h0 h1 h2 h3 h4 h5 h6 h7 h8 h9 h10 h11 g0 g1 g2 g3 g4 g5 g6 g7 g8 g9 g10 g11
              go_wp2
              go_roundw
              case rel => exact ⟨k + 1, 0, false, by omega, by go_num, rfl, rfl, by omega, Lib.hid (by rw [HI.out, HDROP.out]; exact HA.out), HB.out.trans (hC.mono HB.out.size)⟩
              case measure => simp [intOf]; omega
        · have hkl : k = lw := by omega
          subst hkl
          have HF : Hid (V = gb fin q) := Lib.hid (by rw [HI.out, List.drop_eq_nil_of_le (by omega), HNIL.out]; simp)
          clear hfc hbW
          go_wp2
          go_ret2
          exact ⟨by rw [HR.out, HF.out]; rfl, HBW.out⟩
  · have HR : Hid (accV d zs = .tuple #[.bool false, .int .i64 1]) := Lib.hid (accV_no hv zs)
    obtain ⟨W1, hW1, hs1, hb1, hO⟩ := boxDW d h w hd
    obtain ⟨⟨c1, c2, c3, c4⟩, hd1, -⟩ := hO W1 (Below.refl _ _)
    have hva := valid_no hv hd1
    obtain ⟨n, s, fin, es⟩ := d
    obtain ⟨fa, fl, fc, aa, al, ac⟩ := h
    simp only [vDf] at hW1 hs1 hb1 hO c1 c2 c3 c4 hva HR ⊢
    clear hv
    go_enter Try.func23, Try.ntmps23
    go_wp2_with (go_at_call 22; refine hva.mono ?_; rintro e w2 ⟨rfl, hb2⟩)
    go_ret2
    exact ⟨by rw [HR.out]; rfl, hb1.trans (hb2.mono (by omega))⟩
end Go.Proofs.Ytpcbmhfnefhenaa
