import Derived.Test.YtpcbmhfnefhenaaMG29
import Derived.Test.YtpcbmhfnefhenaaMG37
import Derived.Test.YtpcbmhfnefhenaaMG38
/-
  DfaUw, DfaRt
-/
set_option linter.unusedSimpArgs false
set_option linter.unusedVariables false
namespace Go.Proofs.Ytpcbmhfnefhenaa
open Go.RowKit
attribute [local go_sem] Oper.semAt_some

variable {d : Dfa} {h : DH} {w : World}
def finK (fin : List Bool) (k : Nat) : List Int := (lets k).filter fun z => gb fin z.toNat
theorem lets_succ (k : Nat) : lets (k + 1) = lets k ++ [(k : Int)] := by unfold lets; rw [List.range_succ, List.map_append]; rfl
theorem finK_asc (fin : List Bool) (k : Nat) : Asc (finK fin k) := (lets_asc k).filter _
theorem finK_mem {fin : List Bool} {k : Nat} {z : Int} : z ∈ finK fin k ↔ (0 ≤ z ∧ z < k) ∧ gb fin z.toNat = true := by unfold finK; rw [List.mem_filter, lets_mem]
theorem finK_yes {fin : List Bool} {k : Nat} (h : gb fin k = true) : withL (finK fin k) k = finK fin (k + 1) := asc_ext (withL_isAsc (finK_asc _ _) _) (finK_asc _ _) fun z => by
 rw [withL_mem (finK_asc _ _), finK_mem, finK_mem]
 constructor
 ·rintro (⟨h1, h2⟩ | rfl)
  ·exact ⟨⟨h1.1, by omega⟩, h2⟩
  ·exact ⟨⟨by omega, by omega⟩, by rw [Int.toNat_natCast]; exact h⟩
 ·rintro ⟨h1, h2⟩
  by_cases e : z = k
  ·exact .inr e
  ·exact .inl ⟨⟨h1.1, by omega⟩, h2⟩
theorem finK_no {fin : List Bool} {k : Nat} (h : gb fin k = false) : finK fin k = finK fin (k + 1) := by
 unfold finK
 rw [lets_succ, List.filter_append]
 simp [h]
theorem finK_len (fin : List Bool) (k : Nat) : (finK fin k).length ≤ k := by
 unfold finK
 refine Nat.le_trans (List.length_filter_le _ _) ?_
 simp [lets]
theorem finK_use {d : Dfa} (hv : ValidD d) : UseI d (finK d.fin d.n.toNat) := by
 have hn := hv.1
 refine ⟨finK_asc _ _, fun z hz => ?_, fun i hi hf => finK_mem.2 ⟨⟨by omega, by omega⟩, by rw [Int.toNat_natCast]; exact hf⟩⟩
 obtain ⟨h1, h2⟩ := finK_mem.1 hz
 exact ⟨⟨h1.1, by omega⟩, [], by rw [accQ_nil]; exact h2⟩
theorem use_len {d : Dfa} {l : List Int} (h : UseI d l) : l.length ≤ d.n.toNat := ints_le (asc_nodup h.1) fun x hx => (h.2.1 x hx).1
set_option maxRecDepth 20000 in
set_option maxHeartbeats 4000000 in
theorem refUseful_any (hv : ValidD d) (hd : IsDfa w h d) : Calls Try.prog 42 #[vDf d h] w fun e w' => (∃ a' n' c', e = .returned (.slice a' n' c') ∧ IsInts .i64 w' a' n' c' (useL d)) ∧ Below w.heap.size w w' := by
 have HV := Lib.hid hv
 obtain ⟨UL, hUL⟩ : ∃ UL, useL d = UL := ⟨_, rfl⟩
 rw [hUL]
 have HUL := Lib.hid hUL
 clear hUL
 obtain ⟨W1, hW1, hs1, hb1, hO⟩ := boxRW d h w hd
 have hn := hv.1
 have hfl := hd.1.length
 have hal := hd.2.length
 have hvf := hv.2.2.1
 have hva := hv.2.2.2.1
 have hfk := finK_use hv
 obtain ⟨n, s, fin, es⟩ := d
 obtain ⟨fa, fl, fc, aa, al, ac⟩ := h
 simp only [vDf] at hW1 hs1 hb1 hO hn HV HUL hfl hal hvf hva hfk ⊢
 obtain ⟨N, rfl⟩ := Int.eq_ofNat_of_zero_le (show 0 ≤ n by omega)
 rw [Int.toNat_natCast] at hfk
 obtain ⟨bf, of, rfl, hfc⟩ := hd.1.fix (show 0 < fl by omega)
 have hae := hd.2
 simp only at hae
 have HFC := Lib.hid hfc
 have HAE := Lib.hid hae
 have HFK := Lib.hid hfk
 have HAL := Lib.hid hal
 have hflN : fl = N := by omega
 subst hflN
 have hN : fl ≤ 1000 := by omega
 have HO : Hid (∀ W, Below W1.heap.size W1 W → (W.cell? ⟨w.heap.size, 0, none⟩ = some (.int .i64 (fl : Int)) ∧ W.cell? ⟨w.heap.size, 2, none⟩ = some (.slice (some ⟨bf, of, none⟩) fl fc) ∧ W.cell? ⟨w.heap.size, 3, none⟩ = some (.slice aa al ac)) ∧ Below w.heap.size w W) := Lib.hid (fun W hb => by
  have h1 := hO W (hb.mono (by omega))
  exact ⟨⟨h1.1.1, h1.1.2.2.1, h1.1.2.2.2⟩, h1.2.2⟩)
 have hal2 : al ≤ 20000 := by omega
 clear hO hd hfc hae hfk hal hva hvf hn hv
 go_enter Try.func42, Try.ntmps42
 go_wp2_with (fail)
 clear hW1 hb1
 go_loopw [3, 4] (fun v x W => ∃ (k : Nat) (ao : Option Addr) (no co : Nat), k ≤ fl ∧ x = .int .i64 (k : Int) ∧ v = .slice ao no co ∧ IsInts .i64 W ao no co (finK fin k) ∧ Below W1.heap.size W1 W) (fun _ x _ => fl - (intOf x).toNat)
 case atStart => exact ⟨0, none, 0, 0, Nat.zero_le _, rfl, rfl, .inl ⟨rfl, rfl, rfl, rfl⟩, Below.refl _ _⟩
 case round =>
  obtain ⟨k, ao, no, co, hk, rfl, rfl, hI, hb⟩ := hrel
  obtain ⟨⟨c1, c2, c3⟩, hbW⟩ := HO.out wr hb
  have hno : no ≤ fl := by have h1 := hI.length; have h2 := finK_len fin k; omega
  rcases Nat.lt_or_ge k fl with hlt | hge
  ·have t1 : decide ((k : Int) < (fl : Int)) = true := decide_eq_true (by omega)
   have ck := HFC.out wr hbW k hlt
   have hwi := refWith_any _ _ _ _ (k : Int) wr hI (by omega)
   cases hg : gb fin k with
   | true =>
    rw [hg] at ck
    have HG : Hid (withL (finK fin k) k = finK fin (k + 1)) := Lib.hid (finK_yes hg)
    rw [HG.out] at hwi
    clear hI hg
    go_wp2_with (go_at_call 68; refine hwi.mono ?_; rintro e w3 ⟨a3, n3, c3', rfl, ho3, hb3⟩)
    go_roundw
    case rel => exact ⟨k + 1, a3, n3, c3', hlt, by go_num, rfl, (IsInts.of_owns ho3).1, hb.trans (hb3.mono hb.size)⟩
    case measure => simp [intOf]; omega
   | false =>
    rw [hg] at ck
    rw [finK_no hg] at hI
    clear hg hwi
    go_wp2_with (fail)
    go_roundw
    case rel => exact ⟨k + 1, ao, no, co, hlt, by go_num, rfl, hI, hb⟩
    case measure => simp [intOf]; omega
  ·have t1 : decide ((k : Int) < (fl : Int)) = false := decide_eq_false (by omega)
   obtain rfl : k = fl := by omega
   have HI0 := Lib.hid hI
   clear hI
   go_wp2_with (fail)
   go_loopw [3, 5] (fun v x W => ∃ (m : Nat) (ao : Option Addr) (no co : Nat) (l : List Int), m ≤ k ∧ m ≤ no ∧ x = .int .i64 (m : Int) ∧ v = .slice ao no co ∧ IsInts .i64 W ao no co l ∧ Hid (UseI ⟨k, s, fin, es⟩ l) ∧ Below W1.heap.size W1 W) (fun _ x _ => k - (intOf x).toNat)
   case atStart => exact ⟨0, ao, no, co, finK fin k, Nat.zero_le _, Nat.zero_le _, rfl, rfl, HI0.out, HFK, hb⟩
   case round =>
    clear HI0 c1 c2 c3 hbW hb hno
    obtain ⟨m, ao, no, co, l, hm, hmn, rfl, rfl, hI, HU, hb⟩ := hrel
    obtain ⟨⟨c1, c2, c3⟩, hbW⟩ := HO.out wr hb
    have hln := hI.length
    rcases Nat.lt_or_ge m k with hlt | hge
    ·have t2 : decide ((m : Int) < (k : Int)) = true := decide_eq_true (by omega)
     have HI1 := Lib.hid hI
     have HLN := Lib.hid hln
     clear hI hln
     go_wp2_with (fail)
     go_loopw [3, 7] (fun v x W => ∃ (j : Nat) (a2 : Option Addr) (n2 c2 : Nat), j ≤ al ∧ x = .int .i64 (j : Int) ∧ v = .slice a2 n2 c2 ∧ IsInts .i64 W a2 n2 c2 (roundU (es.take j) l) ∧ Below W1.heap.size W1 W) (fun _ x _ => al - (intOf x).toNat)
     case atStart => exact ⟨0, ao, no, co, Nat.zero_le _, rfl, rfl, HI1.out, hb⟩
     case round =>
      clear HI1 c1 c2 c3 hbW hb
      obtain ⟨j, a2, n2, c2', hj, rfl, rfl, hI, hb⟩ := hrel
      obtain ⟨⟨c1, c2, c3⟩, hbW⟩ := HO.out wr hb
      have HUJ : Hid (UseI ⟨k, s, fin, es⟩ (roundU (es.take j) l)) := Lib.hid (roundU_keep HV.out _ _ (fun x hx => List.mem_of_mem_take hx) HU.out)
      have hnk : n2 ≤ k := by have h1 := hI.length; have h2 := use_len HUJ.out; simp only [Int.toNat_natCast] at h2; omega
      rcases Nat.lt_or_ge j al with hjl | hjg
      ·have t3 : decide ((j : Int) < (al : Int)) = true := decide_eq_true (by omega)
       obtain ⟨b5, o5, rfl, hc5⟩ := HAE.out.fix (by omega)
       obtain ⟨x1, x2, x3⟩ := hc5 wr hbW j hjl
       have HST : Hid (roundU (es.take (j + 1)) l = stepU (roundU (es.take j) l) (g3 es j)) := Lib.hid (roundU_succ es l (by rw [HAL.out]; exact hjl))
       obtain ⟨X, hX⟩ : ∃ X, g3 es j = X := ⟨_, rfl⟩
       rw [hX] at x1 x2 x3 HST
       obtain ⟨y1, y2, y3⟩ := X
       simp only at x1 x2 x3
       clear hX hc5
       have hHas := refHas_any _ _ _ _ y3 wr hI (by omega)
       by_cases hy : y3 ∈ roundU (es.take j) l
       ·rw [decide_eq_true hy] at hHas
        have hwi := refWith_any _ _ _ _ y1 wr hI (by omega)
        have HS : Hid (roundU (es.take (j + 1)) l = withL (roundU (es.take j) l) y1) := Lib.hid (by rw [HST.out]; unfold stepU; rw [if_pos hy])
        rw [← HS.out] at hwi
        clear hI hy HST
        go_wp2_with (first | (go_at_call 43; refine hHas.mono ?_; rintro e w3 ⟨rfl, rfl⟩) | (go_at_call 68; refine hwi.mono ?_; rintro e w4 ⟨a3, n3, c3', rfl, ho3, hb3⟩))
        go_roundw
        case rel => exact ⟨j + 1, a3, n3, c3', hjl, by go_num, rfl, (IsInts.of_owns ho3).1, hb.trans (hb3.mono hb.size)⟩
        case measure => simp [intOf]; omega
       ·rw [decide_eq_false hy] at hHas
        have HS : Hid (roundU (es.take (j + 1)) l = roundU (es.take j) l) := Lib.hid (by rw [HST.out]; unfold stepU; rw [if_neg hy])
        rw [← HS.out] at hI
        clear hy HST
        go_wp2_with (go_at_call 43; refine hHas.mono ?_; rintro e w3 ⟨rfl, rfl⟩)
        go_roundw
        case rel => exact ⟨j + 1, a2, n2, c2', hjl, by go_num, rfl, hI, hb⟩
        case measure => simp [intOf]; omega
      ·have t3 : decide ((j : Int) < (al : Int)) = false := decide_eq_false (by omega)
       obtain rfl : j = al := by omega
       rw [List.take_of_length_le (by rw [HAL.out]; exact Nat.le_refl _)] at hI HUJ
       have hln2 := hI.length
       have hrl := roundU_len HV.out es l (fun x hx => hx) HU.out
       rw [hln2, HLN.out] at hrl
       by_cases he : n2 = no
       ·have t4 : ((n2 : Int) == (no : Int)) = true := by simp; omega
        have h5 := hrl.2 he
        rw [h5.1] at hI
        have HR : Hid (l = UL) := Lib.hid (by rw [← HUL.out]; exact use_fin HV.out HU.out h5.2)
        have HI := Lib.hid hI
        clear hI h5 hrl he hln2
        go_wp2_with (fail)
        go_ret
        exact ⟨⟨a2, n2, c2', rfl, by rw [← HR.out]; exact HI.out⟩, hbW⟩
       ·have t4 : ((n2 : Int) == (no : Int)) = false := by simp; omega
        have HI := Lib.hid hI
        have hgrow : m + 1 ≤ n2 := by omega
        clear hI hrl he hln2
        go_wp2_with (fail)
        go_roundw
        case rel => exact ⟨m + 1, a2, n2, c2', _, hlt, hgrow, by go_num, rfl, HI.out, HUJ, hb⟩
        case measure => simp [intOf]; omega
    ·have t2 : decide ((m : Int) < (k : Int)) = false := decide_eq_false (by omega)
     have HR : Hid (l = UL) := Lib.hid (by rw [← HUL.out]; exact use_full HV.out HU.out (by simp only; omega))
     have HI := Lib.hid hI
     clear hI hln
     go_wp2_with (fail)
     go_ret
     exact ⟨⟨ao, no, co, rfl, by rw [← HR.out]; exact HI.out⟩, hbW⟩
end Go.Proofs.Ytpcbmhfnefhenaa

set_option linter.unusedSimpArgs false
set_option linter.unusedVariables false
namespace Go.Proofs.Ytpcbmhfnefhenaa
open Go.RowKit
attribute [local go_sem] Oper.semAt_some

theorem useL_len {d : Dfa} : (useL d).length ≤ d.n.toNat := by
 unfold useL
 refine Nat.le_trans (List.length_filter_le _ _) ?_
 simp [lets]
set_option maxRecDepth 20000 in
set_option maxHeartbeats 4000000 in
theorem refTrim_yes {d : Dfa} {h : DH} {w : World} (hv : ValidD d) (hd : IsDfa w h d) : Calls Try.prog 17 #[vDf d h] w (GivesDE (trimD d) 0 w) := by
 obtain ⟨MD, hMD⟩ : ∃ MD, trimD d = MD := ⟨_, rfl⟩
 rw [hMD]
 have HV := Lib.hid hv
 have hn := Lib.hid hv.1
 have hss := Lib.hid hv.2.1
 obtain ⟨W1, hW1, hs1, hb1, hO⟩ := boxRW d h w hd
 obtain ⟨W2, hW2, hb2, hs2, hZ2⟩ := rbox_ready hs1
 have HO : Hid (∀ W, Below (w.heap.size + 1) W2 W → (W.cell? ⟨w.heap.size, 0, none⟩ = some (.int .i64 d.n) ∧ W.cell? ⟨w.heap.size, 1, none⟩ = some (.int .i64 d.s) ∧ W.cell? ⟨w.heap.size, 2, none⟩ = some (.slice h.fa h.fl h.fc) ∧ W.cell? ⟨w.heap.size, 3, none⟩ = some (.slice h.aa h.al h.ac)) ∧ IsDfa W h d ∧ Below w.heap.size w W) := Lib.hid (fun W hb => hO W ((hb2.mono (by omega)).trans hb))
 obtain ⟨⟨c1, c2, c3, c4⟩, hd2, -⟩ := HO.out W2 (Below.refl _ _)
 have hva := refValid_yes hv hd2
 have HS2 := Lib.hid hs2
 have HZ2 := Lib.hid hZ2
 unfold vDf at hva ⊢
 clear hO hb2 hb1 hd2 hv hs2 hZ2
 go_enter Try.func17, Try.ntmps17
 go_wp2_with (go_at_call 25; refine hva.mono ?_; rintro e w3 ⟨rfl, hb3⟩; obtain ⟨⟨k1, k2, k3, k4⟩, hd3, hbw3⟩ := HO.out w3 (hb3.mono (by rw [HS2.out]; omega)))
 have hb3' : Below (w.heap.size + 1) W2 w3 := hb3.mono (by rw [HS2.out]; omega)
 have hZ3 : w3.heap[w.heap.size + 1]? = some (.cells #[.int .i64 0, .int .i64 0, .slice none 0 0, .slice none 0 0] 25 (0, 0)) := by rw [hb3.block _ (by rw [HS2.out]; omega)]; exact HZ2.out
 have HS3 : Hid (w.heap.size + 2 ≤ w3.heap.size) := Lib.hid (by rw [← HS2.out]; exact hb3.size)
 have HZ3 := Lib.hid hZ3
 have HB3 := Lib.hid hb3'
 refine (refUseful_any HV.out hd3).mono ?_
 rintro e w4 ⟨⟨a4, n4, c4', rfl, hI4⟩, hb4⟩
 have hb4' : Below (w.heap.size + 1) W2 w4 := hb3'.trans (hb4.mono (by have := HS3.out; omega))
 obtain ⟨⟨m1, m2, m3, m4⟩, hd4, hbw4⟩ := HO.out w4 hb4'
 have HZ4 : Hid (w4.heap[w.heap.size + 1]? = some (.cells #[.int .i64 0, .int .i64 0, .slice none 0 0, .slice none 0 0] 25 (0, 0)) ∧ w.heap.size + 2 ≤ w4.heap.size) := Lib.hid ⟨by rw [hb4.block _ (by have := HS3.out; omega)]; exact hZ3, Nat.le_trans HS3.out hb4.size⟩
 have hlen : n4 ≤ 1000 := by have h1 := hI4.length; have h2 := useL_len (d := d); have := hn.out; omega
 have hHas := refHas_any _ _ _ _ d.s w4 hI4 (by omega)
 have hmem := useL_mem d (T := d.s.toNat) (by have := hss.out; omega)
 rw [Int.toNat_of_nonneg hss.out.1] at hmem
 rw [hmem] at hHas
 have HBW4 := Lib.hid hbw4
 have HB4 := Lib.hid hb4'
 clear k1 k2 k3 k4 hd3 hbw3 c1 c2 c3 c4 hva hb3 hb3' hZ3 hs1 hW1 hW2 hb4 hb4' hbw4 hmem
 cases hk : gb (keepU d) d.s.toNat with
 | true =>
  rw [hk] at hHas
  have HT : Hid (MD = numD d (keepU d)) := Lib.hid (by rw [← hMD]; unfold trimD canD; rw [if_pos hk])
  have hnum := refNumber_any HV.out hd4 hI4 (by omega) (keep := keepU d) (fun T hT => useL_mem d hT)
  rw [← HT.out] at hnum
  unfold vDf at hnum
  clear hI4 hk HT hMD hd4
  go_wp2_with (first | (go_at_call 43; refine hHas.mono ?_; rintro e w5 ⟨rfl, rfl⟩) | (go_at_call 39; refine hnum.mono ?_; rintro e w6 ⟨⟨h', rfl, hD6⟩, hb6⟩; have HZ6 : Hid (w6.heap[w.heap.size + 1]? = some (.cells #[.int .i64 0, .int .i64 0, .slice none 0 0, .slice none 0 0] 25 (0, 0))) := Lib.hid (by rw [hb6.block _ (by have := HZ4.out.2; omega)]; exact HZ4.out.1)) | (show wpList _ _ _ (⟨_, .store 25 _ _, _, _, _, _⟩ :: _) _ _; refine wpList_store_row rfl 25 _ _ rfl (w.heap.size + 1) #[.int .i64 MD.n, .int .i64 MD.s, .slice h'.fa h'.fl h'.fc, .slice h'.aa h'.al h'.ac] rfl rfl _ _ HZ6.out ref_i rfl (dfa_one _ _ _ _ _ _ _ _) ?_))
  refine bodyPost_ret (results_cell_row2 rfl _ _ (w.heap.size + 1) _ _ _ _ rfl rfl (setRow_heap _ _ _ _ _ _ HZ6.out) Try.underlying25 rfl ref_i) rfl ?_
  exact ⟨⟨h', rfl, IsDfa.boxed _ HZ6.out hD6⟩, below_setRow (HBW4.out.trans (hb6.mono HBW4.out.size)) (by omega) _⟩
 | false =>
  rw [hk] at hHas
  have hT : MD = noneD := by rw [← hMD]; unfold trimD canD; rw [if_neg (by rw [hk]; decide)]; rfl
  clear hMD
  subst hT
  have HZ5 : Hid ((w4.alloc (.cells #[.bool false] 4)).heap[w.heap.size + 1]? = some (.cells #[.int .i64 0, .int .i64 0, .slice none 0 0, .slice none 0 0] 25 (0, 0))) := Lib.hid (heap_push HZ4.out.1 _)
  have HB5 : Hid (Below w.heap.size w (w4.alloc (.cells #[.bool false] 4))) := Lib.hid (HBW4.out.alloc HBW4.out.size _)
  clear hI4 hk hd4
  go_wp2_with (first | (go_at_call 43; refine hHas.mono ?_; rintro e w5 ⟨rfl, rfl⟩) | (show wpList _ _ _ (⟨_, .store 25 _ _, _, _, _, _⟩ :: _) _ _; refine wpList_store_row rfl 25 _ _ rfl (w.heap.size + 1) #[.int .i64 1, .int .i64 0, .slice (some ⟨w4.heap.size, 0, none⟩) 1 1, .slice none 0 0] rfl rfl _ _ HZ5.out ref_i rfl (dfa_one _ _ _ _ _ _ _ _) ?_))
  refine bodyPost_ret (results_cell_row2 rfl _ _ (w.heap.size + 1) _ _ _ _ rfl rfl (setRow_heap _ _ _ _ _ _ HZ5.out) Try.underlying25 rfl ref_i) rfl ?_
  exact ⟨⟨⟨some ⟨w4.heap.size, 0, none⟩, 1, 1, none, 0, 0⟩, rfl, IsDfa.boxed (D := noneD) (h := ⟨some ⟨w4.heap.size, 0, none⟩, 1, 1, none, 0, 0⟩) _ HZ5.out ⟨IsBools.of_block (ss := [false]) (T := 4) (heap_alloc_new w4 _) rfl (by show (1 : Nat) ≤ maxLen; decide), isArcs_nil _⟩⟩, below_setRow HB5.out (by omega) _⟩
set_option maxRecDepth 20000 in
set_option maxHeartbeats 4000000 in
theorem refTrim_no {d : Dfa} {h : DH} {w : World} (hv : ¬ ValidD d) (hd : IsDfa w h d) : Calls Try.prog 17 #[vDf d h] w (GivesDE zeroD 1 w) := by
 obtain ⟨W1, hW1, hs1, hb1, hO⟩ := boxRW d h w hd
 obtain ⟨W2, hW2, hb2, hs2, hZ2⟩ := rbox_ready hs1
 have HO : Hid (∀ W, Below (w.heap.size + 1) W2 W → (W.cell? ⟨w.heap.size, 0, none⟩ = some (.int .i64 d.n) ∧ W.cell? ⟨w.heap.size, 1, none⟩ = some (.int .i64 d.s) ∧ W.cell? ⟨w.heap.size, 2, none⟩ = some (.slice h.fa h.fl h.fc) ∧ W.cell? ⟨w.heap.size, 3, none⟩ = some (.slice h.aa h.al h.ac)) ∧ IsDfa W h d ∧ Below w.heap.size w W) := Lib.hid (fun W hb => hO W ((hb2.mono (by omega)).trans hb))
 obtain ⟨⟨c1, c2, c3, c4⟩, hd2, -⟩ := HO.out W2 (Below.refl _ _)
 have hva := refValid_no hv hd2
 have HS2 := Lib.hid hs2
 have HZ2 := Lib.hid hZ2
 unfold vDf at hva ⊢
 clear hO hb2 hb1 hd2 hv hs2 hZ2
 go_enter Try.func17, Try.ntmps17
 go_wp2_with (first | (go_at_call 25; refine hva.mono ?_; rintro e w3 ⟨rfl, hb3⟩; obtain ⟨⟨k1, k2, k3, k4⟩, hd3, hbw3⟩ := HO.out w3 (hb3.mono (by rw [HS2.out]; omega)); have HZ3 : Hid (w3.heap[w.heap.size + 1]? = some (.cells #[.int .i64 0, .int .i64 0, .slice none 0 0, .slice none 0 0] 25 (0, 0))) := Lib.hid (by rw [hb3.block _ (by rw [HS2.out]; omega)]; exact HZ2.out)) | (show wpList _ _ _ (⟨_, .store 25 _ _, _, _, _, _⟩ :: _) _ _; refine wpList_store_row rfl 25 _ _ rfl (w.heap.size + 1) #[.int .i64 0, .int .i64 0, .slice none 0 0, .slice none 0 0] rfl rfl _ _ HZ3.out ref_i rfl (dfa_one _ _ _ _ _ _ _ _) ?_))
 refine bodyPost_ret (results_cell_row2 rfl _ _ (w.heap.size + 1) _ _ _ _ rfl rfl (setRow_heap _ _ _ _ _ _ HZ3.out) Try.underlying25 rfl ref_i) rfl ?_
 exact ⟨⟨⟨none, 0, 0, none, 0, 0⟩, rfl, isDfa_zero _⟩, below_setRow hbw3 (by omega) _⟩
theorem refTrim_any {d : Dfa} {h : DH} {w : World} (hd : IsDfa w h d) : Calls Try.prog 17 #[vDf d h] w (GivesDE (orZero d (trimD d)) (orErr d) w) := by
 by_cases hv : ValidD d
 ·unfold orZero orErr
  rw [if_pos hv, if_pos hv]
  exact refTrim_yes hv hd
 ·unfold orZero orErr
  rw [if_neg hv, if_neg hv]
  exact refTrim_no hv hd
end Go.Proofs.Ytpcbmhfnefhenaa
