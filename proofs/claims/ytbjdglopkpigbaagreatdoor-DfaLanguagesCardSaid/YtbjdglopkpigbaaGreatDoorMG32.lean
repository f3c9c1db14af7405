import Derived.Laws.ResultCell
import Derived.Test.YtbjdglopkpigbaaGreatDoorMG31
/-
  DfaEc, DfaEd, DfaEe
-/
set_option linter.unusedSimpArgs false
set_option linter.unusedVariables false
namespace Go.Proofs.YtbjdglopkpigbaaGreatDoor
open List (foldr_cons foldr_nil setIfInBounds_toArray set_cons_succ set_cons_zero)
open Go.RowKit
attribute [local go_sem] Oper.semAt_some
theorem elII : Elem Tryz.prog 75 26 (.slice none 0 0) 1 24 := ⟨Tryz.underlying75, by kernel_rfl, rfl, by decide⟩
theorem endPs_start {W : World} {B gr N : Nat} {os : List Bool} (ho : W.ownsRow B 4 1 (.slice (some ⟨gr, 0, none⟩) N N) N (bvs os)) (hB : B ≤ W.heap.size) :
  Pcs ((W.alloc (.cells #[.slice (some ⟨gr, 0, none⟩) N N] 22)).alloc (.cells #[.slice none 0 0] 26)) B (endPs W.heap.size (W.heap.size + 1) gr N os [] (.slice none 0 0)) := by
 have h1 := (Pcs.one (p := .row 4 1 (.slice (some ⟨gr, 0, none⟩) N N) N (bvs os)) ho).new hB #[.slice (some ⟨gr, 0, none⟩) N N] 22
 have h2 := h1.new (by simp; omega) #[.slice none 0 0] 26
 have h3 := h2.empty 3 1
 rw [World.size_alloc] at h3
 exact h3
def GivesK (d : Dfa) (w : World) (e : Ending) (w' : World) : Prop := (∃ a c, e = .returned (.slice a d.n.toNat c) ∧ IsBools w' a d.n.toNat c (keepU d)) ∧ Below w.heap.size w w'
set_option maxRecDepth 20000 in
set_option maxHeartbeats 8000000 in
theorem ends_any {d : Dfa} {h : DH} {w : World} (hv : ValidD d) (hd : IsDfa w h d) : Calls Tryz.prog 21 #[vDf d h] w (GivesK d w) := by
 have HV := Lib.hid hv
 have hn := hv.1
 have hel := hv.2.2.2.1
 have hfl := hv.2.2.1
 have hal := hd.arcs.length
 have hffl := hd.fin.length
 have hcl := hd.arcs.capLe
 have hcf := hd.fin.capLe
 unfold maxLen at hcl hcf
 obtain ⟨W1, hW1, hs1, hb1, hO⟩ := boxDW d h w hd
 obtain ⟨n, s, fin, es⟩ := d
 obtain ⟨fa, fl, fc, aa, al, ac⟩ := h
 simp only [vDf] at hW1 hs1 hb1 hO HV hn hel hfl hal hffl hcl hcf ⊢
 obtain ⟨N, rfl⟩ := Int.eq_ofNat_of_zero_le (show 0 ≤ n by omega)
 obtain ⟨⟨c1, c2, c3, c4⟩, hd1, -⟩ := hO W1 (Below.refl _ _)
 have hmf : ∀ (fn : Fn) (first cap : Array Value) (w : World), (Instr.makeFunc fn first cap).run Tryz.prog w = .ok (.func fn first cap) w := fun _ _ _ _ => rfl
 have HO := Lib.hid hO
 have HAL := Lib.hid hal
 have HFL : Hid (fin.length = N ∧ fl = N) := Lib.hid ⟨by omega, by omega⟩
 have hes : al ≤ 20000 := by omega
 have HS1 := Lib.hid hs1
 have HB1 := Lib.hid hb1
 go_enter Tryz.func21, Tryz.ntmps21
 clear hO hal hffl hfl hel hv hd hd1 hb1
 go_wp2_with (refine make_rows elII rfl rfl _ _ rfl rfl rfl rfl rfl (by omega) (Nat.le_refl _) ?_; intro w2 ho2 hb2; obtain ⟨⟨k1, k2, k3, k4⟩, -, -⟩ := HO.out w2 (by rw [← HS1.out]; exact hb2))
 rw [hs1] at ho2 hb2
 have hG0 := OwnG.made (Ti := 3) ho2
 rw [← rowsK_zero (backP es) N] at hG0
 clear ho2 hs1 hW1 c1 c2 c3 c4 k1 k2 k3 k4
 go_loopw [20] (fun c W => ∃ (k : Nat) (ms : List Value), k ≤ al ∧ c = .int .i64 (k : Int) ∧ OwnG W (w.heap.size + 1) 26 3 (some ⟨w.heap.size + 1, 0, none⟩) N N ms ms (rowsK (backP es) N k) ∧ Below (w.heap.size + 1) W1 W) (fun c _ => al - (intOf c).toNat)
 case atStart => exact ⟨0, _, Nat.zero_le _, rfl, hG0, hb2⟩
 case round =>
  clear hG0 hb2
  obtain ⟨k, ms, hk, rfl, hG, hB⟩ := hrel
  obtain ⟨⟨c1, c2, c3, c4⟩, hdr, hbr⟩ := HO.out wr hB
  rcases Nat.lt_or_ge k al with hlt | hge
  ·have t1 : decide (k < al) = true := decide_eq_true hlt
   have hke : k < es.length := by rw [HAL.out]; exact hlt
   obtain ⟨ba, oa, rfl, hca⟩ := hdr.arcs.fix (by show 0 < al; omega)
   obtain ⟨x1, x2, x3⟩ := hca wr (Below.refl _ _) k hlt
   have hr := HV.out.arc (g3_mem es k hke)
   have hgp := gp_backP hke
   obtain ⟨⟨xF, xL, xT⟩, hx⟩ : ∃ x, g3 es k = x := ⟨_, rfl⟩
   rw [hx] at hr x1 x2 x3 hgp
   simp only at hr x1 x2 x3 hgp
   obtain ⟨A, rfl⟩ := Int.eq_ofNat_of_zero_le hr.1.2.1
   obtain ⟨Y, rfl⟩ := Int.eq_ofNat_of_zero_le hr.1.1.1
   obtain ⟨L0, rfl⟩ := Int.eq_ofNat_of_zero_le (show 0 ≤ xL by omega)
   have hAN : A < N := by omega
   have hbl : k < (backP es).length := by unfold backP; rw [List.length_map]; exact hke
   have hrlen : (gr (rowsK (backP es) N k) A).length ≤ 20000 := by
    rw [gr_rowsK hAN]
    have := tgt_len ((backP es).take k) A
    rw [List.length_take] at this
    omega
   have hnext := Lib.hid (rowsK_succ hbl hAN (by rw [hgp]) (by rw [hgp]))
   simp only at hnext
   obtain ⟨v0, hv0, hrow0⟩ := hG.mem hAN
   obtain ⟨a0, c0, rfl, -⟩ := owns_slice hrow0
   obtain ⟨n0, hn0⟩ : ∃ n0, (gr (rowsK (backP es) N k) A).length = n0 := ⟨_, rfl⟩
   rw [hn0] at hv0 hrow0 hrlen
   have HN0 := Lib.hid hn0
   clear hn0 hx hgp hr hke hbl hca hdr hbr c1 c2 c3 c4
   go_wp2_with (fail)
   replace hrlen := Lib.hid hrlen
   have hbp : Below wr.heap.size wr (wr.alloc (.cells #[.int .i64 (Y : Int), .int .i64 (L0 : Int), .int .i64 (A : Int)] 49)) := (Below.refl _ _).alloc (Nat.le_refl _) _
   have hP2 := BlkAt.new wr #[.int .i64 (Y : Int), .int .i64 (L0 : Int), .int .i64 (A : Int)] 49
   have hG2 := hG.kept hbp
   have hB2 := hB.trans (hbp.mono (by have := hB.size; have := HS1.out; omega))
   have hblt : ∀ q, (Value.slice a0 n0 c0).ownBlock = some q → q < wr.heap.size := fun q hq => (hG.lt.2 A _ q hAN hv0 hq).2
   have HBL := Lib.hid hblt
   have HWS : Hid (w.heap.size + 1 < wr.heap.size) := Lib.hid (hG.lt.1 _ rfl).2
   clear x1 x2 x3 hG hB hblt hbp
   generalize wr.alloc (.cells #[.int .i64 (Y : Int), .int .i64 (L0 : Int), .int .i64 (A : Int)] 49) = w2 at hP2 hG2 hB2 ⊢
   obtain ⟨S, hSd⟩ : ∃ S : (Nat → Bool) → (Nat → Value) → World → Prop, S = fun L f W => Below (w.heap.size + 1) W1 W ∧ BlkAt W wr.heap.size #[.int .i64 (Y : Int), .int .i64 (L0 : Int), .int .i64 (A : Int)] ∧ (L 10 = true → L 11 = false → ∃ q, f 10 = .slice (some ⟨q, 0, none⟩) 1 1 ∧ BlkAt W q #[.int .i64 (Y : Int)]) ∧ OwnG W (w.heap.size + 1) 26 3 (some ⟨w.heap.size + 1, 0, none⟩) N N (if L 13 = true then ms.set A (f 11) else ms) (if L 11 = true then ms.set A (f 11) else ms) (if L 11 = true then (rowsK (backP es) N k).set A (gr (rowsK (backP es) N k) A ++ [(Y : Int)]) else rowsK (backP es) N k) := ⟨_, rfl⟩
   refine wp_region_st mixed (by kernel_rfl) [[], [], [(1, 25)], [], [], [(4, 28)], [(3, 27), (5, 29)], [(6, 30)], [], [(8, 32)], [(9, 33)], [(7, 31), (10, 34)], [(0, 24), (2, 26), (0, 24), (1, 25), (2, 26), (3, 27), (4, 28), (5, 29), (6, 30), (7, 31), (8, 32), (9, 33), (10, 34), (11, 35)], [(12, 36), (11, 35), (11, 35), (0, 24), (1, 25), (2, 26), (3, 27), (4, 28), (5, 29), (6, 30), (7, 31), (8, 32), (9, 33), (10, 34), (11, 35)]] [(0, 24), (1, 25), (2, 26), (3, 27), (4, 28), (5, 29), (6, 30), (7, 31), (8, 32), (9, 33), (10, 34), (11, 35), (12, 36)] rfl rfl [EV ?e0, EV ?e1, EV ?e2, EV ?e3, EV ?e4, EV ?e5, EV ?e6, EV ?e7, EV ?e8, EV ?e9, fun v => ∃ b, v = .slice (some ⟨b, 0, none⟩) 1 1, fun v => ∃ a c, v = .slice a (n0 + 1) c, EV ?e12, fun _ => True] S ?start ?steps ?rest
   case start =>
    intro f
    rw [hSd]
    exact ⟨hB2.drew, by obtain ⟨T, h⟩ := hP2; exact ⟨T, h⟩, fun h => (by cases h), hG2.kept ((Below.refl _ _).drew)⟩
   case steps =>
    refine ⟨fun L f W hi hd hdn hh hS => ?_, fun L f W hi hd hdn hh hS => ?_, fun L f W hi hd hdn hh hS => ?_, fun L f W hi hd hdn hh hS => ?_, fun L f W hi hd hdn hh hS => ?_, fun L f W hi hd hdn hh hS => ?_, fun L f W hi hd hdn hh hS => ?_, fun L f W hi hd hdn hh hS => ?_, fun L f W hi hd hdn hh hS => ?_, fun L f W hi hd hdn hh hS => ?_, fun L f W hi hd hdn hh hS => ?_, fun L f W hi hd hdn hh hS => ?_, fun L f W hi hd hdn hh hS => ?_, fun L f W hi hd hdn hh hS => ?_, trivial⟩
    ·
     unfold stStep
     rw [if_pos (by simp [Region.wanted])]
     intro K Q hK
     simp only [puts, foldr_nil];go_step
     refine st_ex hK rfl rfl (by simp only [go_sem] <;> rfl) rfl (by rw [hSd] at hS ⊢; exact hS)
    ·
     unfold stStep
     rw [if_pos (by simp [Region.wanted])]
     intro K Q hK
     simp only [puts, foldr_nil];go_step
     refine st_ex hK rfl rfl (by simp only [go_sem] <;> rfl) rfl (by rw [hSd] at hS ⊢; exact hS)
    ·
     obtain ⟨h1, -⟩ := hh;have g1 : f 1=_:=h1
     unfold stStep
     rw [if_pos (by simp [Region.wanted])]
     intro K Q hK
     simp only [puts, Za, Zb, Zc, Zd, Ze, g1]
     have hS' := hS
     rw [hSd] at hS'
     have x0 := (hS'.2.1.cell 2).1
     have x0 : W.cell? _ = some (.int .i64 (A : Int)) := x0
     go_step
     refine st_ex hK rfl rfl (by simp only [go_sem] <;> rfl) rfl (by rw [hSd] at hS ⊢; exact hS)
    ·
     unfold stStep
     rw [if_pos (by simp [Region.wanted])]
     intro K Q hK
     simp only [puts, foldr_nil];go_step
     refine st_ex hK rfl rfl (by simp only [go_sem] <;> rfl) rfl (by rw [hSd] at hS ⊢; exact hS)
    ·
     unfold stStep
     rw [if_pos (by simp [Region.wanted])]
     intro K Q hK
     simp only [puts, foldr_nil];go_step
     refine st_ex hK rfl rfl (by simp only [go_sem] <;> rfl) rfl (by rw [hSd] at hS ⊢; exact hS)
    ·
     obtain ⟨h4, -⟩ := hh;have g4 : f 4=_:=h4
     unfold stStep
     rw [if_pos (by simp [Region.wanted])]
     intro K Q hK
     simp only [puts, Za, Zb, Zc, Zd, Ze, g4]
     have hS' := hS
     rw [hSd] at hS'
     have x0 := (hS'.2.1.cell 2).1
     have x0 : W.cell? _ = some (.int .i64 (A : Int)) := x0
     go_step
     refine st_ex hK rfl rfl (by simp only [go_sem] <;> rfl) rfl (by rw [hSd] at hS ⊢; exact hS)
    ·
     obtain ⟨h3, h5, -⟩ := hh;have g3 : f 3=_:=h3;have g5 : f 5=_:=h5
     unfold stStep
     rw [if_pos (by simp [Region.wanted])]
     intro K Q hK
     simp only [puts, Za, Zb, Zc, Zd, Ze, g3, g5];go_step
     refine st_ex hK rfl rfl (by simp only [go_sem] <;> rfl) rfl (by rw [hSd] at hS ⊢; exact hS)
    ·
     obtain ⟨h6, -⟩ := hh;have g6 : f 6=_:=h6
     have l11 : L 11 = false := Bool.eq_false_iff.2 fun h => by have q := hdn 11 _ h rfl 7 (by decide); rw [show L 7 = false from hi] at q; cases q
     have l13 : L 13 = false := Bool.eq_false_iff.2 fun h => by have q := hdn 13 _ h rfl 11 (by decide); rw [show L 11 = false from l11] at q; cases q
     unfold stStep
     rw [if_pos (by simp [Region.wanted])]
     intro K Q hK
     simp only [puts, Za, Zb, Zc, Zd, Ze, g6]
     have hS' := hS
     rw [hSd] at hS'
     simp only [l13, if_false, Bool.false_eq_true] at hS'
     obtain ⟨c7, -⟩ := hS'.2.2.2.cell hv0
     go_step
     refine st_ex hK rfl rfl (by simp only [go_sem] <;> rfl) rfl (by rw [hSd] at hS ⊢; exact hS)
    ·
     unfold stStep
     rw [if_pos (by simp [Region.wanted])]
     intro K Q hK
     simp only [puts, foldr_nil];go_step
     refine st_ex hK rfl rfl (by simp only [go_sem] <;> rfl) rfl (by rw [hSd] at hS ⊢; exact hS)
    ·
     obtain ⟨h8, -⟩ := hh;have g8 : f 8=_:=h8
     unfold stStep
     rw [if_pos (by simp [Region.wanted])]
     intro K Q hK
     simp only [puts, Za, Zb, Zc, Zd, Ze, g8]
     have hS' := hS
     rw [hSd] at hS'
     have x0 := (hS'.2.1.cell 0).1
     have x0 : W.cell? _ = some (.int .i64 (Y : Int)) := x0
     go_step
     refine st_ex hK rfl rfl (by simp only [go_sem] <;> rfl) rfl (by rw [hSd] at hS ⊢; exact hS)
    ·
     obtain ⟨h9, -⟩ := hh;have g9 : f 9=_:=h9
     have l11 : L 11 = false := Bool.eq_false_iff.2 fun h => by have q := hdn 11 _ h rfl 10 (by decide); rw [show L 10 = false from hi] at q; cases q
     have l13 : L 13 = false := Bool.eq_false_iff.2 fun h => by have q := hdn 13 _ h rfl 11 (by decide); rw [show L 11 = false from l11] at q; cases q
     unfold stStep
     rw [if_pos (by simp [Region.wanted])]
     intro K Q hK
     simp only [puts, Za, Zb, Zc, Zd, Ze, g9]
     rw [hSd] at hS hK
     have l10 : L 10 = false := hi
     try simp only [stage, l11, l13, l10, if_true, if_false, Bool.false_eq_true] at hS
     obtain ⟨hbW, hPW, -, hGW⟩ := hS
     have hal : Below W.heap.size W (W.alloc (.cells #[.int .i64 (Y : Int)] 3)) := (Below.refl _ _).alloc (Nat.le_refl _) _
     go_step
     refine hK.out _ _ rfl ⟨_, rfl⟩ ?_
     refine ⟨hbW.alloc (by have := hbW.size; have := HS1.out; omega) _, hPW.grown (World.grownBy_alloc W _ none) (by simp), fun _ _ => ⟨_, rfl, BlkAt.new W _ _⟩, ?_⟩
     simp only [l11, l13, Bool.false_eq_true, ↓reduceIte, Nat.reduceEqDiff]
     exact hGW.kept hal
    ·
     obtain ⟨h7, h10, -⟩ := hh;have g7 : f 7=_:=h7
     obtain ⟨b10, (g10 : f 10 = _)⟩ := h10
     have l10 : L 10 = true := hd 10 (by decide)
     have l13 : L 13 = false := Bool.eq_false_iff.2 fun h => by have q := hdn 13 _ h rfl 11 (by decide); rw [show L 11 = false from hi] at q; cases q
     unfold stStep
     rw [if_pos (by simp [Region.wanted])]
     intro K Q hK
     simp only [puts, Za, Zb, Zc, Zd, Ze, g7, g10]
     rw [hSd] at hS hK
     have l11 : L 11 = false := hi
     try simp only [stage, l13, l11, l10, if_true, if_false, Bool.false_eq_true] at hS
     obtain ⟨hbW, hPW, h10, hGW⟩ := hS
     obtain ⟨q, e10, hq⟩ := h10 trivial trivial
     rw [g10] at e10
     obtain rfl : b10 = q := by simpa using e10
     try simp only [l11, l13, if_false, Bool.false_eq_true] at hGW
     obtain ⟨u, hu, hrow⟩ := hGW.row A hAN
     rw [hv0] at hu
     injection hu with hu
     subst hu
     rw [HN0.out] at hrow
     refine wp_app_blk elI64 _ _ rfl rfl hrow rfl (news := [.int .i64 (Y : Int)]) ⟨rfl, fun ad e j u hj => by injection e with e; subst e; rw [addr_add, Nat.zero_add, (hq.cell j).1, ← hj]; simp, fun e => by cases e⟩ (by intro u hu; rw [List.mem_singleton.1 hu]; rfl) (by have := hrlen.out; omega) (by have := hbW.size; have := HS1.out; omega) ?_
     intro a' c' w' ho hg hbw hblk
     have ho2 : w'.ownsRow (w.heap.size + 1) 3 1 (.slice a' (n0 + 1) c') (gr (rowsK (backP es) N k) A ++ [(Y : Int)]).length (ivs .i64 (gr (rowsK (backP es) N k) A ++ [(Y : Int)])) := by rw [ivs_append, List.length_append, HN0.out]; exact ho
     refine hK.out _ _ rfl ⟨a', c', rfl⟩ ?_
     refine ⟨hbW.trans hbw, hPW.grown hg (fun e => by have := HBL.out _ e; omega), fun _ h => (by simp at h), ?_⟩
     simp only [l13, Bool.false_eq_true, ↓reduceIte, Nat.reduceEqDiff]
     exact hGW.grow hAN hv0 hg ho2 (hblk.elim .inl fun h => .inr (.inl h))
    ·
     obtain ⟨h0, h2, _, h1, _, h3, h4, h5, h6, h7, h8, h9, h10, h11, -⟩ := hh;have g0 : f 0=_:=h0;have g2 : f 2=_:=h2;have g1 : f 1=_:=h1;have g3 : f 3=_:=h3;have g4 : f 4=_:=h4;have g5 : f 5=_:=h5;have g6 : f 6=_:=h6;have g7 : f 7=_:=h7;have g8 : f 8=_:=h8;have g9 : f 9=_:=h9
     obtain ⟨b10, (g10 : f 10 = _)⟩ := h10
     obtain ⟨a11, c11, (g11 : f 11 = _)⟩ := h11
     unfold stStep
     rw [if_pos (by simp [Region.wanted])]
     intro K Q hK
     simp only [puts, Za, Zb, Zc, Zd, Ze, g0, g2, g1, g3, g4, g5, g6, g7, g8, g9, g10, g11];go_step
     refine st_ex hK rfl rfl (by simp only [go_sem] <;> rfl) rfl (by rw [hSd] at hS ⊢; exact hS)
    ·
     obtain ⟨h12, h11, _, h0, h1, h2, h3, h4, h5, h6, h7, h8, h9, h10, _, -⟩ := hh;have g12 : f 12=_:=h12
     obtain ⟨a11, c11, (g11 : f 11 = _)⟩ := h11
     have g0 : f 0=_:=h0;have g1 : f 1=_:=h1;have g2 : f 2=_:=h2;have g3 : f 3=_:=h3;have g4 : f 4=_:=h4;have g5 : f 5=_:=h5;have g6 : f 6=_:=h6;have g7 : f 7=_:=h7;have g8 : f 8=_:=h8;have g9 : f 9=_:=h9
     obtain ⟨b10, (g10 : f 10 = _)⟩ := h10
     have l11 : L 11 = true := hd 11 (by decide)
     unfold stStep
     rw [if_pos (by simp [Region.wanted])]
     intro K Q hK
     simp only [puts, Za, Zb, Zc, Zd, Ze, g12, g11, g0, g1, g2, g3, g4, g5, g6, g7, g8, g9, g10]
     rw [hSd] at hS hK
     have l13 : L 13 = false := hi
     try simp only [stage, l13, l11, if_true, if_false, Bool.false_eq_true] at hS
     obtain ⟨hbW, hPW, -, hGW⟩ := hS
     have l11' : L 11 = true := hd 11 (by decide)
     try simp only [l11', l13, if_false, if_true, Bool.false_eq_true] at hGW
     rw [g11] at hGW
     obtain ⟨c13, f13⟩ := hGW.cell hv0
     go_step
     refine hK.out _ _ rfl trivial ?_
     refine ⟨hbW.setCell (Nat.le_refl _) _, hPW.other _ (by have hw := HWS.out; show wr.heap.size ≠ w.heap.size + 1; omega) _, fun _ h => (by simp [l11'] at h), ?_⟩
     simp only [l11', ↓reduceIte, Nat.reduceEqDiff, g11]
     exact hGW.put hAN _
   case rest =>
    intro L f WA hL hh hS
    rw [hSd] at hS
    clear hSd
    have l10 : L 10 = true := hL 10 (by decide)
    have l11 : L 11 = true := hL 11 (by decide)
    have l13 : L 13 = true := hL 13 (by decide)
    simp only [stage, l10, l11, l13, if_true] at hS
    clear hL l10 l11 l13
    obtain ⟨h0, h1, h2, h3, h4, h5, h6, h7, h8, h9, h10, h11, h12, -⟩ := hh;have g0 : f 0=_:=h0;have g1 : f 1=_:=h1;have g2 : f 2=_:=h2;have g3 : f 3=_:=h3;have g4 : f 4=_:=h4;have g5 : f 5=_:=h5;have g6 : f 6=_:=h6;have g7 : f 7=_:=h7;have g8 : f 8=_:=h8;have g9 : f 9=_:=h9
    obtain ⟨b10, (g10 : f 10 = _)⟩ := h10
    obtain ⟨a11, c11, (g11 : f 11 = _)⟩ := h11
    have g12 : f 12=_:=h12;simp only [puts, Za, Zb, Zc, Zd, Ze, g0, g1, g2, g3, g4, g5, g6, g7, g8, g9, g10, g11, g12]
    clear h0 h1 h2 h3 h4 h5 h6 h7 h8 h9 h12 g0 g1 g2 g3 g4 g5 g6 g7 g8 g9 g12
    simp only [g11] at hS
    obtain ⟨hbW, -, -, hGW⟩ := hS
    rw [hnext.out] at hGW
    clear hG2 hP2 hB2 hrow0 hv0 HBL
    go_wp2_with (fail)
    go_roundw
    case rel => exact ⟨k + 1, _, hlt, by go_num, hGW, hbW⟩
    case measure => simp [intOf]; omega
  ·obtain rfl : k = al := by omega
   have t1 : decide (k < k) = false := decide_eq_false (by omega)
   obtain ⟨R, hR⟩ : ∃ R, rowsK (backP es) N k = R := ⟨_, rfl⟩
   rw [hR] at hG
   have HR : Hid (∀ i : Nat, i < N → ∀ z : Int, z ∈ gr R i ↔ ((i : Int), z) ∈ backP es) := Lib.hid (fun i hi z => by
    rw [← hR, gr_rowsK hi, mem_tgt, List.take_of_length_le (by unfold backP; rw [List.length_map, HAL.out]; exact Nat.le_refl _)])
   have HI : Hid (IsRows wr (some ⟨w.heap.size + 1, 0, none⟩) N N R) := Lib.hid hG.read
   have HBR : Hid (Below w.heap.size w wr ∧ Below (w.heap.size + 1) W1 wr ∧ w.heap.size + 1 ≤ wr.heap.size) := Lib.hid ⟨hbr, hB, by have := hB.size; have := HS1.out; omega⟩
   obtain ⟨wo, hwo⟩ : ∃ wo : World, wo = wr := ⟨_, rfl⟩
   subst hwo
   have HO3 : Hid (∀ W, Below wo.heap.size wo W → (W.cell? ⟨w.heap.size, 0, none⟩ = some (.int .i64 (N : Int)) ∧ W.cell? ⟨w.heap.size, 1, none⟩ = some (.int .i64 s) ∧ W.cell? ⟨w.heap.size, 2, none⟩ = some (.slice fa fl fc) ∧ W.cell? ⟨w.heap.size, 3, none⟩ = some (.slice aa k ac)) ∧ IsDfa W ⟨fa, fl, fc, aa, k, ac⟩ ⟨N, s, fin, es⟩) := Lib.hid (fun W hb => by
    have h1 := HO.out W (HBR.out.2.1.trans (hb.mono HBR.out.2.2))
    exact ⟨h1.1, h1.2.1⟩)
   clear hG hR hge hB hbr hdr
   go_wp2_with (refine make_rows elB rfl rfl _ _ rfl rfl rfl rfl rfl (by omega) (Nat.le_refl _) ?_; intro w4 ho4 hb4; have hbX : Below wo.heap.size wo ((w4.alloc (.cells #[.slice (some ⟨wo.heap.size, 0, none⟩) N N] 22)).alloc (.cells #[.slice none 0 0] 26)) := (hb4.alloc hb4.size _).alloc (by have := hb4.size; simp; omega) _; obtain ⟨⟨k1, k2, k3, k4⟩, -⟩ := HO3.out _ hbX)
   rw [show List.replicate N (Value.bool false) = bvs (List.replicate N false) by simp [bvs]] at ho4
   have hP := endPs_start ho4 hb4.size
   obtain ⟨X, hX⟩ : ∃ X, (w4.alloc (.cells #[.slice (some ⟨wo.heap.size, 0, none⟩) N N] 22)).alloc (.cells #[.slice none 0 0] 26) = X := ⟨_, rfl⟩
   have HPO : Hid (wo.heap.size ≤ w4.heap.size) := Lib.hid hb4.size
   rw [hX] at hP hbX ⊢
   obtain ⟨po, hpo⟩ : ∃ po, w4.heap.size = po := ⟨_, rfl⟩
   rw [hpo] at hP HPO ⊢
   have HP := Lib.hid hP
   have HBX := Lib.hid hbX
   have HE0 : Hid (EndI ⟨N, s, fin, es⟩ (List.replicate N false) []) := Lib.hid (EndI.start HV.out)
   clear hP hbX hX hpo ho4 hb4 k1 k2 k3 k4 c1 c2 c3 c4
   go_loopw [45] (fun c W => ∃ (i : Nat) (os : List Bool) (td : List Int) (at' : Option Addr) (ct : Nat), i ≤ N ∧ c = .int .i64 (i : Int) ∧ Pcs W wo.heap.size (endPs po (po + 1) wo.heap.size N os td (.slice at' td.length ct)) ∧ Hid (EndI ⟨N, s, fin, es⟩ os td) ∧ Hid (∀ j, j < i → gb fin j = true → gb os j = true) ∧ Below wo.heap.size wo W) (fun c _ => N - (intOf c).toNat)
   case atStart => exact ⟨0, _, [], none, 0, Nat.zero_le _, rfl, HP.out, HE0, Lib.hid (fun j hj => by omega), HBX.out⟩
   case round =>
    clear HP HBX HE0
    obtain ⟨i, os, td, at', ct, hi, rfl, hP, HE, HF, hb⟩ := hrel
    obtain ⟨⟨c1, c2, c3, c4⟩, hdr⟩ := HO3.out wr hb
    rcases Nat.lt_or_ge i N with hlt | hge
    ·have t2 : decide ((i : Int) < fl) = true := decide_eq_true (by have := HFL.out; omega)
     have t2' : decide (i < fl) = true := decide_eq_true (by have := HFL.out; omega)
     have hifl : i < fl := by have := HFL.out; omega
     obtain ⟨bf, of, rfl, hfc⟩ := hdr.fin.fix (by show 0 < fl; omega)
     have cf := hfc wr (Below.refl _ _) i (by show i < fl; omega)
     simp only at cf
     have hosl : os.length = N := by have := HE.out.len; simp only at this; omega
     have htl : td.length ≤ 1000 := by have := HE.out.tlen; simp only [Int.toNat_natCast] at this; omega
     have hsz : wo.heap.size ≤ wr.heap.size := hb.size
     cases hg : gb fin i with
     | false =>
      rw [hg] at cf
      have HF2 : Hid (∀ j, j < i + 1 → gb fin j = true → gb os j = true) := Lib.hid (fun j hj h => by
       rcases Nat.lt_or_ge j i with h1 | h1
       ·exact HF.out j h1 h
       ·rw [show j = i by omega, hg] at h; cases h)
      clear hfc hdr
      go_wp2_with (fail)
      go_roundw
      case rel => exact ⟨i + 1, os, td, at', ct, hlt, by go_num, hP, HE, HF2, hb⟩
      case measure => simp [intOf]; omega
     | true =>
      rw [hg] at cf
      have HE2 := Lib.hid (HE.out.visit (n := i) (by show (i : Int) < N; omega) (.fin hg))
      have HF2 : Hid (∀ j, j < i + 1 → gb fin j = true → gb (os.set i true) j = true) := Lib.hid (fun j hj h => by
       rcases Nat.lt_or_ge j i with h1 | h1
       ·exact set_mono (HF.out j h1 h)
       ·rw [show j = i by omega]; exact set_self (by omega))
      have hvis := visit_any (n := i) hP hosl hlt htl hsz
      clear hfc hdr hP
      go_wp2_with (go_at_call 35; refine hvis.mono ?_; rintro e w5 ⟨rfl, ⟨a5, c5, hP5⟩, hb5⟩)
      go_roundw
      case rel => exact ⟨i + 1, _, _, a5, c5, hlt, by go_num, hP5, HE2, HF2, hb.trans hb5⟩
      case measure => simp [intOf]; omega
    ·have t2 : decide ((i : Int) < fl) = false := decide_eq_false (by have := HFL.out; omega)
     have t2' : decide (i < fl) = false := decide_eq_false (by have := HFL.out; omega)
     have HF2 : Hid (∀ j, j < N → gb fin j = true → gb os j = true) := Lib.hid (fun j hj => HF.out j (by omega))
     have HP := Lib.hid hP
     have HB := Lib.hid hb
     clear hP hb c1 c2 c3 c4 hdr
     go_wp2_with (fail)
     go_loopw [11] (fun c W => ∃ (hd : Nat) (os : List Bool) (td : List Int) (at' : Option Addr) (ct : Nat), hd ≤ td.length ∧ c = .int .i64 (hd : Int) ∧ Pcs W wo.heap.size (endPs po (po + 1) wo.heap.size N os td (.slice at' td.length ct)) ∧ Hid (EndI ⟨N, s, fin, es⟩ os td) ∧ Hid (∀ j, j < N → gb fin j = true → gb os j = true) ∧ Hid (∀ j, j < hd → DoneAt ⟨N, s, fin, es⟩ os (gi td j)) ∧ Below wo.heap.size wo W) (fun c _ => N - (intOf c).toNat)
     case atStart => exact ⟨0, os, td, at', ct, Nat.zero_le _, rfl, HP.out, HE, HF2, Lib.hid (fun j hj => by omega), HB.out⟩
     case round =>
      clear HP HB HE HF2 HF hi hge t2 t2'
      obtain ⟨hd, os, td, at', ct, hh, rfl, hP, HE, HF, HD, hb⟩ := hrel
      have hosl : os.length = N := by have := HE.out.len; simp only at this; omega
      have htl : td.length ≤ N := by have := HE.out.tlen; simp only [Int.toNat_natCast] at this; omega
      have cpt : wr.cell? ⟨po + 1, 0, none⟩ = some (.slice at' td.length ct) := ((hP.blk 2 rfl).2.cell 0).1
      rcases Nat.lt_or_ge hd td.length with hlt | hge
      ·have t3 : decide (hd < td.length) = true := decide_eq_true hlt
       obtain ⟨gt, rfl, -, -⟩ := owns_at (hP.row 3 rfl) (by omega)
       have ctd := (own_cell (hP.row 3 rfl) hd hlt rfl).1
       obtain ⟨Q, hQ⟩ : ∃ Q, gi td hd = Q := ⟨_, rfl⟩
       have hQr := HE.out.rng Q (by rw [← hQ]; exact gi_mem _ _ hlt)
       simp only at hQr
       obtain ⟨Q, rfl⟩ := Int.eq_ofNat_of_zero_le hQr.1
       have hQN : Q < N := by omega
       rw [hQ] at ctd
       obtain ⟨bI, oI, ai, li, ci, eI, hcI, hrow⟩ := HI.out.fix Q hQN
       injection eI with eI
       injection eI with eI1 eI2
       subst eI1 eI2
       have cI := hcI wr hb
       rw [Nat.zero_add] at cI
       have HROW := Lib.hid hrow
       have hli := hrow.length
       have HLI := Lib.hid hli
       have HQ := Lib.hid hQ
       have HP := Lib.hid hP
       have HB := Lib.hid hb
       have hlcap := hrow.cap
       unfold maxLen at hlcap
       clear hcI hrow hli hQ hP hb hQr
       go_wp2_with (fail)
       go_loopw [69] (fun c W => ∃ (r : Nat) (os2 : List Bool) (td2 : List Int) (at' : Option Addr) (ct : Nat), r ≤ li ∧ c = .int .i64 (r : Int) ∧ Pcs W wo.heap.size (endPs po (po + 1) wo.heap.size N os2 td2 (.slice at' td2.length ct)) ∧ Hid (EndI ⟨N, s, fin, es⟩ os2 td2) ∧ Hid (td <+: td2) ∧ Hid (∀ i, gb os i = true → gb os2 i = true) ∧ Hid (∀ i, i < r → gb os2 (gi (gr R Q) i).toNat = true) ∧ Below wo.heap.size wo W) (fun c _ => li - (intOf c).toNat)
       case atStart => exact ⟨0, os, td, _, ct, Nat.zero_le _, rfl, HP.out, HE, Lib.hid (List.prefix_refl _), Lib.hid (fun i h => h), Lib.hid (fun i hi => by omega), HB.out⟩
       case round =>
        clear HP HB cpt ctd cI
        obtain ⟨r, os2, td2, at2, ct2, hr, rfl, hP, HE2, HPR, HMO, HDN, hb⟩ := hrel
        rcases Nat.lt_or_ge r li with hlt2 | hge2
        ·have t4 : decide (r < li) = true := decide_eq_true hlt2
         obtain ⟨br, ofr, rfl, hcr⟩ := HROW.out.fix r hlt2
         have cr := hcr wr hb
         obtain ⟨Y, hY⟩ : ∃ Y, gi (gr R Q) r = Y := ⟨_, rfl⟩
         have hYm : ((Q : Int), Y) ∈ backP es := (HR.out Q hQN Y).1 (by rw [← hY]; exact gi_mem _ _ (by rw [HLI.out]; exact hlt2))
         obtain ⟨x, hxm, hxt, hxf⟩ := mem_backP.1 hYm
         have hxa := (HV.out.arc hxm).1.1
         rw [hxf] at hxa
         simp only at hxa
         obtain ⟨Y, rfl⟩ := Int.eq_ofNat_of_zero_le hxa.1
         have hYN : Y < N := by omega
         rw [hY] at cr
         have hosl2 : os2.length = N := by have := HE2.out.len; simp only at this; omega
         have htl2 : td2.length ≤ 1000 := by have := HE2.out.tlen; simp only [Int.toNat_natCast] at this; omega
         have hsz : wo.heap.size ≤ wr.heap.size := hb.size
         have hvis := visit_any (n := Y) hP hosl2 hYN htl2 hsz
         have HQin : Hid (gb os2 Q = true) := Lib.hid (HMO.out Q ((HE.out.iff Q (by show (Q : Int) < N; omega)).2 (by rw [← HQ.out]; exact gi_mem _ _ hlt)))
         have HE3 := Lib.hid (HE2.out.visit (n := Y) (by show (Y : Int) < N; omega) (by
          have h1 := UsefulAt.arc HV.out hxm (by rw [hxt, Int.toNat_natCast]; exact HE2.out.use Q HQin.out)
          rwa [hxf, Int.toNat_natCast] at h1))
         have HPR3 := Lib.hid (HPR.out.trans (tdV_pre os2 td2 Y))
         have HMO3 : Hid (∀ i, gb os i = true → gb (os2.set Y true) i = true) := Lib.hid (fun i h => set_mono (HMO.out i h))
         have HDN3 : Hid (∀ i, i < r + 1 → gb (os2.set Y true) (gi (gr R Q) i).toNat = true) := Lib.hid (fun i hi => by
          rcases Nat.lt_or_ge i r with h1 | h1
          ·exact set_mono (HDN.out i h1)
          ·rw [show i = r by omega, hY, Int.toNat_natCast]; exact set_self (by omega))
         clear hcr hY hYm hxm hxt hxf hxa hP
         go_wp2_with (go_at_call 35; refine hvis.mono ?_; rintro e w5 ⟨rfl, ⟨a5, c5, hP5⟩, hb5⟩)
         go_roundw
         case rel => exact ⟨r + 1, _, _, a5, c5, hlt2, by go_num, hP5, HE3, HPR3, HMO3, HDN3, hb.trans hb5⟩
         case measure => simp [intOf]; omega
        ·have t4 : decide (r < li) = false := decide_eq_false (by omega)
         have HF3 : Hid (∀ j, j < N → gb fin j = true → gb os2 j = true) := Lib.hid (fun j hj h => HMO.out j (HF.out j hj h))
         have HL2 : Hid (hd + 1 ≤ td2.length) := Lib.hid (by have := HPR.out.length_le; omega)
         have HD3 : Hid (∀ j, j < hd + 1 → DoneAt ⟨N, s, fin, es⟩ os2 (gi td2 j)) := Lib.hid (fun j hj => by
          have e := gi_pre HPR.out (show j < td.length by omega)
          rw [e]
          rcases Nat.lt_or_ge j hd with h1 | h1
          ·exact fun x hx hxt => HMO.out _ (HD.out j h1 x hx hxt)
          ·rw [show j = hd by omega, HQ.out]
           intro x hx hxt
           have hm : x.f ∈ gr R Q := (HR.out Q hQN x.f).2 (mem_backP.2 ⟨x, hx, hxt, rfl⟩)
           have hil := List.idxOf_lt_length_of_mem hm
           have := HDN.out ((gr R Q).idxOf x.f) (by rw [HLI.out] at hil; omega)
           rwa [gi_eq _ _ hil, List.getElem_idxOf] at this)
         go_wp2_with (fail)
         go_roundw
         case rel => exact ⟨hd + 1, os2, td2, at2, ct2, HL2.out, by go_num, hP, HE2, HF3, HD3, hb⟩
         case measure => simp [intOf]; omega
      ·have t3 : decide (hd < td.length) = false := decide_eq_false (by omega)
       have cpo : wr.cell? ⟨po, 0, none⟩ = some (.slice (some ⟨wo.heap.size, 0, none⟩) N N) := ((hP.blk 1 rfl).2.cell 0).1
       have HK : Hid (os = keepU ⟨N, s, fin, es⟩) := Lib.hid (ends_fin HV.out HE.out (fun i hi h => HF.out i (by simp only at hi; omega) h) (fun j hj => HD.out j (by omega)))
       have HIB := Lib.hid (IsBools.of_owns (hP.row 0 rfl)).1
       have HBB : Hid (Below w.heap.size w wr) := Lib.hid (HBR.out.1.trans (hb.mono (by have := HBR.out.2.2; omega)))
       clear hP hb
       go_wp2_with (fail)
       go_ret
       refine ⟨⟨_, _, rfl, ?_⟩, HBB.out⟩
       rw [← HK.out]
       exact HIB.out
end Go.Proofs.YtbjdglopkpigbaaGreatDoor
namespace Go.Proofs.YtbjdglopkpigbaaGreatDoor
open List (foldr_cons foldr_nil setIfInBounds_toArray set_cons_succ set_cons_zero)
open Go.RowKit
attribute [local go_sem] Oper.semAt_some
theorem row_heap {W : World} {B e g n : Nat} {xs : List Value} (h : W.ownsRow B e 1 (.slice (some ⟨g, 0, none⟩) n n) n xs) : W.heap[g]? = some (.cells xs.toArray e (0, 0)) ∧ B ≤ g := by
 obtain ⟨hl, h⟩ := h
 rcases h with ⟨e1, rfl⟩ | ⟨g', c, cur, e1, hg, hh, hn, hc, hs, ht⟩
 ·cases e1
 ·injection e1 with e1 _ e2
  injection e1 with e1
  injection e1 with e1
  subst e1 e2
  refine ⟨?_, hg⟩
  rw [hh]
  have : cur = xs.toArray := by
   rw [← ht, List.take_of_length_le (by simp; omega)]
  rw [this]
theorem wp_copy_own {P : Program} {w : World} {o : Oper} {a : Act} {K : Act → World → Prop} {Q : Exit → Act → World → Prop} (d s : Operand) (dT sT : TypeId)
  (ho : o.op = .call { callee := .builtin .copy, args := #[d, s], argTypes := #[dT, sT] }) (elem : TypeId) (hu : P.underlying dT = some (.slice elem)) (hsz : (P.info? elem).map (·.size) = some 1)
  (g off dLen dCap : Nat) (ad : Addr) (sLen sCap : Nat) (hd : a.eval d = .slice (some ⟨g, off, none⟩) dLen dCap) (hs : a.eval s = .slice (some ad) sLen sCap)
  (cur : Array Value) (t : TypeId) (hg : w.heap[g]? = some (.cells cur t (0, 0))) (cs : List Value) (hn : cs.length = Nat.min sLen dLen)
  (hsrc : ∀ j v, cs[j]? = some v → w.cell? (ad.add j) = some v) (hfit : off + cs.length ≤ cur.size) (h1 : ∀ v ∈ cs, v.oneCell' = true)
  (h : K (a.put o.dst (goInt cs.length)) (w.setRow g (cur.toList.take off ++ (cs ++ cur.toList.drop (off + cs.length))).toArray)) : o.wp P a w K Q := by
 have hrun := run_copy_row (P := P) w dT sT o.type elem g off dLen dCap ad sLen sCap cur t cs hu hsz hg hn hsrc hfit h1
 unfold Oper.wp
 simp [execOp, ho, resolve, invoke, builtin, hd, hs, hrun, Result.andThen]
 exact h
def repK (N k : Nat) : List Value := List.replicate k (.bool true) ++ List.replicate (N - k) (.bool false)
theorem repK_len {N k : Nat} (h : k ≤ N) : (repK N k).length = N := by simp [repK]; omega
theorem repK_zero (N : Nat) : repK N 0 = List.replicate N (.bool false) := by simp [repK]
theorem repK_full (N : Nat) : repK N N = bvs (allK N) := by simp [repK, bvs, allK]
theorem repK_splice {N k m : Nat} (h : k + m ≤ N) : splice (repK N k) k (List.replicate m (.bool true)) = repK N (k + m) := by
 unfold splice repK
 rw [List.take_append_of_le_length (by simp), List.take_of_length_le (by simp), List.length_replicate, List.drop_append, List.drop_of_length_le (by simp), List.nil_append, List.length_replicate, List.drop_replicate, ← List.append_assoc, List.replicate_append_replicate]
 congr 2
 omega
theorem repK_get {N k j : Nat} (h : j < k) : (repK N k)[j]? = some (.bool true) := by
 unfold repK
 rw [List.getElem?_append_left (by simpa using h)]
 simp [h]
set_option maxRecDepth 20000 in
theorem repeat_any (N : Nat) (hN : 1 ≤ N ∧ N ≤ 100000) (b : Nat) (w : World) (hc : w.cell? ⟨b, 0, none⟩ = some (.bool true)) :
  Calls Tryz.prog 34 #[.slice (some ⟨b, 0, none⟩) 1 1, .int .i64 (N : Int)] w fun e w' => (∃ a c, e = .returned (.slice a N c) ∧ IsBools w' a N c (allK N)) ∧ Below w.heap.size w w' := by
 have hmul := Tryz.bits_Mul 1 N (by omega) (by omega) w
 rw [show 1 * N / 18446744073709551616 = 0 by omega, show 1 * N % 18446744073709551616 = N by omega] at hmul
 have HM := Lib.hid hmul
 have HC := Lib.hid hc
 have hinfo : (Tryz.prog.info? 4).map (·.size) = some 1 := by kernel_rfl
 clear hmul hc
 go_enter Tryz.func34, Tryz.ntmps34
 go_wp2_with (first | (go_at_call 50; refine HM.out.mono ?_; rintro e w1 ⟨rfl, hw1⟩; subst hw1) | (refine make_rows elB rfl rfl _ _ rfl rfl rfl rfl rfl (by omega) (Nat.le_refl _) ?_; intro w2 ho2 hb2; have HH2 := Lib.hid (row_heap ho2).1) | (show wpList _ _ _ (⟨some 33, _, _, _, _, _⟩ :: _) _ _; generalize hQQ : wpList _ _ _ _ _ _ = GG))
 subst hQQ
 refine wpList_copy_splice rfl (.tmp 31) (.tmp 32) 22 22 rfl 4 Tryz.underlying22 hinfo _ _ _ _ _ _ rfl rfl _ 0 (repK N 0) 4 (by rw [repK_zero]; exact HH2.out) (List.replicate 1 (.bool true)) (by rw [List.length_replicate]; exact (Nat.min_eq_left hN.1).symm) (fun _ => ⟨rfl, _, rfl, fun j v hj => by have hj0 : j = 0 := (by have := (List.getElem?_eq_some_iff.1 hj).1; simpa using this); subst hj0; rw [List.getElem?_replicate] at hj; simp at hj; subst hj; exact (hb2.cell (lt_of_cell HC.out)).trans HC.out⟩) (by rw [repK_len (Nat.zero_le _)]; simp; omega) (by intro v hv; rw [List.eq_of_mem_replicate hv]; rfl) _ _ hb2 (Nat.le_refl _) ?_
 intro w3 HG3 hB3
 have HG4 : Hid (w3.heap[w1.heap.size]? = some (.cells (repK N 1).toArray 4 (0, 0))) := Lib.hid (by rw [← Nat.zero_add 1, ← repK_splice (by omega)]; exact HG3.out)
 obtain ⟨B, hB⟩ : ∃ B, w1.heap.size = B := ⟨_, rfl⟩
 rw [hB] at HG4 hB3 ⊢
 have HBB := Lib.hid hB
 clear HG3 ho2 HH2 hB
 go_wp2_with (fail)
 go_loopw [8] (fun c W => ∃ k : Nat, 1 ≤ k ∧ k ≤ N ∧ c = .int .i64 (k : Int) ∧ Hid (W.heap[B]? = some (.cells (repK N k).toArray 4 (0, 0))) ∧ Below B w1 W) (fun c _ => N - (intOf c).toNat)
 case atStart => exact ⟨1, Nat.le_refl _, hN.1, rfl, HG4, hB3⟩
 case round =>
  clear HG4 hB3 hb2
  obtain ⟨k, h1, hk, rfl, HG, hb⟩ := hrel
  rcases Nat.lt_or_ge k N with hlt | hge
  ·have t1 : decide (k < N) = true := decide_eq_true hlt
   have hkN : (k : Int) ≤ N := by omega
   go_wp2_with (fail)
   obtain ⟨m, hm⟩ : ∃ m, m = min k (N - k) := ⟨_, rfl⟩
   have hm1 : 1 ≤ m ∧ k + m ≤ N ∧ m ≤ k := by omega
   have HMM := Lib.hid hm
   have hne : ¬ N = k := by omega
   clear hm
   obtain ⟨S, hSd⟩ : ∃ S : (Nat → Bool) → (Nat → Value) → World → Prop, S = fun L f W => Below B w1 W ∧ Hid (W.heap[B]? = some (.cells (repK N (if L 7 = true then k + m else k)).toArray 4 (0, 0))) := ⟨_, rfl⟩
   refine wp_region_st mixed (by kernel_rfl) [[], [], [], [(1, 39), (2, 40)], [], [], [(4, 42), (5, 43)], [(3, 41), (6, 44)], [(0, 38), (7, 45)], [(8, 46), (7, 45), (0, 38), (1, 39), (2, 40), (3, 41), (4, 42), (5, 43), (6, 44), (7, 45), (8, 46)]] [(0, 38), (1, 39), (2, 40), (3, 41), (4, 42), (5, 43), (6, 44), (7, 45), (8, 46), (9, 8)] rfl rfl [EV ?e0, EV ?e1, EV ?e2, EV (.slice (some ⟨B, k, none⟩) (N - k) (N - k)), EV ?e4, EV ?e5, EV ?e6, EV (.int .i64 (m : Int)), EV ?e8, EV ?e9] S ?start ?steps ?rest
   case start =>
    intro f
    rw [hSd]
    exact ⟨hb.drew, HG⟩
   case steps =>
    refine ⟨fun L f W hi hd hdn hh hS => ?_, fun L f W hi hd hdn hh hS => ?_, fun L f W hi hd hdn hh hS => ?_, fun L f W hi hd hdn hh hS => ?_, fun L f W hi hd hdn hh hS => ?_, fun L f W hi hd hdn hh hS => ?_, fun L f W hi hd hdn hh hS => ?_, fun L f W hi hd hdn hh hS => ?_, fun L f W hi hd hdn hh hS => ?_, fun L f W hi hd hdn hh hS => ?_, trivial⟩
    ·
     unfold stStep
     rw [if_pos (by simp [Region.wanted])]
     intro K Q hK
     simp only [puts, foldr_nil];go_step
     refine st_ex hK rfl rfl (by simp only [go_sem] <;> rfl) rfl (by rw [hSd] at hS ⊢; exact hS)
    ·
     unfold stStep
     rw [if_pos (by simp [Region.wanted])]
     intro K Q hK
     simp only [puts, foldr_nil];go_step
     refine st_ex hK rfl rfl (by simp only [go_sem] <;> rfl) rfl (by rw [hSd] at hS ⊢; exact hS)
    ·
     unfold stStep
     rw [if_pos (by simp [Region.wanted])]
     intro K Q hK
     simp only [puts, foldr_nil];go_step
     refine st_ex hK rfl rfl (by simp only [go_sem] <;> rfl) rfl (by rw [hSd] at hS ⊢; exact hS)
    ·
     obtain ⟨h1, h2, -⟩ := hh;have g1 : f 1=_:=h1;have g2 : f 2=_:=h2
     unfold stStep
     rw [if_pos (by simp [Region.wanted])]
     intro K Q hK
     simp only [puts, Za, Zb, Zc, Zd, Ze, g1, g2];go_step
     refine st_ex hK rfl rfl (by simp only [go_sem] <;> rfl) rfl (by rw [hSd] at hS ⊢; exact hS)
    ·
     unfold stStep
     rw [if_pos (by simp [Region.wanted])]
     intro K Q hK
     simp only [puts, foldr_nil];go_step
     refine st_ex hK rfl rfl (by simp only [go_sem] <;> rfl) rfl (by rw [hSd] at hS ⊢; exact hS)
    ·
     unfold stStep
     rw [if_pos (by simp [Region.wanted])]
     intro K Q hK
     simp only [puts, foldr_nil];go_step
     refine st_ex hK rfl rfl (by simp only [go_sem] <;> rfl) rfl (by rw [hSd] at hS ⊢; exact hS)
    ·
     obtain ⟨h4, h5, -⟩ := hh;have g4 : f 4=_:=h4;have g5 : f 5=_:=h5
     unfold stStep
     rw [if_pos (by simp [Region.wanted])]
     intro K Q hK
     simp only [puts, Za, Zb, Zc, Zd, Ze, g4, g5];go_step
     refine st_ex hK rfl rfl (by simp only [go_sem] <;> rfl) rfl (by rw [hSd] at hS ⊢; exact hS)
    ·
     obtain ⟨h3, h6, -⟩ := hh;have g3 : f 3=_:=h3;have g6 : f 6=_:=h6
     unfold stStep
     rw [if_pos (by simp [Region.wanted])]
     intro K Q hK
     simp only [puts, Za, Zb, Zc, Zd, Ze, g3, g6]
     rw [hSd] at hS hK
     have l7 : L 7 = false := hi
     try simp only [stage, l7, if_true, if_false, Bool.false_eq_true] at hS
     obtain ⟨hbW, hGW⟩ := hS
     have hG0 := hGW.out
     refine wp_copy_own (.tmp 41) (.tmp 44) 22 22 rfl 4 Tryz.underlying22 hinfo B k (N - k) (N - k) ⟨B, 0, none⟩ k N rfl rfl _ 4 hG0 (List.replicate m (.bool true)) (by rw [List.length_replicate]; exact HMM.out) (fun j v hj => by have hjm : j < m := (by have := (List.getElem?_eq_some_iff.1 hj).1; simpa using this); rw [List.getElem?_replicate, if_pos hjm] at hj; injection hj with hj; subst hj; rw [addr_add, Nat.zero_add, cell_of_row _ _ j _ _ _ hG0]; simpa using repK_get (N := N) (by omega)) (by have := repK_len (show k ≤ N by omega); simp; omega) (by intro v hv; rw [List.eq_of_mem_replicate hv]; rfl) ?_
     rw [List.length_replicate]
     refine hK.out _ _ rfl rfl ?_
     refine ⟨below_setRow hbW (Nat.le_refl _) _, Lib.hid ?_⟩
     simp only [↓reduceIte, Nat.reduceEqDiff]
     refine (setRow_heap _ _ _ _ _ _ hG0).trans ?_
     rw [← repK_splice (show k + m ≤ N by omega)]
     unfold splice
     rw [List.length_replicate]
    ·
     obtain ⟨h0, h7, -⟩ := hh;have g0 : f 0=_:=h0;have g7 : f 7=_:=h7
     unfold stStep
     rw [if_pos (by simp [Region.wanted])]
     intro K Q hK
     simp only [puts, Za, Zb, Zc, Zd, Ze, g0, g7];go_step
     refine st_ex hK rfl rfl (by simp only [go_sem] <;> rfl) rfl (by rw [hSd] at hS ⊢; exact hS)
    ·
     obtain ⟨h8, h7, h0, h1, h2, h3, h4, h5, h6, _, _, -⟩ := hh;have g8 : f 8=_:=h8;have g7 : f 7=_:=h7;have g0 : f 0=_:=h0;have g1 : f 1=_:=h1;have g2 : f 2=_:=h2;have g3 : f 3=_:=h3;have g4 : f 4=_:=h4;have g5 : f 5=_:=h5;have g6 : f 6=_:=h6
     unfold stStep
     rw [if_pos (by simp [Region.wanted])]
     intro K Q hK
     simp only [puts, Za, Zb, Zc, Zd, Ze, g8, g7, g0, g1, g2, g3, g4, g5, g6];go_step
     refine st_ex hK rfl rfl (by simp only [go_sem] <;> rfl) rfl (by rw [hSd] at hS ⊢; exact hS)
   case rest =>
    intro L f WA hL hh hS
    rw [hSd] at hS
    clear hSd
    have l7 : L 7 = true := hL 7 (by decide)
    simp only [stage, l7, if_true] at hS
    clear hL l7
    obtain ⟨h0, h1, h2, h3, h4, h5, h6, h7, h8, h9, -⟩ := hh;have g0 : f 0=_:=h0;have g1 : f 1=_:=h1;have g2 : f 2=_:=h2;have g3 : f 3=_:=h3;have g4 : f 4=_:=h4;have g5 : f 5=_:=h5;have g6 : f 6=_:=h6;have g7 : f 7=_:=h7;have g8 : f 8=_:=h8;have g9 : f 9=_:=h9;simp only [puts, Za, Zb, Zc, Zd, Ze, g0, g1, g2, g3, g4, g5, g6, g7, g8, g9]
    clear h0 h1 h2 h3 h4 h5 h6 h7 h8 h9 g0 g1 g2 g3 g4 g5 g6 g7 g8 g9
    obtain ⟨hbA, hGA⟩ := hS
    go_wp2_with (fail)
    go_roundw
    case rel => exact ⟨k + m, by omega, by omega, by first | rfl | simp, hGA, hbA⟩
    case measure => simp [intOf]; omega
  ·have t1 : decide (k < N) = false := decide_eq_false (by omega)
   obtain rfl : k = N := by omega
   go_wp2_with (fail)
   go_ret
   rw [HBB.out]
   refine ⟨⟨_, _, rfl, .inr ⟨B, 0, rfl, Nat.le_refl _, by unfold maxLen; omega, by simp [allK], fun i hi => ?_⟩⟩, hb⟩
   rw [cell_of_row _ _ (0 + i) _ _ _ HG.out, repK_full, gb_allK hi]
   simp [bvs, allK, hi]
set_option maxRecDepth 20000 in
theorem every_any (d : Dfa) (h : DH) (w : World) (hn : 1 ≤ d.n ∧ d.n ≤ 1000) : Calls Tryz.prog 20 #[vDf d h] w fun e w' => (∃ a c, e = .returned (.slice a d.n.toNat c) ∧ IsBools w' a d.n.toNat c (allK d.n.toNat)) ∧ Below w.heap.size w w' := by
 obtain ⟨n, s, fin, es⟩ := d
 obtain ⟨fa, fl, fc, aa, al, ac⟩ := h
 simp only at hn ⊢
 obtain ⟨N, rfl⟩ := Int.eq_ofNat_of_zero_le (show 0 ≤ n by omega)
 obtain ⟨hb1, hs1, hO⟩ := boxD N s fa fl fc aa al ac w
 unfold vDf
 obtain ⟨W1, hW1⟩ : ∃ W1, w.alloc (.cells #[.int .i64 (N : Int), .int .i64 s, .slice fa fl fc, .slice aa al ac] 37) = W1 := ⟨_, rfl⟩
 rw [hW1] at hb1 hs1 hO
 have hb2 : Below (w.heap.size + 1) W1 (W1.alloc (.cells #[.bool true] 4)) := (Below.refl _ _).alloc (by omega) _
 obtain ⟨c1, -, -, -⟩ := hO _ hb2
 have hrep := repeat_any N (by omega) W1.heap.size (W1.alloc (.cells #[.bool true] 4)) (by exact cell_of_row _ _ 0 _ _ _ (heap_alloc_new W1 _))
 have hB := Lib.hid (hb1.trans (hb2.mono (by omega)))
 have HS := Lib.hid hs1
 clear hb1 hb2 hO hs1
 go_enter Tryz.func20, Tryz.ntmps20
 go_wp2_with (go_at_call 34; with_reducible refine hrep.mono ?_; rintro e w3 ⟨⟨a3, c3, rfl, hI⟩, hb3⟩)
 go_ret
 exact ⟨⟨_, _, rfl, hI⟩, hB.out.trans (hb3.mono hB.out.size)⟩
end Go.Proofs.YtbjdglopkpigbaaGreatDoor
namespace Go.Proofs.YtbjdglopkpigbaaGreatDoor
open List (foldr_cons foldr_nil setIfInBounds_toArray set_cons_succ set_cons_zero)
open Go.RowKit
attribute [local go_sem] Oper.semAt_some
theorem canonical_any {d : Dfa} {h : DH} {w : World} (hv : ValidD d) (hd : IsDfa w h d) {ak : Option Addr} {lk ck : Nat} {keep : List Bool} (hk : IsBools w ak lk ck keep) (hkl : (lk : Int) = d.n) :
  Calls Tryz.prog 19 #[vDf d h, .slice ak lk ck] w (GivesD (canD d keep) w) := by
 cases h0 : gb keep d.s.toNat with
 | true => exact canonical_yes hv hd hk hkl h0
 | false => exact canonical_no hv hd hk hkl h0
def DBox (b : Nat) (D : Dfa) (W : World) : Prop := ∃ h', W.heap[b]? = some (.cells #[.int .i64 D.n, .int .i64 D.s, .slice h'.fa h'.fl h'.fc, .slice h'.aa h'.al h'.ac] 37 (0, 0)) ∧ IsDfa W h' D
theorem DBox.later {b : Nat} {D : Dfa} {W W' : World} (h : DBox b D W) (hb : Below W.heap.size W W') : DBox b D W' := by
 obtain ⟨h', h1, h2⟩ := h
 exact ⟨h', by rw [hb.block _ (Array.getElem?_eq_some_iff.1 h1).1]; exact h1, h2.later hb⟩
theorem DBox.open {b : Nat} {D : Dfa} {W : World} (h : DBox b D W) : ∃ h', IsDfa W h' D ∧ W.cell? ⟨b, 0, none⟩ = some (.int .i64 D.n) ∧ W.cell? ⟨b, 1, none⟩ = some (.int .i64 D.s) ∧ W.cell? ⟨b, 2, none⟩ = some (.slice h'.fa h'.fl h'.fc) ∧ W.cell? ⟨b, 3, none⟩ = some (.slice h'.aa h'.al h'.ac) := by
 obtain ⟨h', h1, h2⟩ := h
 exact ⟨h', h2, cell_of_row W _ 0 _ _ _ h1, cell_of_row W _ 1 _ _ _ h1, cell_of_row W _ 2 _ _ _ h1, cell_of_row W _ 3 _ _ _ h1⟩
theorem IsDfa.boxed {W : World} {h : DH} {D : Dfa} {b : Nat} {x y : Int} {a1 a2 : Option Addr} {l1 c1 l2 c2 : Nat} {T : TypeId} (cs : Array Value) (hZ : W.heap[b]? = some (.cells #[.int .i64 x, .int .i64 y, .slice a1 l1 c1, .slice a2 l2 c2] T (0, 0))) (hd : IsDfa W h D) : IsDfa (W.setRow b cs) h D := by
 have cz : ∀ k, W.cell? ⟨b, k, none⟩ = (#[Value.int .i64 x, .int .i64 y, .slice a1 l1 c1, .slice a2 l2 c2] : Array Value)[k]? := fun k => by simp [World.cell?, hZ]
 refine ⟨?_, ?_⟩
 ·rcases hd.fin with h0 | ⟨g, off, h1, h2, h3, h4, h5⟩
  ·exact .inl h0
  ·refine .inr ⟨g, off, h1, h2, h3, h4, fun i hi => ?_⟩
   have hc := h5 i hi
   by_cases e : g = b
   ·subst e
    rw [cz] at hc
    obtain ⟨k, hk⟩ : ∃ k, off + i = k := ⟨_, rfl⟩
    rw [hk] at hc
    match k, hc with
    | 0, hc => simp at hc
    | 1, hc => simp at hc
    | 2, hc => simp at hc
    | 3, hc => simp at hc
    | k + 4, hc => simp at hc
   ·rw [cell_setRow_other _ _ _ _ e]; exact hc
 ·rcases hd.arcs with h0 | ⟨g, off, h1, h2, h3, h4, h5⟩
  ·exact .inl h0
  ·refine .inr ⟨g, off, h1, h2, h3, h4, fun i hi => ?_⟩
   obtain ⟨k0, k1, k2⟩ := h5 i hi
   by_cases e : g = b
   ·subst e
    rw [cz] at k0 k2
    obtain ⟨k, hk⟩ : ∃ k, off + i * 3 = k := ⟨_, rfl⟩
    rw [hk] at k2
    match k, k2 with
    | 0, k2 => simp at k2
    | 1, k2 => simp at k2
    | k + 2, k2 => simp at k2
   ·exact ⟨by rw [cell_setRow_other _ _ _ _ e]; exact k0, by rw [cell_setRow_other _ _ _ _ e]; exact k1, by rw [cell_setRow_other _ _ _ _ e]; exact k2⟩
theorem DBox.put {W : World} {h : DH} {D : Dfa} {b : Nat} {x y : Int} {a1 a2 : Option Addr} {l1 c1 l2 c2 : Nat} (hZ : W.heap[b]? = some (.cells #[.int .i64 x, .int .i64 y, .slice a1 l1 c1, .slice a2 l2 c2] 37 (0, 0))) (hd : IsDfa W h D) :
  DBox b D (W.setRow b #[.int .i64 D.n, .int .i64 D.s, .slice h.fa h.fl h.fc, .slice h.aa h.al h.ac]) := ⟨h, setRow_heap _ _ _ _ _ _ hZ, hd.boxed _ hZ⟩
theorem results_cell_row2 {P : Program} {fn : Func} {p u : Tmp} {ty : TypeId} (h : fn.results = #[.cell p ty, .tmp u]) (tmps : Array Value) (w : World) (g : Nat) (t : TypeId) (cs : Array Value) (fr : Nat × Nat) (d : TypeDesc) {v : Value}
  (hp : tmps.getD p undef = .pointer (some ⟨g, 0, none⟩)) (hq : tmps.getD u undef = v) (hg : w.heap[g]? = some (.cells cs t fr))
  (hu : P.underlying ty = some d) (hd : (match d with | .struct _ | .array _ _ => true | _ => false) = true) (hi : (P.info? ty).map (·.size) = some cs.size) :
  (results fn tmps).run P w = .ok (.tuple #[.agg cs, v]) w := by
 rw [results_cell_tmp h, hp, hq]
 simp [asAddr, run_loadVar_row w g t ty cs fr d hg hu hd hi, Result.andThen]
def GivesDE (D : Dfa) (c : Int) (w : World) (e : Ending) (w' : World) : Prop := (∃ h', e = .returned (.tuple #[vDf D h', .int .i64 c]) ∧ IsDfa w' h' D) ∧ Below w.heap.size w w'
def zeroD : Dfa := ⟨0, 0, [], []⟩
theorem isDfa_zero (W : World) : IsDfa W ⟨none, 0, 0, none, 0, 0⟩ zeroD := ⟨isBools_nil W, isArcs_nil W⟩
def canF (d : Dfa) : Dfa := canD d (allK d.n.toNat)
open Classical in
noncomputable def orZero (d D : Dfa) : Dfa := if ValidD d then D else zeroD
open Classical in
noncomputable def orErr (d : Dfa) : Int := if ValidD d then 0 else 1
theorem box_ready {W1 : World} {B : Nat} (hs : W1.heap.size = B + 1) : ∃ W2, W1.alloc (.cells #[.int .i64 0, .int .i64 0, .slice none 0 0, .slice none 0 0] 37) = W2 ∧ Below W1.heap.size W1 W2 ∧ W2.heap.size = B + 2 ∧ W2.heap[B + 1]? = some (.cells #[.int .i64 0, .int .i64 0, .slice none 0 0, .slice none 0 0] 37 (0, 0)) :=
 ⟨_, rfl, (Below.refl _ _).alloc (Nat.le_refl _) _, by simp; omega, by rw [← hs]; exact heap_alloc_new W1 _⟩
set_option maxRecDepth 20000 in
set_option maxHeartbeats 4000000 in
theorem Canonical_yes {d : Dfa} {h : DH} {w : World} (hv : ValidD d) (hd : IsDfa w h d) : Calls Tryz.prog 10 #[vDf d h] w (GivesDE (canF d) 0 w) := by
 have HV := Lib.hid hv
 have hn := Lib.hid hv.1
 obtain ⟨W1, hW1, hs1, hb1, hO⟩ := boxDW d h w hd
 obtain ⟨W2, hW2, hb2, hs2, hZ2⟩ := box_ready hs1
 have HO : Hid (∀ W, Below (w.heap.size + 1) W2 W → (W.cell? ⟨w.heap.size, 0, none⟩ = some (.int .i64 d.n) ∧ W.cell? ⟨w.heap.size, 1, none⟩ = some (.int .i64 d.s) ∧ W.cell? ⟨w.heap.size, 2, none⟩ = some (.slice h.fa h.fl h.fc) ∧ W.cell? ⟨w.heap.size, 3, none⟩ = some (.slice h.aa h.al h.ac)) ∧ IsDfa W h d ∧ Below w.heap.size w W) := Lib.hid (fun W hb => hO W ((hb2.mono (by omega)).trans hb))
 obtain ⟨⟨c1, c2, c3, c4⟩, hd2, -⟩ := HO.out W2 (Below.refl _ _)
 have hva := valid_yes hv hd2
 have HS2 := Lib.hid hs2
 have HZ2 := Lib.hid hZ2
 unfold vDf at hva ⊢
 clear hO hb2 hb1 hd2 hv hs2 hZ2
 go_enter Tryz.func10, Tryz.ntmps10
 go_wp2_with (go_at_call 17; refine hva.mono ?_; rintro e w3 ⟨rfl, hb3⟩; obtain ⟨⟨k1, k2, k3, k4⟩, hd3, hbw3⟩ := HO.out w3 (hb3.mono (by rw [HS2.out]; omega)))
 have hb3' : Below (w.heap.size + 1) W2 w3 := hb3.mono (by rw [HS2.out]; omega)
 have hZ3 : w3.heap[w.heap.size + 1]? = some (.cells #[.int .i64 0, .int .i64 0, .slice none 0 0, .slice none 0 0] 37 (0, 0)) := by rw [hb3.block _ (by rw [HS2.out]; omega)]; exact HZ2.out
 have HS3 : Hid (w.heap.size + 2 ≤ w3.heap.size) := Lib.hid (by rw [← HS2.out]; exact hb3.size)
 have HZ3 := Lib.hid hZ3
 have HB3 := Lib.hid hb3'
 clear k1 k2 k3 k4 hd3 hbw3 c1 c2 c3 c4 hva hb3 hb3' hZ3 hs1 hW1 hW2
 obtain ⟨S, hSd⟩ : ∃ S : (Nat → Bool) → (Nat → Value) → World → Prop, S = fun L f W => Below (w.heap.size + 1) W2 W ∧ w.heap.size + 2 ≤ W.heap.size ∧ (if L 4 = true then DBox (w.heap.size + 1) (canF d) W else W.heap[w.heap.size + 1]? = some (.cells #[.int .i64 0, .int .i64 0, .slice none 0 0, .slice none 0 0] 37 (0, 0)) ∧ (L 2 = true → ∃ a c, f 2 = .slice a d.n.toNat c ∧ IsBools W a d.n.toNat c (allK d.n.toNat)) ∧ (L 3 = true → ∃ h', f 3 = vDf (canF d) h' ∧ IsDfa W h' (canF d))) := ⟨_, rfl⟩
 refine wp_region_st mixed (by kernel_rfl) [[], [], [(1, 9)], [(0, 8), (2, 10), (2, 10)], [(3, 11), (3, 11), (0, 8), (1, 9), (2, 10), (3, 11)], [(0, 8), (1, 9), (2, 10), (3, 11)]] [(0, 8), (1, 9), (2, 10), (3, 11), (5, 3)] rfl rfl [EV ?e0, EV ?e1, fun v => ∃ a c, v = .slice a d.n.toNat c, fun v => ∃ h', v = vDf (canF d) h', fun _ => True, EV ?e5] S ?start ?steps ?rest
 case start =>
  intro f
  rw [hSd]
  exact ⟨HB3.out.drew, HS3.out, HZ3.out, fun h => (by cases h), fun h => (by cases h)⟩
 case steps =>
  refine ⟨fun L f W hi hd hdn hh hS => ?_, fun L f W hi hd hdn hh hS => ?_, fun L f W hi hd hdn hh hS => ?_, fun L f W hi hd hdn hh hS => ?_, fun L f W hi hd hdn hh hS => ?_, fun L f W hi hd hdn hh hS => ?_, trivial⟩
  ·
   unfold stStep
   rw [if_pos (by simp [Region.wanted])]
   intro K Q hK
   simp only [puts, foldr_nil]
   have hS' := hS
   rw [hSd] at hS'
   obtain ⟨⟨k1, k2, k3, k4⟩, -, -⟩ := HO.out W hS'.1
   go_step
   refine st_ex hK rfl rfl (by simp only [go_sem] <;> rfl) rfl (by rw [hSd] at hS ⊢; exact hS)
  ·
   unfold stStep
   rw [if_pos (by simp [Region.wanted])]
   intro K Q hK
   simp only [puts, foldr_nil]
   have hS' := hS
   rw [hSd] at hS'
   obtain ⟨⟨k1, k2, k3, k4⟩, -, -⟩ := HO.out W hS'.1
   go_step
   refine st_ex hK rfl rfl (by simp only [go_sem] <;> rfl) rfl (by rw [hSd] at hS ⊢; exact hS)
  ·
   obtain ⟨h1, -⟩ := hh;have g1 : f 1=_:=h1
   have l3 : L 3 = false := Bool.eq_false_iff.2 fun h => by have q := hdn 3 _ h rfl 2 (by decide); rw [show L 2 = false from hi] at q; cases q
   have l4 : L 4 = false := Bool.eq_false_iff.2 fun h => by have q := hdn 4 _ h rfl 3 (by decide); rw [show L 3 = false from l3] at q; cases q
   unfold stStep
   rw [if_pos (by simp [Region.wanted])]
   intro K Q hK
   simp only [puts, Za, Zb, Zc, Zd, Ze, g1]
   rw [hSd] at hS hK
   have l2 : L 2 = false := hi
   try simp only [stage, l3, l4, l2, if_true, if_false, Bool.false_eq_true] at hS
   obtain ⟨hbW, hzW, hRest⟩ := hS
   obtain ⟨hZW, -, -⟩ := hRest
   obtain ⟨-, hdW, -⟩ := HO.out W hbW
   go_step
   go_at_call 20
   refine (every_any d h W (by have := hn.out; omega)).mono ?_
   rintro e w' ⟨⟨a', c', rfl, hI⟩, hb⟩
   refine hK.out _ _ rfl ⟨a', c', rfl⟩ ?_
   refine ⟨hbW.trans (hb.mono (by omega)), Nat.le_trans hzW hb.size, ?_⟩
   simp only [l3, l4, Bool.false_eq_true, ↓reduceIte, Nat.reduceEqDiff]
   exact ⟨by rw [hb.block _ (by omega)]; exact hZW, fun _ => ⟨a', c', rfl, hI⟩, fun h => (by cases h)⟩
  ·
   obtain ⟨h0, h2, _, -⟩ := hh;have g0 : f 0=_:=h0
   obtain ⟨a2, c2, (g2 : f 2 = _)⟩ := h2
   have l2 : L 2 = true := hd 2 (by decide)
   have l4 : L 4 = false := Bool.eq_false_iff.2 fun h => by have q := hdn 4 _ h rfl 3 (by decide); rw [show L 3 = false from hi] at q; cases q
   unfold stStep
   rw [if_pos (by simp [Region.wanted])]
   intro K Q hK
   simp only [puts, Za, Zb, Zc, Zd, Ze, g0, g2]
   rw [hSd] at hS hK
   have l3 : L 3 = false := hi
   try simp only [stage, l4, l3, l2, if_true, if_false, Bool.false_eq_true] at hS
   obtain ⟨hbW, hzW, hRest⟩ := hS
   obtain ⟨hZW, h2W, -⟩ := hRest
   obtain ⟨a', c', e2, hI⟩ := h2W trivial
   rw [g2] at e2
   injection e2 with e21 e22 e23
   subst e21 e23
   obtain ⟨-, hdW, -⟩ := HO.out W hbW
   go_step
   go_at_call 19
   refine (canonical_any HV.out hdW hI (by have := hn.out; omega)).mono ?_
   rintro e w' ⟨⟨h', rfl, hD⟩, hb⟩
   refine hK.out _ _ rfl ⟨h', rfl⟩ ?_
   refine ⟨hbW.trans (hb.mono (by omega)), Nat.le_trans hzW hb.size, ?_⟩
   simp only [l4, Bool.false_eq_true, ↓reduceIte, Nat.reduceEqDiff]
   exact ⟨by rw [hb.block _ (by omega)]; exact hZW, fun _ => ⟨_, _, g2, hI.later hb⟩, fun _ => ⟨h', rfl, hD⟩⟩
  ·
   obtain ⟨h3, _, h0, h1, h2, _, -⟩ := hh
   obtain ⟨y3, (g3 : f 3 = _)⟩ := h3
   have g0 : f 0=_:=h0;have g1 : f 1=_:=h1
   obtain ⟨a2, c2, (g2 : f 2 = _)⟩ := h2
   have l3 : L 3 = true := hd 3 (by decide)
   unfold stStep
   rw [if_pos (by simp [Region.wanted])]
   intro K Q hK
   simp only [puts, Za, Zb, Zc, Zd, Ze, g3, g0, g1, g2]
   rw [hSd] at hS hK
   have l4 : L 4 = false := hi
   try simp only [stage, l4, l3, if_true, if_false, Bool.false_eq_true] at hS
   obtain ⟨hbW, hzW, hRest⟩ := hS
   obtain ⟨hZW, -, h3W⟩ := hRest
   obtain ⟨h', e3, hD⟩ := h3W trivial
   have e3' : f 3 = .agg #[.int .i64 (canF d).n, .int .i64 (canF d).s, .slice h'.fa h'.fl h'.fc, .slice h'.aa h'.al h'.ac] := e3
   rw [g3] at e3'
   simp only [e3']
   refine wp_store_row 37 _ _ rfl (w.heap.size + 1) #[.int .i64 (canF d).n, .int .i64 (canF d).s, .slice h'.fa h'.fl h'.fc, .slice h'.aa h'.al h'.ac] rfl rfl _ _ hZW dfa_i rfl (dfa_one _ _ _ _ _ _ _ _) ?_
   refine hK.out _ _ rfl trivial ?_
   refine ⟨below_setRow hbW (Nat.le_refl _) _, by simp [World.setRow]; omega, ?_⟩
   simp only [↓reduceIte, Nat.reduceEqDiff]
   exact DBox.put hZW hD
  ·
   obtain ⟨h0, h1, h2, h3, -⟩ := hh;have g0 : f 0=_:=h0;have g1 : f 1=_:=h1
   obtain ⟨a2, c2, (g2 : f 2 = _)⟩ := h2
   obtain ⟨y3, (g3 : f 3 = _)⟩ := h3
   unfold stStep
   rw [if_pos (by simp [Region.wanted])]
   intro K Q hK
   simp only [puts, Za, Zb, Zc, Zd, Ze, g0, g1, g2, g3];go_step
   refine st_ex hK rfl rfl (by simp only [go_sem] <;> rfl) rfl (by rw [hSd] at hS ⊢; exact hS)
 case rest =>
  intro L f WA hL hh hS
  rw [hSd] at hS
  clear hSd
  have l2 : L 2 = true := hL 2 (by decide)
  have l3 : L 3 = true := hL 3 (by decide)
  have l4 : L 4 = true := hL 4 (by decide)
  simp only [stage, l2, l3, l4, if_true] at hS
  clear hL l2 l3 l4
  obtain ⟨h0, h1, h2, h3, h5, -⟩ := hh;have g0 : f 0=_:=h0;have g1 : f 1=_:=h1
  obtain ⟨a2, c2, (g2 : f 2 = _)⟩ := h2
  obtain ⟨y3, (g3 : f 3 = _)⟩ := h3
  have g5 : f 5=_:=h5;simp only [puts, Za, Zb, Zc, Zd, Ze, g0, g1, g2, g3, g5]
  clear h0 h1 h5 g0 g1 g5
  obtain ⟨hbA, hzA, hDB⟩ := hS
  obtain ⟨h', hZA, hDA⟩ := hDB
  obtain ⟨-, -, hbw⟩ := HO.out WA hbA
  go_wp2_with (fail)
  refine bodyPost_ret (results_cell_row2 rfl _ _ (w.heap.size + 1) _ _ _ _ rfl rfl hZA Tryz.underlying37 rfl dfa_i) rfl ?_
  exact ⟨⟨h', rfl, hDA⟩, hbw⟩
set_option maxRecDepth 20000 in
set_option maxHeartbeats 4000000 in
theorem Trim_yes {d : Dfa} {h : DH} {w : World} (hv : ValidD d) (hd : IsDfa w h d) : Calls Tryz.prog 11 #[vDf d h] w (GivesDE (trimD d) 0 w) := by
 have HV := Lib.hid hv
 have hn := Lib.hid hv.1
 obtain ⟨W1, hW1, hs1, hb1, hO⟩ := boxDW d h w hd
 obtain ⟨W2, hW2, hb2, hs2, hZ2⟩ := box_ready hs1
 have HO : Hid (∀ W, Below (w.heap.size + 1) W2 W → (W.cell? ⟨w.heap.size, 0, none⟩ = some (.int .i64 d.n) ∧ W.cell? ⟨w.heap.size, 1, none⟩ = some (.int .i64 d.s) ∧ W.cell? ⟨w.heap.size, 2, none⟩ = some (.slice h.fa h.fl h.fc) ∧ W.cell? ⟨w.heap.size, 3, none⟩ = some (.slice h.aa h.al h.ac)) ∧ IsDfa W h d ∧ Below w.heap.size w W) := Lib.hid (fun W hb => hO W ((hb2.mono (by omega)).trans hb))
 obtain ⟨⟨c1, c2, c3, c4⟩, hd2, -⟩ := HO.out W2 (Below.refl _ _)
 have hva := valid_yes hv hd2
 have HS2 := Lib.hid hs2
 have HZ2 := Lib.hid hZ2
 unfold vDf at hva ⊢
 clear hO hb2 hb1 hd2 hv hs2 hZ2
 go_enter Tryz.func11, Tryz.ntmps11
 go_wp2_with (go_at_call 17; refine hva.mono ?_; rintro e w3 ⟨rfl, hb3⟩; obtain ⟨⟨k1, k2, k3, k4⟩, hd3, hbw3⟩ := HO.out w3 (hb3.mono (by rw [HS2.out]; omega)))
 have hb3' : Below (w.heap.size + 1) W2 w3 := hb3.mono (by rw [HS2.out]; omega)
 have hZ3 : w3.heap[w.heap.size + 1]? = some (.cells #[.int .i64 0, .int .i64 0, .slice none 0 0, .slice none 0 0] 37 (0, 0)) := by rw [hb3.block _ (by rw [HS2.out]; omega)]; exact HZ2.out
 have HS3 : Hid (w.heap.size + 2 ≤ w3.heap.size) := Lib.hid (by rw [← HS2.out]; exact hb3.size)
 have HZ3 := Lib.hid hZ3
 have HB3 := Lib.hid hb3'
 clear k1 k2 k3 k4 hd3 hbw3 c1 c2 c3 c4 hva hb3 hb3' hZ3 hs1 hW1 hW2
 obtain ⟨S, hSd⟩ : ∃ S : (Nat → Bool) → (Nat → Value) → World → Prop, S = fun L f W => Below (w.heap.size + 1) W2 W ∧ w.heap.size + 2 ≤ W.heap.size ∧ (if L 4 = true then DBox (w.heap.size + 1) (trimD d) W else W.heap[w.heap.size + 1]? = some (.cells #[.int .i64 0, .int .i64 0, .slice none 0 0, .slice none 0 0] 37 (0, 0)) ∧ (L 2 = true → ∃ a c, f 2 = .slice a d.n.toNat c ∧ IsBools W a d.n.toNat c (keepU d)) ∧ (L 3 = true → ∃ h', f 3 = vDf (trimD d) h' ∧ IsDfa W h' (trimD d))) := ⟨_, rfl⟩
 refine wp_region_st mixed (by kernel_rfl) [[], [], [(1, 9)], [(0, 8), (2, 10), (2, 10)], [(3, 11), (3, 11), (0, 8), (1, 9), (2, 10), (3, 11)], [(0, 8), (1, 9), (2, 10), (3, 11)]] [(0, 8), (1, 9), (2, 10), (3, 11), (5, 3)] rfl rfl [EV ?e0, EV ?e1, fun v => ∃ a c, v = .slice a d.n.toNat c, fun v => ∃ h', v = vDf (trimD d) h', fun _ => True, EV ?e5] S ?start ?steps ?rest
 case start =>
  intro f
  rw [hSd]
  exact ⟨HB3.out.drew, HS3.out, HZ3.out, fun h => (by cases h), fun h => (by cases h)⟩
 case steps =>
  refine ⟨fun L f W hi hd hdn hh hS => ?_, fun L f W hi hd hdn hh hS => ?_, fun L f W hi hd hdn hh hS => ?_, fun L f W hi hd hdn hh hS => ?_, fun L f W hi hd hdn hh hS => ?_, fun L f W hi hd hdn hh hS => ?_, trivial⟩
  ·
   unfold stStep
   rw [if_pos (by simp [Region.wanted])]
   intro K Q hK
   simp only [puts, foldr_nil]
   have hS' := hS
   rw [hSd] at hS'
   obtain ⟨⟨k1, k2, k3, k4⟩, -, -⟩ := HO.out W hS'.1
   go_step
   refine st_ex hK rfl rfl (by simp only [go_sem] <;> rfl) rfl (by rw [hSd] at hS ⊢; exact hS)
  ·
   unfold stStep
   rw [if_pos (by simp [Region.wanted])]
   intro K Q hK
   simp only [puts, foldr_nil]
   have hS' := hS
   rw [hSd] at hS'
   obtain ⟨⟨k1, k2, k3, k4⟩, -, -⟩ := HO.out W hS'.1
   go_step
   refine st_ex hK rfl rfl (by simp only [go_sem] <;> rfl) rfl (by rw [hSd] at hS ⊢; exact hS)
  ·
   obtain ⟨h1, -⟩ := hh;have g1 : f 1=_:=h1
   have l3 : L 3 = false := Bool.eq_false_iff.2 fun h => by have q := hdn 3 _ h rfl 2 (by decide); rw [show L 2 = false from hi] at q; cases q
   have l4 : L 4 = false := Bool.eq_false_iff.2 fun h => by have q := hdn 4 _ h rfl 3 (by decide); rw [show L 3 = false from l3] at q; cases q
   unfold stStep
   rw [if_pos (by simp [Region.wanted])]
   intro K Q hK
   simp only [puts, Za, Zb, Zc, Zd, Ze, g1]
   rw [hSd] at hS hK
   have l2 : L 2 = false := hi
   try simp only [stage, l3, l4, l2, if_true, if_false, Bool.false_eq_true] at hS
   obtain ⟨hbW, hzW, hRest⟩ := hS
   obtain ⟨hZW, -, -⟩ := hRest
   obtain ⟨-, hdW, -⟩ := HO.out W hbW
   go_step
   go_at_call 21
   refine (ends_any HV.out hdW).mono ?_
   rintro e w' ⟨⟨a', c', rfl, hI⟩, hb⟩
   refine hK.out _ _ rfl ⟨a', c', rfl⟩ ?_
   refine ⟨hbW.trans (hb.mono (by omega)), Nat.le_trans hzW hb.size, ?_⟩
   simp only [l3, l4, Bool.false_eq_true, ↓reduceIte, Nat.reduceEqDiff]
   exact ⟨by rw [hb.block _ (by omega)]; exact hZW, fun _ => ⟨a', c', rfl, hI⟩, fun h => (by cases h)⟩
  ·
   obtain ⟨h0, h2, _, -⟩ := hh;have g0 : f 0=_:=h0
   obtain ⟨a2, c2, (g2 : f 2 = _)⟩ := h2
   have l2 : L 2 = true := hd 2 (by decide)
   have l4 : L 4 = false := Bool.eq_false_iff.2 fun h => by have q := hdn 4 _ h rfl 3 (by decide); rw [show L 3 = false from hi] at q; cases q
   unfold stStep
   rw [if_pos (by simp [Region.wanted])]
   intro K Q hK
   simp only [puts, Za, Zb, Zc, Zd, Ze, g0, g2]
   rw [hSd] at hS hK
   have l3 : L 3 = false := hi
   try simp only [stage, l4, l3, l2, if_true, if_false, Bool.false_eq_true] at hS
   obtain ⟨hbW, hzW, hRest⟩ := hS
   obtain ⟨hZW, h2W, -⟩ := hRest
   obtain ⟨a', c', e2, hI⟩ := h2W trivial
   rw [g2] at e2
   injection e2 with e21 e22 e23
   subst e21 e23
   obtain ⟨-, hdW, -⟩ := HO.out W hbW
   go_step
   go_at_call 19
   refine (canonical_any HV.out hdW hI (by have := hn.out; omega)).mono ?_
   rintro e w' ⟨⟨h', rfl, hD⟩, hb⟩
   refine hK.out _ _ rfl ⟨h', rfl⟩ ?_
   refine ⟨hbW.trans (hb.mono (by omega)), Nat.le_trans hzW hb.size, ?_⟩
   simp only [l4, Bool.false_eq_true, ↓reduceIte, Nat.reduceEqDiff]
   exact ⟨by rw [hb.block _ (by omega)]; exact hZW, fun _ => ⟨_, _, g2, hI.later hb⟩, fun _ => ⟨h', rfl, hD⟩⟩
  ·
   obtain ⟨h3, _, h0, h1, h2, _, -⟩ := hh
   obtain ⟨y3, (g3 : f 3 = _)⟩ := h3
   have g0 : f 0=_:=h0;have g1 : f 1=_:=h1
   obtain ⟨a2, c2, (g2 : f 2 = _)⟩ := h2
   have l3 : L 3 = true := hd 3 (by decide)
   unfold stStep
   rw [if_pos (by simp [Region.wanted])]
   intro K Q hK
   simp only [puts, Za, Zb, Zc, Zd, Ze, g3, g0, g1, g2]
   rw [hSd] at hS hK
   have l4 : L 4 = false := hi
   try simp only [stage, l4, l3, if_true, if_false, Bool.false_eq_true] at hS
   obtain ⟨hbW, hzW, hRest⟩ := hS
   obtain ⟨hZW, -, h3W⟩ := hRest
   obtain ⟨h', e3, hD⟩ := h3W trivial
   have e3' : f 3 = .agg #[.int .i64 (trimD d).n, .int .i64 (trimD d).s, .slice h'.fa h'.fl h'.fc, .slice h'.aa h'.al h'.ac] := e3
   rw [g3] at e3'
   simp only [e3']
   refine wp_store_row 37 _ _ rfl (w.heap.size + 1) #[.int .i64 (trimD d).n, .int .i64 (trimD d).s, .slice h'.fa h'.fl h'.fc, .slice h'.aa h'.al h'.ac] rfl rfl _ _ hZW dfa_i rfl (dfa_one _ _ _ _ _ _ _ _) ?_
   refine hK.out _ _ rfl trivial ?_
   refine ⟨below_setRow hbW (Nat.le_refl _) _, by simp [World.setRow]; omega, ?_⟩
   simp only [↓reduceIte, Nat.reduceEqDiff]
   exact DBox.put hZW hD
  ·
   obtain ⟨h0, h1, h2, h3, -⟩ := hh;have g0 : f 0=_:=h0;have g1 : f 1=_:=h1
   obtain ⟨a2, c2, (g2 : f 2 = _)⟩ := h2
   obtain ⟨y3, (g3 : f 3 = _)⟩ := h3
   unfold stStep
   rw [if_pos (by simp [Region.wanted])]
   intro K Q hK
   simp only [puts, Za, Zb, Zc, Zd, Ze, g0, g1, g2, g3];go_step
   refine st_ex hK rfl rfl (by simp only [go_sem] <;> rfl) rfl (by rw [hSd] at hS ⊢; exact hS)
 case rest =>
  intro L f WA hL hh hS
  rw [hSd] at hS
  clear hSd
  have l2 : L 2 = true := hL 2 (by decide)
  have l3 : L 3 = true := hL 3 (by decide)
  have l4 : L 4 = true := hL 4 (by decide)
  simp only [stage, l2, l3, l4, if_true] at hS
  clear hL l2 l3 l4
  obtain ⟨h0, h1, h2, h3, h5, -⟩ := hh;have g0 : f 0=_:=h0;have g1 : f 1=_:=h1
  obtain ⟨a2, c2, (g2 : f 2 = _)⟩ := h2
  obtain ⟨y3, (g3 : f 3 = _)⟩ := h3
  have g5 : f 5=_:=h5;simp only [puts, Za, Zb, Zc, Zd, Ze, g0, g1, g2, g3, g5]
  clear h0 h1 h5 g0 g1 g5
  obtain ⟨hbA, hzA, hDB⟩ := hS
  obtain ⟨h', hZA, hDA⟩ := hDB
  obtain ⟨-, -, hbw⟩ := HO.out WA hbA
  go_wp2_with (fail)
  refine bodyPost_ret (results_cell_row2 rfl _ _ (w.heap.size + 1) _ _ _ _ rfl rfl hZA Tryz.underlying37 rfl dfa_i) rfl ?_
  exact ⟨⟨h', rfl, hDA⟩, hbw⟩
end Go.Proofs.YtbjdglopkpigbaaGreatDoor
