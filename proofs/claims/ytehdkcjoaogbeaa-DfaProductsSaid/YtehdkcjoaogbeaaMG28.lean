import Derived.Test.YtehdkcjoaogbeaaMG23
import Derived.Test.YtehdkcjoaogbeaaMG24
import Derived.Test.YtehdkcjoaogbeaaMG27
/-
  DfaOx, DfaReadsW
-/
set_option linter.unusedSimpArgs false
set_option linter.unusedVariables false
namespace Go.Proofs.Ytehdkcjoaogbeaa
open Go.RowKit
attribute [local go_sem] Oper.semAt_some

variable {d : Dfa} {h : DH} {w : World}
def ownPs (B : Nat) (N s0 : Int) (vf : Value) (A : List A3) (vb va : Value) : List Pc := [.row 62 3 va A.length (tvs A), .blk B #[.int .i64 N, .int .i64 s0, vf, vb]]
theorem ownPs_start {W : World} {B : Nat} (hB : B = W.heap.size) (N s0 : Int) (vf : Value) (T : TypeId) : Pcs (W.alloc (.cells #[.int .i64 N, .int .i64 s0, vf, .slice none 0 0] T)) B (ownPs B N s0 vf [] (.slice none 0 0) (.slice none 0 0)) := by
  subst hB
  have h0 := (Pcs.nil W W.heap.size).empty 62 3
  exact h0.new (Nat.le_refl _) #[.int .i64 N, .int .i64 s0, vf, .slice none 0 0] T
set_option maxRecDepth 20000 in
set_option maxHeartbeats 4000000 in
theorem own_any (hd : IsDfa w h d) (hl : d.arcs.length ≤ 1000) : Calls Try.prog 13 #[vDf d h] w (GivesD d w) := by
  obtain ⟨W1, hW1, hs1, hb1, hO⟩ := boxRW d h w hd
  obtain ⟨W2, hW2, hb2, hs2, hZ2⟩ := box_ready hs1
  have he := hd.2
  have hlen := he.length
  rw [hlen] at hl
  have HOB : Hid (∀ W, Below (w.heap.size + 2) W2 W → (W.cell? ⟨w.heap.size, 0, none⟩ = some (.int .i64 d.n) ∧ W.cell? ⟨w.heap.size, 1, none⟩ = some (.int .i64 d.s) ∧ W.cell? ⟨w.heap.size, 2, none⟩ = some (.slice h.fa h.fl h.fc) ∧ W.cell? ⟨w.heap.size, 3, none⟩ = some (.slice h.aa h.al h.ac)) ∧ IsDfa W h d ∧ W.heap[w.heap.size + 1]? = some (.cells #[.int .i64 0, .int .i64 0, .slice none 0 0, .slice none 0 0] 30 (0, 0)) ∧ Below w.heap.size w W) := Lib.hid (fun W hb => by
    obtain ⟨h1, h2, h3⟩ := hO W ((hb2.mono (by omega)).trans (hb.mono (by omega)))
    exact ⟨h1, h2, by rw [hb.block _ (by omega)]; exact hZ2, h3⟩)
  obtain ⟨⟨c1, c2, c3, c4⟩, -, -, -⟩ := HOB.out W2 (Below.refl _ _)
  clear hO hb2 hb1 hd hZ2
  unfold vDf
  obtain ⟨N, s0, fin, es⟩ := d
  obtain ⟨fa, fl, fc, aa, al, ac⟩ := h
  simp only [vDf] at hW1 hW2 HOB hl c1 c2 c3 c4 he hlen ⊢
  have HX := Lib.hid hlen
  have HS2 := Lib.hid hs2
  clear hlen
  obtain ⟨W3, hW3⟩ : ∃ W3, W2.alloc (.cells #[.int .i64 N, .int .i64 s0, .slice fa fl fc, .slice none 0 0] 30) = W3 := ⟨_, rfl⟩
  have hP0 : Pcs W3 (w.heap.size + 2) (ownPs (w.heap.size + 2) N s0 (.slice fa fl fc) (es.take 0) (.slice none 0 0) (.slice none 0 0)) := by rw [← hW3]; exact ownPs_start hs2.symm _ _ _ _
  have hb3 : Below (w.heap.size + 2) W2 W3 := by rw [← hW3, ← hs2]; exact (Below.refl _ _).alloc (Nat.le_refl _) _
  have hs3 : w.heap.size + 3 ≤ W3.heap.size := by rw [← hW3, World.size_alloc, hs2]; exact Nat.le_refl _
  have HP0 := Lib.hid hP0
  have HB3 := Lib.hid hb3
  have HS3 := Lib.hid hs3
  have HE := Lib.hid he
  clear hP0 hb3 hs3 he
  subst hW3
  go_enter Try.func13, Try.ntmps13
  go_wp2_with (fail)
  obtain ⟨W3, hW3⟩ : ∃ W3, W2.alloc (.cells #[.int .i64 N, .int .i64 s0, .slice fa fl fc, .slice none 0 0] 30) = W3 := ⟨_, rfl⟩
  rw [hW3] at HP0 HB3 HS3 ⊢
  clear hW3 hW1 hW2 c1 c2 c3 c4 hs2
  go_loopw [15] (fun c W => ∃ (k : Nat) (va : Option Addr) (ca : Nat), k ≤ al ∧ c = .int .i64 (k : Int) ∧ Below (w.heap.size + 2) W2 W ∧ w.heap.size + 3 ≤ W.heap.size ∧ Pcs W (w.heap.size + 2) (ownPs (w.heap.size + 2) N s0 (.slice fa fl fc) (es.take k) (.slice va k ca) (.slice va k ca))) (fun c _ => al - (intOf c).toNat)
  case atStart => exact ⟨0, none, 0, Nat.zero_le _, rfl, HB3.out, HS3.out, HP0.out⟩
  case round =>
    obtain ⟨k, va, ca, hk, rfl, hbr, hzr, hP⟩ := hrel
    rcases Nat.lt_or_ge k al with hlt | hge
    · have t1 : decide ((k : Int) < al) = true := decide_eq_true (by omega)
      obtain ⟨b, off, rfl, hcell⟩ := HE.out.fix (by omega)
      obtain ⟨x1, x2, x3, hx⟩ : ∃ x1 x2 x3, g3 es k = ⟨x1, x2, x3⟩ := ⟨_, _, _, rfl⟩
      have HN : Hid (es.take (k + 1) = es.take k ++ [⟨x1, x2, x3⟩]) := Lib.hid (by rw [← hx]; exact take_succ_g3 _ _ (by rw [HX.out]; exact hlt))
      have hlk : (es.take k).length = k := by rw [List.length_take, HX.out]; omega
      have HC : Hid (∀ W, Below (w.heap.size + 2) W2 W → (W.cell? ⟨w.heap.size, 3, none⟩ = some (.slice (some ⟨b, off, none⟩) al ac)) ∧ W.cell? ⟨b, off + k * 3, none⟩ = some (.int .i64 x1) ∧ W.cell? ⟨b, off + k * 3 + 1, none⟩ = some (.int .i64 x2) ∧ W.cell? ⟨b, off + k * 3 + 2, none⟩ = some (.int .i64 x3)) := Lib.hid (fun W hb => by
        obtain ⟨⟨_, _, _, q4⟩, _, _, hbw⟩ := HOB.out W hb
        have h := hcell W hbw k hlt
        rw [hx] at h
        exact ⟨q4, h⟩)
      obtain ⟨ts, hts⟩ : ∃ ts, es.take k = ts := ⟨_, rfl⟩
      rw [hts] at HN hP hlk
      have HP := Lib.hid hP
      have HB := Lib.hid hbr
      have hkk : k ≤ 1000 := by omega
      have HLK := Lib.hid hlk
      clear hP hbr hx hcell hlk hts
      go_wp2_with (fail)
      obtain ⟨S, hSd⟩ : ∃ S : (Nat → Bool) → (Nat → Value) → World → Prop, S = fun L f W => Below (w.heap.size + 2) W2 W ∧ w.heap.size + 3 ≤ W.heap.size ∧ (L 7 = true → L 8 = false → ∃ q, f 7 = .slice (some ⟨q, 0, none⟩) 1 1 ∧ BlkAt W q #[.int .i64 x1, .int .i64 x2, .int .i64 x3]) ∧ Pcs W (w.heap.size + 2) (ownPs (w.heap.size + 2) N s0 (.slice fa fl fc) (if L 8 = true then ts ++ [⟨x1, x2, x3⟩] else ts) (if L 10 = true then f 8 else .slice va k ca) (if L 8 = true then f 8 else .slice va k ca)) := ⟨_, rfl⟩
      refine wp_region_st mixed (by kernel_rfl) [[], [(0, 18)], [], [(2, 20)], [], [(3, 21), (4, 22)], [(5, 23)], [(6, 24)], [(1, 19), (7, 25)], [(0, 18), (1, 19), (2, 20), (3, 21), (4, 22), (5, 23), (6, 24), (7, 25), (8, 26)], [(9, 27), (8, 26), (8, 26), (0, 18), (1, 19), (2, 20), (3, 21), (4, 22), (5, 23), (6, 24), (7, 25), (8, 26)]] [(0, 18), (1, 19), (2, 20), (3, 21), (4, 22), (5, 23), (6, 24), (7, 25), (8, 26), (9, 27)] rfl rfl [EV ?eo0, EV ?eo1, EV ?eo2, EV ?eo3, EV ?eo4, EV ?eo5, EV ?eo6, fun v => ∃ b, v = .slice (some ⟨b, 0, none⟩) 1 1, fun v => ∃ a c, v = .slice a (k + 1) c, EV ?eo9, fun _ => True] S ?ostart ?osteps ?orest
      case ostart =>
        intro f
        rw [hSd]
        exact ⟨HB.out.drew, hzr, fun h => (by cases h), HP.out.quiet (below_grows ((Below.refl _ _).drew) none)⟩
      case osteps =>
        refine ⟨fun L f W hi hd hdn hh hS => ?_, fun L f W hi hd hdn hh hS => ?_, fun L f W hi hd hdn hh hS => ?_, fun L f W hi hd hdn hh hS => ?_, fun L f W hi hd hdn hh hS => ?_, fun L f W hi hd hdn hh hS => ?_, fun L f W hi hd hdn hh hS => ?_, fun L f W hi hd hdn hh hS => ?_, fun L f W hi hd hdn hh hS => ?_, fun L f W hi hd hdn hh hS => ?_, fun L f W hi hd hdn hh hS => ?_, trivial⟩
        ·
          unfold stStep
          rw [if_pos (by simp [Region.wanted])]
          intro K Q hK
          simp only [puts, List.foldr_nil]
          go_step
          refine st_ex hK rfl rfl (by simp only [go_sem] <;> rfl) rfl (by rw [hSd] at hS ⊢; exact hS)
        ·
          obtain ⟨h0, -⟩ := hh
          have g0 : f 0 = _ := h0
          have l8 : L 8 = false := Bool.eq_false_iff.2 fun h => by have q := hdn 8 _ h rfl 1 (by decide); rw [show L 1 = false from hi] at q; cases q
          have l10 : L 10 = false := Bool.eq_false_iff.2 fun h => by have q := hdn 10 _ h rfl 8 (by decide); rw [show L 8 = false from l8] at q; cases q
          unfold stStep
          rw [if_pos (by simp [Region.wanted])]
          intro K Q hK
          simp only [puts, List.foldr_cons, List.foldr_nil, List.setIfInBounds_toArray, List.set_cons_succ, List.set_cons_zero, g0]
          have hS' := hS
          rw [hSd] at hS'
          simp only [l8, l10, if_false, Bool.false_eq_true] at hS'
          have x1 : W.cell? ⟨w.heap.size + 2, 3, none⟩ = some (.slice va k ca) := ((hS'.2.2.2.blk 1 rfl).2.cell 3).1
          go_step
          refine st_ex hK rfl rfl (by simp only [go_sem] <;> rfl) rfl (by rw [hSd] at hS ⊢; exact hS)
        ·
          unfold stStep
          rw [if_pos (by simp [Region.wanted])]
          intro K Q hK
          simp only [puts, List.foldr_nil]
          go_step
          refine st_ex hK rfl rfl (by simp only [go_sem] <;> rfl) rfl (by rw [hSd] at hS ⊢; exact hS)
        ·
          obtain ⟨h2, -⟩ := hh
          have g2 : f 2 = _ := h2
          unfold stStep
          rw [if_pos (by simp [Region.wanted])]
          intro K Q hK
          simp only [puts, List.foldr_cons, List.foldr_nil, List.setIfInBounds_toArray, List.set_cons_succ, List.set_cons_zero, g2]
          have hS' := hS
          rw [hSd] at hS'
          obtain ⟨q4, q1, q2, q3⟩ := HC.out W hS'.1
          go_step
          refine st_ex hK rfl rfl (by simp only [go_sem] <;> rfl) rfl (by rw [hSd] at hS ⊢; exact hS)
        ·
          unfold stStep
          rw [if_pos (by simp [Region.wanted])]
          intro K Q hK
          simp only [puts, List.foldr_nil]
          go_step
          refine st_ex hK rfl rfl (by simp only [go_sem] <;> rfl) rfl (by rw [hSd] at hS ⊢; exact hS)
        ·
          obtain ⟨h3, h4, -⟩ := hh
          have g3 : f 3 = _ := h3
          have g4 : f 4 = _ := h4
          unfold stStep
          rw [if_pos (by simp [Region.wanted])]
          intro K Q hK
          simp only [puts, List.foldr_cons, List.foldr_nil, List.setIfInBounds_toArray, List.set_cons_succ, List.set_cons_zero, g3, g4]
          go_step
          refine st_ex hK rfl rfl (by simp only [go_sem] <;> rfl) rfl (by rw [hSd] at hS ⊢; exact hS)
        ·
          obtain ⟨h5, -⟩ := hh
          have g5 : f 5 = _ := h5
          unfold stStep
          rw [if_pos (by simp [Region.wanted])]
          intro K Q hK
          simp only [puts, List.foldr_cons, List.foldr_nil, List.setIfInBounds_toArray, List.set_cons_succ, List.set_cons_zero, g5]
          have hS' := hS
          rw [hSd] at hS'
          obtain ⟨q4, q1, q2, q3⟩ := HC.out W hS'.1
          go_step
          refine st_ex hK rfl rfl (by simp only [go_sem] <;> rfl) rfl (by rw [hSd] at hS ⊢; exact hS)
        ·
          obtain ⟨h6, -⟩ := hh
          have g6 : f 6 = _ := h6
          have l8 : L 8 = false := Bool.eq_false_iff.2 fun h => by have q := hdn 8 _ h rfl 7 (by decide); rw [show L 7 = false from hi] at q; cases q
          have l10 : L 10 = false := Bool.eq_false_iff.2 fun h => by have q := hdn 10 _ h rfl 8 (by decide); rw [show L 8 = false from l8] at q; cases q
          unfold stStep
          rw [if_pos (by simp [Region.wanted])]
          intro K Q hK
          simp only [puts, List.foldr_cons, List.foldr_nil, List.setIfInBounds_toArray, List.set_cons_succ, List.set_cons_zero, g6]
          rw [hSd] at hS hK
          have l7 : L 7 = false := hi
          try simp only [stage, l8, l10, l7, if_true, if_false, Bool.false_eq_true] at hS
          obtain ⟨hbW, hzW, -, hPW⟩ := hS
          have hal : Below W.heap.size W (W.alloc (.cells #[.int .i64 x1, .int .i64 x2, .int .i64 x3] 62)) := (Below.refl _ _).alloc (Nat.le_refl _) _
          go_step
          refine hK.out _ _ rfl ⟨_, rfl⟩ ?_
          refine ⟨hbW.alloc (by omega) _, by simp; omega, fun _ _ => ⟨_, rfl, BlkAt.new W _ _⟩, ?_⟩
          simp only [l8, l10, Bool.false_eq_true, ↓reduceIte, Nat.reduceEqDiff] at hPW ⊢
          exact hPW.quiet (below_grows hal none)
        ·
          obtain ⟨h1, h7, -⟩ := hh
          have g1 : f 1 = _ := h1
          obtain ⟨b7, (g7 : f 7 = _)⟩ := h7
          have l7 : L 7 = true := hd 7 (by decide)
          have l10 : L 10 = false := Bool.eq_false_iff.2 fun h => by have q := hdn 10 _ h rfl 8 (by decide); rw [show L 8 = false from hi] at q; cases q
          unfold stStep
          rw [if_pos (by simp [Region.wanted])]
          intro K Q hK
          simp only [puts, List.foldr_cons, List.foldr_nil, List.setIfInBounds_toArray, List.set_cons_succ, List.set_cons_zero, g1, g7]
          rw [hSd] at hS hK
          have l8 : L 8 = false := hi
          try simp only [stage, l10, l8, l7, if_true, if_false, Bool.false_eq_true] at hS
          obtain ⟨hbW, hzW, h7, hPW⟩ := hS
          obtain ⟨q, e7, hq⟩ := h7 trivial trivial
          rw [g7] at e7
          obtain rfl : b7 = q := by simpa using e7
          try simp only [l8, l10, if_false, Bool.false_eq_true] at hPW
          refine wp_app_pcs elA _ _ rfl 0 (v := .slice va k ca) (n := k) rfl hPW (by rw [← HLK.out]; rfl) (news := [.int .i64 x1, .int .i64 x2, .int .i64 x3]) rfl ⟨rfl, fun ad e i u hi => by injection e with e; subst e; rw [addr_add, Nat.zero_add, (hq.cell i).1, ← hi]; simp, fun e => by cases e⟩ (by intro u hu; simp only [List.mem_cons, List.not_mem_nil, or_false] at hu; rcases hu with rfl | rfl | rfl <;> rfl) (by omega) (by omega) ?_
          intro a' c' w' hp' hbw
          refine hK.out _ _ rfl ⟨a', c', rfl⟩ ?_
          refine ⟨hbW.trans hbw, Nat.le_trans hzW hbw.size, fun _ h => (by simp at h), ?_⟩
          simp only [l10, Bool.false_eq_true, ↓reduceIte, Nat.reduceEqDiff]
          have e1 : (ts ++ [(⟨x1, x2, x3⟩ : A3)]).length = k + 1 := by rw [List.length_append, HLK.out]; rfl
          unfold ownPs
          rw [e1, tvs_append]
          exact hp'
        ·
          obtain ⟨h0, h1, h2, h3, h4, h5, h6, h7, h8, -⟩ := hh
          have g0 : f 0 = _ := h0
          have g1 : f 1 = _ := h1
          have g2 : f 2 = _ := h2
          have g3 : f 3 = _ := h3
          have g4 : f 4 = _ := h4
          have g5 : f 5 = _ := h5
          have g6 : f 6 = _ := h6
          obtain ⟨b7, (g7 : f 7 = _)⟩ := h7
          obtain ⟨a8, c8, (g8 : f 8 = _)⟩ := h8
          unfold stStep
          rw [if_pos (by simp [Region.wanted])]
          intro K Q hK
          simp only [puts, List.foldr_cons, List.foldr_nil, List.setIfInBounds_toArray, List.set_cons_succ, List.set_cons_zero, g0, g1, g2, g3, g4, g5, g6, g7, g8]
          go_step
          refine st_ex hK rfl rfl (by simp only [go_sem] <;> rfl) rfl (by rw [hSd] at hS ⊢; exact hS)
        ·
          obtain ⟨h9, h8, _, h0, h1, h2, h3, h4, h5, h6, h7, _, -⟩ := hh
          have g9 : f 9 = _ := h9
          obtain ⟨a8, c8, (g8 : f 8 = _)⟩ := h8
          have g0 : f 0 = _ := h0
          have g1 : f 1 = _ := h1
          have g2 : f 2 = _ := h2
          have g3 : f 3 = _ := h3
          have g4 : f 4 = _ := h4
          have g5 : f 5 = _ := h5
          have g6 : f 6 = _ := h6
          obtain ⟨b7, (g7 : f 7 = _)⟩ := h7
          have l8 : L 8 = true := hd 8 (by decide)
          unfold stStep
          rw [if_pos (by simp [Region.wanted])]
          intro K Q hK
          simp only [puts, List.foldr_cons, List.foldr_nil, List.setIfInBounds_toArray, List.set_cons_succ, List.set_cons_zero, g9, g8, g0, g1, g2, g3, g4, g5, g6, g7]
          rw [hSd] at hS hK
          have l10 : L 10 = false := hi
          try simp only [stage, l10, l8, if_true, if_false, Bool.false_eq_true] at hS
          obtain ⟨hbW, hzW, -, hPW⟩ := hS
          have l8' : L 8 = true := hd 8 (by decide)
          simp only [l8', l10, if_false, if_true, Bool.false_eq_true, g8] at hPW
          have y1 := ((hPW.blk 1 rfl).2.cell 3)
          have y2 : W.cell? ⟨w.heap.size + 2, 3, none⟩ = some (.slice va k ca) := y1.1
          have y3 := y1.2
          go_step
          refine hK.out _ _ rfl trivial ?_
          refine ⟨hbW.setCell (p := ⟨w.heap.size + 2, 3, none⟩) (Nat.le_refl _) _, by rw [World.size_setCell]; exact hzW, fun _ h => (by simp [l8'] at h), ?_⟩
          simp only [l8', ↓reduceIte, Nat.reduceEqDiff, g8]
          exact hPW.blkStore 1 rfl 3 _
      case orest =>
        intro L f WD hL hh hS
        rw [hSd] at hS
        clear hSd
        have l7 : L 7 = true := hL 7 (by decide)
        have l8 : L 8 = true := hL 8 (by decide)
        have l10 : L 10 = true := hL 10 (by decide)
        simp only [stage, l7, l8, l10, if_true] at hS
        clear hL l7 l8 l10
        obtain ⟨h0, h1, h2, h3, h4, h5, h6, h7, h8, h9, -⟩ := hh
        have g0 : f 0 = _ := h0
        have g1 : f 1 = _ := h1
        have g2 : f 2 = _ := h2
        have g3 : f 3 = _ := h3
        have g4 : f 4 = _ := h4
        have g5 : f 5 = _ := h5
        have g6 : f 6 = _ := h6
        obtain ⟨b7, (g7 : f 7 = _)⟩ := h7
        obtain ⟨a8, c8, (g8 : f 8 = _)⟩ := h8
        have g9 : f 9 = _ := h9
        simp only [puts, List.foldr_cons, List.foldr_nil, List.setIfInBounds_toArray, List.set_cons_succ, List.set_cons_zero, g0, g1, g2, g3, g4, g5, g6, g7, g8, g9]
        clear h0 h1 h2 h3 h4 h5 h6 h9 g0 g1 g2 g3 g4 g5 g6 g9
        simp only [g8] at hS
        obtain ⟨hbD, hzD, -, hPD⟩ := hS
        rw [← HN.out] at hPD
        have HPD := Lib.hid hPD
        clear hPD
        go_wp2_with (fail)
        go_roundw
        case rel => exact ⟨k + 1, a8, c8, hlt, by go_num, hbD, hzD, HPD.out⟩
        case measure => simp [intOf]; omega
    · have t1 : decide ((k : Int) < al) = false := decide_eq_false (by omega)
      obtain rfl : k = al := by omega
      rw [List.take_of_length_le (by rw [HX.out]; exact Nat.le_refl _)] at hP
      obtain ⟨-, hdW, hZW, hbw⟩ := HOB.out wr hbr
      have hI : IsArcs wr va k ca es := (IsArcs.of_owns (hP.row 0 rfl)).1
      have hB1 := (hP.blk 1 rfl).2
      have e1 : wr.cell? ⟨w.heap.size + 2, 0, none⟩ = some (.int .i64 N) := (hB1.cell 0).1
      have e2 : wr.cell? ⟨w.heap.size + 2, 1, none⟩ = some (.int .i64 s0) := (hB1.cell 1).1
      have e3 : wr.cell? ⟨w.heap.size + 2, 2, none⟩ = some (.slice fa fl fc) := (hB1.cell 2).1
      have e4 : wr.cell? ⟨w.heap.size + 2, 3, none⟩ = some (.slice va k ca) := (hB1.cell 3).1
      have HD : Hid (IsDfa wr ⟨fa, fl, fc, va, k, ca⟩ ⟨N, s0, fin, es⟩) := Lib.hid ⟨hdW.1, hI⟩
      have HZ := Lib.hid hZW
      have HBW := Lib.hid hbw
      clear hP hdW hI hB1 hZW hbw
      go_wp2_with (show wpList _ _ _ (⟨_, .store 30 _ _, _, _, _, _⟩ :: _) _ _; refine wpList_store_row rfl 30 _ _ rfl (w.heap.size + 1) #[.int .i64 N, .int .i64 s0, .slice fa fl fc, .slice va k ca] rfl rfl _ _ HZ.out dfa_i rfl (dfa_one _ _ _ _ _ _ _ _) ?_)
      refine bodyPost_ret (results_cell_row rfl _ _ (w.heap.size + 1) _ _ _ _ rfl (setRow_heap _ _ _ _ _ _ HZ.out) Try.underlying30 rfl dfa_i) rfl ?_
      exact ⟨⟨⟨fa, fl, fc, va, k, ca⟩, rfl, IsDfa.boxed _ HZ.out HD.out⟩, below_setRow HBW.out (by omega) _⟩
end Go.Proofs.Ytehdkcjoaogbeaa

set_option linter.unusedSimpArgs false
set_option linter.unusedVariables false
namespace Go.Proofs.Ytehdkcjoaogbeaa
open Go.RowKit
attribute [local go_sem] Oper.semAt_some

theorem cell_later {W W' : World} {b j : Nat} {v : Value} (hb : Below W.heap.size W W') (h : W.cell? ⟨b, j, none⟩ = some v) : W'.cell? ⟨b, j, none⟩ = some v := (hb.cell (p := ⟨b, j, none⟩) (lt_of_cell h)).trans h
theorem ints_at {k : IntKind} {W : World} {a : Option Addr} {len cap : Nat} {zs : List Int} (h : IsInts k W a len cap zs) {i : Nat} (hi : i < len) : ∃ b off, a = some ⟨b, off, none⟩ ∧ W.cell? ⟨b, off + i, none⟩ = some (.int k (gi zs i)) := by
  rcases h with ⟨_, h, _⟩ | ⟨b, off, e, _, _, _, hc⟩
  · omega
  · exact ⟨b, off, e, hc i hi⟩
def DfP (d : Dfa) : Value → World → Prop := fun v W => ∃ h', v = vDf d h' ∧ IsDfa W h' d
theorem stays_df (d : Dfa) : Stays (DfP d) := fun _ _ _ hb ⟨h', e, hd⟩ => ⟨h', e, hd.later hb⟩
theorem accV_two (d : Dfa) (zs : List Int) : ∃ b e, accV d zs = .tuple #[.bool b, .int .i64 e] := ⟨_, _, rfl⟩
theorem nextR_two (d : Dfa) (q c : Int) : ∃ x b, nextR d q c = .tuple #[.int .i64 x, .bool b] := by
  unfold nextR
  split
  · exact nextV_two _ _ _
  · exact ⟨_, _, rfl⟩
set_option maxRecDepth 20000 in
set_option maxHeartbeats 4000000 in
theorem dfaReads_walk (a : Dfa) (h : DH) (b : Dfa) (k : DH) (aw : Option Addr) (lw cw : Nat) (zs : List Int) (w : World) (ia : IsDfa w h a) (ib : IsDfa w k b) (iw : IsInts .i64 w aw lw cw zs) :
    Calls Try.prog 4 #[vDf a h, vDf b k, .slice aw lw cw] w fun e w' => e = .returned (.bool true) ∧ Below w.heap.size w w' := by
  obtain ⟨W0, hW0, hs0, hb0, hO0⟩ := boxRW a h w ia
  replace ib := ib.later hb0
  replace ia := (hO0 W0 (Below.refl _ _)).2.1
  replace iw := iw.later hb0
  obtain ⟨c01, c02, c03, c04⟩ := (hO0 W0 (Below.refl _ _)).1
  obtain ⟨W1, hW1, hs1, hb1, hO1⟩ := boxRW b k W0 ib
  replace ia := ia.later hb1
  replace ib := (hO1 W1 (Below.refl _ _)).2.1
  replace iw := iw.later hb1
  replace c01 := cell_later hb1 c01
  replace c02 := cell_later hb1 c02
  replace c03 := cell_later hb1 c03
  replace c04 := cell_later hb1 c04
  obtain ⟨c11, c12, c13, c14⟩ := (hO1 W1 (Below.refl _ _)).1
  have HB : Below w.heap.size w W1 := (hb0.trans (hb1.mono (hb0).size))
  rw [hs0] at c11 c12 c13 c14
  clear hO0 hb0 hO1 hb1
  unfold vDf
  by_cases fa : FewD a
  rotate_left
  · have hx := fa
    go_enter Try.func4, Try.ntmps4
    go_wp2_with (fail)
    refine (awake_any _).mono ?_
    rintro e w1 ⟨rfl, hb⟩
    replace c01 := cell_later hb c01
    replace c02 := cell_later hb c02
    replace c03 := cell_later hb c03
    replace c04 := cell_later hb c04
    replace c11 := cell_later hb c11
    replace c12 := cell_later hb c12
    replace c13 := cell_later hb c13
    replace c14 := cell_later hb c14
    replace ia := ia.later hb
    replace ib := ib.later hb
    replace iw := iw.later hb
    replace HB := HB.trans (hb.mono HB.size)
    clear hb
    go_wp2_with (fail)
    refine (few_no ia fa).mono ?_
    rintro e w2 ⟨rfl, hb⟩
    replace c01 := cell_later hb c01
    replace c02 := cell_later hb c02
    replace c03 := cell_later hb c03
    replace c04 := cell_later hb c04
    replace c11 := cell_later hb c11
    replace c12 := cell_later hb c12
    replace c13 := cell_later hb c13
    replace c14 := cell_later hb c14
    replace ia := ia.later hb
    replace ib := ib.later hb
    replace iw := iw.later hb
    replace HB := HB.trans (hb.mono HB.size)
    clear hb
    go_wp2_with (fail)
    go_ret
    exact ⟨rfl, HB⟩
  by_cases fb : FewD b
  rotate_left
  · have hx := fb
    go_enter Try.func4, Try.ntmps4
    go_wp2_with (fail)
    refine (awake_any _).mono ?_
    rintro e w3 ⟨rfl, hb⟩
    replace c01 := cell_later hb c01
    replace c02 := cell_later hb c02
    replace c03 := cell_later hb c03
    replace c04 := cell_later hb c04
    replace c11 := cell_later hb c11
    replace c12 := cell_later hb c12
    replace c13 := cell_later hb c13
    replace c14 := cell_later hb c14
    replace ia := ia.later hb
    replace ib := ib.later hb
    replace iw := iw.later hb
    replace HB := HB.trans (hb.mono HB.size)
    clear hb
    go_wp2_with (fail)
    refine (few_yes ia fa).mono ?_
    rintro e w4 ⟨rfl, hb⟩
    replace c01 := cell_later hb c01
    replace c02 := cell_later hb c02
    replace c03 := cell_later hb c03
    replace c04 := cell_later hb c04
    replace c11 := cell_later hb c11
    replace c12 := cell_later hb c12
    replace c13 := cell_later hb c13
    replace c14 := cell_later hb c14
    replace ia := ia.later hb
    replace ib := ib.later hb
    replace iw := iw.later hb
    replace HB := HB.trans (hb.mono HB.size)
    clear hb
    go_wp2_with (fail)
    refine (few_no ib fb).mono ?_
    rintro e w5 ⟨rfl, hb⟩
    replace c01 := cell_later hb c01
    replace c02 := cell_later hb c02
    replace c03 := cell_later hb c03
    replace c04 := cell_later hb c04
    replace c11 := cell_later hb c11
    replace c12 := cell_later hb c12
    replace c13 := cell_later hb c13
    replace c14 := cell_later hb c14
    replace ia := ia.later hb
    replace ib := ib.later hb
    replace iw := iw.later hb
    replace HB := HB.trans (hb.mono HB.size)
    clear hb
    go_wp2_with (fail)
    go_ret
    exact ⟨rfl, HB⟩
  by_cases hlw : 20 < lw
  · have d1 : decide ((20 : Int) < (lw : Int)) = true := decide_eq_true (by omega)
    go_enter Try.func4, Try.ntmps4
    go_wp2_with (fail)
    refine (awake_any _).mono ?_
    rintro e w6 ⟨rfl, hb⟩
    replace c01 := cell_later hb c01
    replace c02 := cell_later hb c02
    replace c03 := cell_later hb c03
    replace c04 := cell_later hb c04
    replace c11 := cell_later hb c11
    replace c12 := cell_later hb c12
    replace c13 := cell_later hb c13
    replace c14 := cell_later hb c14
    replace ia := ia.later hb
    replace ib := ib.later hb
    replace iw := iw.later hb
    replace HB := HB.trans (hb.mono HB.size)
    clear hb
    go_wp2_with (fail)
    refine (few_yes ia fa).mono ?_
    rintro e w7 ⟨rfl, hb⟩
    replace c01 := cell_later hb c01
    replace c02 := cell_later hb c02
    replace c03 := cell_later hb c03
    replace c04 := cell_later hb c04
    replace c11 := cell_later hb c11
    replace c12 := cell_later hb c12
    replace c13 := cell_later hb c13
    replace c14 := cell_later hb c14
    replace ia := ia.later hb
    replace ib := ib.later hb
    replace iw := iw.later hb
    replace HB := HB.trans (hb.mono HB.size)
    clear hb
    go_wp2_with (fail)
    refine (few_yes ib fb).mono ?_
    rintro e w8 ⟨rfl, hb⟩
    replace c01 := cell_later hb c01
    replace c02 := cell_later hb c02
    replace c03 := cell_later hb c03
    replace c04 := cell_later hb c04
    replace c11 := cell_later hb c11
    replace c12 := cell_later hb c12
    replace c13 := cell_later hb c13
    replace c14 := cell_later hb c14
    replace ia := ia.later hb
    replace ib := ib.later hb
    replace iw := iw.later hb
    replace HB := HB.trans (hb.mono HB.size)
    clear hb
    go_wp2_with (fail)
    go_ret
    exact ⟨rfl, HB⟩
  have d1 : decide ((20 : Int) < (lw : Int)) = false := decide_eq_false (by omega)
  go_enter Try.func4, Try.ntmps4
  go_wp2_with (fail)
  refine (awake_any _).mono ?_
  rintro e w9 ⟨rfl, hb⟩
  replace c01 := cell_later hb c01
  replace c02 := cell_later hb c02
  replace c03 := cell_later hb c03
  replace c04 := cell_later hb c04
  replace c11 := cell_later hb c11
  replace c12 := cell_later hb c12
  replace c13 := cell_later hb c13
  replace c14 := cell_later hb c14
  replace ia := ia.later hb
  replace ib := ib.later hb
  replace iw := iw.later hb
  replace HB := HB.trans (hb.mono HB.size)
  clear hb
  go_wp2_with (fail)
  refine (few_yes ia fa).mono ?_
  rintro e w10 ⟨rfl, hb⟩
  replace c01 := cell_later hb c01
  replace c02 := cell_later hb c02
  replace c03 := cell_later hb c03
  replace c04 := cell_later hb c04
  replace c11 := cell_later hb c11
  replace c12 := cell_later hb c12
  replace c13 := cell_later hb c13
  replace c14 := cell_later hb c14
  replace ia := ia.later hb
  replace ib := ib.later hb
  replace iw := iw.later hb
  replace HB := HB.trans (hb.mono HB.size)
  clear hb
  go_wp2_with (fail)
  refine (few_yes ib fb).mono ?_
  rintro e w11 ⟨rfl, hb⟩
  replace c01 := cell_later hb c01
  replace c02 := cell_later hb c02
  replace c03 := cell_later hb c03
  replace c04 := cell_later hb c04
  replace c11 := cell_later hb c11
  replace c12 := cell_later hb c12
  replace c13 := cell_later hb c13
  replace c14 := cell_later hb c14
  replace ia := ia.later hb
  replace ib := ib.later hb
  replace iw := iw.later hb
  replace HB := HB.trans (hb.mono HB.size)
  clear hb
  go_wp2_with (fail)
  refine (own_any ia (by have := fa.2.2; omega)).mono ?_
  rintro e w12 ⟨⟨hx, rfl, ix⟩, hb⟩
  unfold vDf
  replace c01 := cell_later hb c01
  replace c02 := cell_later hb c02
  replace c03 := cell_later hb c03
  replace c04 := cell_later hb c04
  replace c11 := cell_later hb c11
  replace c12 := cell_later hb c12
  replace c13 := cell_later hb c13
  replace c14 := cell_later hb c14
  replace ia := ia.later hb
  replace ib := ib.later hb
  replace iw := iw.later hb
  replace HB := HB.trans (hb.mono HB.size)
  clear hb
  go_wp2_with (fail)
  obtain ⟨V2, hV2, -, hb, hO2⟩ := boxDW a hx _ ix
  rw [hV2]
  obtain ⟨⟨c21, c22, c23, c24⟩, -, -⟩ := hO2 V2 (Below.refl _ _)
  clear hO2 hV2
  replace c01 := cell_later hb c01
  replace c02 := cell_later hb c02
  replace c03 := cell_later hb c03
  replace c04 := cell_later hb c04
  replace c11 := cell_later hb c11
  replace c12 := cell_later hb c12
  replace c13 := cell_later hb c13
  replace c14 := cell_later hb c14
  replace ia := ia.later hb
  replace ib := ib.later hb
  replace iw := iw.later hb
  replace ix := ix.later hb
  replace HB := HB.trans (hb.mono HB.size)
  clear hb
  have hac := accepts_any ix iw (by omega)
  obtain ⟨V, E, hVE⟩ := accV_two a zs
  rw [hVE] at hac
  refine (hac).mono ?_
  rintro e w13 ⟨rfl, hb⟩
  replace c01 := cell_later hb c01
  replace c02 := cell_later hb c02
  replace c03 := cell_later hb c03
  replace c04 := cell_later hb c04
  replace c11 := cell_later hb c11
  replace c12 := cell_later hb c12
  replace c13 := cell_later hb c13
  replace c14 := cell_later hb c14
  replace c21 := cell_later hb c21
  replace c22 := cell_later hb c22
  replace c23 := cell_later hb c23
  replace c24 := cell_later hb c24
  replace ia := ia.later hb
  replace ib := ib.later hb
  replace iw := iw.later hb
  replace ix := ix.later hb
  replace HB := HB.trans (hb.mono HB.size)
  clear hb
  go_wp2_with (fail)
  clear hac
  have hac := refAccepts_any ia iw (by omega)
  rw [hVE] at hac
  clear hVE
  refine (hac).mono ?_
  rintro e w14 ⟨rfl, hb⟩
  replace c01 := cell_later hb c01
  replace c02 := cell_later hb c02
  replace c03 := cell_later hb c03
  replace c04 := cell_later hb c04
  replace c11 := cell_later hb c11
  replace c12 := cell_later hb c12
  replace c13 := cell_later hb c13
  replace c14 := cell_later hb c14
  replace c21 := cell_later hb c21
  replace c22 := cell_later hb c22
  replace c23 := cell_later hb c23
  replace c24 := cell_later hb c24
  replace ia := ia.later hb
  replace ib := ib.later hb
  replace iw := iw.later hb
  replace ix := ix.later hb
  replace HB := HB.trans (hb.mono HB.size)
  clear hb
  go_wp2_with (fail)
  clear hac
  obtain ⟨VA, hVA⟩ : ∃ VA, vD a = VA := ⟨_, rfl⟩
  obtain ⟨EQ, hEQ⟩ : ∃ EQ, eqD a b = EQ := ⟨_, rfl⟩
  have hEA : eqD a a = true := eqD_iff.2 rfl
  have HVA := Lib.hid hVA
  have HEQ := Lib.hid hEQ
  have HEA := Lib.hid hEA
  have fb3 : b.arcs.length ≤ 1000 := by have := fb.2.2; omega
  clear hVA hEQ hEA
  refine wp_region_grow mixed (by kernel_rfl) [[], [], [(0, 47), (1, 48)], [(2, 49)], [(3, 50)], [(3, 50)], [(4, 51), (5, 52), (3, 50)], [(3, 50), (6, 53)], [(7, 54), (3, 50)], [(8, 55)], [(9, 56), (8, 55), (8, 55)], [(8, 55)], [(11, 58), (10, 57), (8, 55)], [(10, 57), (12, 59), (8, 55)], [(8, 55), (13, 60)], [(14, 61), (12, 59)], [(15, 62)], [(15, 62)], [(17, 64), (15, 62), (15, 62)], [(16, 63), (18, 65), (18, 65), (15, 62)], [(15, 62)], [(15, 62)], [(20, 67), (21, 68), (19, 66), (15, 62)], [(19, 66), (22, 69), (15, 62)], [(15, 62), (23, 70)], [(24, 71), (22, 69)], [(25, 72)], [(25, 72)], [(26, 73), (27, 74), (25, 72), (25, 72)], [(28, 75), (25, 72)], [(25, 72), (29, 76)]] [(0, 47), (1, 48), (2, 49), (3, 50), (4, 51), (5, 52), (6, 53), (7, 54), (8, 55), (9, 56), (10, 57), (11, 58), (12, 59), (13, 60), (14, 61), (15, 62), (16, 63), (17, 64), (18, 65), (19, 66), (20, 67), (21, 68), (22, 69), (23, 70), (24, 71), (25, 72), (26, 73), (27, 74), (28, 75), (29, 76), (30, 77)] rfl rfl [Ex ?e0, Ex ?e1, Ex ?e2, Ex ?e3, Ex ?e4, Ex ?e5, Ex ?e6, Ex ?e7, Ex ?e8, Ex ?e9, Ex (.bool VA), Ex ?e11, Ex (.bool VA), Ex ?e13, Ex ?e14, Ex ?e15, Ex ?e16, Ex ?e17, DfP b, Ex (.bool EQ), Ex ?e20, Ex ?e21, Ex (.bool EQ), Ex ?e23, Ex ?e24, Ex ?e25, Ex ?e26, Ex ?e27, Ex (.bool true), Ex ?e29, Ex ?e30] ⟨stays_ex _, stays_ex _, stays_ex _, stays_ex _, stays_ex _, stays_ex _, stays_ex _, stays_ex _, stays_ex _, stays_ex _, stays_ex _, stays_ex _, stays_ex _, stays_ex _, stays_ex _, stays_ex _, stays_ex _, stays_ex _, stays_df _, stays_ex _, stays_ex _, stays_ex _, stays_ex _, stays_ex _, stays_ex _, stays_ex _, stays_ex _, stays_ex _, stays_ex _, stays_ex _, stays_ex _, trivial⟩ ?steps ?rest
  case steps =>
    refine ⟨fun f W hC hh => ?_, fun f W hC hh => ?_, fun f W hC hh => ?_, fun f W hC hh => ?_, fun f W hC hh => ?_, fun f W hC hh => ?_, fun f W hC hh => ?_, fun f W hC hh => ?_, fun f W hC hh => ?_, fun f W hC hh => ?_, fun f W hC hh => ?_, fun f W hC hh => ?_, fun f W hC hh => ?_, fun f W hC hh => ?_, fun f W hC hh => ?_, fun f W hC hh => ?_, fun f W hC hh => ?_, fun f W hC hh => ?_, fun f W hC hh => ?_, fun f W hC hh => ?_, fun f W hC hh => ?_, fun f W hC hh => ?_, fun f W hC hh => ?_, fun f W hC hh => ?_, fun f W hC hh => ?_, fun f W hC hh => ?_, fun f W hC hh => ?_, fun f W hC hh => ?_, fun f W hC hh => ?_, fun f W hC hh => ?_, fun f W hC hh => ?_, trivial⟩
    ·
      refine tab_plain fun K Q hK => ?_
      simp only [puts, List.foldr_nil]
      go_step
      refine fam_ex hK rfl rfl (by simp only [Act.put, List.setIfInBounds_toArray, List.set_cons_succ, List.set_cons_zero, Array.getD_eq_getD_getElem?, List.getElem?_toArray, List.getElem?_cons_succ, List.getElem?_cons_zero, Option.getD_some] <;> rfl) rfl (Below.refl _ _) hC
    ·
      refine tab_plain fun K Q hK => ?_
      simp only [puts, List.foldr_nil]
      go_step
      refine fam_ex hK rfl rfl (by simp only [Act.put, List.setIfInBounds_toArray, List.set_cons_succ, List.set_cons_zero, Array.getD_eq_getD_getElem?, List.getElem?_toArray, List.getElem?_cons_succ, List.getElem?_cons_zero, Option.getD_some] <;> rfl) rfl (Below.refl _ _) hC
    ·
      obtain ⟨h0, h1, -⟩ := hh
      have g0 : f 0 = _ := h0
      have g1 : f 1 = _ := h1
      refine tab_plain fun K Q hK => ?_
      simp only [puts, List.foldr_cons, List.foldr_nil, List.setIfInBounds_toArray, List.set_cons_succ, List.set_cons_zero, g0, g1]
      go_step
      refine fam_ex hK rfl rfl (by simp only [Act.put, List.setIfInBounds_toArray, List.set_cons_succ, List.set_cons_zero, Array.getD_eq_getD_getElem?, List.getElem?_toArray, List.getElem?_cons_succ, List.getElem?_cons_zero, Option.getD_some] <;> rfl) rfl (Below.refl _ _) hC
    ·
      obtain ⟨h2, -⟩ := hh
      have g2 : f 2 = _ := h2
      refine tab_plain fun K Q hK => ?_
      simp only [puts, List.foldr_cons, List.foldr_nil, List.setIfInBounds_toArray, List.set_cons_succ, List.set_cons_zero, g2]
      go_step
      refine fam_ex hK rfl rfl (by simp only [Act.put, List.setIfInBounds_toArray, List.set_cons_succ, List.set_cons_zero, Array.getD_eq_getD_getElem?, List.getElem?_toArray, List.getElem?_cons_succ, List.getElem?_cons_zero, Option.getD_some] <;> rfl) rfl (Below.refl _ _) hC
    ·
      obtain ⟨h3, -⟩ := hh
      have g3 : f 3 = _ := h3
      refine tab_yes g3 fun K Q hK => ?_
      simp only [puts, List.foldr_cons, List.foldr_nil, List.setIfInBounds_toArray, List.set_cons_succ, List.set_cons_zero, g3]
      go_step
      refine fam_ex hK rfl rfl (by simp only [Act.put, List.setIfInBounds_toArray, List.set_cons_succ, List.set_cons_zero, Array.getD_eq_getD_getElem?, List.getElem?_toArray, List.getElem?_cons_succ, List.getElem?_cons_zero, Option.getD_some] <;> rfl) rfl (Below.refl _ _) hC
    ·
      obtain ⟨h3, -⟩ := hh
      have g3 : f 3 = _ := h3
      refine tab_yes g3 fun K Q hK => ?_
      simp only [puts, List.foldr_cons, List.foldr_nil, List.setIfInBounds_toArray, List.set_cons_succ, List.set_cons_zero, g3]
      go_step
      refine fam_ex hK rfl rfl (by simp only [Act.put, List.setIfInBounds_toArray, List.set_cons_succ, List.set_cons_zero, Array.getD_eq_getD_getElem?, List.getElem?_toArray, List.getElem?_cons_succ, List.getElem?_cons_zero, Option.getD_some] <;> rfl) rfl (Below.refl _ _) hC
    ·
      obtain ⟨h4, h5, h3, -⟩ := hh
      have g4 : f 4 = _ := h4
      have g5 : f 5 = _ := h5
      have g3 : f 3 = _ := h3
      refine tab_yes g3 fun K Q hK => ?_
      simp only [puts, List.foldr_cons, List.foldr_nil, List.setIfInBounds_toArray, List.set_cons_succ, List.set_cons_zero, g4, g5, g3]
      go_step
      refine fam_ex hK rfl rfl (by simp only [Act.put, List.setIfInBounds_toArray, List.set_cons_succ, List.set_cons_zero, Array.getD_eq_getD_getElem?, List.getElem?_toArray, List.getElem?_cons_succ, List.getElem?_cons_zero, Option.getD_some] <;> rfl) rfl (Below.refl _ _) hC
    ·
      obtain ⟨h3, h6, -⟩ := hh
      have g3 : f 3 = _ := h3
      have g6 : f 6 = _ := h6
      refine tab_plain fun K Q hK => ?_
      simp only [puts, List.foldr_cons, List.foldr_nil, List.setIfInBounds_toArray, List.set_cons_succ, List.set_cons_zero, g3, g6]
      go_step
      refine fam_ex hK rfl rfl (by simp only [Act.put, List.setIfInBounds_toArray, List.set_cons_succ, List.set_cons_zero, Array.getD_eq_getD_getElem?, List.getElem?_toArray, List.getElem?_cons_succ, List.getElem?_cons_zero, Option.getD_some] <;> rfl) rfl (Below.refl _ _) hC
    ·
      obtain ⟨h7, h3, -⟩ := hh
      have g7 : f 7 = _ := h7
      have g3 : f 3 = _ := h3
      refine tab_plain fun K Q hK => ?_
      simp only [puts, List.foldr_cons, List.foldr_nil, List.setIfInBounds_toArray, List.set_cons_succ, List.set_cons_zero, g7, g3]
      go_step
      refine fam_ex hK rfl rfl (by simp only [Act.put, List.setIfInBounds_toArray, List.set_cons_succ, List.set_cons_zero, Array.getD_eq_getD_getElem?, List.getElem?_toArray, List.getElem?_cons_succ, List.getElem?_cons_zero, Option.getD_some] <;> rfl) rfl (Below.refl _ _) hC
    ·
      obtain ⟨h8, -⟩ := hh
      have g8 : f 8 = _ := h8
      refine tab_yes g8 fun K Q hK => ?_
      simp only [puts, List.foldr_cons, List.foldr_nil, List.setIfInBounds_toArray, List.set_cons_succ, List.set_cons_zero, g8]
      have m01 := cell_later hC c01
      have m02 := cell_later hC c02
      have m03 := cell_later hC c03
      have m04 := cell_later hC c04
      have m11 := cell_later hC c11
      have m12 := cell_later hC c12
      have m13 := cell_later hC c13
      have m14 := cell_later hC c14
      have m21 := cell_later hC c21
      have m22 := cell_later hC c22
      have m23 := cell_later hC c23
      have m24 := cell_later hC c24
      go_step
      refine fam_ex hK rfl rfl (by simp only [Act.put, List.setIfInBounds_toArray, List.set_cons_succ, List.set_cons_zero, Array.getD_eq_getD_getElem?, List.getElem?_toArray, List.getElem?_cons_succ, List.getElem?_cons_zero, Option.getD_some] <;> rfl) rfl (Below.refl _ _) hC
    ·
      obtain ⟨h9, h8, _, -⟩ := hh
      have g9 : f 9 = _ := h9
      have g8 : f 8 = _ := h8
      refine tab_yes g8 fun K Q hK => ?_
      simp only [puts, List.foldr_cons, List.foldr_nil, List.setIfInBounds_toArray, List.set_cons_succ, List.set_cons_zero, g9, g8]
      go_step
      go_at_call 21
      have hv := valid_any a hx W (ix.later hC)
      rw [HVA.out] at hv
      refine hv.mono ?_
      rintro e w' ⟨rfl, hb⟩
      exact fam_fin hK rfl rfl hb (hC.trans (hb.mono hC.size))
    ·
      obtain ⟨h8, -⟩ := hh
      have g8 : f 8 = _ := h8
      refine tab_yes g8 fun K Q hK => ?_
      simp only [puts, List.foldr_cons, List.foldr_nil, List.setIfInBounds_toArray, List.set_cons_succ, List.set_cons_zero, g8]
      have m01 := cell_later hC c01
      have m02 := cell_later hC c02
      have m03 := cell_later hC c03
      have m04 := cell_later hC c04
      have m11 := cell_later hC c11
      have m12 := cell_later hC c12
      have m13 := cell_later hC c13
      have m14 := cell_later hC c14
      have m21 := cell_later hC c21
      have m22 := cell_later hC c22
      have m23 := cell_later hC c23
      have m24 := cell_later hC c24
      go_step
      refine fam_ex hK rfl rfl (by simp only [Act.put, List.setIfInBounds_toArray, List.set_cons_succ, List.set_cons_zero, Array.getD_eq_getD_getElem?, List.getElem?_toArray, List.getElem?_cons_succ, List.getElem?_cons_zero, Option.getD_some] <;> rfl) rfl (Below.refl _ _) hC
    ·
      obtain ⟨h11, h10, h8, -⟩ := hh
      have g11 : f 11 = _ := h11
      have g10 : f 10 = _ := h10
      have g8 : f 8 = _ := h8
      refine tab_yes g8 fun K Q hK => ?_
      simp only [puts, List.foldr_cons, List.foldr_nil, List.setIfInBounds_toArray, List.set_cons_succ, List.set_cons_zero, g11, g10, g8]
      go_step
      go_at_call 24
      have hv := refValid_any a h W (ia.later hC)
      rw [HVA.out] at hv
      refine hv.mono ?_
      rintro e w' ⟨rfl, hb⟩
      exact fam_fin hK rfl rfl hb (hC.trans (hb.mono hC.size))
    ·
      obtain ⟨h10, h12, h8, -⟩ := hh
      have g10 : f 10 = _ := h10
      have g12 : f 12 = _ := h12
      have g8 : f 8 = _ := h8
      refine tab_yes g8 fun K Q hK => ?_
      simp only [puts, List.foldr_cons, List.foldr_nil, List.setIfInBounds_toArray, List.set_cons_succ, List.set_cons_zero, g10, g12, g8]
      go_step
      refine fam_ex hK rfl rfl (by simp only [Act.put, List.setIfInBounds_toArray, List.set_cons_succ, List.set_cons_zero, Array.getD_eq_getD_getElem?, List.getElem?_toArray, List.getElem?_cons_succ, List.getElem?_cons_zero, Option.getD_some] <;> rfl) rfl (Below.refl _ _) hC
    ·
      obtain ⟨h8, h13, -⟩ := hh
      have g8 : f 8 = _ := h8
      have g13 : f 13 = _ := h13
      refine tab_plain fun K Q hK => ?_
      simp only [puts, List.foldr_cons, List.foldr_nil, List.setIfInBounds_toArray, List.set_cons_succ, List.set_cons_zero, g8, g13]
      go_step
      refine fam_ex hK rfl rfl (by simp only [Act.put, List.setIfInBounds_toArray, List.set_cons_succ, List.set_cons_zero, Array.getD_eq_getD_getElem?, List.getElem?_toArray, List.getElem?_cons_succ, List.getElem?_cons_zero, Option.getD_some] <;> rfl) rfl (Below.refl _ _) hC
    ·
      obtain ⟨h14, h12, -⟩ := hh
      have g14 : f 14 = _ := h14
      have g12 : f 12 = _ := h12
      refine tab_plain fun K Q hK => ?_
      simp only [puts, List.foldr_cons, List.foldr_nil, List.setIfInBounds_toArray, List.set_cons_succ, List.set_cons_zero, g14, g12]
      go_step
      refine fam_ex hK rfl rfl (by simp only [Act.put, List.setIfInBounds_toArray, List.set_cons_succ, List.set_cons_zero, Array.getD_eq_getD_getElem?, List.getElem?_toArray, List.getElem?_cons_succ, List.getElem?_cons_zero, Option.getD_some] <;> rfl) rfl (Below.refl _ _) hC
    ·
      obtain ⟨h15, -⟩ := hh
      have g15 : f 15 = _ := h15
      refine tab_yes g15 fun K Q hK => ?_
      simp only [puts, List.foldr_cons, List.foldr_nil, List.setIfInBounds_toArray, List.set_cons_succ, List.set_cons_zero, g15]
      have m01 := cell_later hC c01
      have m02 := cell_later hC c02
      have m03 := cell_later hC c03
      have m04 := cell_later hC c04
      have m11 := cell_later hC c11
      have m12 := cell_later hC c12
      have m13 := cell_later hC c13
      have m14 := cell_later hC c14
      have m21 := cell_later hC c21
      have m22 := cell_later hC c22
      have m23 := cell_later hC c23
      have m24 := cell_later hC c24
      go_step
      refine fam_ex hK rfl rfl (by simp only [Act.put, List.setIfInBounds_toArray, List.set_cons_succ, List.set_cons_zero, Array.getD_eq_getD_getElem?, List.getElem?_toArray, List.getElem?_cons_succ, List.getElem?_cons_zero, Option.getD_some] <;> rfl) rfl (Below.refl _ _) hC
    ·
      obtain ⟨h15, -⟩ := hh
      have g15 : f 15 = _ := h15
      refine tab_yes g15 fun K Q hK => ?_
      simp only [puts, List.foldr_cons, List.foldr_nil, List.setIfInBounds_toArray, List.set_cons_succ, List.set_cons_zero, g15]
      have m01 := cell_later hC c01
      have m02 := cell_later hC c02
      have m03 := cell_later hC c03
      have m04 := cell_later hC c04
      have m11 := cell_later hC c11
      have m12 := cell_later hC c12
      have m13 := cell_later hC c13
      have m14 := cell_later hC c14
      have m21 := cell_later hC c21
      have m22 := cell_later hC c22
      have m23 := cell_later hC c23
      have m24 := cell_later hC c24
      go_step
      refine fam_ex hK rfl rfl (by simp only [Act.put, List.setIfInBounds_toArray, List.set_cons_succ, List.set_cons_zero, Array.getD_eq_getD_getElem?, List.getElem?_toArray, List.getElem?_cons_succ, List.getElem?_cons_zero, Option.getD_some] <;> rfl) rfl (Below.refl _ _) hC
    ·
      obtain ⟨h17, h15, _, -⟩ := hh
      have g17 : f 17 = _ := h17
      have g15 : f 15 = _ := h15
      refine tab_yes g15 fun K Q hK => ?_
      simp only [puts, List.foldr_cons, List.foldr_nil, List.setIfInBounds_toArray, List.set_cons_succ, List.set_cons_zero, g17, g15]
      go_step
      go_at_call 13
      refine (own_any (ib.later hC) fb3).mono ?_
      rintro e w' ⟨⟨hy, rfl, iy⟩, hb⟩
      exact fam_fin hK rfl ⟨hy, rfl, iy⟩ hb (hC.trans (hb.mono hC.size))
    ·
      obtain ⟨h16, h18, _, h15, -⟩ := hh
      have g16 : f 16 = _ := h16
      obtain ⟨y18, g18, s18⟩ := h18
      have g15 : f 15 = _ := h15
      refine tab_yes g15 fun K Q hK => ?_
      simp only [puts, List.foldr_cons, List.foldr_nil, List.setIfInBounds_toArray, List.set_cons_succ, List.set_cons_zero, g16, g18, g15]
      go_step
      go_at_call 25
      have hv := equal_any (ix.later hC) s18
      rw [HEQ.out] at hv
      refine hv.mono ?_
      rintro e w' ⟨rfl, hb⟩
      exact fam_fin hK rfl rfl hb (hC.trans (hb.mono hC.size))
    ·
      obtain ⟨h15, -⟩ := hh
      have g15 : f 15 = _ := h15
      refine tab_yes g15 fun K Q hK => ?_
      simp only [puts, List.foldr_cons, List.foldr_nil, List.setIfInBounds_toArray, List.set_cons_succ, List.set_cons_zero, g15]
      have m01 := cell_later hC c01
      have m02 := cell_later hC c02
      have m03 := cell_later hC c03
      have m04 := cell_later hC c04
      have m11 := cell_later hC c11
      have m12 := cell_later hC c12
      have m13 := cell_later hC c13
      have m14 := cell_later hC c14
      have m21 := cell_later hC c21
      have m22 := cell_later hC c22
      have m23 := cell_later hC c23
      have m24 := cell_later hC c24
      go_step
      refine fam_ex hK rfl rfl (by simp only [Act.put, List.setIfInBounds_toArray, List.set_cons_succ, List.set_cons_zero, Array.getD_eq_getD_getElem?, List.getElem?_toArray, List.getElem?_cons_succ, List.getElem?_cons_zero, Option.getD_some] <;> rfl) rfl (Below.refl _ _) hC
    ·
      obtain ⟨h15, -⟩ := hh
      have g15 : f 15 = _ := h15
      refine tab_yes g15 fun K Q hK => ?_
      simp only [puts, List.foldr_cons, List.foldr_nil, List.setIfInBounds_toArray, List.set_cons_succ, List.set_cons_zero, g15]
      have m01 := cell_later hC c01
      have m02 := cell_later hC c02
      have m03 := cell_later hC c03
      have m04 := cell_later hC c04
      have m11 := cell_later hC c11
      have m12 := cell_later hC c12
      have m13 := cell_later hC c13
      have m14 := cell_later hC c14
      have m21 := cell_later hC c21
      have m22 := cell_later hC c22
      have m23 := cell_later hC c23
      have m24 := cell_later hC c24
      go_step
      refine fam_ex hK rfl rfl (by simp only [Act.put, List.setIfInBounds_toArray, List.set_cons_succ, List.set_cons_zero, Array.getD_eq_getD_getElem?, List.getElem?_toArray, List.getElem?_cons_succ, List.getElem?_cons_zero, Option.getD_some] <;> rfl) rfl (Below.refl _ _) hC
    ·
      obtain ⟨h20, h21, h19, h15, -⟩ := hh
      have g20 : f 20 = _ := h20
      have g21 : f 21 = _ := h21
      have g19 : f 19 = _ := h19
      have g15 : f 15 = _ := h15
      refine tab_yes g15 fun K Q hK => ?_
      simp only [puts, List.foldr_cons, List.foldr_nil, List.setIfInBounds_toArray, List.set_cons_succ, List.set_cons_zero, g20, g21, g19, g15]
      go_step
      go_at_call 19
      have hv := refSame_any (ia.later hC) (ib.later hC)
      rw [HEQ.out] at hv
      refine hv.mono ?_
      rintro e w' ⟨rfl, hb⟩
      exact fam_fin hK rfl rfl hb (hC.trans (hb.mono hC.size))
    ·
      obtain ⟨h19, h22, h15, -⟩ := hh
      have g19 : f 19 = _ := h19
      have g22 : f 22 = _ := h22
      have g15 : f 15 = _ := h15
      refine tab_yes g15 fun K Q hK => ?_
      simp only [puts, List.foldr_cons, List.foldr_nil, List.setIfInBounds_toArray, List.set_cons_succ, List.set_cons_zero, g19, g22, g15]
      go_step
      refine fam_ex hK rfl rfl (by simp only [Act.put, List.setIfInBounds_toArray, List.set_cons_succ, List.set_cons_zero, Array.getD_eq_getD_getElem?, List.getElem?_toArray, List.getElem?_cons_succ, List.getElem?_cons_zero, Option.getD_some] <;> rfl) rfl (Below.refl _ _) hC
    ·
      obtain ⟨h15, h23, -⟩ := hh
      have g15 : f 15 = _ := h15
      have g23 : f 23 = _ := h23
      refine tab_plain fun K Q hK => ?_
      simp only [puts, List.foldr_cons, List.foldr_nil, List.setIfInBounds_toArray, List.set_cons_succ, List.set_cons_zero, g15, g23]
      go_step
      refine fam_ex hK rfl rfl (by simp only [Act.put, List.setIfInBounds_toArray, List.set_cons_succ, List.set_cons_zero, Array.getD_eq_getD_getElem?, List.getElem?_toArray, List.getElem?_cons_succ, List.getElem?_cons_zero, Option.getD_some] <;> rfl) rfl (Below.refl _ _) hC
    ·
      obtain ⟨h24, h22, -⟩ := hh
      have g24 : f 24 = _ := h24
      have g22 : f 22 = _ := h22
      refine tab_plain fun K Q hK => ?_
      simp only [puts, List.foldr_cons, List.foldr_nil, List.setIfInBounds_toArray, List.set_cons_succ, List.set_cons_zero, g24, g22]
      go_step
      refine fam_ex hK rfl rfl (by simp only [Act.put, List.setIfInBounds_toArray, List.set_cons_succ, List.set_cons_zero, Array.getD_eq_getD_getElem?, List.getElem?_toArray, List.getElem?_cons_succ, List.getElem?_cons_zero, Option.getD_some] <;> rfl) rfl (Below.refl _ _) hC
    ·
      obtain ⟨h25, -⟩ := hh
      have g25 : f 25 = _ := h25
      refine tab_yes g25 fun K Q hK => ?_
      simp only [puts, List.foldr_cons, List.foldr_nil, List.setIfInBounds_toArray, List.set_cons_succ, List.set_cons_zero, g25]
      have m01 := cell_later hC c01
      have m02 := cell_later hC c02
      have m03 := cell_later hC c03
      have m04 := cell_later hC c04
      have m11 := cell_later hC c11
      have m12 := cell_later hC c12
      have m13 := cell_later hC c13
      have m14 := cell_later hC c14
      have m21 := cell_later hC c21
      have m22 := cell_later hC c22
      have m23 := cell_later hC c23
      have m24 := cell_later hC c24
      go_step
      refine fam_ex hK rfl rfl (by simp only [Act.put, List.setIfInBounds_toArray, List.set_cons_succ, List.set_cons_zero, Array.getD_eq_getD_getElem?, List.getElem?_toArray, List.getElem?_cons_succ, List.getElem?_cons_zero, Option.getD_some] <;> rfl) rfl (Below.refl _ _) hC
    ·
      obtain ⟨h25, -⟩ := hh
      have g25 : f 25 = _ := h25
      refine tab_yes g25 fun K Q hK => ?_
      simp only [puts, List.foldr_cons, List.foldr_nil, List.setIfInBounds_toArray, List.set_cons_succ, List.set_cons_zero, g25]
      have m01 := cell_later hC c01
      have m02 := cell_later hC c02
      have m03 := cell_later hC c03
      have m04 := cell_later hC c04
      have m11 := cell_later hC c11
      have m12 := cell_later hC c12
      have m13 := cell_later hC c13
      have m14 := cell_later hC c14
      have m21 := cell_later hC c21
      have m22 := cell_later hC c22
      have m23 := cell_later hC c23
      have m24 := cell_later hC c24
      go_step
      refine fam_ex hK rfl rfl (by simp only [Act.put, List.setIfInBounds_toArray, List.set_cons_succ, List.set_cons_zero, Array.getD_eq_getD_getElem?, List.getElem?_toArray, List.getElem?_cons_succ, List.getElem?_cons_zero, Option.getD_some] <;> rfl) rfl (Below.refl _ _) hC
    ·
      obtain ⟨h26, h27, h25, _, -⟩ := hh
      have g26 : f 26 = _ := h26
      have g27 : f 27 = _ := h27
      have g25 : f 25 = _ := h25
      refine tab_yes g25 fun K Q hK => ?_
      simp only [puts, List.foldr_cons, List.foldr_nil, List.setIfInBounds_toArray, List.set_cons_succ, List.set_cons_zero, g26, g27, g25]
      go_step
      go_at_call 25
      have hv := equal_any (ix.later hC) (ix.later hC)
      rw [HEA.out] at hv
      refine hv.mono ?_
      rintro e w' ⟨rfl, hb⟩
      exact fam_fin hK rfl rfl hb (hC.trans (hb.mono hC.size))
    ·
      obtain ⟨h28, h25, -⟩ := hh
      have g28 : f 28 = _ := h28
      have g25 : f 25 = _ := h25
      refine tab_yes g25 fun K Q hK => ?_
      simp only [puts, List.foldr_cons, List.foldr_nil, List.setIfInBounds_toArray, List.set_cons_succ, List.set_cons_zero, g28, g25]
      go_step
      refine fam_ex hK rfl rfl (by simp only [Act.put, List.setIfInBounds_toArray, List.set_cons_succ, List.set_cons_zero, Array.getD_eq_getD_getElem?, List.getElem?_toArray, List.getElem?_cons_succ, List.getElem?_cons_zero, Option.getD_some] <;> rfl) rfl (Below.refl _ _) hC
    ·
      obtain ⟨h25, h29, -⟩ := hh
      have g25 : f 25 = _ := h25
      have g29 : f 29 = _ := h29
      refine tab_plain fun K Q hK => ?_
      simp only [puts, List.foldr_cons, List.foldr_nil, List.setIfInBounds_toArray, List.set_cons_succ, List.set_cons_zero, g25, g29]
      go_step
      refine fam_ex hK rfl rfl (by simp only [Act.put, List.setIfInBounds_toArray, List.set_cons_succ, List.set_cons_zero, Array.getD_eq_getD_getElem?, List.getElem?_toArray, List.getElem?_cons_succ, List.getElem?_cons_zero, Option.getD_some] <;> rfl) rfl (Below.refl _ _) hC
  case rest =>
    intro f WR hC hh
    obtain ⟨h0, h1, h2, h3, h4, h5, h6, h7, h8, h9, h10, h11, h12, h13, h14, h15, h16, h17, h18, h19, h20, h21, h22, h23, h24, h25, h26, h27, h28, h29, h30, -⟩ := hh
    have g0 : f 0 = _ := h0
    have g1 : f 1 = _ := h1
    have g2 : f 2 = _ := h2
    have g3 : f 3 = _ := h3
    have g4 : f 4 = _ := h4
    have g5 : f 5 = _ := h5
    have g6 : f 6 = _ := h6
    have g7 : f 7 = _ := h7
    have g8 : f 8 = _ := h8
    have g9 : f 9 = _ := h9
    have g10 : f 10 = _ := h10
    have g11 : f 11 = _ := h11
    have g12 : f 12 = _ := h12
    have g13 : f 13 = _ := h13
    have g14 : f 14 = _ := h14
    have g15 : f 15 = _ := h15
    have g16 : f 16 = _ := h16
    have g17 : f 17 = _ := h17
    obtain ⟨y18, g18, s18⟩ := h18
    have g19 : f 19 = _ := h19
    have g20 : f 20 = _ := h20
    have g21 : f 21 = _ := h21
    have g22 : f 22 = _ := h22
    have g23 : f 23 = _ := h23
    have g24 : f 24 = _ := h24
    have g25 : f 25 = _ := h25
    have g26 : f 26 = _ := h26
    have g27 : f 27 = _ := h27
    have g28 : f 28 = _ := h28
    have g29 : f 29 = _ := h29
    have g30 : f 30 = _ := h30
    simp only [puts, List.foldr_cons, List.foldr_nil, List.setIfInBounds_toArray, List.set_cons_succ, List.set_cons_zero, g0, g1, g2, g3, g4, g5, g6, g7, g8, g9, g10, g11, g12, g13, g14, g15, g16, g17, g18, g19, g20, g21, g22, g23, g24, g25, g26, g27, g28, g29, g30]
    clear h0 h1 h2 h3 h4 h5 h6 h7 h8 h9 h10 h11 h12 h13 h14 h15 h16 h17 h19 h20 h21 h22 h23 h24 h25 h26 h27 h28 h29 h30 g0 g1 g2 g3 g4 g5 g6 g7 g8 g9 g10 g11 g12 g13 g14 g15 g16 g17 g19 g20 g21 g22 g23 g24 g25 g26 g27 g28 g29 g30
    have hb := hC
    clear hC
    replace c01 := cell_later hb c01
    replace c02 := cell_later hb c02
    replace c03 := cell_later hb c03
    replace c04 := cell_later hb c04
    replace c11 := cell_later hb c11
    replace c12 := cell_later hb c12
    replace c13 := cell_later hb c13
    replace c14 := cell_later hb c14
    replace c21 := cell_later hb c21
    replace c22 := cell_later hb c22
    replace c23 := cell_later hb c23
    replace c24 := cell_later hb c24
    replace ia := ia.later hb
    replace ib := ib.later hb
    replace iw := iw.later hb
    replace ix := ix.later hb
    replace HB := HB.trans (hb.mono HB.size)
    clear hb
    go_wp2_with (fail)
    have HR : Below WR.heap.size WR WR := Below.refl _ _
    clear d1 fa fb fb3 HVA HEQ HEA s18 g18 hW0 hW1 hs0 hs1
    go_loopw [80] (fun c W => ∃ i : Nat, i ≤ lw ∧ c = .int .i64 (i : Int) ∧ Below WR.heap.size WR W) (fun c _ => lw - (intOf c).toNat)
    case atStart => exact ⟨0, Nat.zero_le _, rfl, Below.refl _ _⟩
    case round =>
      obtain ⟨i, hi, rfl, hb⟩ := hrel
      replace HR := HR.trans (hb.mono HR.size)
      replace c01 := cell_later hb c01
      replace c02 := cell_later hb c02
      replace c03 := cell_later hb c03
      replace c04 := cell_later hb c04
      replace c11 := cell_later hb c11
      replace c12 := cell_later hb c12
      replace c13 := cell_later hb c13
      replace c14 := cell_later hb c14
      replace c21 := cell_later hb c21
      replace c22 := cell_later hb c22
      replace c23 := cell_later hb c23
      replace c24 := cell_later hb c24
      replace ia := ia.later hb
      replace ib := ib.later hb
      replace iw := iw.later hb
      replace ix := ix.later hb
      replace HB := HB.trans (hb.mono HB.size)
      clear hb
      rcases Nat.lt_or_ge i lw with hlt | hge
      · have t1 : decide ((i : Int) < lw) = true := decide_eq_true (by omega)
        obtain ⟨bw, off, rfl, hcw⟩ := ints_at iw hlt
        generalize gi zs i = z at hcw
        obtain ⟨n1, o1, hn⟩ := nextR_two a i z
        have hn1 := fun W (hI : IsDfa W hx a) => Next_any (w := W) i z hI
        have hn2 := fun W (hI : IsDfa W h a) => RefNext_any (w := W) i z hI
        rw [hn] at hn1 hn2
        clear hn
        go_wp2_with (fail)
        refine (hn1 _ ix).mono ?_
        rintro e w15 ⟨rfl, hb⟩
        replace HR := HR.trans (hb.mono HR.size)
        replace c01 := cell_later hb c01
        replace c02 := cell_later hb c02
        replace c03 := cell_later hb c03
        replace c04 := cell_later hb c04
        replace c11 := cell_later hb c11
        replace c12 := cell_later hb c12
        replace c13 := cell_later hb c13
        replace c14 := cell_later hb c14
        replace c21 := cell_later hb c21
        replace c22 := cell_later hb c22
        replace c23 := cell_later hb c23
        replace c24 := cell_later hb c24
        replace ia := ia.later hb
        replace ib := ib.later hb
        replace iw := iw.later hb
        replace ix := ix.later hb
        replace HB := HB.trans (hb.mono HB.size)
        clear hb
        go_wp2_with (fail)
        refine (hn2 _ ia).mono ?_
        rintro e w16 ⟨rfl, hb⟩
        replace HR := HR.trans (hb.mono HR.size)
        replace c01 := cell_later hb c01
        replace c02 := cell_later hb c02
        replace c03 := cell_later hb c03
        replace c04 := cell_later hb c04
        replace c11 := cell_later hb c11
        replace c12 := cell_later hb c12
        replace c13 := cell_later hb c13
        replace c14 := cell_later hb c14
        replace c21 := cell_later hb c21
        replace c22 := cell_later hb c22
        replace c23 := cell_later hb c23
        replace c24 := cell_later hb c24
        replace ia := ia.later hb
        replace ib := ib.later hb
        replace iw := iw.later hb
        replace ix := ix.later hb
        replace HB := HB.trans (hb.mono HB.size)
        clear hb
        go_wp2_with (fail)
        go_roundw
        case rel => exact ⟨i + 1, hlt, by go_num, HR⟩
        case measure => simp [intOf]; omega
      · have t1 : decide ((i : Int) < lw) = false := decide_eq_false (by omega)
        go_wp2_with (fail)
        go_ret
        exact ⟨rfl, HB⟩
theorem dfaReads_top (a : Dfa) (h : DH) (b : Dfa) (k : DH) (aw : Option Addr) (lw cw : Nat) (zs : List Int) (w : World) (ia : IsDfa w h a) (ib : IsDfa w k b) (iw : IsInts .i64 w aw lw cw zs) {P Q : Prop} (_ : P) (_ : Q) :
    Calls Try.prog 4 #[vDf a h, vDf b k, .slice aw lw cw] w fun e w' => e = .returned (.bool true) ∧ Below w.heap.size w w' := dfaReads_walk a h b k aw lw cw zs w ia ib iw
end Go.Proofs.Ytehdkcjoaogbeaa
