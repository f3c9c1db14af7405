/-
  Components of the document's answer.
-/
import Derived.Test.YtlogmgkjikamaaaGraLx
import Derived.Test.YtlogmgkjikamaaaGraO
import Derived.Deep.LoopGhost
set_option linter.unusedSimpArgs false
set_option linter.unusedVariables false
set_option maxHeartbeats 4000000
namespace Go.Proofs.Ytlogmgkjikamaaa
open Go.RowKit
attribute [local go_sem] Oper.semAt_some

/-- Rows that the call builds, and beside them the numbers that are done. -/
structure CmpW (W : World) (B : Nat) (ao : Option Addr) (n co : Nat) (ms : List Value) (rows : List (List Int)) (vd : Value) (done : List Int) : Prop where
  out : OwnG W B 25 3 ao n co ms ms rows
  dn : W.ownsRow B 3 1 vd done.length (ivs .i64 done)
  a1 : ∀ k, vd.ownBlock = some k → (Value.slice ao n co).ownBlock ≠ some k
  a2 : ∀ (i : Nat) v, ms[i]? = some v → ∀ k, v.ownBlock = some k → vd.ownBlock ≠ some k
section
variable {W W' : World} {B : Nat} {ao : Option Addr} {n co : Nat} {ms : List Value} {rows : List (List Int)} {vd : Value} {done : List Int}
theorem CmpW.nil (W : World) (B : Nat) : CmpW W B none 0 0 [] [] (.slice none 0 0) [] :=
  ⟨OwnG.nil W B _ _, World.ownsRow_nil _ _ _ _, fun k hk => (by cases hk), fun i v h => (by simp at h)⟩
theorem CmpW.kept (h : CmpW W B ao n co ms rows vd done) (hb : Below W.heap.size W W') : CmpW W' B ao n co ms rows vd done := ⟨h.out.kept hb, h.dn.kept_below hb, h.a1, h.a2⟩
theorem CmpW.lt (h : CmpW W B ao n co ms rows vd done) : (∀ k, (Value.slice ao n co).ownBlock = some k → k < W.heap.size) ∧ (∀ k, vd.ownBlock = some k → k < W.heap.size) ∧ ∀ (i : Nat) v k, ms[i]? = some v → v.ownBlock = some k → k < W.heap.size :=
  ⟨fun k hk => (h.out.lt.1 k hk).2, fun k hk => (h.dn.lt k hk).2, fun i v k hv hk => (h.out.lt.2 i v k (by rw [← h.out.mlen]; exact (List.getElem?_eq_some_iff.1 hv).1) hv hk).2⟩
end
theorem app_rowc {P : Program} {T : TypeId} (el : Elem P T 25 (.slice none 0 0) 1 24) {w0 : World} {ops : Array Oper} {rest : List Oper} {o : Oper} {a : Act} {Q : Exit → Act → World → Prop} (hgd : Region.wanted o (yielded ops a.tmps) = true) (s x : Operand)
    (ho : o.op = .call { callee := .builtin .append, args := #[s, x], argTypes := #[T, T] })
    {B n co : Nat} {ao : Option Addr} {ms : List Value} {rows : List (List Int)} {vd v : Value} {done zs : List Int} (hC : CmpW w0 B ao n co ms rows vd done) (hv : w0.ownsRow B 3 1 v zs.length (ivs .i64 zs))
    (hfr : ∀ k, v.ownBlock = some k → (Value.slice ao n co).ownBlock ≠ some k ∧ vd.ownBlock ≠ some k ∧ ∀ (i : Nat) u, ms[i]? = some u → u.ownBlock ≠ some k)
    (hs : a.eval s = .slice ao n co) (hx : a.eval x = .slice (some ⟨w0.heap.size, 0, none⟩) 1 1) (hn : n ≤ 1000) (hB : B ≤ w0.heap.size)
    (h : ∀ az cz w', CmpW w' B az (n + 1) cz (ms ++ [v]) (rows ++ [zs]) vd done → Below B w0 w' → wpList P ops Q rest (a.put o.dst (.slice az (n + 1) cz)) w') : wpList P ops Q (o :: rest) a (w0.alloc (.cells #[v] 25)) := by
  have hbl : Below w0.heap.size w0 (w0.alloc (.cells #[v] 25)) := (Below.refl _ _).alloc (Nat.le_refl _) _
  have hG1 := hC.out.kept hbl
  have hv1 := hv.kept_below hbl
  have hd1 := hC.dn.kept_below hbl
  obtain ⟨va, vc, rfl, -⟩ := owns_slice hv
  refine wpList_wanted hgd fun K hK => wp_app_blk el s x ho hs hG1.out hx (news := [.slice va zs.length vc]) ⟨rfl, ?_, fun e => by cases e⟩ (by intro u hu; rw [List.mem_singleton.1 hu]; rfl) (by omega) (by simp; omega) ?_
  · rintro ad e j u hj
    injection e with e
    subst e
    have hn := heap_alloc_new w0 (.cells #[.slice va zs.length vc] 25)
    rw [addr_add, Nat.zero_add, cell_of_row _ _ j _ _ _ hn]
    rw [← hj]
    simp
  · intro a' c' w' h1 h2 h3 h4
    refine hK _ _ (h a' c' w' ⟨hG1.more hv1 (fun k hk => (hfr k hk).1) (fun i u hu k hk => (hfr k hk).2.2 i u hu) h1 h2 h4, ?_, ?_, ?_⟩ (((Below.refl _ _).alloc hB _).trans h3))
    · exact owns_same hd1 fun k hk => h2.block k (hd1.lt k hk).2 (fun e => hC.a1 k hk e.symm)
    · intro k hk e
      rcases h4 with h4 | h4
      · rw [h4] at e; exact hC.a1 k hk e
      · rw [h4] at e; injection e with e
        have := (hd1.lt k hk).2; omega
    · intro i u hu k hk
      have hml := hC.out.mlen
      rcases Nat.lt_or_ge i ms.length with hi | hi
      · rw [List.getElem?_append_left hi] at hu
        exact hC.a2 i u hu k hk
      · rw [List.getElem?_append_right hi] at hu
        have : i - ms.length = 0 := by
          have := (List.getElem?_eq_some_iff.1 hu).1
          simp at this; omega
        rw [this] at hu
        simp at hu
        subst hu
        exact (hfr k hk).2.1
theorem CmpW.last {W : World} {B n co : Nat} {ao : Option Addr} {ms : List Value} {rows : List (List Int)} {vd v : Value} {done zs : List Int} (h : CmpW W B ao (n + 1) co (ms ++ [v]) (rows ++ [zs]) vd done) : W.ownsRow B 3 1 v zs.length (ivs .i64 zs) := by
  have h1 := h.out.mlen
  have h2 := h.out.len
  rw [List.length_append, List.length_singleton] at h1 h2
  obtain ⟨u, hu, hr⟩ := h.out.row n (Nat.lt_succ_self n)
  rw [List.getElem?_append_right (by omega), show n - ms.length = 0 by omega] at hu
  simp at hu
  have e : gr (rows ++ [zs]) n = zs := by rw [show n = rows.length by omega]; simp [gr, List.getD]
  rw [e, ← hu] at hr
  exact hr
theorem app_done {P : Program} {T : TypeId} (el : Elem P T 3 (.int .i64 0) 1 8) {w0 : World} {ops : Array Oper} {rest : List Oper} {o : Oper} {a : Act} {Q : Exit → Act → World → Prop} (hgd : Region.wanted o (yielded ops a.tmps) = true) (s x : Operand)
    (ho : o.op = .call { callee := .builtin .append, args := #[s, x], argTypes := #[T, T] })
    {B n co : Nat} {ao : Option Addr} {ms : List Value} {rows : List (List Int)} {vd : Value} {done zs : List Int} (hC : CmpW w0 B ao n co ms rows vd done) {ai : Option Addr} {li ci : Nat} (hsrc : IsInts .i64 w0 ai li ci zs)
    (hs : a.eval s = vd) (hx : a.eval x = .slice ai li ci) (hb : (done.length + li) * (8 + 1) ≤ 140737488355328) (hB : B ≤ w0.heap.size)
    (h : ∀ a' c' w', CmpW w' B ao n co ms rows (.slice a' (done.length + li) c') (done ++ zs) → Below B w0 w' → wpList P ops Q rest (a.put o.dst (.slice a' (done.length + li) c')) w') : wpList P ops Q (o :: rest) a w0 := by
  refine wpList_wanted hgd fun K hK => wp_app_blk el s x ho hs hC.dn hx (ints_src hsrc) (ivs_one .i64 zs) hb hB ?_
  intro a' c' w' h1 h2 h3 h4
  obtain ⟨l1, l2, l3⟩ := hC.lt
  have hzl := hsrc.length
  refine hK _ _ (h a' c' w' ⟨hC.out.same (fun k hk => h2.block k (l1 k hk) (fun e => hC.a1 k e.symm hk)) (fun i v k hi hv hk => h2.block k (l3 i v k hv hk) (fun e => hC.a2 i v hv k hk e.symm)), ?_, ?_, ?_⟩ h3)
  · rw [List.length_append, hzl]
    rw [ivs_append]
    exact h1
  · intro k hk e
    rcases h4 with h4 | h4
    · rw [h4] at hk; exact hC.a1 k hk e
    · rw [h4] at hk; injection hk with hk
      have := l1 k e; omega
  · intro i u hu k hk e
    rcases h4 with h4 | h4
    · rw [h4] at e; exact hC.a2 i u hu k hk e
    · rw [h4] at e; injection e with e
      have := l3 i u k hu hk; omega

/-! What is done. -/
def doneL (sm : Nat → Nat → Bool) (N i : Nat) : List Int := ((rts sm i).map (memb sm N)).flatten
theorem doneL_yes {sm : Nat → Nat → Bool} {N i : Nat} (h : IsRt sm i) : doneL sm N (i + 1) = doneL sm N i ++ memb sm N i := by unfold doneL; rw [rts_yes h]; simp
theorem doneL_no {sm : Nat → Nat → Bool} {N i : Nat} (h : ¬ IsRt sm i) : doneL sm N (i + 1) = doneL sm N i := by unfold doneL; rw [rts_no h]
theorem mem_doneL {sm : Nat → Nat → Bool} (hq : Eqv sm) {N i : Nat} (hi : i < N) : (i : Int) ∈ doneL sm N i ↔ ¬ IsRt sm i := by
  unfold doneL
  rw [List.mem_flatten]
  constructor
  · rintro ⟨l, hl, hm⟩ hr
    obtain ⟨r, hr2, rfl⟩ := List.mem_map.1 hl
    obtain ⟨j, h1, h2, h3⟩ := mem_memb.1 hm
    have : i = j := by omega
    subst this
    rw [hr r (mem_rts.1 hr2).1] at h2
    cases h2
  · intro h
    have hs := rt_spec hq i
    exact ⟨memb sm N (rt sm i), List.mem_map.2 ⟨_, mem_rts.2 ⟨rt_lt hq h, hs.2.2⟩, rfl⟩, mem_memb.2 ⟨i, hi, hs.2.1, rfl⟩⟩
theorem doneL_len (sm : Nat → Nat → Bool) (N : Nat) : ∀ i, (doneL sm N i).length ≤ i * N
  | 0 => by simp [doneL, rts]
  | i + 1 => by
    have ih := doneL_len sm N i
    have := memb_len sm N i
    rw [Nat.succ_mul]
    by_cases h : IsRt sm i
    · rw [doneL_yes h, List.length_append]; omega
    · rw [doneL_no h]; omega
def rowsC (sm : Nat → Nat → Bool) (N i : Nat) : List (List Int) := (rts sm i).map (memb sm N)
theorem rowsC_yes {sm : Nat → Nat → Bool} {N i : Nat} (h : IsRt sm i) : rowsC sm N (i + 1) = rowsC sm N i ++ [memb sm N i] := by unfold rowsC; rw [rts_yes h]; simp
theorem rowsC_no {sm : Nat → Nat → Bool} {N i : Nat} (h : ¬ IsRt sm i) : rowsC sm N (i + 1) = rowsC sm N i := by unfold rowsC; rw [rts_no h]

variable {a : Option Addr} {len cap : Nat} {g : List (List Int)} {w : World}
theorem asc_filter {l : List Int} (h : Asc l) (p : Int → Bool) : Asc (l.filter p) := List.Pairwise.filter _ h
theorem rcR_asc (l : List Int) : Asc (rcR g l) := by
  unfold rcR
  split
  · exact asc_rowE _ _
  · exact List.Pairwise.nil
theorem rcR_node {l : List Int} {z : Int} (h : z ∈ rcR g l) : ∃ y : Nat, z = (y : Int) ∧ y < g.length := by
  unfold rcR at h
  split at h
  · obtain ⟨i, h1, -, h2⟩ := mem_rowE.1 h
    exact ⟨i, h2, h1⟩
  · cases h
theorem inter_memb (hv : ValidG g) {x : Nat} (hx : x < g.length) (h1 : ∀ y, y < g.length → ((y : Int) ∈ rcR g [(x : Int)] ↔ Rch (GE g) x y)) (h2 : ∀ y, y < (backG g).length → ((y : Int) ∈ rcR (backG g) [(x : Int)] ↔ Rch (GE (backG g)) x y)) :
    (rcR g [(x : Int)]).filter (fun z => decide (z ∈ rcR (backG g) [(x : Int)])) = memb (both (GE g)) g.length x := by
  rw [backG_length] at h2
  refine asc_ext (asc_filter (rcR_asc _) _) (memb_asc _ _ _) fun z => ?_
  rw [List.mem_filter, mem_memb]
  constructor
  · rintro ⟨m1, m2⟩
    obtain ⟨y, rfl, hy⟩ := rcR_node m1
    have m2 := of_decide_eq_true m2
    exact ⟨y, hy, both_iff.2 ⟨(h1 y hy).1 m1, (rch_back hv).1 ((h2 y hy).1 m2)⟩, rfl⟩
  · rintro ⟨y, hy, hb, rfl⟩
    obtain ⟨b1, b2⟩ := both_iff.1 hb
    exact ⟨(h1 y hy).2 b1, decide_eq_true ((h2 y hy).2 ((rch_back hv).2 b2))⟩
theorem refReach_yes {x : Nat} (hv : ValidG g) (hx : x < g.length) (hg : IsRows w a len cap g) :
    Calls Try.prog 25 #[.slice a len cap, .slice (some ⟨w.heap.size, 0, none⟩) 1 1] (w.alloc (.cells #[.int .i64 (x : Int)] 3)) fun e w' => (LRes (rcR g [(x : Int)]) 0 e w' ∧ Hid (∀ y, y < g.length → ((y : Int) ∈ rcR g [(x : Int)] ↔ Rch (GE g) x y))) ∧ Below w.heap.size w w' := by
  have hbA : Below w.heap.size w (w.alloc (.cells #[.int .i64 (x : Int)] 3)) := (Below.refl _ _).alloc (Nat.le_refl _) _
  exact (refReach_l (hg.later hbA) (new_ints .i64 w 3 [(x : Int)] 1 rfl (by decide)).row).mono fun _ _ h => ⟨⟨by have := h.1.1; rwa [checkV_one hv hx] at this, Lib.hid fun y hy => mem_rcR_one hv hx h.1.2 hy⟩, hbA.trans (h.2.mono hbA.size)⟩

set_option maxRecDepth 20000 in
theorem refComps_ok (hg : IsRows w a len cap g) (hv : ValidG g) :
    Calls Try.prog 16 #[.slice a len cap] w fun e w' => CompRes g w.heap.size e w' ∧ Below w.heap.size w w' := by
  have HL := Lib.hid hg.length
  have hN4 : len ≤ 400 := by rw [← HL.out]; exact hv.1
  have HV := Lib.hid hv
  have hbk0 := refBack_g hg
  rw [bkR_yes hv, bkE_yes hv] at hbk0
  clear hv
  go_enter Try.func16, Try.ntmps16
  go_wp2_with (fail)
  refine hbk0.mono ?_
  rintro e w1 ⟨⟨ab, lb, cb, rfl, hbk, -⟩, hb1⟩
  have hlb : lb = len := by rw [← hbk.length, backG_length, HL.out]
  subst hlb
  have HB1 := Lib.hid hb1
  have hg1 := hg.later hb1
  clear hbk0 hg hb1
  obtain ⟨sm, hsm⟩ : ∃ sm, both (GE g) = sm := ⟨_, rfl⟩
  have HSM := Lib.hid hsm
  have HQ : Hid (Eqv sm) := Lib.hid (by rw [← hsm]; exact eqv_both _)
  clear hsm
  go_wp2_with (fail)
  go_loopw [6, 7, 8] (fun v d c W => ∃ (i n : Nat) (ao : Option Addr) (co : Nat) (ms : List Value) (ad : Option Addr) (ld cd : Nat), i ≤ lb ∧ c = .int .i64 (i : Int) ∧ v = .slice ao n co ∧ d = .slice ad ld cd ∧ Hid (n = (rts sm i).length ∧ ld = (doneL sm lb i).length) ∧ CmpW W w1.heap.size ao n co ms (rowsC sm lb i) (.slice ad ld cd) (doneL sm lb i) ∧ Below w1.heap.size w1 W) (fun _ _ c _ => lb - (intOf c).toNat)
  case atStart => exact ⟨0, 0, none, 0, [], none, 0, 0, Nat.zero_le _, rfl, rfl, rfl, Lib.hid ⟨rfl, rfl⟩, CmpW.nil _ _, Below.refl _ _⟩
  case round =>
    obtain ⟨i, n, ao, co, ms, ad, ld, cd, hi, rfl, rfl, rfl, HN, hC, hB⟩ := hrel
    rcases Nat.lt_or_ge i lb with hlt | hge
    · have t1 : decide ((i : Int) < lb) = true := decide_eq_true (by omega)
      have hld : ld ≤ 160000 := by
        have h1 := doneL_len sm lb i
        have h2 : i * lb ≤ 400 * 400 := Nat.mul_le_mul (by omega) hN4
        rw [HN.out.2]; omega
      have hnn : n ≤ 400 := by have := rts_len sm i; rw [HN.out.1]; omega
      have hdn := hC.dn
      rw [← HN.out.2] at hdn
      have hI := (IsInts.of_owns hdn).1.row
      clear hdn
      by_cases hr : IsRt sm i
      · have hhas := has_yes False hI (by omega) (iff_false_intro fun h => (mem_doneL HQ.out hlt).1 h hr)
        rw [show yes False = false from Bool.eq_false_iff.2 fun h => yes_iff.1 h] at hhas
        have HS : Hid (rowsC sm lb (i + 1) = rowsC sm lb i ++ [memb sm lb i] ∧ doneL sm lb (i + 1) = doneL sm lb i ++ memb sm lb i ∧ (rts sm (i + 1)).length = (rts sm i).length + 1) := Lib.hid ⟨rowsC_yes hr, doneL_yes hr, by rw [rts_yes hr]; simp⟩
        have HX : Hid (i < g.length) := Lib.hid (by rw [HL.out]; exact hlt)
        have hgW := hg1.later hB
        have hbW := hbk.later hB
        clear hr hI
        go_wp2_with (go_at_call 14; refine hhas.mono ?_; rintro e w' ⟨rfl, rfl⟩)
        rename_i wx
        refine (refReach_yes HV.out HX.out hgW).mono ?_
        rintro e w3 ⟨⟨⟨a3, n3, c3, rfl, i3, l3⟩, H3⟩, hb3⟩
        have hbW3 := hbW.later hb3
        replace hC := hC.kept hb3
        replace hB := hB.trans (hb3.mono hB.size)
        clear hhas hgW hbW hb3
        go_wp2_with (fail)
        refine (refReach_yes (backG_valid HV.out) (by rw [backG_length]; exact HX.out) hbW3).mono ?_
        rintro e w4 ⟨⟨⟨a4, n4, c4, rfl, i4, l4⟩, H4⟩, hb4⟩
        replace i3 := i3.later hb4
        replace hC := hC.kept hb4
        replace hB := hB.trans (hb4.mono hB.size)
        clear hbW3 hb4
        go_wp2_with (fail)
        refine (refInter_any _ _ _ _ _ _ _ _ _ i3 (by omega) i4 (by omega)).mono ?_
        rintro e w5 ⟨a5, n5, c5, rfl, ho5, hb5⟩
        have hmb := inter_memb HV.out HX.out H3.out H4.out
        rw [HSM.out, HL.out] at hmb
        rw [hmb] at ho5
        have hn5 := owns_len ho5
        obtain ⟨l1, l2, l3'⟩ := hC.lt
        have hlo5 := ho5.lt
        have hC5 := hC.kept hb5
        have hB5 := hB.trans (hb5.mono hB.size)
        have hs5 : w1.heap.size ≤ w5.heap.size := hB5.size
        have hv5 : w5.ownsRow w1.heap.size 3 1 (.slice a5 n5 c5) (memb sm lb i).length (ivs .i64 (memb sm lb i)) := by rw [← hn5]; exact ho5.from_mono hB.size
        have HFR : Hid (∀ k, (Value.slice a5 n5 c5).ownBlock = some k → (Value.slice ao n co).ownBlock ≠ some k ∧ (Value.slice ad ld cd).ownBlock ≠ some k ∧ ∀ (j : Nat) u, ms[j]? = some u → u.ownBlock ≠ some k) := Lib.hid (fun k hk => by
          have h5 := (hlo5 k hk).1
          exact ⟨fun e => by have := l1 k e; omega, fun e => by have := l2 k e; omega, fun j u hu e => by have := l3' j u k hu e; omega⟩)
        have hml : n5 ≤ 400 := by have := memb_len sm lb i; omega
        have HN5 := Lib.hid hn5
        have HLD := Lib.hid HN.out.2
        have hdl : ((doneL sm lb i).length + n5) * (8 + 1) ≤ 140737488355328 := by rw [← HN.out.2]; omega
        clear i3 i4 hmb l1 l2 l3' hlo5 hC hB hb5 ho5 hn5 H3 H4 l3 l4
        have hI5 : ∀ (az : Option Addr) (cz : Nat) (W : World), CmpW W w1.heap.size az (n + 1) cz (ms ++ [.slice a5 n5 c5]) (rowsC sm lb i ++ [memb sm lb i]) (.slice ad ld cd) (doneL sm lb i) → IsInts .i64 W a5 n5 c5 (memb sm lb i) := fun az cz W h => (IsInts.of_owns h.last).1
        have HI5 := Lib.hid hI5
        clear hI5
        go_wp2_with (first
          | (at_builtin; refine app_rowc elG2 rfl _ _ rfl hC5 hv5 HFR.out rfl rfl (by omega) hs5 ?_; intro az cz w6 hC6 hb6; have hi6 := HI5.out az cz w6 hC6; have hs6 := Nat.le_trans hs5 hb6.size)
          | (at_builtin; refine app_done elI64 rfl _ _ rfl hC6 hi6 rfl rfl hdl hs6 ?_; intro a7 c7 w7 hC7 hb7))
        have hB7 := (hB5.trans hb6).trans hb7
        go_roundw
        case rel => exact ⟨i + 1, n + 1, az, cz, _, a7, _, c7, hlt, by go_num, rfl, rfl, Lib.hid ⟨by rw [HS.out.2.2, ← HN.out.1], by rw [HS.out.2.1, List.length_append, ← HN5.out]⟩, by rw [HS.out.1, HS.out.2.1]; exact hC7, hB7⟩
        case measure => simp [intOf]; omega
      · have hhas := has_yes True hI (by omega) (iff_true_intro ((mem_doneL HQ.out hlt).2 hr))
        rw [show yes True = true from yes_iff.2 trivial] at hhas
        have HS : Hid (rowsC sm lb (i + 1) = rowsC sm lb i ∧ doneL sm lb (i + 1) = doneL sm lb i ∧ (rts sm (i + 1)).length = (rts sm i).length) := Lib.hid ⟨rowsC_no hr, doneL_no hr, by rw [rts_no hr]⟩
        clear hr hI
        go_wp2_with (go_at_call 14; refine hhas.mono ?_; rintro e w' ⟨rfl, rfl⟩)
        go_roundw
        case rel => exact ⟨i + 1, n, ao, co, ms, ad, ld, cd, hlt, by go_num, rfl, rfl, Lib.hid ⟨by rw [HS.out.2.2]; exact HN.out.1, by rw [HS.out.2.1]; exact HN.out.2⟩, by rw [HS.out.1, HS.out.2.1]; exact hC, hB⟩
        case measure => simp [intOf]; omega
    · obtain rfl : i = lb := by omega
      have t1 : decide ((i : Int) < i) = false := decide_eq_false (by omega)
      have hbF := HB1.out.trans (hB.mono HB1.out.size)
      have HG : Hid (OwnG wr w.heap.size 25 3 ao (compG g).length co ms ms (compG g)) := Lib.hid (by
        have e : rowsC sm i i = compG g := by unfold compG rowsC cmps; rw [HSM.out, HL.out]
        have h := hC.out.base HB1.out.size
        rw [e] at h
        have hn : n = (compG g).length := by rw [h.len]
        rw [← hn]
        exact h)
      have hn : Hid (n = (compG g).length) := Lib.hid (by rw [compG_length, HSM.out, HL.out]; exact HN.out.1)
      go_wp2
      go_ret2
      exact ⟨.inr ⟨HV.out, ao, co, ms, by rw [hn.out]; rfl, HG.out⟩, hbF⟩

theorem refComps_any (hg : IsRows w a len cap g) :
    Calls Try.prog 16 #[.slice a len cap] w fun e w' => CompRes g w.heap.size e w' ∧ Below w.heap.size w w' := by
  by_cases hv : ValidG g
  · exact refComps_ok hg hv
  · have hbk0 := refBack_g hg
    have hE : bkE g = 1 := by unfold bkE; rw [validGB_no hv]; rfl
    rw [hE] at hbk0
    have HV := Lib.hid hv
    clear hv hE
    go_enter Try.func16, Try.ntmps16
    go_wp2_with (fail)
    refine hbk0.mono ?_
    rintro e w1 ⟨⟨ab, lb, cb, rfl, -, -⟩, hb1⟩
    clear hbk0
    go_wp2
    go_ret2
    exact ⟨.inl ⟨HV.out, rfl⟩, hb1⟩
theorem refComps_g (hg : IsRows w a len cap g) :
    Calls Try.prog 16 #[.slice a len cap] w fun e w' => GRes (cpR g) (bkE g) e w' ∧ Below w.heap.size w w' := (refComps_any hg).mono fun _ _ h => ⟨h.1.gres, h.2⟩
end Go.Proofs.Ytlogmgkjikamaaa
