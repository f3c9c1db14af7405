/-
  Path of the program.
-/
import Derived.Test.YtlogmgkjikamaaaGraPa
import Derived.Test.YtlogmgkjikamaaaGraK
import Derived.Test.YtlogmgkjikamaaaGraJ
import Derived.Test.YtlogmgkjikamaaaGraF
import Derived.Test.YtlogmgkjikamaaaFam2
import Derived.Deep.LoopGhost
import Derived.Deep.QuietTactic
import Derived.BigQuiet
set_option linter.unusedSimpArgs false
set_option linter.unusedVariables false
set_option maxHeartbeats 4000000
namespace Go.Proofs.Ytlogmgkjikamaaa
open Go.RowKit
attribute [local go_sem] Oper.semAt_some

variable {a : Option Addr} {len cap : Nat} {g : List (List Int)} {w : World}

/-- The closure: is a node nearer by one. -/
theorem path1_any {bl ba bz oz cz N u m x : Nat} {zs : List Int} (hl : w.cell? ⟨bl, 0, none⟩ = some (.slice (some ⟨bz, oz, none⟩) N cz)) (ha : w.cell? ⟨ba, 0, none⟩ = some (.int .i64 (u : Int))) (hz : IsInts .i64 w (some ⟨bz, oz, none⟩) N cz zs) (hu : u < N) (hx : x < N) (hm : gi zs u = (m : Int) + 1) (hmb : m < 400) :
    Calls Try.prog 43 #[.int .i64 (x : Int), .pointer (some ⟨bl, 0, none⟩), .pointer (some ⟨ba, 0, none⟩)] w fun e w' => e = .returned (.bool (nearP zs m (x : Int))) ∧ Below w.heap.size w w' := by
  have hcx := hz.row.get x hx
  have hcu := hz.row.get u hu
  rw [hm] at hcu
  obtain ⟨z, hzx⟩ : ∃ z, gi zs x = z := ⟨_, rfl⟩
  rw [hzx] at hcx
  have HE : Hid (nearP zs m (x : Int) = decide (z = (m : Int))) := Lib.hid (by unfold nearP; rw [show ((x : Int)).toNat = x by omega, hzx])
  rw [HE.out]
  have HNc := hz.cap
  unfold maxLen at HNc
  clear hz hm hzx
  by_cases h0 : 0 ≤ z
  · have d0 : decide (0 ≤ z) = true := decide_eq_true h0
    by_cases h1 : z = (m : Int)
    · have d1 : (z == (m : Int)) = true := by simpa using h1
      have d2 : decide (z = (m : Int)) = true := decide_eq_true h1
      clear h1
      go_enter Try.func43, Try.ntmps43
      go_wp2_with (fail)
      go_quiet (fail)
      go_wp2
      go_ret
      exact ⟨by rw [d2]; rfl, below_drewN _ _⟩
    · have d1 : (z == (m : Int)) = false := by simpa using h1
      have d2 : decide (z = (m : Int)) = false := decide_eq_false h1
      clear h1
      go_enter Try.func43, Try.ntmps43
      go_wp2_with (fail)
      go_quiet (fail)
      go_wp2
      go_ret
      exact ⟨by rw [d2]; rfl, below_drewN _ _⟩
  · have d0 : decide (0 ≤ z) = false := decide_eq_false h0
    have d2 : decide (z = (m : Int)) = false := decide_eq_false (by omega)
    go_enter Try.func43, Try.ntmps43
    go_wp2_with (fail)
    go_quiet (fail)
    go_wp2
    go_ret
    exact ⟨by rw [d2]; rfl, below_drewN _ _⟩

theorem check_two (hg : IsRows w a len cap g) (x y : Int) :
    Calls Try.prog 39 #[.slice a len cap, .slice (some ⟨w.heap.size, 0, none⟩) 2 2] (w.alloc (.cells #[.int .i64 x, .int .i64 y] 3)) fun e w' => e = .returned (.int .i64 (checkV g [x, y])) ∧ Below w.heap.size w w' := by
  have hbA : Below w.heap.size w (w.alloc (.cells #[.int .i64 x, .int .i64 y] 3)) := (Below.refl _ _).alloc (Nat.le_refl _) _
  exact (check_any (hg.later hbA) (new_ints .i64 w 3 [x, y] 2 rfl (by decide)).row).mono fun _ _ h => ⟨h.1, hbA.trans (h.2.mono hbA.size)⟩
theorem distances_one {T : Nat} (hg : IsRows w a len cap g) (hv : ValidG g) (hT : T < len) :
    Calls Try.prog 40 #[.slice a len cap, .slice (some ⟨w.heap.size, 0, none⟩) 1 1] (w.alloc (.cells #[.int .i64 (T : Int)] 3)) fun e w' => ∃ ad cd zs, e = .returned (.slice ad len cd) ∧ IsInts .i64 w' ad len cd zs ∧ DistL g [(T : Int)] zs ∧ Below w.heap.size w w' := by
  have hbA : Below w.heap.size w (w.alloc (.cells #[.int .i64 (T : Int)] 3)) := (Below.refl _ _).alloc (Nat.le_refl _) _
  refine (distances_any (hg.later hbA) hv (new_ints .i64 w 3 [(T : Int)] 1 rfl (by decide)).row (fun z hz => by rw [List.mem_singleton.1 hz]; omega)).mono fun _ _ ⟨ad, cd, zs, h1, h2, h3, h4⟩ => ⟨ad, cd, zs, h1, (IsInts.of_owns h2).1, h3, hbA.trans (h4.mono hbA.size)⟩
/-- append of one number; what else lies below stays. -/
theorem app_one_g {P : Program} {T E : TypeId} {z0 : Value} {bytes : Nat} {k : IntKind} (el : Elem P T E z0 1 bytes) {w0 : World} {ops : Array Oper} {rest : List Oper} {o : Oper} {a : Act} {Q : Exit → Act → World → Prop} (hgd : Region.wanted o (yielded ops a.tmps) = true) (s x : Operand)
    (ho : o.op = .call { callee := .builtin .append, args := #[s, x], argTypes := #[T, T] })
    {B : Nat} {v : Value} {n : Nat} {xs : List Int} (hs : a.eval s = v) (hown : w0.ownsRow B E 1 v n (ivs k xs)) {z : Int} (hx : a.eval x = .slice (some ⟨w0.heap.size, 0, none⟩) 1 1)
    (hb : (n + 1) * (bytes + 1) ≤ 140737488355328) (hB : B ≤ w0.heap.size)
    (h : ∀ a' c' w', w'.ownsRow B E 1 (.slice a' (n + 1) c') (n + 1) (ivs k (xs ++ [z])) → Below B w0 w' → (∀ q, q < w0.heap.size → v.ownBlock ≠ some q → w'.heap[q]? = w0.heap[q]?) → wpList P ops Q rest (a.put o.dst (.slice a' (n + 1) c')) w') : wpList P ops Q (o :: rest) a (w0.alloc (.cells #[.int k z] E)) := by
  refine app_ints (k := k) (xs := xs) (ys := [z]) el hgd s x ho hs (hown.kept_below ((Below.refl _ _).alloc (Nat.le_refl _) _)) hx (new_ints k w0 E [z] 1 rfl (by decide)) hb (by simp; omega) ?_
  intro a' c' w' h1 h2 h3 _
  refine h a' c' w' h1 (((Below.refl _ _).alloc hB _).trans h3) fun q hq hne => ?_
  rw [h2.block q (by simp; omega) (fun e => hne e.symm), Below.heap_alloc _ _ _ hq]

/-- What Path keeps in memory: the cell of the distances, the cell of the node, the nodes so far. -/
structure PathW (W : World) (B bl ba : Nat) (lv vo : Value) (u n : Nat) (out : List Int) : Prop where
  left : W.cell? ⟨bl, 0, none⟩ = some lv
  node : W.heap[ba]? = some (.cells #[.int .i64 (u : Int)] 3 (0, 0))
  row : W.ownsRow B 3 1 vo n (ivs .i64 out)
  lo : bl < B
  ne : ∀ k, vo.ownBlock = some k → k ≠ ba
  base : B ≤ ba
theorem PathW.cell {W : World} {B bl ba u n : Nat} {lv vo : Value} {out : List Int} (h : PathW W B bl ba lv vo u n out) : W.cell? ⟨ba, 0, none⟩ = some (.int .i64 (u : Int)) ∧ W.frozen? ⟨ba, 0, none⟩ = false := by
  constructor
  · rw [cell_of_row _ ba 0 _ _ _ h.node]; rfl
  · exact frozen_of_row _ ba 0 _ _ h.node
theorem PathW.kept {W W' : World} {B bl ba u n : Nat} {lv vo : Value} {out : List Int} (h : PathW W B bl ba lv vo u n out) (hb : Below W.heap.size W W') : PathW W' B bl ba lv vo u n out := by
  have h1 : ba < W.heap.size := (Array.getElem?_eq_some_iff.1 h.node).1
  refine ⟨(hb.cell (p := ⟨bl, 0, none⟩) (lt_of_cell h.left)).trans h.left, ?_, h.row.kept_below hb, h.lo, h.ne, h.base⟩
  rw [hb.block ba h1]; exact h.node
theorem PathW.put {W : World} {B bl ba u n : Nat} {lv vo : Value} {out : List Int} (h : PathW W B bl ba lv vo u n out) (x : Nat) : PathW (W.setCell ⟨ba, 0, none⟩ (.int .i64 (x : Int))) B bl ba lv vo x n out := by
  have hne : bl ≠ ba := by have := h.lo; have := h.base; omega
  refine ⟨?_, ?_, owns_same h.row fun k hk => heap_setCell_other _ _ _ _ (h.ne k hk), h.lo, h.ne, h.base⟩
  · have := h.left
    simp only [World.cell?] at this ⊢
    rw [heap_setCell_other _ ⟨ba, 0, none⟩ bl _ hne]
    exact this
  · have := heap_setCell_same W ba 0 _ _ (.int .i64 (x : Int)) h.node
    simpa using this

theorem PathW.next {W W' : World} {B bl ba x n : Nat} {lv vo : Value} {out : List Int} (h : PathW W B bl ba lv vo x n out) {a' : Option Addr} {c' : Nat} (ho : W'.ownsRow B 3 1 (.slice a' (n + 1) c') (n + 1) (ivs .i64 (out ++ [(x : Int)]))) (hb : Below B W W') :
    PathW (W'.alloc (.cells #[.int .i64 (x : Int)] 3)) B bl W'.heap.size lv (.slice a' (n + 1) c') x (n + 1) (out ++ [(x : Int)]) := by
  have hl := lt_of_cell h.left
  have hba : ba < W.heap.size := (Array.getElem?_eq_some_iff.1 h.node).1
  have h1 := hb.size
  have h2 := h.base
  have h3 := h.lo
  refine ⟨?_, heap_alloc_new _ _, ho.alloc _, h.lo, fun k hk => by have := (ho.lt k hk).2; omega, by omega⟩
  have e := h.left
  simp only [World.cell?] at e ⊢
  rw [Below.heap_alloc _ _ _ (by omega), hb.block bl h3]
  exact e
theorem PathW.start {W : World} {bl : Nat} {lv : Value} (hl : W.cell? ⟨bl, 0, none⟩ = some lv) (hb : bl + 1 = W.heap.size) (u : Nat) :
    PathW ((W.alloc (.cells #[.int .i64 (u : Int)] 3)).alloc (.cells #[.int .i64 (u : Int)] 3)) W.heap.size bl (W.heap.size + 1) lv (.slice (some ⟨W.heap.size, 0, none⟩) 1 1) u 1 [(u : Int)] := by
  have h1 : (W.alloc (.cells #[.int .i64 (u : Int)] 3)).ownsRow W.heap.size 3 1 (.slice (some ⟨W.heap.size, 0, none⟩) 1 1) 1 (ivs .i64 [(u : Int)]) := World.ownsRow_lit (size := 1) W #[.int .i64 (u : Int)] 1 (Nat.le_refl _) (by decide) rfl
  refine ⟨?_, ?_, h1.alloc _, by omega, fun k hk => ?_, by omega⟩
  · simp only [World.cell?] at hl ⊢
    rw [Below.heap_alloc _ _ _ (by simp; omega), Below.heap_alloc _ _ _ (by omega)]
    exact hl
  · have := heap_alloc_new (W.alloc (.cells #[.int .i64 (u : Int)] 3)) (.cells #[.int .i64 (u : Int)] 3)
    simpa using this
  · injection hk with hk; simp only at hk; omega
/-- slices.IndexFunc with the closure of Path: the first successor that is nearer. -/
theorem index_near {al : Option Addr} {ll cl : Nat} {l : List Int} {bl ba bz oz cz N u m i : Nat} {zs : List Int} (hl : IsRow .i64 w al ll cl l) (hcl : w.cell? ⟨bl, 0, none⟩ = some (.slice (some ⟨bz, oz, none⟩) N cz)) (ha : w.cell? ⟨ba, 0, none⟩ = some (.int .i64 (u : Int))) (hz : IsInts .i64 w (some ⟨bz, oz, none⟩) N cz zs) (hu : u < N) (hr : ∀ k, k < l.length → 0 ≤ gi l k ∧ gi l k < (N : Int)) (hm : gi zs u = (m : Int) + 1) (hmb : m < 400)
    (hi : i < l.length) (hp : nearP zs m (gi l i) = true) (hn : ∀ k, k < i → nearP zs m (gi l k) = false) :
    Calls Try.prog 42 #[.slice al ll cl, .func (.func 43) #[] #[.pointer (some ⟨bl, 0, none⟩), .pointer (some ⟨ba, 0, none⟩)]] w fun e w' => e = .returned (.int .i64 (i : Int)) ∧ Below w.heap.size w w' := by
  refine (indexFunc_any 43 #[.pointer (some ⟨bl, 0, none⟩), .pointer (some ⟨ba, 0, none⟩)] (fun z => #[.int .i64 z, .pointer (some ⟨bl, 0, none⟩), .pointer (some ⟨ba, 0, none⟩)]) (fun z => rfl) (nearP zs m) hl (enters_of Try.func43 (by kernel_rfl) rfl) fun k W hk hb => ?_).mono ?_
  · have h0 := hr k hk
    obtain ⟨x, hx⟩ := Int.eq_ofNat_of_zero_le h0.1
    rw [hx] at h0 ⊢
    exact path1_any ((hb.cell (p := ⟨bl, 0, none⟩) (lt_of_cell hcl)).trans hcl) ((hb.cell (p := ⟨ba, 0, none⟩) (lt_of_cell ha)).trans ha) (hz.later hb) hu (by omega) hm hmb
  · rintro e w' ⟨⟨r, rfl, hr⟩, hb⟩
    refine ⟨?_, hb⟩
    rcases hr with ⟨-, h⟩ | ⟨j, h1, rfl, h2, h3⟩
    · rw [h i hi] at hp; cases hp
    · have : i = j := by
        rcases Nat.lt_trichotomy i j with h | h | h
        · rw [h3 i h] at hp; cases hp
        · exact h
        · rw [hn j h] at h2; cases h2
      rw [this]

set_option maxRecDepth 20000 in
theorem path_ok {F T : Nat} (hg : IsRows w a len cap g) (hv : ValidG g) (hF : F < len) (hT : T < len) :
    Calls Try.prog 23 #[.slice a len cap, .int .i64 (F : Int), .int .i64 (T : Int)] w fun e w' => LRes (ptR g (F : Int) (T : Int)) (ptE g (F : Int) (T : Int)) e w' ∧ Below w.heap.size w w' := by
  have HL := Lib.hid hg.length
  have hN4 : len ≤ 400 := by rw [← HL.out]; exact hv.1
  have HV := Lib.hid hv
  have hc0 : checkV g [(F : Int), (T : Int)] = 0 := checkV_two.2 ⟨hv, F, T, rfl, rfl, by rw [HL.out]; exact hF, by rw [HL.out]; exact hT⟩
  have hck := check_two hg (F : Int) (T : Int)
  rw [hc0] at hck
  have HC0 := Lib.hid hc0
  clear hc0 hv
  go_enter Try.func23, Try.ntmps23
  go_wp2_with (fail)
  refine hck.mono ?_
  rintro e w1 ⟨rfl, hb1⟩
  clear hck
  have hg1 := hg.later hb1
  go_wp2_with (fail)
  refine (reversed_any hg1 HV.out).mono ?_
  rintro e w2 ⟨ao, co, ms, rfl, hG, hb2⟩
  have hg2 := hg1.later hb2
  have hbk := hG.read
  have hb02 := hb1.trans (hb2.mono hb1.size)
  clear hb1 hb2 hG hg1
  go_wp2_with (fail)
  refine (distances_one hbk (backG_valid HV.out) hT).mono ?_
  rintro e w3 ⟨ad, cd, zs, rfl, hz, hD, hb3⟩
  have hg3 := hg2.later hb3
  have hb03 := hb02.trans (hb3.mono hb02.size)
  have HE : Hid (ToEnd g T zs ∧ dsR (backG g) [(T : Int)] = zs) := Lib.hid ⟨⟨HV.out, by rw [HL.out]; exact hT, hD⟩, dsR_is (backG_valid HV.out) (fun z hz => by rw [List.mem_singleton.1 hz, backG_length, HL.out]; omega) hD⟩
  have HPE : Hid (ptE g (F : Int) (T : Int) = if gi zs F < 0 then 8 else 0) := Lib.hid (by unfold ptE; rw [if_pos HC0.out, HE.out.2, show ((F : Int)).toNat = F by omega])
  have HPR : Hid (ptR g (F : Int) (T : Int) = if 0 ≤ gi zs F then (pth g zs (gi zs F).toNat F).map Int.ofNat else []) := Lib.hid (by
    unfold ptR
    rw [HE.out.2, show ((F : Int)).toNat = F by omega]
    by_cases h : 0 ≤ gi zs F
    · rw [if_pos ⟨HC0.out, h⟩, if_pos h]
    · rw [if_neg (fun h' => h h'.2), if_neg h])
  clear hb02 hb3 hD hbk hg2
  obtain ⟨bz, oz, rfl, hcf⟩ := hz.row.fix F hF
  obtain ⟨z, hzf⟩ : ∃ z, gi zs F = z := ⟨_, rfl⟩
  rw [hzf] at hcf HPE HPR
  have hzlo : -1 ≤ z ∧ z < (len : Int) := by rw [← hzf, ← HL.out]; exact ⟨HE.out.1.lo (by rw [HL.out]; exact hF), HE.out.1.hi (by rw [HL.out]; exact hF)⟩
  have hc4 := hcf _ ((Below.refl _ _).alloc (Nat.le_refl _) (.cells #[.slice (some ⟨bz, oz, none⟩) len cd] 25))
  have HZF := Lib.hid hzf
  have HZ := Lib.hid hz
  clear hcf hzf hz
  by_cases h0 : z < 0
  · have d0 : decide (z < 0) = true := decide_eq_true h0
    have HR : Hid (ptR g (F : Int) (T : Int) = [] ∧ ptE g (F : Int) (T : Int) = 8) := Lib.hid ⟨by rw [HPR.out, if_neg (by omega)], by rw [HPE.out, if_pos h0]⟩
    have hb04 : Below w.heap.size w (w3.alloc (.cells #[.slice (some ⟨bz, oz, none⟩) len cd] 25)) := hb03.alloc hb03.size _
    clear h0 hzlo
    go_wp2
    go_ret2
    exact ⟨by rw [HR.out.1, HR.out.2]; exact ⟨_, _, _, rfl, isRow_nil _, by omega⟩, hb04⟩
  have d0 : decide (z < 0) = false := decide_eq_false h0
  obtain ⟨m, rfl⟩ := Int.eq_ofNat_of_zero_le (by omega : 0 ≤ z)
  have HP : Hid (OnPath g zs T (pth g zs m F) [] F m) := Lib.hid ⟨HE.out.1, by rw [HL.out]; exact hF, HZF.out, rfl⟩
  have HR : Hid (ptR g (F : Int) (T : Int) = (pth g zs m F).map Int.ofNat ∧ ptE g (F : Int) (T : Int) = 0) := Lib.hid ⟨by rw [HPR.out, if_pos (by omega), show ((m : Int)).toNat = m by omega], by rw [HPE.out, if_neg h0]⟩
  have hb34 : Below w3.heap.size w3 (w3.alloc (.cells #[.slice (some ⟨bz, oz, none⟩) len cd] 25)) := (Below.refl _ _).alloc (Nat.le_refl _) _
  have hcl : (w3.alloc (.cells #[.slice (some ⟨bz, oz, none⟩) len cd] 25)).cell? ⟨w3.heap.size, 0, none⟩ = some (.slice (some ⟨bz, oz, none⟩) len cd) := by
    rw [cell_of_row _ w3.heap.size 0 _ _ _ (heap_alloc_new w3 _)]; rfl
  have hs4 : (w3.alloc (.cells #[.slice (some ⟨bz, oz, none⟩) len cd] 25)).heap.size = w3.heap.size + 1 := by simp
  have HM : Hid (m < 400) := Lib.hid (by omega)
  clear h0 hzlo HPR HPE HC0 hg
  have hst := PathW.start hcl (by rw [hs4]) F
  rw [hs4] at hst
  have hmf : ∀ (fn : Fn) (first cap : Array Value) (w : World), (Instr.makeFunc fn first cap).run Try.prog w = .ok (.func fn first cap) w := fun _ _ _ _ => rfl
  have HG3 : Hid (∀ W, Below (w3.heap.size + 1) (w3.alloc (.cells #[.slice (some ⟨bz, oz, none⟩) len cd] 25)) W → Below w3.heap.size w3 W ∧ IsRows W a len cap g ∧ IsInts .i64 W (some ⟨bz, oz, none⟩) len cd zs) := Lib.hid (fun W h => by
    have h1 := hb34.trans (h.mono (by omega))
    exact ⟨h1, hg3.later h1, HZ.out.later h1⟩)
  have hlen : Hid ((pth g zs m F).length = m + 1) := Lib.hid (pth_length _ _ _ _)
  have hb46 : Below (w3.heap.size + 1) (w3.alloc (.cells #[.slice (some ⟨bz, oz, none⟩) len cd] 25)) (((w3.alloc (.cells #[.slice (some ⟨bz, oz, none⟩) len cd] 25)).alloc (.cells #[.int .i64 (F : Int)] 3)).alloc (.cells #[.int .i64 (F : Int)] 3)) := ((Below.refl _ _).alloc (by simp) _).alloc (by simp) _
  clear hcl hs4
  go_wp2_with (fail)
  go_loopg [10, 11] m (fun q v s W => ∃ (o : List Nat) (u ba co : Nat) (ao : Option Addr), v = .slice ao (o.length + 1) co ∧ s = .pointer (some ⟨ba, 0, none⟩) ∧ u < len ∧ o.length + q ≤ 400 ∧ Hid (OnPath g zs T (pth g zs m F) o u q) ∧ PathW W (w3.heap.size + 1) w3.heap.size ba (.slice (some ⟨bz, oz, none⟩) len cd) v u (o.length + 1) (o.map Int.ofNat ++ [(u : Int)]) ∧ Below (w3.heap.size + 1) (w3.alloc (.cells #[.slice (some ⟨bz, oz, none⟩) len cd] 25)) W)
  case atStart => exact ⟨[], F, _, 1, _, rfl, rfl, hF, by have := HM.out; simp; omega, HP, hst, hb46⟩
  case round =>
    clear hst hb46 hc4 HP
    obtain ⟨o, u, ba, co, ao', rfl, rfl, huk, hoq, HP, hW, hB⟩ := hrel
    obtain ⟨hcn, hfn⟩ := hW.cell
    cases gk with
    | zero =>
      obtain ⟨e1, e2⟩ := HP.out.stop
      subst e1
      have d1 : ((u : Int) != (u : Int)) = false := by simp
      have HPO := Lib.hid e2
      have hI := (IsInts.of_owns hW.row).1.row
      have hBF := hb03.trans ((HG3.out _ hB).1.mono hb03.size)
      clear e2 hoq
      go_wp2
      go_ret2
      refine ⟨?_, hBF⟩
      rw [HR.out.1, HR.out.2, HPO.out, List.map_append]
      exact ⟨_, _, _, rfl, hI, by have h1 := hlen.out; have h2 := HM.out; rw [HPO.out, List.length_append, List.length_singleton] at h1; omega⟩
    | succ q =>
      have d1 : ((u : Int) != (T : Int)) = true := by have := HP.out.go; simp; omega
      obtain ⟨i, hi, hp, hn⟩ := HP.out.1.some HP.out.2.1 HP.out.2.2.1
      have hx0 := nxt_first hi hp hn
      have HN := HP.out.step
      have hxk := HN.2.1
      rw [HL.out] at hxk
      have hrng := (HV.out.2 _ (gr_mem HP.out.2.1)).2
      have hgx : gi (gr g u) i = ((nxt g zs q u : Nat) : Int) := by rw [hx0]; have := hrng _ (gi_mem _ i hi); omega
      obtain ⟨x, hx⟩ : ∃ x, nxt g zs q u = x := ⟨_, rfl⟩
      rw [hx] at HN hxk hgx
      have HNP := Lib.hid HN
      obtain ⟨b, off, au, lu, cu, rfl, hcell, hrow⟩ := hg3.fix u huk
      have hlu : lu ≤ 400 := by rw [← hrow.length]; exact row_len4 HV.out HP.out.2.1
      have hil : i < lu := by rw [← hrow.length]; exact hi
      obtain ⟨br, orr, rfl, hcx⟩ := hrow.fix i hil
      rw [hgx] at hcx
      have HF : Hid (∀ W, Below (w3.heap.size + 1) (w3.alloc (.cells #[.slice (some ⟨bz, oz, none⟩) len cd] 25)) W → W.cell? ⟨b, off + u, none⟩ = some (.slice (some ⟨br, orr, none⟩) lu cu) ∧ W.cell? ⟨br, orr + i, none⟩ = some (.int .i64 (x : Int)) ∧ IsRow .i64 W (some ⟨br, orr, none⟩) lu cu (gr g u) ∧ IsInts .i64 W (some ⟨bz, oz, none⟩) len cd zs) := Lib.hid (fun W h => by
        obtain ⟨h1, -, h3⟩ := HG3.out W h
        exact ⟨hcell W h1, hcx W h1, hrow.later h1, h3⟩)
      have HCALL : Hid (∀ W, Below (w3.heap.size + 1) (w3.alloc (.cells #[.slice (some ⟨bz, oz, none⟩) len cd] 25)) W → PathW W (w3.heap.size + 1) w3.heap.size ba (.slice (some ⟨bz, oz, none⟩) len cd) (.slice ao' (o.length + 1) co) u (o.length + 1) (o.map Int.ofNat ++ [(u : Int)]) → Calls Try.prog 42 #[.slice (some ⟨br, orr, none⟩) lu cu, .func (.func 43) #[] #[.pointer (some ⟨w3.heap.size, 0, none⟩), .pointer (some ⟨ba, 0, none⟩)]] W fun e w' => e = .returned (.int .i64 (i : Int)) ∧ Below W.heap.size W w') := Lib.hid (fun W h hw => by
        obtain ⟨-, -, h3, h4⟩ := HF.out W h
        exact index_near h3 hw.left hw.cell.1 h4 huk (fun k hk => by rw [← HL.out]; exact hrng _ (gi_mem _ k hk)) HP.out.2.2.1 (by omega) hi hp hn)
      have HS4 : Hid (w3.heap.size + 1 ≤ wr.heap.size) := Lib.hid (by have := hB.size; simpa using this)
      clear hcell hrow hcx hgx hx hx0 hp hn hrng hi HN HP hfn
      go_wp2_with (fail)
      obtain ⟨S, hSd⟩ : ∃ S : (Nat → Bool) → (Nat → Value) → World → Prop, S = fun L f W => Below (w3.heap.size + 1) (w3.alloc (.cells #[.slice (some ⟨bz, oz, none⟩) len cd] 25)) W ∧ w3.heap.size + 1 ≤ W.heap.size ∧ (stage L f W (fun W => PathW W (w3.heap.size + 1) w3.heap.size ba (.slice (some ⟨bz, oz, none⟩) len cd) (.slice ao' (o.length + 1) co) u (o.length + 1) (o.map Int.ofNat ++ [(u : Int)])) [(12, fun _ W => PathW W (w3.heap.size + 1) w3.heap.size ba (.slice (some ⟨bz, oz, none⟩) len cd) (.slice ao' (o.length + 1) co) x (o.length + 1) (o.map Int.ofNat ++ [(u : Int)]))]) := ⟨_, rfl⟩
      refine wp_region_st mixed (by kernel_rfl) [[], [], [(0, 36), (1, 37)], [(2, 38)], [], [], [(4, 40), (5, 41)], [(6, 42)], [], [(7, 43), (8, 44)], [(3, 39), (9, 45)], [(10, 46)], [(11, 47), (9, 45), (0, 36), (1, 37), (2, 38), (3, 39), (4, 40), (5, 41), (6, 42), (7, 43), (8, 44), (9, 45), (10, 46), (11, 47)]] [(0, 36), (1, 37), (2, 38), (3, 39), (4, 40), (5, 41), (6, 42), (7, 43), (8, 44), (9, 45), (10, 46), (11, 47)] rfl rfl [EV ?e0, EV ?e1, EV ?e2, EV ?e3, EV ?e4, EV ?e5, EV ?e6, EV ?e7, EV ?e8, EV (.int .i64 (i : Int)), EV ?e10, EV ?e11, fun _ => True] S ?start ?steps ?rest
      case start =>
        intro f
        rw [hSd]
        exact ⟨hB.drew, HS4.out, hW.kept ((Below.refl _ _).drew)⟩
      case steps =>
        refine ⟨fun L f W hi hd hdn hh hS => ?_, fun L f W hi hd hdn hh hS => ?_, fun L f W hi hd hdn hh hS => ?_, fun L f W hi hd hdn hh hS => ?_, fun L f W hi hd hdn hh hS => ?_, fun L f W hi hd hdn hh hS => ?_, fun L f W hi hd hdn hh hS => ?_, fun L f W hi hd hdn hh hS => ?_, fun L f W hi hd hdn hh hS => ?_, fun L f W hi hd hdn hh hS => ?_, fun L f W hi hd hdn hh hS => ?_, fun L f W hi hd hdn hh hS => ?_, fun L f W hi hd hdn hh hS => ?_, trivial⟩
        · -- 0: Op.move (Operand.tmp 0)
          unfold stStep
          rw [if_pos (by simp [Region.wanted])]
          intro K Q hK
          simp only [puts, List.foldr_nil]
          go_step
          refine st_ex hK rfl rfl (by simp only [Act.put, List.setIfInBounds_toArray, List.set_cons_succ, List.set_cons_zero, Array.getD_eq_getD_getElem?, List.getElem?_toArray, List.getElem?_cons_succ, List.getElem?_cons_zero, Option.getD_some] <;> rfl) rfl (by rw [hSd] at hS ⊢; exact hS)
        · -- 1: Op.load 3 (Operand.tmp 11)
          have l12 : L 12 = false := Bool.eq_false_iff.2 fun h => by have q := hdn 12 _ h rfl 1 (by decide); rw [show L 1 = false from hi] at q; cases q
          unfold stStep
          rw [if_pos (by simp [Region.wanted])]
          intro K Q hK
          simp only [puts, List.foldr_nil]
          have hS' := hS
          rw [hSd] at hS'
          simp only [stage, l12, if_false, Bool.false_eq_true] at hS'
          have hc3 := hS'.2.2.cell.1
          go_step
          refine st_ex hK rfl rfl (by simp only [Act.put, List.setIfInBounds_toArray, List.set_cons_succ, List.set_cons_zero, Array.getD_eq_getD_getElem?, List.getElem?_toArray, List.getElem?_cons_succ, List.getElem?_cons_zero, Option.getD_some] <;> rfl) rfl (by rw [hSd] at hS ⊢; exact hS)
        · -- 2: Op.indexAddr 33 (Operand.tmp 36) (Operand.tmp 37)
          obtain ⟨h0, h1, -⟩ := hh
          have g0 : f 0 = _ := h0
          have g1 : f 1 = _ := h1
          unfold stStep
          rw [if_pos (by simp [Region.wanted])]
          intro K Q hK
          simp only [puts, List.foldr_cons, List.foldr_nil, List.setIfInBounds_toArray, List.set_cons_succ, List.set_cons_zero, g0, g1]
          go_step
          refine st_ex hK rfl rfl (by simp only [Act.put, List.setIfInBounds_toArray, List.set_cons_succ, List.set_cons_zero, Array.getD_eq_getD_getElem?, List.getElem?_toArray, List.getElem?_cons_succ, List.getElem?_cons_zero, Option.getD_some] <;> rfl) rfl (by rw [hSd] at hS ⊢; exact hS)
        · -- 3: Op.load 25 (Operand.tmp 38)
          obtain ⟨h2, -⟩ := hh
          have g2 : f 2 = _ := h2
          unfold stStep
          rw [if_pos (by simp [Region.wanted])]
          intro K Q hK
          simp only [puts, List.foldr_cons, List.foldr_nil, List.setIfInBounds_toArray, List.set_cons_succ, List.set_cons_zero, g2]
          have hS' := hS
          rw [hSd] at hS'
          obtain ⟨q1, q2, -, -⟩ := HF.out W hS'.1
          go_step
          refine st_ex hK rfl rfl (by simp only [Act.put, List.setIfInBounds_toArray, List.set_cons_succ, List.set_cons_zero, Array.getD_eq_getD_getElem?, List.getElem?_toArray, List.getElem?_cons_succ, List.getElem?_cons_zero, Option.getD_some] <;> rfl) rfl (by rw [hSd] at hS ⊢; exact hS)
        · -- 4: Op.move (Operand.tmp 0)
          unfold stStep
          rw [if_pos (by simp [Region.wanted])]
          intro K Q hK
          simp only [puts, List.foldr_nil]
          go_step
          refine st_ex hK rfl rfl (by simp only [Act.put, List.setIfInBounds_toArray, List.set_cons_succ, List.set_cons_zero, Array.getD_eq_getD_getElem?, List.getElem?_toArray, List.getElem?_cons_succ, List.getElem?_cons_zero, Option.getD_some] <;> rfl) rfl (by rw [hSd] at hS ⊢; exact hS)
        · -- 5: Op.load 3 (Operand.tmp 11)
          have l12 : L 12 = false := Bool.eq_false_iff.2 fun h => by have q := hdn 12 _ h rfl 5 (by decide); rw [show L 5 = false from hi] at q; cases q
          unfold stStep
          rw [if_pos (by simp [Region.wanted])]
          intro K Q hK
          simp only [puts, List.foldr_nil]
          have hS' := hS
          rw [hSd] at hS'
          simp only [stage, l12, if_false, Bool.false_eq_true] at hS'
          have hc3 := hS'.2.2.cell.1
          go_step
          refine st_ex hK rfl rfl (by simp only [Act.put, List.setIfInBounds_toArray, List.set_cons_succ, List.set_cons_zero, Array.getD_eq_getD_getElem?, List.getElem?_toArray, List.getElem?_cons_succ, List.getElem?_cons_zero, Option.getD_some] <;> rfl) rfl (by rw [hSd] at hS ⊢; exact hS)
        · -- 6: Op.indexAddr 33 (Operand.tmp 40) (Operand.tmp 41)
          obtain ⟨h4, h5, -⟩ := hh
          have g4 : f 4 = _ := h4
          have g5 : f 5 = _ := h5
          unfold stStep
          rw [if_pos (by simp [Region.wanted])]
          intro K Q hK
          simp only [puts, List.foldr_cons, List.foldr_nil, List.setIfInBounds_toArray, List.set_cons_succ, List.set_cons_zero, g4, g5]
          go_step
          refine st_ex hK rfl rfl (by simp only [Act.put, List.setIfInBounds_toArray, List.set_cons_succ, List.set_cons_zero, Array.getD_eq_getD_getElem?, List.getElem?_toArray, List.getElem?_cons_succ, List.getElem?_cons_zero, Option.getD_some] <;> rfl) rfl (by rw [hSd] at hS ⊢; exact hS)
        · -- 7: Op.load 25 (Operand.tmp 42)
          obtain ⟨h6, -⟩ := hh
          have g6 : f 6 = _ := h6
          unfold stStep
          rw [if_pos (by simp [Region.wanted])]
          intro K Q hK
          simp only [puts, List.foldr_cons, List.foldr_nil, List.setIfInBounds_toArray, List.set_cons_succ, List.set_cons_zero, g6]
          have hS' := hS
          rw [hSd] at hS'
          obtain ⟨q1, q2, -, -⟩ := HF.out W hS'.1
          go_step
          refine st_ex hK rfl rfl (by simp only [Act.put, List.setIfInBounds_toArray, List.set_cons_succ, List.set_cons_zero, Array.getD_eq_getD_getElem?, List.getElem?_toArray, List.getElem?_cons_succ, List.getElem?_cons_zero, Option.getD_some] <;> rfl) rfl (by rw [hSd] at hS ⊢; exact hS)
        · -- 8: Op.makeFunc (Fn.func 46) #[] #[Operand.tmp 9, Operand.tmp 11]
          unfold stStep
          rw [if_pos (by simp [Region.wanted])]
          intro K Q hK
          simp only [puts, List.foldr_nil]
          go_step
          refine st_ex hK rfl rfl (by simp only [Act.put, List.setIfInBounds_toArray, List.set_cons_succ, List.set_cons_zero, Array.getD_eq_getD_getElem?, List.getElem?_toArray, List.getElem?_cons_succ, List.getElem?_cons_zero, Option.getD_some] <;> rfl) rfl (by rw [hSd] at hS ⊢; exact hS)
        · -- 9: Op.call { callee := Callee.value (Operand.func 45), args := #[Operand.tmp 43, Operand.tmp 
          obtain ⟨h7, h8, -⟩ := hh
          have g7 : f 7 = _ := h7
          have g8 : f 8 = _ := h8
          have l12 : L 12 = false := Bool.eq_false_iff.2 fun h => by have q := hdn 12 _ h rfl 9 (by decide); rw [show L 9 = false from hi] at q; cases q
          unfold stStep
          rw [if_pos (by simp [Region.wanted])]
          intro K Q hK
          simp only [puts, List.foldr_cons, List.foldr_nil, List.setIfInBounds_toArray, List.set_cons_succ, List.set_cons_zero, g7, g8]
          rw [hSd] at hS hK
          have l9 : L 9 = false := hi
          try simp only [stage, l12, l9, if_true, if_false, Bool.false_eq_true] at hS
          obtain ⟨hbW, hsW, hPW⟩ := hS
          go_step
          go_at_call 42
          refine (HCALL.out W hbW hPW).mono ?_
          rintro e w' ⟨rfl, hb⟩
          refine hK.out _ _ rfl rfl ?_
          refine ⟨hbW.trans (hb.mono hsW), Nat.le_trans hsW hb.size, ?_⟩
          simp only [stage, l12, if_false, Bool.false_eq_true]
          first | exact hPW.kept hb | (simp; exact hPW.kept hb)
        · -- 10: Op.indexAddr 25 (Operand.tmp 39) (Operand.tmp 45)
          obtain ⟨h3, h9, -⟩ := hh
          have g3 : f 3 = _ := h3
          have g9 : f 9 = _ := h9
          unfold stStep
          rw [if_pos (by simp [Region.wanted])]
          intro K Q hK
          simp only [puts, List.foldr_cons, List.foldr_nil, List.setIfInBounds_toArray, List.set_cons_succ, List.set_cons_zero, g3, g9]
          go_step
          refine st_ex hK rfl rfl (by simp only [Act.put, List.setIfInBounds_toArray, List.set_cons_succ, List.set_cons_zero, Array.getD_eq_getD_getElem?, List.getElem?_toArray, List.getElem?_cons_succ, List.getElem?_cons_zero, Option.getD_some] <;> rfl) rfl (by rw [hSd] at hS ⊢; exact hS)
        · -- 11: Op.load 3 (Operand.tmp 46)
          obtain ⟨h10, -⟩ := hh
          have g10 : f 10 = _ := h10
          unfold stStep
          rw [if_pos (by simp [Region.wanted])]
          intro K Q hK
          simp only [puts, List.foldr_cons, List.foldr_nil, List.setIfInBounds_toArray, List.set_cons_succ, List.set_cons_zero, g10]
          have hS' := hS
          rw [hSd] at hS'
          obtain ⟨q1, q2, -, -⟩ := HF.out W hS'.1
          go_step
          refine st_ex hK rfl rfl (by simp only [Act.put, List.setIfInBounds_toArray, List.set_cons_succ, List.set_cons_zero, Array.getD_eq_getD_getElem?, List.getElem?_toArray, List.getElem?_cons_succ, List.getElem?_cons_zero, Option.getD_some] <;> rfl) rfl (by rw [hSd] at hS ⊢; exact hS)
        · -- 12: Op.store 3 (Operand.tmp 11) (Operand.tmp 47)
          obtain ⟨h11, h9, h0, h1, h2, h3, h4, h5, h6, h7, h8, _, h10, _, -⟩ := hh
          have g11 : f 11 = _ := h11
          have g9 : f 9 = _ := h9
          have g0 : f 0 = _ := h0
          have g1 : f 1 = _ := h1
          have g2 : f 2 = _ := h2
          have g3 : f 3 = _ := h3
          have g4 : f 4 = _ := h4
          have g5 : f 5 = _ := h5
          have g6 : f 6 = _ := h6
          have g7 : f 7 = _ := h7
          have g8 : f 8 = _ := h8
          have g10 : f 10 = _ := h10
          unfold stStep
          rw [if_pos (by simp [Region.wanted])]
          intro K Q hK
          simp only [puts, List.foldr_cons, List.foldr_nil, List.setIfInBounds_toArray, List.set_cons_succ, List.set_cons_zero, g11, g9, g0, g1, g2, g3, g4, g5, g6, g7, g8, g10]
          rw [hSd] at hS hK
          have l12 : L 12 = false := hi
          try simp only [stage, l12, if_true, if_false, Bool.false_eq_true] at hS
          obtain ⟨hbW, hsW, hPW⟩ := hS
          obtain ⟨hc9, hf9⟩ := hPW.cell
          go_step
          refine hK.out _ _ rfl trivial ?_
          exact ⟨hbW.setCell hPW.base _, by rw [World.size_setCell]; exact hsW, hPW.put x⟩
      case rest =>
        intro L f WA hL hh hS
        rw [hSd] at hS
        clear hSd
        have l12 : L 12 = true := hL 12 (by decide)
        simp only [stage, l12, if_true] at hS
        clear hL l12
        obtain ⟨h0, h1, h2, h3, h4, h5, h6, h7, h8, h9, h10, h11, -⟩ := hh
        have g0 : f 0 = _ := h0
        have g1 : f 1 = _ := h1
        have g2 : f 2 = _ := h2
        have g3 : f 3 = _ := h3
        have g4 : f 4 = _ := h4
        have g5 : f 5 = _ := h5
        have g6 : f 6 = _ := h6
        have g7 : f 7 = _ := h7
        have g8 : f 8 = _ := h8
        have g9 : f 9 = _ := h9
        have g10 : f 10 = _ := h10
        have g11 : f 11 = _ := h11
        simp only [puts, List.foldr_cons, List.foldr_nil, List.setIfInBounds_toArray, List.set_cons_succ, List.set_cons_zero, g0, g1, g2, g3, g4, g5, g6, g7, g8, g9, g10, g11]
        clear h0 h1 h2 h3 h4 h5 h6 h7 h8 h9 h10 h11 g0 g1 g2 g3 g4 g5 g6 g7 g8 g9 g10 g11
        obtain ⟨hbW, hsW, hPW⟩ := hS
        have hcx := hPW.cell.1
        have HQ : Hid (o.length + 1 + q ≤ 400) := Lib.hid (by omega)
        have HPWA : Hid (PathW WA (w3.heap.size + 1) w3.heap.size ba (.slice (some ⟨bz, oz, none⟩) len cd) (.slice ao' (o.length + 1) co) x (o.length + 1) (o.map Int.ofNat ++ [(u : Int)])) := Lib.hid hPW
        have hrw := hPW.row
        have HBA : Hid (ba < WA.heap.size) := Lib.hid (Array.getElem?_eq_some_iff.1 hPW.node).1
        clear hW hB hcn hPW hoq
        go_wp2_with (at_builtin; refine app_one_g (k := .i64) elI64 rfl _ _ rfl rfl hrw rfl (by have := HQ.out; omega) hsW ?_; intro a6 c6 w6 ho6 hb6 hk6; have hc6 : w6.cell? ⟨ba, 0, none⟩ = some (.int .i64 (x : Int)) := (by have e := HPWA.out.cell.1; simp only [World.cell?] at e ⊢; rw [hk6 ba HBA.out (fun e2 => HPWA.out.ne ba e2 rfl)]; exact e))
        have hnx := HPWA.out.next ho6 hb6
        have hbn : Below (w3.heap.size + 1) (w3.alloc (.cells #[.slice (some ⟨bz, oz, none⟩) len cd] 25)) (w6.alloc (.cells #[.int .i64 (x : Int)] 3)) := (hbW.trans hb6).alloc (Nat.le_trans hsW hb6.size) _
        go_roundg q
        case rel => exact ⟨o ++ [u], x, w6.heap.size, c6, a6, by rw [List.length_append]; rfl, rfl, hxk, by rw [List.length_append]; exact HQ.out, HNP.out, by rw [List.length_append, List.map_append]; exact hnx, hbn⟩
        case measure => exact Nat.lt_succ_self q

theorem path_bad {x y : Int} (hg : IsRows w a len cap g) (h0 : checkV g [x, y] ≠ 0) :
    Calls Try.prog 23 #[.slice a len cap, .int .i64 x, .int .i64 y] w fun e w' => LRes (ptR g x y) (ptE g x y) e w' ∧ Below w.heap.size w w' := by
  have hck := check_two hg x y
  have HR : Hid (ptR g x y = [] ∧ ptE g x y = checkV g [x, y]) := Lib.hid ⟨by unfold ptR; rw [if_neg (fun h => h0 h.1)], by unfold ptE; rw [if_neg h0]⟩
  obtain ⟨c, hc⟩ : ∃ c, checkV g [x, y] = c := ⟨_, rfl⟩
  rw [hc] at hck h0 HR
  have d0 : (c != 0) = true := by simpa using h0
  clear h0 hc
  go_enter Try.func23, Try.ntmps23
  go_wp2_with (fail)
  refine hck.mono ?_
  rintro e w1 ⟨rfl, hb1⟩
  clear hck
  go_wp2
  go_ret2
  exact ⟨by rw [HR.out.1, HR.out.2]; exact ⟨_, _, _, rfl, isRow_nil _, by omega⟩, hb1⟩

theorem path_l {x y : Int} (hg : IsRows w a len cap g) :
    Calls Try.prog 23 #[.slice a len cap, .int .i64 x, .int .i64 y] w fun e w' => LRes (ptR g x y) (ptE g x y) e w' ∧ Below w.heap.size w w' := by
  by_cases h0 : checkV g [x, y] = 0
  · obtain ⟨hv, F, T, rfl, rfl, hF, hT⟩ := checkV_two.1 h0
    exact path_ok hg hv (by rw [← hg.length]; exact hF) (by rw [← hg.length]; exact hT)
  · exact path_bad hg h0
end Go.Proofs.Ytlogmgkjikamaaa
