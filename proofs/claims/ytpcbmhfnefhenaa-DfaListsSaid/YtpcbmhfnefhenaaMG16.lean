import Derived.Test.YtpcbmhfnefhenaaShelf
import Derived.Deep.DeepCutAuto
import Derived.Deep.QuietTactic
import Derived.BigQuiet
import Derived.Laws.CopyRow
import Derived.Laws.CopyOwn
import Derived.Test.YtpcbmhfnefhenaaMG1
import Derived.Test.YtpcbmhfnefhenaaMG6
import Derived.Test.YtpcbmhfnefhenaaMG12
import Derived.Test.YtpcbmhfnefhenaaMG13
import Derived.Test.YtpcbmhfnefhenaaMG15
/-
  DfaWk, DfaWl
-/
set_option linter.unusedSimpArgs false
set_option linter.unusedVariables false
namespace Go.Proofs.Ytpcbmhfnefhenaa
open Go.RowKit
attribute [local go_sem] Oper.semAt_some

theorem below_nq (w : World) (n : Nat) : Below w.heap.size w (w.drewN n) := ⟨rfl, rfl, rfl, Nat.le_refl _, fun _ _ => rfl⟩
theorem elWW : Elem Try.prog 53 40 (.slice none 0 0) 1 24 := ⟨Try.underlying53, by kernel_rfl, rfl, by decide⟩
theorem elBB : Elem Try.prog 94 22 (.slice none 0 0) 1 24 := ⟨Try.underlying94, by kernel_rfl, rfl, by decide⟩
theorem clone_ints {w : World} {a : Option Addr} {len cap : Nat} {zs : List Int} (h : IsInts .i64 w a len cap zs) (h0 : a = none → len = 0) (hl : len ≤ 1000000) :
  Calls Try.prog 75 #[.slice a len cap] w fun e w' => (∃ a' c', e = .returned (.slice a' len c') ∧ w'.ownsRow w.heap.size 3 1 (.slice a' len c') len (ivs .i64 zs)) ∧ Below w.heap.size w w' := by
 have hzl := h.length
 cases a with
 | none =>
  obtain rfl := h0 rfl
  have hz : zs = [] := List.eq_nil_of_length_eq_zero hzl
  subst hz
  refine (Try.slices_Clone_int_nil 0 cap w).mono ?_
  rintro e w' ⟨rfl, rfl⟩
  exact ⟨⟨none, 0, rfl, World.ownsRow_nil _ _ _ _⟩, Below.refl _ _⟩
 | some ad =>
  rcases h with ⟨e, _⟩ | ⟨b, off, e, h1, h2, h3, h4⟩
  ·cases e
  ·injection e with e
   subst e
   refine (Try.slices_Clone_int b off len cap zs w (by omega) (by omega) (fun j hj => h4 j (by omega))).mono ?_
   rintro e w' ⟨v', rfl, ho, -, hb⟩
   rw [List.take_of_length_le (by omega)] at ho
   have hs : ∃ a' c', v' = .slice a' len c' := by
    rcases ho.2 with ⟨e1, e2⟩ | ⟨g, c, cur, e1, _⟩
    ·exact ⟨none, 0, by rw [e1, e2]⟩
    ·exact ⟨_, _, e1⟩
   obtain ⟨a', c', rfl⟩ := hs
   exact ⟨⟨a', c', rfl, ho⟩, hb⟩
def srC (d : Dfa) (h : DH) (ca : Option Addr) (cl cc m : Nat) (oa : Option Addr) (ol oc : Nat) : Array Value := #[.int .i64 d.n, .int .i64 d.s, .slice h.fa h.fl h.fc, .slice h.aa h.al h.ac, .slice ca cl cc, .int .i64 (m : Int), .slice oa ol oc]
def srPs (sb : Nat) (cs : Array Value) (oa : Option Addr) (oc : Nat) (vs : List Wd) (X : List Pc) : List Pc := .blk sb cs :: .row 40 1 (.slice oa vs.length oc) vs.length (vs.map Wd.v) :: (vs.map Wd.pc ++ X)
section
variable {W W' : World} {B sb oc : Nat} {cs : Array Value} {oa : Option Addr} {vs : List Wd} {X : List Pc}
theorem sr_more {p : Pc} (hP : Pcs W B (srPs sb cs oa oc vs X)) (hb : Below W.heap.size W W') (h0 : p.At W' B) (hk : ∀ k, p.own = some k → W.heap.size ≤ k) : Pcs W' B (srPs sb cs oa oc vs (p :: X)) := by
 refine (hP.add p (below_grows hb none) h0 hk).turn ?_
 unfold srPs
 rw [List.cons_append, List.cons_append, List.append_assoc]
 exact .cons _ (.cons _ (List.Perm.append_left _ (List.perm_append_singleton _ _)))
theorem sr_drop {p : Pc} (hP : Pcs W B (srPs sb cs oa oc vs (p :: X))) : Pcs W B (srPs sb cs oa oc vs X) :=
 hP.sub (.cons_cons _ (.cons_cons _ ((List.Sublist.refl _).append (List.sublist_cons_self _ _))))
theorem sr_in (hP : Pcs W B (srPs sb cs oa oc vs X)) : ∀ p ∈ X, p.At W B := fun p hp => (pcsIff.1 hP).1 p (List.mem_cons_of_mem _ (List.mem_cons_of_mem _ (List.mem_append_right _ hp)))
theorem sr_ws (hP : Pcs W B (srPs sb cs oa oc vs X)) : IsWs W oa vs.length oc (vs.map Wd.z) :=
 ws_of (hP.row 1 rfl) fun x hx => (pcsIff.1 hP).1 _ (List.mem_cons_of_mem _ (List.mem_cons_of_mem _ (List.mem_append_left _ (List.mem_map_of_mem hx))))
theorem sr_base (hP : Pcs W B (srPs sb cs oa oc vs X)) : B ≤ sb ∧ sb < W.heap.size := ⟨(hP.blk 0 rfl).1, (hP.blk 0 rfl).2.lt⟩
theorem sr_push {x : Wd} {a : Option Addr} {c : Nat} (hP : Pcs W B ((srPs sb cs oa oc vs (x.pc :: X)).set 1 (.row 40 1 (.slice a (vs.length + 1) c) (vs.length + 1) (vs.map Wd.v ++ [x.v])))) : Pcs W B (srPs sb cs a c (vs ++ [x]) X) := by
 have e : srPs sb cs a c (vs ++ [x]) X = (srPs sb cs oa oc vs (x.pc :: X)).set 1 (.row 40 1 (.slice a (vs.length + 1) c) (vs.length + 1) (vs.map Wd.v ++ [x.v])) := by
  unfold srPs
  rw [List.map_append, List.map_append, List.length_append, List.append_assoc]
  rfl
 rw [e]
 exact hP
theorem sr_cell (hP : Pcs W B (srPs sb cs oa oc vs X)) (cs' : Array Value) (j : Nat) (u : Value) (e : cs.setIfInBounds j u = cs') : Pcs (W.setCell ⟨sb, j, none⟩ u) B (srPs sb cs' oa oc vs X) := by
 have h := hP.blkStore 0 rfl j u
 rw [e] at h
 exact h
end
variable {d : Dfa} {h : DH} {W0 W : World} {B sb m cl cc oc wc : Nat} {ca oa wa : Option Addr} {vs : List Wd} {X : List Pc} {word : List Int}
def SrX (d : Dfa) (B : Nat) (ca : Option Addr) (cl : Nat) (wa : Option Addr) (wc : Nat) (word : List Int) (X : List Pc) : Prop := ∀ W, (∀ p ∈ X, p.At W B) → IsTab W ca cl (canT d) ∧ IsInts .i64 W wa word.length wc word
set_option maxRecDepth 20000 in
set_option maxHeartbeats 4000000 in
theorem words_stop (hv : ValidD d) {k : Nat} {q : Int} (hq : InD d q) (hk : k < cl) (hX : SrX d B ca cl wa wc word X) (hP : Pcs W B (srPs sb (srC d h ca cl cc m oa vs.length oc) oa oc vs X)) (hs : m ≤ vs.length ∨ canB d k q = false) :
  Calls Try.prog 59 #[.pointer (some ⟨sb, 0, none⟩), .slice wa word.length wc, .int .i64 q, .int .i64 (k : Int)] W fun e w' => e = .returned (.tuple #[]) ∧ Below W.heap.size W w' := by
 obtain ⟨hT, -⟩ := hX W (sr_in hP)
 have hblk := (hP.blk 0 rfl).2
 have c4 : W.cell? ⟨sb, 4, none⟩ = some (.slice ca cl cc) := (hblk.cell 4).1
 have c5 : W.cell? ⟨sb, 5, none⟩ = some (.int .i64 (m : Int)) := (hblk.cell 5).1
 have c6 : W.cell? ⟨sb, 6, none⟩ = some (.slice oa vs.length oc) := (hblk.cell 6).1
 obtain ⟨Q, rfl⟩ := Int.eq_ofNat_of_zero_le hq.1
 have hQ : Q < d.n.toNat := by have := hq.2; omega
 obtain ⟨b, off, x, c, rfl, t1, t2⟩ := hT k hk
 rw [canT_len] at t1 t2
 obtain ⟨bx, ox, rfl, hx⟩ := t2.fix (by omega)
 have t3 := hx W (Below.refl _ _) Q hQ
 rw [canT_at hq.2] at t3
 obtain ⟨N, hN⟩ : ∃ N, d.n.toNat = N := ⟨_, rfl⟩
 rw [hN] at t1 hQ
 clear hP hX hblk hT hx t2 hN hq hv
 by_cases h1 : m ≤ vs.length
 ·have q1 : decide ((m : Int) ≤ (vs.length : Int)) = true := decide_eq_true (by omega)
  clear hs
  go_enter Try.func59, Try.ntmps59
  go_upto_region 0 with (fail)
  go_quiet (fail)
  go_wp2_with (fail)
  exact ⟨rfl, _, results_none rfl _ _ _, rfl, below_nq W nq⟩
 ·have q1 : decide ((m : Int) ≤ (vs.length : Int)) = false := decide_eq_false (by omega)
  rw [hs.resolve_left h1] at t3
  clear hs
  go_enter Try.func59, Try.ntmps59
  go_upto_region 0 with (fail)
  go_quiet (fail)
  go_wp2_with (fail)
  exact ⟨rfl, _, results_none rfl _ _ _, rfl, below_nq W nq⟩
end Go.Proofs.Ytpcbmhfnefhenaa

set_option linter.unusedSimpArgs false
set_option linter.unusedVariables false
namespace Go.Proofs.Ytpcbmhfnefhenaa
open List (foldr_cons foldr_nil setIfInBounds_toArray set_cons_succ set_cons_zero)
open Go.RowKit
attribute [local go_sem] Oper.semAt_some

theorem wp_app_full {P : Program} {T E : TypeId} {z : Value} {bytes : Nat} {k : IntKind} (el : Elem P T E z 1 bytes) {w : World} {o : Oper} {a : Act} {K : Act → World → Prop} {Q : Exit → Act → World → Prop} (s x : Operand)
  (ho : o.op = .call { callee := .builtin .append, args := #[s, x], argTypes := #[T, T] })
  {B n : Nat} {ad : Option Addr} {xs : List Int} (hs : a.eval s = .slice ad n n) (hin : IsInts k w ad n n xs)
  {ao : Option Addr} {m c : Nat} {ys : List Int} (hx : a.eval x = .slice ao m c) (hsrc : IsInts k w ao m c ys) (hm : 0 < m)
  (hb : (n + m) * (bytes + 1) ≤ 70000000000000) (hB : B ≤ w.heap.size)
  (h : ∀ a' c' w', w'.ownsRow B E 1 (.slice a' (n + m) c') (n + m) (ivs k (xs ++ ys)) → w.grownBy w' none → Below w.heap.size w w' → K (a.put o.dst (.slice a' (n + m) c')) w') : o.wp P a w K Q := by
 obtain ⟨i, hi, hz, hsize, hby⟩ := info_parts el.info
 have hb1 : (n + m) * bytes + (n + m) ≤ 70000000000000 := by rw [← Nat.mul_succ]; exact hb
 rcases hin with ⟨rfl, rfl, -, rfl⟩ | ⟨b, off, rfl, h1, h2, h3, h4⟩
 ·refine wp_app_ints (k := k) (B := w.heap.size) (xs := []) (v := .slice none 0 0) (n := 0) el s x ho hs (World.ownsRow_nil _ _ _ _) hx hsrc (by omega) (Nat.le_refl _) ?_
  intro a' c' w' g1 g2 g3 _
  exact h a' c' w' (g1.from_mono hB) g2 g3
 ·obtain ⟨hs1, hs2, hs3⟩ := ints_src hsrc
  obtain ⟨xb, rfl⟩ : ∃ xb, ao = some xb := by
   cases ao with
   | none => have := (hs3 rfl).1; omega
   | some xb => exact ⟨xb, rfl⟩
  obtain ⟨ho1, ho2, -⟩ := ints_src (k := k) (w := w) (a := some ⟨b, off, none⟩) (len := n) (cap := n) (zs := xs) (.inr ⟨b, off, rfl, h1, h2, h3, h4⟩)
  have hrun := run_append_grow (P := P) (w := w) T o.type E i z el.ht hi hz ⟨b, off, none⟩ n n (xs.map (Value.int k)) (by rw [hsize]; exact ho1) (ho2 _ rfl) xb m c (ys.map (Value.int k)) (by rw [hsize]; exact hs1) (hs2 _ rfl) (by omega) (by omega) (growslice_fits (by omega) (by rw [hby]; omega))
  have hge := grownCap_ge w (n + m) n E
  have hle := grownCap_le_maxLen w (n + m) n E (by unfold maxLen; omega)
  obtain ⟨C, hC⟩ : ∃ C, grownCap w (n + m) n E = C := ⟨_, rfl⟩
  rw [hC] at hrun hge hle
  unfold Oper.wp execOp
  simp only [ho, resolve, invoke, builtin, Sem.run_bind, Sem.run_pure, Result.andThen_ok, List.map_toArray, List.map_cons, List.map_nil, hs, hx, hrun]
  refine h _ _ _ ⟨by simp [ivs] at ho1 hs1 ⊢; omega, .inr ⟨w.heap.size, C, _, rfl, hB, heap_alloc_new w.drew _, hge, hle, ?_, ?_⟩⟩ ?_ ?_
  ·have hzc : (Builtin.zeroCells z.cells (C - (n + m))).size = (C - (n + m)) * 1 := by rw [size_zeroCells, el.cells]
   simp only [Array.size_append, List.size_toArray, hzc]
   rw [ho1, hs1]
   omega
  ·simp only [Array.toList_append]
   rw [Nat.mul_one, List.take_append_of_le_length (by simp at ho1 hs1 ⊢; omega), List.take_of_length_le (by simp at ho1 hs1 ⊢; omega)]
   simp [ivs]
  ·exact ⟨rfl, rfl, rfl, by simp, fun k hk _ => Below.heap_alloc w.drew _ k hk⟩
  ·exact (Below.refl _ _).drew.alloc (Nat.le_refl _) _
variable {d : Dfa} {h : DH} {W0 W : World} {B sb m cl cc oc wc : Nat} {ca oa wa : Option Addr} {vs : List Wd} {X : List Pc} {word : List Int}
theorem one_at {W : World} {q : Nat} {x : Int} (hq : BlkAt W q #[.int .i64 x]) : IsInts .i64 W (some ⟨q, 0, none⟩) 1 1 [x] :=
 .inr ⟨q, 0, rfl, Nat.le_refl _, by unfold maxLen; omega, rfl, fun i hi => by
  obtain rfl : i = 0 := by omega
  exact (hq.cell 0).1⟩
def SrPost (d : Dfa) (h : DH) (W0 : World) (B sb m : Nat) (ca : Option Addr) (cl cc : Nat) (X : List Pc) (Q : List (List Int)) (W : World) : Prop := ∃ oa oc vs, vs.map Wd.z = Q ∧ Pcs W B (srPs sb (srC d h ca cl cc m oa vs.length oc) oa oc vs X) ∧ Below B W0 W
set_option maxRecDepth 20000 in
set_option maxHeartbeats 4000000 in
theorem words_last (hv : ValidD d) {q : Int} (hq : InD d q) (hk : 0 < cl) (hX : SrX d B ca cl wa wc word X) (h0 : wa = none → word.length = 0) (hwl : word.length ≤ 100000) (hP : Pcs W B (srPs sb (srC d h ca cl cc m oa vs.length oc) oa oc vs X)) (hb : Below B W0 W) (hm : m ≤ 1000) (h1 : ¬ m ≤ vs.length) (h2 : canB d 0 q = true) :
  Calls Try.prog 59 #[.pointer (some ⟨sb, 0, none⟩), .slice wa word.length wc, .int .i64 q, .int .i64 0] W fun e w' => e = .returned (.tuple #[]) ∧ SrPost d h W0 B sb m ca cl cc X (vs.map Wd.z ++ [word]) w' := by
 obtain ⟨hT, -⟩ := hX W (sr_in hP)
 have hblk := (hP.blk 0 rfl).2
 have hsb := sr_base hP
 have c4 : W.cell? ⟨sb, 4, none⟩ = some (.slice ca cl cc) := (hblk.cell 4).1
 have c5 : W.cell? ⟨sb, 5, none⟩ = some (.int .i64 (m : Int)) := (hblk.cell 5).1
 have c6 : W.cell? ⟨sb, 6, none⟩ = some (.slice oa vs.length oc) := (hblk.cell 6).1
 obtain ⟨Q, rfl⟩ := Int.eq_ofNat_of_zero_le hq.1
 have hQ : Q < d.n.toNat := by have := hq.2; omega
 obtain ⟨b, off, x, c, rfl, t1, t2⟩ := hT 0 hk
 rw [canT_len] at t1 t2
 rw [Nat.add_zero] at t1
 obtain ⟨bx, ox, rfl, hx⟩ := t2.fix (by omega)
 have t3 := hx W (Below.refl _ _) Q hQ
 rw [canT_at hq.2, h2] at t3
 obtain ⟨N, hN⟩ : ∃ N, d.n.toNat = N := ⟨_, rfl⟩
 rw [hN] at t1 hQ
 obtain ⟨C0, hC0⟩ : ∃ C0, srC d h (some ⟨b, off, none⟩) cl cc m oa vs.length oc = C0 := ⟨_, rfl⟩
 have HC6 : Hid (∀ W' a' c' vs' X', Pcs W' B (srPs sb C0 a' c' vs' X') → W'.cell? ⟨sb, 6, none⟩ = some (.slice oa vs.length oc) ∧ W'.frozen? ⟨sb, 6, none⟩ = false) := Lib.hid (fun W' a' c' vs' X' hp => by rw [← hC0] at hp; exact (hp.blk 0 rfl).2.cell 6)
 have HCS : Hid (∀ a' c', C0.setIfInBounds 6 (.slice a' (vs.length + 1) c') = srC d h (some ⟨b, off, none⟩) cl cc m a' (vs.length + 1) c') := Lib.hid (fun a' c' => by rw [← hC0]; rfl)
 rw [hC0] at hP
 have HP := Lib.hid hP
 have HB := Lib.hid hb
 have HX := Lib.hid hX
 have HSB := Lib.hid hsb
 have q1 : decide ((m : Int) ≤ (vs.length : Int)) = false := decide_eq_false (by omega)
 have hvl : vs.length < 1000 := by omega
 clear hP hX hblk hT hx t2 hN hq hv h2 hb hC0 hsb
 go_enter Try.func59, Try.ntmps59
 go_upto_region 0 with (fail)
 go_quiet (fail)
 go_upto_region 2 with (fail)
 obtain ⟨S, hSd⟩ : ∃ S : (Nat → Bool) → (Nat → Value) → World → Prop, S = fun L f W' => Below B W0 W' ∧ (L 6 = false → Pcs W' B (srPs sb C0 oa oc vs X)) ∧ (L 6 = true → ∃ x : Wd, x.z = word ∧ f 6 = x.v ∧ (L 7 = true → L 8 = false → ∃ q, f 7 = .slice (some ⟨q, 0, none⟩) 1 1 ∧ BlkAt W' q #[x.v]) ∧ (L 8 = false → Pcs W' B (srPs sb C0 oa oc vs (x.pc :: X))) ∧ (L 8 = true → ∃ a c, f 8 = .slice a (vs.length + 1) c ∧ (L 11 = false → Pcs W' B (srPs sb C0 a c (vs ++ [x]) X)) ∧ (L 11 = true → Pcs W' B (srPs sb (srC d h (some ⟨b, off, none⟩) cl cc m a (vs.length + 1) c) a c (vs ++ [x]) X)))) := ⟨_, rfl⟩
 refine wp_region_st mixed (by kernel_rfl) [[], [], [(1, 36)], [(2, 37)], [(3, 38)], [], [(5, 40)], [(6, 41)], [(4, 39), (7, 42), (6, 41)], [(0, 35), (0, 35), (1, 36), (2, 37), (3, 38), (4, 39), (5, 40), (6, 41), (7, 42), (8, 43)], [(9, 44), (0, 35), (1, 36), (2, 37), (3, 38), (4, 39), (5, 40), (6, 41), (7, 42), (8, 43)], [(10, 45), (8, 43), (8, 43), (0, 35), (1, 36), (2, 37), (3, 38), (4, 39), (5, 40), (6, 41), (7, 42), (8, 43)]] [(0, 35), (1, 36), (2, 37), (3, 38), (4, 39), (5, 40), (6, 41), (7, 42), (8, 43), (9, 44), (10, 45)] rfl rfl [EV ?e0, EV ?e1, EV ?e2, EV ?e3, EV ?e4, EV ?e5, fun v => ∃ a c, v = .slice a word.length c, fun v => ∃ b, v = .slice (some ⟨b, 0, none⟩) 1 1, fun v => ∃ a c, v = .slice a (vs.length + 1) c, EV ?e9, EV ?e10, fun _ => True] S ?start ?steps ?rest
 case start =>
  intro f
  rw [hSd]
  exact ⟨HB.out.trans ((below_nq W nq).drew.mono (Nat.le_trans (Nat.le_trans HSB.out.1 (Nat.le_of_lt HSB.out.2)) (Nat.le_refl _))), fun _ => HP.out.quiet (below_grows ((below_nq W nq).drew) none), fun h => (by cases h)⟩
 case steps =>
  refine ⟨fun L f W hi hd hdn hh hS => ?_, fun L f W hi hd hdn hh hS => ?_, fun L f W hi hd hdn hh hS => ?_, fun L f W hi hd hdn hh hS => ?_, fun L f W hi hd hdn hh hS => ?_, fun L f W hi hd hdn hh hS => ?_, fun L f W hi hd hdn hh hS => ?_, fun L f W hi hd hdn hh hS => ?_, fun L f W hi hd hdn hh hS => ?_, fun L f W hi hd hdn hh hS => ?_, fun L f W hi hd hdn hh hS => ?_, fun L f W hi hd hdn hh hS => ?_, trivial⟩
  ·
   unfold stStep
   rw [if_pos (by simp [Region.wanted])]
   intro K Q hK
   simp only [puts, foldr_nil]
   go_step
   refine st_ex hK rfl rfl (by simp only [Act.put, setIfInBounds_toArray, set_cons_succ, set_cons_zero, Array.getD_eq_getD_getElem?, List.getElem?_toArray, List.getElem?_cons_succ, List.getElem?_cons_zero, Option.getD_some] <;> rfl) rfl (by rw [hSd] at hS ⊢; exact hS)
  ·
   unfold stStep
   rw [if_pos (by simp [Region.wanted])]
   intro K Q hK
   simp only [puts, foldr_nil]
   go_step
   refine st_ex hK rfl rfl (by simp only [Act.put, setIfInBounds_toArray, set_cons_succ, set_cons_zero, Array.getD_eq_getD_getElem?, List.getElem?_toArray, List.getElem?_cons_succ, List.getElem?_cons_zero, Option.getD_some] <;> rfl) rfl (by rw [hSd] at hS ⊢; exact hS)
  ·
   obtain ⟨h1, -⟩ := hh
   have g1 : f 1 = _ := h1
   unfold stStep
   rw [if_pos (by simp [Region.wanted])]
   intro K Q hK
   simp only [puts, Za, Zb, Zc, Zd, Ze, g1]
   go_step
   refine st_ex hK rfl rfl (by simp only [Act.put, setIfInBounds_toArray, set_cons_succ, set_cons_zero, Array.getD_eq_getD_getElem?, List.getElem?_toArray, List.getElem?_cons_succ, List.getElem?_cons_zero, Option.getD_some] <;> rfl) rfl (by rw [hSd] at hS ⊢; exact hS)
  ·
   obtain ⟨h2, -⟩ := hh
   have g2 : f 2 = _ := h2
   unfold stStep
   rw [if_pos (by simp [Region.wanted])]
   intro K Q hK
   simp only [puts, Za, Zb, Zc, Zd, Ze, g2]
   go_step
   refine st_ex hK rfl rfl (by simp only [Act.put, setIfInBounds_toArray, set_cons_succ, set_cons_zero, Array.getD_eq_getD_getElem?, List.getElem?_toArray, List.getElem?_cons_succ, List.getElem?_cons_zero, Option.getD_some] <;> rfl) rfl (by rw [hSd] at hS ⊢; exact hS)
  ·
   obtain ⟨h3, -⟩ := hh
   have g3 : f 3 = _ := h3
   have l8 : L 8 = false := Bool.eq_false_iff.2 fun h => by have q := hdn 8 _ h rfl 4 (by decide); rw [show L 4 = false from hi] at q; cases q
   unfold stStep
   rw [if_pos (by simp [Region.wanted])]
   intro K Q hK
   simp only [puts, Za, Zb, Zc, Zd, Ze, g3]
   have hS' := hS
   rw [hSd] at hS'
   have x4 : W.cell? ⟨sb, 6, none⟩ = some (.slice oa vs.length oc) := by
    cases h6 : L 6 with
    | false => exact (HC6.out _ _ _ _ _ (hS'.2.1 h6)).1
    | true =>
     obtain ⟨x, -, -, -, hp, -⟩ := hS'.2.2 h6
     exact (HC6.out _ _ _ _ _ (hp l8)).1
   go_step
   refine st_ex hK rfl rfl (by simp only [Act.put, setIfInBounds_toArray, set_cons_succ, set_cons_zero, Array.getD_eq_getD_getElem?, List.getElem?_toArray, List.getElem?_cons_succ, List.getElem?_cons_zero, Option.getD_some] <;> rfl) rfl (by rw [hSd] at hS ⊢; exact hS)
  ·
   unfold stStep
   rw [if_pos (by simp [Region.wanted])]
   intro K Q hK
   simp only [puts, foldr_nil]
   go_step
   refine st_ex hK rfl rfl (by simp only [Act.put, setIfInBounds_toArray, set_cons_succ, set_cons_zero, Array.getD_eq_getD_getElem?, List.getElem?_toArray, List.getElem?_cons_succ, List.getElem?_cons_zero, Option.getD_some] <;> rfl) rfl (by rw [hSd] at hS ⊢; exact hS)
  ·
   obtain ⟨h5, -⟩ := hh
   have g5 : f 5 = _ := h5
   have l7 : L 7 = false := Bool.eq_false_iff.2 fun h => by have q := hdn 7 _ h rfl 6 (by decide); rw [show L 6 = false from hi] at q; cases q
   have l8 : L 8 = false := Bool.eq_false_iff.2 fun h => by have q := hdn 8 _ h rfl 6 (by decide); rw [show L 6 = false from hi] at q; cases q
   have l11 : L 11 = false := Bool.eq_false_iff.2 fun h => by have q := hdn 11 _ h rfl 6 (by decide); rw [show L 6 = false from hi] at q; cases q
   unfold stStep
   rw [if_pos (by simp [Region.wanted])]
   intro K Q hK
   simp only [puts, Za, Zb, Zc, Zd, Ze, g5]
   rw [hSd] at hS hK
   have l6 : L 6 = false := hi
   try simp only [stage, l7, l8, l11, l6, if_true, if_false, Bool.false_eq_true] at hS
   obtain ⟨hbW, hp1, -⟩ := hS
   have hp2 : Pcs W B (srPs sb C0 oa oc vs X) := by first | exact hp1 | exact hp1 trivial | exact hp1 rfl
   have hsz := (sr_base hp2)
   go_step
   go_at_call 75
   refine (clone_ints (HX.out W (sr_in hp2)).2 h0 (by omega)).mono ?_
   rintro e w' ⟨⟨a', c', rfl, ho⟩, hb'⟩
   refine hK.out _ _ rfl ⟨a', c', rfl⟩ ?_
   refine ⟨hbW.trans (hb'.mono (by omega)), fun h => (by simp at h), fun _ => ⟨⟨a', c', word⟩, rfl, rfl, fun h => (by simp [l7] at h), fun _ => sr_more hp2 hb' (World.ownsRow.from_mono ho (by omega)) (fun k hk => (World.ownsRow.lt ho k hk).1), fun h => (by simp [l8] at h)⟩⟩
  ·
   obtain ⟨h6, -⟩ := hh
   obtain ⟨a6, c6, (g6 : f 6 = _)⟩ := h6
   have l6 : L 6 = true := hd 6 (by decide)
   have l8 : L 8 = false := Bool.eq_false_iff.2 fun h => by have q := hdn 8 _ h rfl 7 (by decide); rw [show L 7 = false from hi] at q; cases q
   have l11 : L 11 = false := Bool.eq_false_iff.2 fun h => by have q := hdn 11 _ h rfl 7 (by decide); rw [show L 7 = false from hi] at q; cases q
   unfold stStep
   rw [if_pos (by simp [Region.wanted])]
   intro K Q hK
   simp only [puts, Za, Zb, Zc, Zd, Ze, g6]
   rw [hSd] at hS hK
   have l7 : L 7 = false := hi
   try simp only [stage, l8, l11, l7, l6, if_true, if_false, Bool.false_eq_true] at hS
   obtain ⟨hbW, -, h2⟩ := hS
   obtain ⟨x, hxz, hx6, -, hp, -⟩ := h2 trivial
   have hp2 : Pcs W B (srPs sb C0 oa oc vs (x.pc :: X)) := by first | exact hp | exact hp trivial | exact hp rfl
   have hsz := (sr_base hp2)
   rw [g6] at hx6
   have hal : Below W.heap.size W (W.alloc (.cells #[x.v] 40)) := (Below.refl _ _).alloc (Nat.le_refl _) _
   rw [hx6]
   go_step
   refine hK.out _ _ rfl ⟨_, rfl⟩ ?_
   refine ⟨hbW.alloc (by omega) _, fun h => (by simp [l6] at h), fun _ => ⟨x, hxz, by simp [g6, hx6], fun _ _ => ⟨_, rfl, BlkAt.new W _ _⟩, fun _ => hp2.quiet (below_grows hal none), fun h => (by simp [l8] at h)⟩⟩
  ·
   obtain ⟨h4, h7, h6, -⟩ := hh
   have g4 : f 4 = _ := h4
   obtain ⟨b7, (g7 : f 7 = _)⟩ := h7
   obtain ⟨a6, c6, (g6 : f 6 = _)⟩ := h6
   have l6 : L 6 = true := hd 6 (by decide)
   have l7 : L 7 = true := hd 7 (by decide)
   have l11 : L 11 = false := Bool.eq_false_iff.2 fun h => by have q := hdn 11 _ h rfl 8 (by decide); rw [show L 8 = false from hi] at q; cases q
   unfold stStep
   rw [if_pos (by simp [Region.wanted])]
   intro K Q hK
   simp only [puts, Za, Zb, Zc, Zd, Ze, g4, g7, g6]
   rw [hSd] at hS hK
   have l8 : L 8 = false := hi
   try simp only [stage, l11, l8, l6, l7, if_true, if_false, Bool.false_eq_true] at hS
   obtain ⟨hbW, -, h2⟩ := hS
   obtain ⟨x, hxz, hx6, h7, hp, -⟩ := h2 trivial
   have hp2 : Pcs W B (srPs sb C0 oa oc vs (x.pc :: X)) := by first | exact hp | exact hp trivial | exact hp rfl
   obtain ⟨q, e7, hq⟩ := (by first | exact h7 trivial trivial | exact h7 trivial | exact h7 : ∃ q, f 7 = .slice (some ⟨q, 0, none⟩) 1 1 ∧ BlkAt W q #[x.v])
   rw [g7] at e7
   obtain rfl : b7 = q := by simpa using e7
   have hsz := (sr_base hp2)
   refine wp_app_pcs elWW _ _ rfl 1 (v := .slice oa vs.length oc) (n := vs.length) rfl hp2 rfl rfl (news := [x.v]) ⟨rfl, fun ad e j u hj => by injection e with e; subst e; rw [addr_add, Nat.zero_add, (hq.cell j).1, ← hj]; simp, fun e => by cases e⟩ (by intro u hu; rw [List.mem_singleton.1 hu]; rfl) (by omega) (by omega) ?_
   intro a' c' w' hp' hbw
   refine hK.out _ _ rfl ⟨a', c', rfl⟩ ?_
   refine ⟨hbW.trans hbw, fun h => (by simp [l6] at h), fun _ => ⟨x, hxz, by simpa using hx6, fun _ h => (by simp at h), fun h => (by simp at h), fun _ => ⟨a', c', rfl, fun _ => sr_push hp', fun h => (by simp [l11] at h)⟩⟩⟩
  ·
   obtain ⟨h0, _, h1, h2, h3, h4, h5, h6, h7, h8, -⟩ := hh
   have g0 : f 0 = _ := h0
   have g1 : f 1 = _ := h1
   have g2 : f 2 = _ := h2
   have g3 : f 3 = _ := h3
   have g4 : f 4 = _ := h4
   have g5 : f 5 = _ := h5
   obtain ⟨a6, c6, (g6 : f 6 = _)⟩ := h6
   obtain ⟨b7, (g7 : f 7 = _)⟩ := h7
   obtain ⟨a8, c8, (g8 : f 8 = _)⟩ := h8
   unfold stStep
   rw [if_pos (by simp [Region.wanted])]
   intro K Q hK
   simp only [puts, Za, Zb, Zc, Zd, Ze, g0, g1, g2, g3, g4, g5, g6, g7, g8]
   go_step
   refine st_ex hK rfl rfl (by simp only [Act.put, setIfInBounds_toArray, set_cons_succ, set_cons_zero, Array.getD_eq_getD_getElem?, List.getElem?_toArray, List.getElem?_cons_succ, List.getElem?_cons_zero, Option.getD_some] <;> rfl) rfl (by rw [hSd] at hS ⊢; exact hS)
  ·
   obtain ⟨h9, h0, h1, h2, h3, h4, h5, h6, h7, h8, -⟩ := hh
   have g9 : f 9 = _ := h9
   have g0 : f 0 = _ := h0
   have g1 : f 1 = _ := h1
   have g2 : f 2 = _ := h2
   have g3 : f 3 = _ := h3
   have g4 : f 4 = _ := h4
   have g5 : f 5 = _ := h5
   obtain ⟨a6, c6, (g6 : f 6 = _)⟩ := h6
   obtain ⟨b7, (g7 : f 7 = _)⟩ := h7
   obtain ⟨a8, c8, (g8 : f 8 = _)⟩ := h8
   unfold stStep
   rw [if_pos (by simp [Region.wanted])]
   intro K Q hK
   simp only [puts, Za, Zb, Zc, Zd, Ze, g9, g0, g1, g2, g3, g4, g5, g6, g7, g8]
   go_step
   refine st_ex hK rfl rfl (by simp only [Act.put, setIfInBounds_toArray, set_cons_succ, set_cons_zero, Array.getD_eq_getD_getElem?, List.getElem?_toArray, List.getElem?_cons_succ, List.getElem?_cons_zero, Option.getD_some] <;> rfl) rfl (by rw [hSd] at hS ⊢; exact hS)
  ·
   obtain ⟨h10, h8, _, h0, h1, h2, h3, h4, h5, h6, h7, _, -⟩ := hh
   have g10 : f 10 = _ := h10
   obtain ⟨a8, c8, (g8 : f 8 = _)⟩ := h8
   have g0 : f 0 = _ := h0
   have g1 : f 1 = _ := h1
   have g2 : f 2 = _ := h2
   have g3 : f 3 = _ := h3
   have g4 : f 4 = _ := h4
   have g5 : f 5 = _ := h5
   obtain ⟨a6, c6, (g6 : f 6 = _)⟩ := h6
   obtain ⟨b7, (g7 : f 7 = _)⟩ := h7
   have l6 : L 6 = true := hd 6 (by decide)
   have l8 : L 8 = true := hd 8 (by decide)
   unfold stStep
   rw [if_pos (by simp [Region.wanted])]
   intro K Q hK
   simp only [puts, Za, Zb, Zc, Zd, Ze, g10, g8, g0, g1, g2, g3, g4, g5, g6, g7]
   rw [hSd] at hS hK
   have l11 : L 11 = false := hi
   try simp only [stage, l11, l6, l8, if_true, if_false, Bool.false_eq_true] at hS
   obtain ⟨hbW, -, h2⟩ := hS
   obtain ⟨x, hxz, hx6, -, -, h8⟩ := h2 trivial
   obtain ⟨a, c, e8, hp, -⟩ := h8 trivial
   have hp2 : Pcs W B (srPs sb C0 a c (vs ++ [x]) X) := by first | exact hp | exact hp trivial | exact hp rfl
   rw [g8] at e8
   obtain ⟨rfl, rfl⟩ : a8 = a ∧ c8 = c := by simpa using e8
   obtain ⟨y1, y2⟩ := HC6.out _ _ _ _ _ hp2
   have hsz := (sr_base hp2)
   go_step
   refine hK.out _ _ rfl trivial ?_
   refine ⟨hbW.setCell (by show _ ≤ sb; omega) _, fun h => (by simp [l6] at h), fun _ => ⟨x, hxz, by simpa using hx6, fun _ h => (by simp [l8] at h), fun h => (by simp [l8] at h), fun _ => ⟨a8, c8, by simpa using g8, fun h => (by simp at h), fun _ => sr_cell hp2 _ 6 _ (HCS.out _ _)⟩⟩⟩
 case rest =>
  intro L f WA hL hh hS
  rw [hSd] at hS
  clear hSd
  have l6 : L 6 = true := hL 6 (by decide)
  have l8 : L 8 = true := hL 8 (by decide)
  have l11 : L 11 = true := hL 11 (by decide)
  simp only [stage, l6, l8, l11, if_true] at hS
  clear hL l6 l8 l11
  obtain ⟨h0, h1, h2, h3, h4, h5, h6, h7, h8, h9, h10, -⟩ := hh
  have g0 : f 0 = _ := h0
  have g1 : f 1 = _ := h1
  have g2 : f 2 = _ := h2
  have g3 : f 3 = _ := h3
  have g4 : f 4 = _ := h4
  have g5 : f 5 = _ := h5
  obtain ⟨a6, c6, (g6 : f 6 = _)⟩ := h6
  obtain ⟨b7, (g7 : f 7 = _)⟩ := h7
  obtain ⟨a8, c8, (g8 : f 8 = _)⟩ := h8
  have g9 : f 9 = _ := h9
  have g10 : f 10 = _ := h10
  simp only [puts, Za, Zb, Zc, Zd, Ze, g0, g1, g2, g3, g4, g5, g6, g7, g8, g9, g10]
  clear h0 h1 h2 h3 h4 h5 h9 h10 g0 g1 g2 g3 g4 g5 g9 g10
  obtain ⟨hbA, -, h2⟩ := hS
  obtain ⟨x, hxz, -, -, -, h8⟩ := h2 trivial
  obtain ⟨a, c, -, -, hp⟩ := h8 trivial
  have HPA : Hid (SrPost d h W0 B sb m (some ⟨b, off, none⟩) cl cc X (vs.map Wd.z ++ [word]) WA) := Lib.hid ⟨a, c, vs ++ [x], by rw [List.map_append, List.map_cons, List.map_nil, hxz], by rw [List.length_append]; first | exact hp | exact hp trivial | exact hp rfl, hbA⟩
  clear hbA h2 h8 hp hxz
  go_wp2_with (fail)
  exact ⟨rfl, _, results_none rfl _ _ _, rfl, HPA.out⟩
theorem sr_word {x : Wd} (hX : SrX d B ca cl wa wc word X) : SrX d B ca cl x.a x.c x.z (x.pc :: X) := fun W hp => ⟨(hX W fun p hq => hp p (List.mem_cons_of_mem _ hq)).1, Wd.ints (hp _ List.mem_cons_self)⟩
theorem sr_go {k : Nat}
  (ih : ∀ (q : Int) (word : List Int) (wa : Option Addr) (wc : Nat) (X : List Pc) (vs : List Wd) (oa : Option Addr) (oc : Nat) (W : World), InD d q → k < cl → SrX d B ca cl wa wc word X → (wa = none → word.length = 0) → word.length ≤ wc → word.length + k ≤ 100000 → Pcs W B (srPs sb (srC d h ca cl cc m oa vs.length oc) oa oc vs X) → Below B W0 W →
   Calls Try.prog 59 #[.pointer (some ⟨sb, 0, none⟩), .slice wa word.length wc, .int .i64 q, .int .i64 (k : Int)] W fun e w' => e = .returned (.tuple #[]) ∧ SrPost d h W0 B sb m ca cl cc X (tk m (vs.map Wd.z) ((wordsL d k q).map fun v => word ++ v)) w')
  {Wn : World} {oa' a : Option Addr} {oc' c : Nat} {vs' : List Wd} {l x3 : Int} (hX : SrX d B ca cl wa wc word X) (hP : Pcs Wn B (srPs sb (srC d h ca cl cc m oa' vs'.length oc') oa' oc' vs' X)) (hBn : Below B W0 Wn) (hsn : B ≤ Wn.heap.size) (hbW : Below Wn.heap.size Wn W) (ho : W.ownsRow Wn.heap.size 3 1 (.slice a (word.length + 1) c) (word.length + 1) (ivs .i64 (word ++ [l]))) (hin : InD d x3) (hk : k + 1 < cl) (hwl : word.length + (k + 1) ≤ 100000) :
  Calls Try.prog 59 #[.pointer (some ⟨sb, 0, none⟩), .slice a (word.length + 1) c, .int .i64 x3, .int .i64 (k : Int)] W fun e w' => e = .returned (.tuple #[]) ∧ SrPost d h W0 B sb m ca cl cc X (tk m (vs'.map Wd.z) ((wordsL d k x3).map fun v => (word ++ [l]) ++ v)) w' := by
 have hln : (word ++ [l]).length = word.length + 1 := by rw [List.length_append]; rfl
 have hat : Pc.At W Wn.heap.size (Wd.pc ⟨a, c, word ++ [l]⟩) := by
  show W.ownsRow _ _ 1 (.slice a (word ++ [l]).length c) (word ++ [l]).length _
  rw [hln]
  exact ho
 have hp3 := sr_more hP hbW (Pc.At.low hat hsn) (fun k hk => (hat.lt hk).1)
 have hrc := row_cap ho
 have hcall := ih x3 (word ++ [l]) a c (Wd.pc ⟨a, c, word ++ [l]⟩ :: X) vs' oa' oc' W hin (by omega) (sr_word (x := ⟨a, c, word ++ [l]⟩) hX)
  (fun e => by
   rcases hrc with h | ⟨g, h, _⟩
   ·omega
   ·rw [e] at h; cases h)
  (by
   rw [hln]
   rcases hrc with h | ⟨g, -, h, -⟩
   ·omega
   ·exact h) (by rw [hln]; omega) hp3 (hBn.trans (hbW.mono hsn))
 rw [hln] at hcall
 refine hcall.mono ?_
 rintro e w' ⟨rfl, oa2, oc2, vs2, hz2, hp2, hb2⟩
 exact ⟨rfl, oa2, oc2, vs2, hz2, sr_drop hp2, hb2⟩
set_option maxRecDepth 20000 in
set_option maxHeartbeats 4000000 in
theorem words_more (hv : ValidD d) (hD : ∀ W, Below B W0 W → IsDfa W h d) (hm : m ≤ 1000) {k : Nat}
  (ih : ∀ (q : Int) (word : List Int) (wa : Option Addr) (wc : Nat) (X : List Pc) (vs : List Wd) (oa : Option Addr) (oc : Nat) (W : World), InD d q → k < cl → SrX d B ca cl wa wc word X → (wa = none → word.length = 0) → word.length ≤ wc → word.length + k ≤ 100000 → Pcs W B (srPs sb (srC d h ca cl cc m oa vs.length oc) oa oc vs X) → Below B W0 W →
   Calls Try.prog 59 #[.pointer (some ⟨sb, 0, none⟩), .slice wa word.length wc, .int .i64 q, .int .i64 (k : Int)] W fun e w' => e = .returned (.tuple #[]) ∧ SrPost d h W0 B sb m ca cl cc X (tk m (vs.map Wd.z) ((wordsL d k q).map fun v => word ++ v)) w')
  {q : Int} (hq : InD d q) (hk : k + 1 < cl) (hX : SrX d B ca cl wa wc word X) (h0 : wa = none → word.length = 0) (hwc : word.length ≤ wc) (hwl : word.length + (k + 1) ≤ 100000) (hP : Pcs W B (srPs sb (srC d h ca cl cc m oa vs.length oc) oa oc vs X)) (hb : Below B W0 W) (h1 : ¬ m ≤ vs.length) (h2 : canB d (k + 1) q = true) :
  Calls Try.prog 59 #[.pointer (some ⟨sb, 0, none⟩), .slice wa word.length wc, .int .i64 q, .int .i64 ((k + 1 : Nat) : Int)] W fun e w' => e = .returned (.tuple #[]) ∧ SrPost d h W0 B sb m ca cl cc X (tk m (vs.map Wd.z) ((wordsL d (k + 1) q).map fun v => word ++ v)) w' := by
 obtain ⟨hT, -⟩ := hX W (sr_in hP)
 have hblk := (hP.blk 0 rfl).2
 have hsb := sr_base hP
 have c0 : W.cell? ⟨sb, 0, none⟩ = some (.int .i64 d.n) := (hblk.cell 0).1
 have c1 : W.cell? ⟨sb, 1, none⟩ = some (.int .i64 d.s) := (hblk.cell 1).1
 have c2 : W.cell? ⟨sb, 2, none⟩ = some (.slice h.fa h.fl h.fc) := (hblk.cell 2).1
 have c3 : W.cell? ⟨sb, 3, none⟩ = some (.slice h.aa h.al h.ac) := (hblk.cell 3).1
 have c4 : W.cell? ⟨sb, 4, none⟩ = some (.slice ca cl cc) := (hblk.cell 4).1
 have c5 : W.cell? ⟨sb, 5, none⟩ = some (.int .i64 (m : Int)) := (hblk.cell 5).1
 have c6 : W.cell? ⟨sb, 6, none⟩ = some (.slice oa vs.length oc) := (hblk.cell 6).1
 have hqi := hq
 obtain ⟨Q, rfl⟩ := Int.eq_ofNat_of_zero_le hq.1
 have hQ : Q < d.n.toNat := by have := hq.2; omega
 obtain ⟨b, off, x, c, rfl, t1, t2⟩ := hT (k + 1) hk
 rw [canT_len] at t1 t2
 obtain ⟨bx, ox, rfl, hx⟩ := t2.fix (by omega)
 have t3 := hx W (Below.refl _ _) Q hQ
 rw [canT_at hq.2, h2] at t3
 obtain ⟨N, hN⟩ : ∃ N, d.n.toNat = N := ⟨_, rfl⟩
 have hout := fun W' (hb' : Below B W0 W') => out_in d h (Q : Int) W' (hD W' hb') hv.sorted (fun y hy => (hv.arc hy).2.1) hv.2.2.2.1 ⟨by omega, by have := hq.2; have := hv.1; omega⟩
 unfold vDf at hout
 rw [hN] at t1 hQ
 have hoin : ∀ j, j < (outsD d.arcs (Q : Int)).length → InD d (g3 (outsD d.arcs (Q : Int)) j).t := fun j hj => (hv.arc (outsD_mem.1 (g3_mem _ _ hj)).1).1.2
 have hosl : (outsD d.arcs (Q : Int)).length ≤ 20000 := Nat.le_trans (List.length_filter_le _ _) hv.2.2.2.1
 have hfin := tk_arcs m (vs.map Wd.z) d k word (Q : Int)
 obtain ⟨es, hes⟩ : ∃ es, outsD d.arcs (Q : Int) = es := ⟨_, rfl⟩
 rw [hes] at hout hoin hfin hosl
 rw [← hfin]
 have HOU := Lib.hid hout
 have HOI := Lib.hid hoin
 have HP := Lib.hid hP
 have HB := Lib.hid hb
 have HX := Lib.hid hX
 have HSB := Lib.hid hsb
 have HD := Lib.hid hD
 have HIH := Lib.hid ih
 have q1 : decide ((m : Int) ≤ (vs.length : Int)) = false := decide_eq_false (by omega)
 have q2 : (((k : Int) + 1) == 0) = false := by simp; omega
 have hvl : vs.length < 1000 := by omega
 clear hP hX hblk hT hx t2 hN hq hqi hv h2 hb hsb hout hoin hD ih hfin hes
 go_enter Try.func59, Try.ntmps59
 go_upto_region 0 with (fail)
 go_quiet (fail)
 have hsz : B ≤ (W.drewN nq).heap.size := Nat.le_trans HSB.out.1 (Nat.le_of_lt HSB.out.2)
 have HBQ := Lib.hid (HB.out.trans ((below_nq W nq).mono hsz))
 go_wp2_with (go_at_call 45; refine (HOU.out _ HBQ.out).mono ?_; rintro e w3 ⟨⟨aE, cE, rfl, hE⟩, hb3⟩)
 have HB3 : Hid (Below B W0 w3 ∧ B ≤ w3.heap.size) := Lib.hid ⟨HBQ.out.trans (hb3.mono hsz), Nat.le_trans hsz hb3.size⟩
 have HP3 : Hid (Pcs w3 B (srPs sb (srC d h (some ⟨b, off, none⟩) cl cc m oa vs.length oc) oa oc vs X)) := Lib.hid ((HP.out.quiet (below_grows (below_nq W nq) none)).quiet (below_grows hb3 none))
 have HE := Lib.hid hE
 obtain ⟨el, hel⟩ : ∃ el, es.length = el := ⟨_, rfl⟩
 have HEL := Lib.hid hel
 rw [hel] at hosl ⊢
 clear hb3 hE hel hsz c0 c1 c2 c3 c4 c5 c6 t1 t3
 go_wp2_with (fail)
 go_loopw [53] (fun c W => ∃ j : Nat, j ≤ el ∧ c = .int .i64 (j : Int) ∧ SrPost d h W0 B sb m (some ⟨b, off, none⟩) cl cc X (tk m (vs.map Wd.z) (arcW d k word (es.take j))) W) (fun c _ => el - (intOf c).toNat)
 case atStart => exact ⟨0, Nat.zero_le _, rfl, oa, oc, vs, by rw [List.take_zero, arcW_nil, tk_nil], HP3.out, HB3.out.1⟩
 case round =>
  clear HP3 HB3
  obtain ⟨j, hj, rfl, hpost⟩ := hrel
  rcases Nat.lt_or_ge j el with hlt | hge
  ·have t4 : decide (j < el) = true := decide_eq_true hlt
   obtain ⟨oa', oc', vs', hz', hp', hb'⟩ := hpost
   have hsz' := sr_base hp'
   have hae := HE.out wr (HD.out wr hb')
   rw [HEL.out] at hae
   obtain ⟨ba, oaa, rfl, hac⟩ := hae.fix (by omega)
   obtain ⟨cx1, cx2, cx3⟩ := hac wr (Below.refl _ _) j hlt
   obtain ⟨⟨x1, x2, x3⟩, hx⟩ : ∃ x, g3 es j = x := ⟨_, rfl⟩
   have hin := HOI.out j (by rw [HEL.out]; exact hlt)
   have HTK : Hid (tk m (vs'.map Wd.z) ((wordsL d k x3).map fun v => (word ++ [x2]) ++ v) = tk m (vs.map Wd.z) (arcW d k word (es.take (j + 1)))) := Lib.hid (by
    have h9 := tk_cut m (vs.map Wd.z) d k word es (j := j) (by rw [HEL.out]; exact hlt)
    rw [hx] at h9
    rw [hz']
    exact h9)
   rw [hx] at cx1 cx2 cx3 hin
   simp only at cx1 cx2 cx3 hin
   have HIN := Lib.hid hin
   obtain ⟨Wn, hWn⟩ : ∃ Wn, wr.alloc (.cells #[.int .i64 x1, .int .i64 x2, .int .i64 x3] 63) = Wn := ⟨_, rfl⟩
   have hbn : Below wr.heap.size wr Wn := by rw [← hWn]; exact (Below.refl _ _).alloc (Nat.le_refl _) _
   have HX3 : Hid (∀ W, Below Wn.heap.size Wn W → W.cell? ⟨wr.heap.size, 0, none⟩ = some (.int .i64 x1) ∧ W.cell? ⟨wr.heap.size, 1, none⟩ = some (.int .i64 x2) ∧ W.cell? ⟨wr.heap.size, 2, none⟩ = some (.int .i64 x3)) := Lib.hid (fun W h => (boxA ⟨x1, x2, x3⟩ wr).2.2 W (by simp only; rw [hWn]; exact h.mono (by rw [← hWn]; simp)))
   have HPN := Lib.hid (hp'.quiet (below_grows hbn none))
   have HBN : Hid (Below B W0 Wn) := Lib.hid (hb'.trans (hbn.mono (by omega)))
   have HSN : Hid (B ≤ Wn.heap.size) := Lib.hid (Nat.le_trans (by omega) hbn.size)
   have HIW : Hid (∀ W, Below Wn.heap.size Wn W → IsInts .i64 W wa word.length word.length word) := Lib.hid (fun W hW => by
    have h9 := (HX.out W (sr_in (HPN.out.quiet (below_grows hW none)))).2
    rcases h9 with ⟨e1, e2, e3, e4⟩ | ⟨b9, o9, e1, e2, e3, e4, e5⟩
    ·exact .inl ⟨e1, e2, e2, e4⟩
    ·exact .inr ⟨b9, o9, e1, Nat.le_refl _, by omega, e4, e5⟩)
   have HWN := Lib.hid hWn
   clear hx hWn hac hin hae hbn hp' hb' hz' hsz'
   go_upto_region 6 with (fail)
   rw [HWN.out]
   clear cx1 cx2 cx3
   obtain ⟨S, hSd⟩ : ∃ S : (Nat → Bool) → (Nat → Value) → World → Prop, S = fun L f W => (L 15 = false → Below Wn.heap.size Wn W ∧ (L 9 = true → L 10 = false → ∃ q, f 9 = .slice (some ⟨q, 0, none⟩) 1 1 ∧ BlkAt W q #[.int .i64 x2]) ∧ (L 10 = true → ∃ a c, f 10 = .slice a (word.length + 1) c ∧ W.ownsRow Wn.heap.size 3 1 (.slice a (word.length + 1) c) (word.length + 1) (ivs .i64 (word ++ [x2])))) ∧ (L 15 = true → SrPost d h W0 B sb m (some ⟨b, off, none⟩) cl cc X (tk m (vs.map Wd.z) (arcW d k word (es.take (j + 1)))) W) := ⟨_, rfl⟩
   refine wp_region_st mixed (by kernel_rfl) [[], [], [], [(2, 59)], [], [(4, 61)], [(1, 58), (3, 60), (5, 62)], [], [(7, 64)], [(8, 65)], [(6, 63), (9, 66)], [], [(11, 68)], [], [(13, 70)], [(0, 57), (10, 67), (12, 69), (14, 71), (10, 67)]] [(0, 57), (1, 58), (2, 59), (3, 60), (4, 61), (5, 62), (6, 63), (7, 64), (8, 65), (9, 66), (10, 67), (11, 68), (12, 69), (13, 70), (14, 71), (15, 72)] rfl rfl [EV ?e0, EV ?e1, EV ?e2, EV ?e3, EV ?e4, EV ?e5, fun v => v = .slice wa word.length word.length, EV ?e7, EV ?e8, fun v => ∃ b, v = .slice (some ⟨b, 0, none⟩) 1 1, fun v => ∃ a c, v = .slice a (word.length + 1) c, EV ?e11, EV ?e12, EV ?e13, EV ?e14, fun _ => True] S ?start ?steps ?rest
   case start =>
    intro f
    rw [hSd]
    exact ⟨fun _ => ⟨(Below.refl _ _).drew, fun h => (by cases h), fun h => (by cases h)⟩, fun h => (by cases h)⟩
   case steps =>
    refine ⟨fun L f W hi hd hdn hh hS => ?_, fun L f W hi hd hdn hh hS => ?_, fun L f W hi hd hdn hh hS => ?_, fun L f W hi hd hdn hh hS => ?_, fun L f W hi hd hdn hh hS => ?_, fun L f W hi hd hdn hh hS => ?_, fun L f W hi hd hdn hh hS => ?_, fun L f W hi hd hdn hh hS => ?_, fun L f W hi hd hdn hh hS => ?_, fun L f W hi hd hdn hh hS => ?_, fun L f W hi hd hdn hh hS => ?_, fun L f W hi hd hdn hh hS => ?_, fun L f W hi hd hdn hh hS => ?_, fun L f W hi hd hdn hh hS => ?_, fun L f W hi hd hdn hh hS => ?_, fun L f W hi hd hdn hh hS => ?_, trivial⟩
    ·
     unfold stStep
     rw [if_pos (by simp [Region.wanted])]
     intro K Q hK
     simp only [puts, foldr_nil]
     go_step
     refine st_ex hK rfl rfl (by simp only [Act.put, setIfInBounds_toArray, set_cons_succ, set_cons_zero, Array.getD_eq_getD_getElem?, List.getElem?_toArray, List.getElem?_cons_succ, List.getElem?_cons_zero, Option.getD_some] <;> rfl) rfl (by rw [hSd] at hS ⊢; exact hS)
    ·
     unfold stStep
     rw [if_pos (by simp [Region.wanted])]
     intro K Q hK
     simp only [puts, foldr_nil]
     go_step
     refine st_ex hK rfl rfl (by simp only [Act.put, setIfInBounds_toArray, set_cons_succ, set_cons_zero, Array.getD_eq_getD_getElem?, List.getElem?_toArray, List.getElem?_cons_succ, List.getElem?_cons_zero, Option.getD_some] <;> rfl) rfl (by rw [hSd] at hS ⊢; exact hS)
    ·
     unfold stStep
     rw [if_pos (by simp [Region.wanted])]
     intro K Q hK
     simp only [puts, foldr_nil]
     go_step
     refine st_ex hK rfl rfl (by simp only [Act.put, setIfInBounds_toArray, set_cons_succ, set_cons_zero, Array.getD_eq_getD_getElem?, List.getElem?_toArray, List.getElem?_cons_succ, List.getElem?_cons_zero, Option.getD_some] <;> rfl) rfl (by rw [hSd] at hS ⊢; exact hS)
    ·
     obtain ⟨h2, -⟩ := hh
     have g2 : f 2 = _ := h2
     unfold stStep
     rw [if_pos (by simp [Region.wanted])]
     intro K Q hK
     simp only [puts, Za, Zb, Zc, Zd, Ze, g2]
     go_step
     refine st_ex hK rfl rfl (by simp only [Act.put, setIfInBounds_toArray, set_cons_succ, set_cons_zero, Array.getD_eq_getD_getElem?, List.getElem?_toArray, List.getElem?_cons_succ, List.getElem?_cons_zero, Option.getD_some] <;> rfl) rfl (by rw [hSd] at hS ⊢; exact hS)
    ·
     unfold stStep
     rw [if_pos (by simp [Region.wanted])]
     intro K Q hK
     simp only [puts, foldr_nil]
     go_step
     refine st_ex hK rfl rfl (by simp only [Act.put, setIfInBounds_toArray, set_cons_succ, set_cons_zero, Array.getD_eq_getD_getElem?, List.getElem?_toArray, List.getElem?_cons_succ, List.getElem?_cons_zero, Option.getD_some] <;> rfl) rfl (by rw [hSd] at hS ⊢; exact hS)
    ·
     obtain ⟨h4, -⟩ := hh
     have g4 : f 4 = _ := h4
     unfold stStep
     rw [if_pos (by simp [Region.wanted])]
     intro K Q hK
     simp only [puts, Za, Zb, Zc, Zd, Ze, g4]
     go_step
     refine st_ex hK rfl rfl (by simp only [Act.put, setIfInBounds_toArray, set_cons_succ, set_cons_zero, Array.getD_eq_getD_getElem?, List.getElem?_toArray, List.getElem?_cons_succ, List.getElem?_cons_zero, Option.getD_some] <;> rfl) rfl (by rw [hSd] at hS ⊢; exact hS)
    ·
     obtain ⟨h1, h3, h5, -⟩ := hh
     have g1 : f 1 = _ := h1
     have g3 : f 3 = _ := h3
     have g5 : f 5 = _ := h5
     unfold stStep
     rw [if_pos (by simp [Region.wanted])]
     intro K Q hK
     simp only [puts, Za, Zb, Zc, Zd, Ze, g1, g3, g5]
     go_step
     refine st_ex hK rfl rfl (by simp only [Act.put, setIfInBounds_toArray, set_cons_succ, set_cons_zero, Array.getD_eq_getD_getElem?, List.getElem?_toArray, List.getElem?_cons_succ, List.getElem?_cons_zero, Option.getD_some] <;> rfl) rfl (by rw [hSd] at hS ⊢; exact hS)
    ·
     unfold stStep
     rw [if_pos (by simp [Region.wanted])]
     intro K Q hK
     simp only [puts, foldr_nil]
     go_step
     refine st_ex hK rfl rfl (by simp only [Act.put, setIfInBounds_toArray, set_cons_succ, set_cons_zero, Array.getD_eq_getD_getElem?, List.getElem?_toArray, List.getElem?_cons_succ, List.getElem?_cons_zero, Option.getD_some] <;> rfl) rfl (by rw [hSd] at hS ⊢; exact hS)
    ·
     obtain ⟨h7, -⟩ := hh
     have g7 : f 7 = _ := h7
     have l9 : L 9 = false := Bool.eq_false_iff.2 fun h => by have q := hdn 9 _ h rfl 8 (by decide); rw [show L 8 = false from hi] at q; cases q
     have l10 : L 10 = false := Bool.eq_false_iff.2 fun h => by have q := hdn 10 _ h rfl 9 (by decide); rw [show L 9 = false from l9] at q; cases q
     have l15 : L 15 = false := Bool.eq_false_iff.2 fun h => by have q := hdn 15 _ h rfl 10 (by decide); rw [show L 10 = false from l10] at q; cases q
     unfold stStep
     rw [if_pos (by simp [Region.wanted])]
     intro K Q hK
     simp only [puts, Za, Zb, Zc, Zd, Ze, g7]
     have hS' := hS
     rw [hSd] at hS'
     obtain ⟨y1, y2, y3⟩ := HX3.out W (hS'.1 l15).1
     go_step
     refine st_ex hK rfl rfl (by simp only [Act.put, setIfInBounds_toArray, set_cons_succ, set_cons_zero, Array.getD_eq_getD_getElem?, List.getElem?_toArray, List.getElem?_cons_succ, List.getElem?_cons_zero, Option.getD_some] <;> rfl) rfl (by rw [hSd] at hS ⊢; exact hS)
    ·
     obtain ⟨h8, -⟩ := hh
     have g8 : f 8 = _ := h8
     have l10 : L 10 = false := Bool.eq_false_iff.2 fun h => by have q := hdn 10 _ h rfl 9 (by decide); rw [show L 9 = false from hi] at q; cases q
     have l15 : L 15 = false := Bool.eq_false_iff.2 fun h => by have q := hdn 15 _ h rfl 10 (by decide); rw [show L 10 = false from l10] at q; cases q
     unfold stStep
     rw [if_pos (by simp [Region.wanted])]
     intro K Q hK
     simp only [puts, Za, Zb, Zc, Zd, Ze, g8]
     rw [hSd] at hS hK
     have l9 : L 9 = false := hi
     try simp only [stage, l10, l15, l9, if_true, if_false, Bool.false_eq_true] at hS
     obtain ⟨hbW, -, -⟩ := (by first | exact hS.1 trivial | exact hS.1 rfl | exact hS.1 | exact hS : Below Wn.heap.size Wn W ∧ _)
     go_step
     refine hK.out _ _ rfl ⟨_, rfl⟩ ?_
     refine ⟨fun _ => ⟨hbW.alloc hbW.size _, fun _ _ => ⟨_, rfl, BlkAt.new W _ _⟩, fun h => (by simp [l10] at h)⟩, fun h => (by simp [l15] at h)⟩
    ·
     obtain ⟨h6, h9, -⟩ := hh
     have g6 : f 6 = _ := h6
     obtain ⟨b9, (g9 : f 9 = _)⟩ := h9
     have l9 : L 9 = true := hd 9 (by decide)
     have l15 : L 15 = false := Bool.eq_false_iff.2 fun h => by have q := hdn 15 _ h rfl 10 (by decide); rw [show L 10 = false from hi] at q; cases q
     unfold stStep
     rw [if_pos (by simp [Region.wanted])]
     intro K Q hK
     simp only [puts, Za, Zb, Zc, Zd, Ze, g6, g9]
     rw [hSd] at hS hK
     have l10 : L 10 = false := hi
     try simp only [stage, l15, l10, l9, if_true, if_false, Bool.false_eq_true] at hS
     obtain ⟨hbW, h9, -⟩ := (by first | exact hS.1 trivial | exact hS.1 rfl | exact hS.1 | exact hS : Below Wn.heap.size Wn W ∧ _)
     obtain ⟨q, e9, hq⟩ := h9 trivial trivial
     rw [g9] at e9
     obtain rfl : b9 = q := by simpa using e9
     refine wp_app_full (k := .i64) (B := Wn.heap.size) elI64 _ _ rfl rfl (HIW.out W hbW) rfl (ys := [x2]) (one_at hq) (by decide) (by omega) hbW.size ?_
     intro a' c' w' ho' _ hbw
     refine hK.out _ _ rfl ⟨a', c', rfl⟩ ?_
     refine ⟨fun _ => ⟨hbW.trans (hbw.mono hbW.size), fun _ h => (by simp at h), fun _ => ⟨a', c', rfl, ho'⟩⟩, fun h => (by simp [l15] at h)⟩
    ·
     unfold stStep
     rw [if_pos (by simp [Region.wanted])]
     intro K Q hK
     simp only [puts, foldr_nil]
     go_step
     refine st_ex hK rfl rfl (by simp only [Act.put, setIfInBounds_toArray, set_cons_succ, set_cons_zero, Array.getD_eq_getD_getElem?, List.getElem?_toArray, List.getElem?_cons_succ, List.getElem?_cons_zero, Option.getD_some] <;> rfl) rfl (by rw [hSd] at hS ⊢; exact hS)
    ·
     obtain ⟨h11, -⟩ := hh
     have g11 : f 11 = _ := h11
     have l15 : L 15 = false := Bool.eq_false_iff.2 fun h => by have q := hdn 15 _ h rfl 12 (by decide); rw [show L 12 = false from hi] at q; cases q
     unfold stStep
     rw [if_pos (by simp [Region.wanted])]
     intro K Q hK
     simp only [puts, Za, Zb, Zc, Zd, Ze, g11]
     have hS' := hS
     rw [hSd] at hS'
     obtain ⟨y1, y2, y3⟩ := HX3.out W (hS'.1 l15).1
     go_step
     refine st_ex hK rfl rfl (by simp only [Act.put, setIfInBounds_toArray, set_cons_succ, set_cons_zero, Array.getD_eq_getD_getElem?, List.getElem?_toArray, List.getElem?_cons_succ, List.getElem?_cons_zero, Option.getD_some] <;> rfl) rfl (by rw [hSd] at hS ⊢; exact hS)
    ·
     unfold stStep
     rw [if_pos (by simp [Region.wanted])]
     intro K Q hK
     simp only [puts, foldr_nil]
     go_step
     refine st_ex hK rfl rfl (by simp only [Act.put, setIfInBounds_toArray, set_cons_succ, set_cons_zero, Array.getD_eq_getD_getElem?, List.getElem?_toArray, List.getElem?_cons_succ, List.getElem?_cons_zero, Option.getD_some] <;> rfl) rfl (by rw [hSd] at hS ⊢; exact hS)
    ·
     obtain ⟨h13, -⟩ := hh
     have g13 : f 13 = _ := h13
     unfold stStep
     rw [if_pos (by simp [Region.wanted])]
     intro K Q hK
     simp only [puts, Za, Zb, Zc, Zd, Ze, g13]
     go_step
     refine st_ex hK rfl rfl (by simp only [Act.put, setIfInBounds_toArray, set_cons_succ, set_cons_zero, Array.getD_eq_getD_getElem?, List.getElem?_toArray, List.getElem?_cons_succ, List.getElem?_cons_zero, Option.getD_some] <;> rfl) rfl (by rw [hSd] at hS ⊢; exact hS)
    ·
     obtain ⟨h0, h10, h12, h14, _, -⟩ := hh
     have g0 : f 0 = _ := h0
     obtain ⟨a10, c10, (g10 : f 10 = _)⟩ := h10
     have g12 : f 12 = _ := h12
     have g14 : f 14 = _ := h14
     have l10 : L 10 = true := hd 10 (by decide)
     unfold stStep
     rw [if_pos (by simp [Region.wanted])]
     intro K Q hK
     simp only [puts, Za, Zb, Zc, Zd, Ze, g0, g10, g12, g14]
     rw [hSd] at hS hK
     have l15 : L 15 = false := hi
     try simp only [stage, l15, l10, if_true, if_false, Bool.false_eq_true] at hS
     obtain ⟨hbW, -, h10⟩ := (by first | exact hS.1 trivial | exact hS.1 rfl | exact hS.1 | exact hS : Below Wn.heap.size Wn W ∧ _)
     obtain ⟨a, c, e10, ho⟩ := h10 trivial
     rw [g10] at e10
     obtain ⟨rfl, rfl⟩ : a10 = a ∧ c10 = c := by simpa using e10
     go_step
     go_at_call 59
     refine (sr_go HIH.out HX.out HPN.out HBN.out HSN.out hbW ho HIN.out hk (by omega)).mono ?_
     rintro e w' ⟨rfl, hpost⟩
     rw [HTK.out] at hpost
     refine hK.out _ _ rfl trivial ?_
     exact ⟨fun h => (by simp at h), fun _ => hpost⟩
   case rest =>
    intro L f WA hL hh hS
    rw [hSd] at hS
    clear hSd
    have l15 : L 15 = true := hL 15 (by decide)
    simp only [stage, l15, if_true] at hS
    clear hL l15
    obtain ⟨h0, h1, h2, h3, h4, h5, h6, h7, h8, h9, h10, h11, h12, h13, h14, h15, -⟩ := hh
    have g0 : f 0 = _ := h0
    have g1 : f 1 = _ := h1
    have g2 : f 2 = _ := h2
    have g3 : f 3 = _ := h3
    have g4 : f 4 = _ := h4
    have g5 : f 5 = _ := h5
    have g6 : f 6 = _ := h6
    have g7 : f 7 = _ := h7
    have g8 : f 8 = _ := h8
    obtain ⟨b9, (g9 : f 9 = _)⟩ := h9
    obtain ⟨a10, c10, (g10 : f 10 = _)⟩ := h10
    have g11 : f 11 = _ := h11
    have g12 : f 12 = _ := h12
    have g13 : f 13 = _ := h13
    have g14 : f 14 = _ := h14
    have g15 : True := trivial
    simp only [puts, Za, Zb, Zc, Zd, Ze, g0, g1, g2, g3, g4, g5, g6, g7, g8, g9, g10, g11, g12, g13, g14, g15]
    clear h0 h1 h2 h3 h4 h5 h7 h8 h11 h12 h13 h14 g0 g1 g2 g3 g4 g5 g7 g8 g11 g12 g13 g14
    have HPA : Hid (SrPost d h W0 B sb m (some ⟨b, off, none⟩) cl cc X (tk m (vs.map Wd.z) (arcW d k word (es.take (j + 1)))) WA) := Lib.hid (by first | exact hS.2 trivial | exact hS.2 rfl | exact hS.2 | exact hS)
    clear hS
    go_wp2_with (fail)
    go_roundw
    case rel => exact ⟨j + 1, hlt, by go_num, HPA.out⟩
    case measure => simp [intOf]; omega
  ·obtain rfl : j = el := by omega
   have t4 : decide (j < j) = false := decide_eq_false (by omega)
   rw [← HEL.out]
   rw [← HEL.out] at hpost
   have HPA := Lib.hid hpost
   clear hpost
   go_wp2_with (fail)
   exact ⟨rfl, _, results_none rfl _ _ _, rfl, HPA.out⟩
theorem words_any (hv : ValidD d) (hD : ∀ W, Below B W0 W → IsDfa W h d) (hm : m ≤ 1000) : ∀ (k : Nat) (q : Int) (word : List Int) (wa : Option Addr) (wc : Nat) (X : List Pc) (vs : List Wd) (oa : Option Addr) (oc : Nat) (W : World), InD d q → k < cl → SrX d B ca cl wa wc word X → (wa = none → word.length = 0) → word.length ≤ wc → word.length + k ≤ 100000 → Pcs W B (srPs sb (srC d h ca cl cc m oa vs.length oc) oa oc vs X) → Below B W0 W →
  Calls Try.prog 59 #[.pointer (some ⟨sb, 0, none⟩), .slice wa word.length wc, .int .i64 q, .int .i64 (k : Int)] W fun e w' => e = .returned (.tuple #[]) ∧ SrPost d h W0 B sb m ca cl cc X (tk m (vs.map Wd.z) ((wordsL d k q).map fun v => word ++ v)) w' := by
 intro k
 induction k with
 | zero =>
  intro q word wa wc X vs oa oc W hq hk hX h0 hwc hwl hP hb
  by_cases hs : m ≤ vs.length ∨ canB d 0 q = false
  ·refine (words_stop hv hq hk hX hP hs).mono ?_
   rintro e w' ⟨rfl, hb'⟩
   refine ⟨rfl, oa, oc, vs, ?_, hP.quiet (below_grows hb' none), hb.trans (hb'.mono (by have := sr_base hP; omega))⟩
   rcases hs with hs | hs
   ·rw [tk_full (by rw [List.length_map]; exact hs)]
   ·rw [tk_empty m _ word hs]
  ·have h1 : ¬ m ≤ vs.length := fun h => hs (.inl h)
   have h2 : canB d 0 q = true := by
    cases e : canB d 0 q with
    | true => rfl
    | false => exact absurd (.inr e) hs
   rw [words_zero word h2, tk_one (by rw [List.length_map]; omega)]
   exact words_last hv hq hk hX h0 (by omega) hP hb hm h1 h2
 | succ k ih =>
  intro q word wa wc X vs oa oc W hq hk hX h0 hwc hwl hP hb
  by_cases hs : m ≤ vs.length ∨ canB d (k + 1) q = false
  ·refine (words_stop hv hq hk hX hP hs).mono ?_
   rintro e w' ⟨rfl, hb'⟩
   refine ⟨rfl, oa, oc, vs, ?_, hP.quiet (below_grows hb' none), hb.trans (hb'.mono (by have := sr_base hP; omega))⟩
   rcases hs with hs | hs
   ·rw [tk_full (by rw [List.length_map]; exact hs)]
   ·rw [tk_empty m _ word hs]
  ·have h1 : ¬ m ≤ vs.length := fun h => hs (.inl h)
   have h2 : canB d (k + 1) q = true := by
    cases e : canB d (k + 1) q with
    | true => rfl
    | false => exact absurd (.inr e) hs
   exact words_more hv hD hm (fun q word wa wc X vs oa oc W => ih q word wa wc X vs oa oc W) hq hk hX h0 hwc hwl hP hb h1 h2
end Go.Proofs.Ytpcbmhfnefhenaa
