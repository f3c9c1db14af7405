/-
  distances.
-/
import Derived.Test.YtlogmgkjikamaaaGraI
import Derived.Test.YtlogmgkjikamaaaGraD
set_option linter.unusedSimpArgs false
set_option linter.unusedVariables false
set_option maxHeartbeats 4000000
namespace Go.Proofs.Ytlogmgkjikamaaa
open Go.RowKit
attribute [local go_sem] Oper.semAt_some

variable {a : Option Addr} {len cap : Nat} {g : List (List Int)} {w : World}

theorem gi_put {zs : List Int} {v : Nat} (hv : v < zs.length) (c : Int) (n : Nat) : gi (zs.set v c) n = if n = v then c else gi zs n := by
  by_cases e : n = v
  · subst e; rw [if_pos rfl]; simp [gi, List.getD, hv]
  · rw [if_neg e]; simp [gi, List.getD, List.getElem?_set_ne (Ne.symm e)]
theorem gi_nats (q : List Nat) (i : Nat) : gi (q.map Int.ofNat) i = ((nq q i : Nat) : Int) := by
  rcases Nat.lt_or_ge i q.length with h | h
  · rw [gi_eq _ _ (by simpa using h), nq_eq q i h]; simp
  · simp [gi, nq, List.getD, h]
/-- What the distances of a graph's nodes from some numbers are. -/
def DistL (g : List (List Int)) (l : List Int) (zs : List Int) : Prop := zs.length = g.length ∧ LocD (GE g) (fun n => (n : Int) ∈ l) g.length (gi zs)
theorem DistL.uniq {l zs zs' : List Int} (h : DistL g l zs) (h' : DistL g l zs') : zs = zs' :=
  gi_ext (by rw [h.1, h'.1]) fun i hi => h.2.uniq h'.2 i (by rw [← h.1]; exact hi)
theorem own_out {W W' : World} {B b n : Nat} {zs : List Int} {e : TypeId} (h : W.ownsRow B e 1 (.slice (some ⟨b, 0, none⟩) n n) n (ivs .i64 zs)) (hb : Below (b + 1) W W') : W'.ownsRow B e 1 (.slice (some ⟨b, 0, none⟩) n n) n (ivs .i64 zs) :=
  owns_same h fun k hk => hb.block k (by injection hk with hk; simp only at hk; omega)

theorem asc_len4 {l : List Int} {N : Nat} (h : Asc l) (hb : ∀ z ∈ l, 0 ≤ z ∧ z < (N : Int)) : l.length ≤ N := by
  have key : ∀ (l : List Int) (lo : Int), Asc l → (∀ z ∈ l, lo ≤ z ∧ z < (N : Int)) → lo ≤ N → (l.length : Int) ≤ N - lo := by
    intro l
    induction l with
    | nil => intro lo _ _ h; simp; omega
    | cons x l ih =>
      intro lo h1 h2 h3
      have h1' := List.pairwise_cons.1 h1
      have hx := h2 x List.mem_cons_self
      have := ih (x + 1) h1'.2 (fun z hz => by have a := h1'.1 z hz; have b := h2 z (List.mem_cons_of_mem _ hz); omega) (by omega)
      rw [List.length_cons]
      omega
  have := key l 0 h (fun z hz => hb z hz) (by omega)
  omega
theorem row_len4 {g : List (List Int)} (hv : ValidG g) {i : Nat} (hi : i < g.length) : (gr g i).length ≤ 400 := by
  have h1 := hv.2 _ (gr_mem hi)
  have := asc_len4 h1.1 h1.2
  have := hv.1
  omega

set_option maxRecDepth 20000 in
theorem distances_any {al : Option Addr} {ll cl : Nat} {l : List Int} (hg : IsRows w a len cap g) (hv : ValidG g) (hl : IsRow .i64 w al ll cl l) (hok : NodesOk len l) :
    Calls Try.prog 40 #[.slice a len cap, .slice al ll cl] w fun e w' => ∃ ad cd zs, e = .returned (.slice ad len cd) ∧ w'.ownsRow w.heap.size 3 1 (.slice ad len cd) len (ivs .i64 zs) ∧ DistL g l zs ∧ Below w.heap.size w w' := by
  have HL := Lib.hid hg.length
  have HLL := Lib.hid hl.length
  have hN4 : len ≤ 400 := by rw [← hg.length]; exact hv.1
  have hlc := hl.cap
  unfold maxLen at hlc
  have HN := Lib.hid hN4
  have HV := Lib.hid hv
  have HOK := Lib.hid hok
  have HE : Hid (∀ x y, GE g x y → x < len ∧ y < len) := Lib.hid (fun x y h => by have := h.lt hv; rw [hg.length] at this; exact this)
  clear hv hok
  go_enter Try.func40, Try.ntmps40
  go_wp2_with (refine make_ints (k := .i64) elI64 rfl _ _ rfl rfl rfl rfl rfl (by omega) (Nat.le_refl _) ?_; intro w1 ho1 hb1 hs1)
  go_loopw [18] (fun c W => ∃ (k : Nat) (zs : List Int), k ≤ len ∧ c = .int .i64 (k : Int) ∧ zs.length = len ∧ Hid (∀ i, i < k → gi zs i = -1) ∧ W.ownsRow w.heap.size 3 1 (.slice (some ⟨w.heap.size, 0, none⟩) len len) len (ivs .i64 zs) ∧ W.heap.size = w.heap.size + 1 ∧ Below w.heap.size w W) (fun c _ => len - (intOf c).toNat)
  case atStart => exact ⟨0, _, Nat.zero_le _, rfl, by simp, Lib.hid (fun i hi => by omega), ho1, hs1, hb1⟩
  case round =>
    clear ho1 hb1 hs1
    obtain ⟨k, zs, hk, rfl, hzl, HZ, ho, hsz, hB⟩ := hrel
    rcases Nat.lt_or_ge k len with hlt | hge
    · have t1 : decide ((k : Int) < len) = true := decide_eq_true (by omega)
      obtain ⟨hc, hf⟩ := own_cell ho k hlt hzl
      have ho2 := own_store ho k (-1)
      have hB2 := hB.setCell (p := ⟨w.heap.size, k, none⟩) (Nat.le_refl _) (.int .i64 (-1))
      have HZ2 : Hid (∀ i, i < k + 1 → gi (zs.set k (-1)) i = -1) := Lib.hid (fun i hi => by
        rw [gi_put (by omega)]
        split
        · rfl
        · exact HZ.out i (by omega))
      clear ho hB
      go_wp2
      go_roundw
      case rel => exact ⟨k + 1, _, hlt, by go_num, by rw [List.length_set]; exact hzl, HZ2, ho2, by rw [World.size_setCell]; exact hsz, hB2⟩
      case measure => simp [intOf]; omega
    · obtain rfl : k = len := by omega
      have t1 : decide ((k : Int) < k) = false := decide_eq_false (by omega)
      have HB0 : Hid (Bfs (GE g) (fun n => (n : Int) ∈ l.take 0) k 0 (fun _ => False) (gi zs) [] ∧ Flat (gi zs) k) := Lib.hid (by
        have h := Bfs.nil (GE g) k (d := gi zs) HZ.out
        refine ⟨{ h with src := fun n hn => by rw [List.take_zero]; simp [HZ.out n hn] }, fun n hn => .inl (HZ.out n hn)⟩)
      have hs1 : w.heap.size + 1 ≤ wr.heap.size := by omega
      clear hsz
      go_wp2_with (fail)
      go_loopw [7, 27] (fun v c W => ∃ (j : Nat) (q : List Nat) (aq : Option Addr) (cq : Nat) (zs : List Int), j ≤ ll ∧ c = .int .i64 (j : Int) ∧ v = .slice aq q.length cq ∧ zs.length = k ∧ Hid (Bfs (GE g) (fun n => (n : Int) ∈ l.take j) k 0 (fun _ => False) (gi zs) q ∧ Flat (gi zs) k) ∧ W.ownsRow w.heap.size 3 1 (.slice (some ⟨w.heap.size, 0, none⟩) k k) k (ivs .i64 zs) ∧ W.ownsRow (w.heap.size + 1) 3 1 (.slice aq q.length cq) q.length (ivs .i64 (q.map Int.ofNat)) ∧ w.heap.size + 1 ≤ W.heap.size ∧ Below w.heap.size w W) (fun _ c _ => ll - (intOf c).toNat)
      case atStart => exact ⟨0, [], none, 0, zs, Nat.zero_le _, rfl, rfl, hzl, HB0, ho, World.ownsRow_nil _ _ _ _, hs1, hB⟩
      case round =>
        clear ho hB HB0 HZ hzl hs1
        obtain ⟨j, q, aq, cq, zs, hj, rfl, rfl, hzl, HBF, ho, hoq, hs1, hB⟩ := hrel
        have hql : q.length ≤ k := HBF.out.1.qlen
        rcases Nat.lt_or_ge j ll with hjl | hjg
        · have t2 : decide ((j : Int) < ll) = true := decide_eq_true (by omega)
          obtain ⟨bl, ol, rfl, hcl⟩ := hl.fix j hjl
          have hcx := hcl wr hB
          have hjL : j < l.length := by rw [HLL.out]; exact hjl
          have hxr := HOK.out _ (gi_mem l j hjL)
          obtain ⟨x, hx⟩ := Int.eq_ofNat_of_zero_le hxr.1
          rw [hx] at hxr hcx
          have hxk : x < k := by omega
          have HS : Hid (∀ n, n < k → ((n : Int) ∈ l.take (j + 1) ↔ (n : Int) ∈ l.take j ∨ n = x)) := Lib.hid (fun n _ => by
            rw [take_succ_gi l j hjL, List.mem_append, List.mem_singleton, hx]
            exact or_congr_right (by omega))
          obtain ⟨hc, hf⟩ := own_cell ho x hxk hzl
          obtain ⟨z, hz⟩ : ∃ z, gi zs x = z := ⟨_, rfl⟩
          rw [hz] at hc
          clear hcl hx hxr
          by_cases h0 : z < 0
          · have d0 : decide (z < 0) = true := decide_eq_true h0
            have HN2 : Hid (Bfs (GE g) (fun n => (n : Int) ∈ l.take (j + 1)) k 0 (fun _ => False) (gi (zs.set x 0)) (q ++ [x]) ∧ Flat (gi (zs.set x 0)) k) := Lib.hid (HBF.out.1.seed_new HBF.out.2 hxk (by rw [hz]; exact h0) (fun n hn => gi_put (by omega) 0 n) HS.out)
            have ho2 := own_store ho x 0
            have hoq2 := ownsRow_setCell_below hoq (a := ⟨w.heap.size, x, none⟩) (by show w.heap.size < _; omega) (.int .i64 0)
            have hB2 := hB.setCell (p := ⟨w.heap.size, x, none⟩) (Nat.le_refl _) (.int .i64 0)
            have hs2 : w.heap.size + 1 ≤ (wr.setCell ⟨w.heap.size, x, none⟩ (.int .i64 0)).heap.size := by rw [World.size_setCell]; exact hs1
            clear ho hoq hB h0 hz
            obtain ⟨w5, hw5⟩ : ∃ w5, wr.setCell ⟨w.heap.size, x, none⟩ (.int .i64 0) = w5 := ⟨_, rfl⟩
            rw [hw5] at ho2 hoq2 hB2 hs2
            have hs5 : Hid (w5.heap.size = wr.heap.size) := Lib.hid (by rw [← hw5, World.size_setCell])
            replace hw5 := Lib.hid hw5
            go_wp2_with (at_builtin; rw [hw5.out]; refine app_one (k := .i64) elI64 rfl _ _ rfl rfl hoq2 (by rw [hs5.out]; rfl) (by omega) hs2 ?_; intro a6 c6 w6 ho6 hb6)
            go_roundw
            case rel => exact ⟨j + 1, q ++ [x], a6, c6, zs.set x 0, hjl, by go_num, by rw [List.length_append]; rfl, by rw [List.length_set]; exact hzl, HN2, own_out ho2 hb6, by rw [List.length_append, List.map_append]; exact ho6, Nat.le_trans hs2 hb6.size, hB2.trans (hb6.mono (by omega))⟩
            case measure => simp [intOf]; omega
          · have d0 : decide (z < 0) = false := decide_eq_false h0
            have HN2 : Hid (Bfs (GE g) (fun n => (n : Int) ∈ l.take (j + 1)) k 0 (fun _ => False) (gi zs) q ∧ Flat (gi zs) k) := Lib.hid ⟨HBF.out.1.seed_old HBF.out.2 hxk (by rw [hz]; omega) HS.out, HBF.out.2⟩
            clear h0 hz
            go_wp2_with (fail)
            go_roundw
            case rel => exact ⟨j + 1, q, aq, cq, zs, hjl, by go_num, rfl, hzl, HN2, ho, hoq, hs1, hB⟩
            case measure => simp [intOf]; omega
        · obtain rfl : j = ll := by omega
          have t2 : decide ((j : Int) < j) = false := decide_eq_false (by omega)
          have HB1 : Hid (Bfs (GE g) (fun n => (n : Int) ∈ l) k 0 (fun _ => False) (gi zs) q) := Lib.hid (by
            have := HBF.out.1
            rwa [List.take_of_length_le (by rw [HLL.out]; exact Nat.le_refl _)] at this)
          clear hl hlc HBF
          go_wp2_with (fail)
          go_loopw [7, 10] (fun v c W => ∃ (h : Nat) (q : List Nat) (aq : Option Addr) (cq : Nat) (zs : List Int), h ≤ q.length ∧ q.length ≤ k ∧ c = .int .i64 (h : Int) ∧ v = .slice aq q.length cq ∧ zs.length = k ∧ Hid (Bfs (GE g) (fun n => (n : Int) ∈ l) k h (fun _ => False) (gi zs) q) ∧ W.ownsRow w.heap.size 3 1 (.slice (some ⟨w.heap.size, 0, none⟩) k k) k (ivs .i64 zs) ∧ W.ownsRow (w.heap.size + 1) 3 1 (.slice aq q.length cq) q.length (ivs .i64 (q.map Int.ofNat)) ∧ w.heap.size + 1 ≤ W.heap.size ∧ Below w.heap.size w W) (fun _ c _ => k - (intOf c).toNat)
          case atStart => exact ⟨0, q, aq, cq, zs, Nat.zero_le _, hql, rfl, rfl, hzl, HB1, ho, hoq, hs1, hB⟩
          case round =>
            clear ho hoq hs1 hB HB1 hzl hql
            obtain ⟨h, q, aq, cq, zs, hh, hql, rfl, rfl, hzl, HBF, ho, hoq, hs1, hB⟩ := hrel
            rcases Nat.lt_or_ge h q.length with hlt | hge
            · have t3 : decide ((h : Int) < q.length) = true := decide_eq_true (by omega)
              obtain ⟨u, hu⟩ : ∃ u, nq q h = u := ⟨_, rfl⟩
              have huk : u < k := by rw [← hu]; exact ((HBF.out.mem _).1 (nq_mem hlt)).1
              obtain ⟨gq, rfl, -, -⟩ := owns_at hoq (by omega)
              have hcq := (own_cell hoq h hlt (by simp)).1
              rw [gi_nats, hu] at hcq
              obtain ⟨b, off, au, lu, cu, rfl, hcell, hrow⟩ := hg.fix u huk
              have hcu := hcell wr hB
              have HRL : Hid ((gr g u).length = lu) := Lib.hid hrow.length
              have hlu : lu ≤ 400 := by rw [← HRL.out]; exact row_len4 HV.out (by rw [HL.out]; exact huk)
              have HB1 : Hid (Bfs (GE g) (fun n => (n : Int) ∈ l) k h (fun v => (v : Int) ∈ (gr g u).take 0) (gi zs) q ∧ nq q h = u) := Lib.hid ⟨{ HBF.out with cur := fun v hv => by rw [List.take_zero] at hv; cases hv }, hu⟩
              clear hcell hu
              go_wp2_with (fail)
              clear hcq hcu
              go_loopw [7, 58] (fun v c W => ∃ (j : Nat) (q : List Nat) (aq : Option Addr) (cq : Nat) (zs : List Int), j ≤ lu ∧ h < q.length ∧ q.length ≤ k ∧ c = .int .i64 (j : Int) ∧ v = .slice aq q.length cq ∧ zs.length = k ∧ Hid (Bfs (GE g) (fun n => (n : Int) ∈ l) k h (fun v => (v : Int) ∈ (gr g u).take j) (gi zs) q ∧ nq q h = u) ∧ W.ownsRow w.heap.size 3 1 (.slice (some ⟨w.heap.size, 0, none⟩) k k) k (ivs .i64 zs) ∧ W.ownsRow (w.heap.size + 1) 3 1 (.slice aq q.length cq) q.length (ivs .i64 (q.map Int.ofNat)) ∧ w.heap.size + 1 ≤ W.heap.size ∧ Below w.heap.size w W) (fun _ c _ => lu - (intOf c).toNat)
              case atStart => exact ⟨0, q, _, cq, zs, Nat.zero_le _, hlt, hql, rfl, rfl, hzl, HB1, ho, hoq, hs1, hB⟩
              case round =>
                clear ho hoq hs1 hB HB1 hzl hql HBF t3 hlt hh
                obtain ⟨j, q, aq, cq, zs, hj, hlt, hql, rfl, rfl, hzl, HBF, ho, hoq, hs1, hB⟩ := hrel
                rcases Nat.lt_or_ge j lu with hjl | hjg
                · have t4 : decide ((j : Int) < lu) = true := decide_eq_true (by omega)
                  obtain ⟨br, o2, rfl, hcz⟩ := hrow.fix j hjl
                  have hcx := hcz wr hB
                  have hjL : j < (gr g u).length := by rw [HRL.out]; exact hjl
                  have hmem := gi_mem (gr g u) j hjL
                  have hxr := (HV.out.2 _ (gr_mem (by rw [HL.out]; exact huk))).2 _ hmem
                  rw [HL.out] at hxr
                  obtain ⟨x, hx⟩ := Int.eq_ofNat_of_zero_le hxr.1
                  rw [hx] at hxr hcx hmem
                  have hxk : x < k := by omega
                  have HD : Hid (∀ v : Nat, (v : Int) ∈ (gr g u).take (j + 1) → (v : Int) ∈ (gr g u).take j ∨ v = x) := Lib.hid (fun v hv => by
                    rw [take_succ_gi _ j hjL, List.mem_append, List.mem_singleton, hx] at hv
                    exact hv.imp id (by omega))
                  obtain ⟨hc, hf⟩ := own_cell ho x hxk hzl
                  obtain ⟨z, hz⟩ : ∃ z, gi zs x = z := ⟨_, rfl⟩
                  rw [hz] at hc
                  clear hcz hx hxr
                  by_cases h0 : z < 0
                  · have d0 : decide (z < 0) = true := decide_eq_true h0
                    obtain ⟨gq, rfl, -, -⟩ := owns_at hoq (by omega)
                    have hcq := (own_cell hoq h hlt (by simp)).1
                    rw [gi_nats, HBF.out.2] at hcq
                    obtain ⟨hcd, -⟩ := own_cell ho u huk hzl
                    obtain ⟨du, hdu⟩ : ∃ du, gi zs u = du := ⟨_, rfl⟩
                    have hdub : -1 ≤ du ∧ du < (k : Int) := by rw [← hdu]; exact ⟨HBF.out.1.lo u huk, pred_bound HBF.out.1.pred huk⟩
                    rw [hdu] at hcd
                    have HN2 : Hid (Bfs (GE g) (fun n => (n : Int) ∈ l) k h (fun v => (v : Int) ∈ (gr g u).take (j + 1)) (gi (zs.set x (du + 1))) (q ++ [x]) ∧ nq (q ++ [x]) h = u) := Lib.hid (by
                      refine ⟨HBF.out.1.see_new hlt hxk ?_ (by rw [hz]; exact h0) (fun n hn => ?_) HE.out (fun v hv => ?_) HD.out, by rw [nq_left hlt]; exact HBF.out.2⟩
                      · rw [HBF.out.2]; exact hmem
                      · rw [gi_put (by omega), HBF.out.2, hdu]
                      · exact (HE.out u v (List.mem_of_mem_take hv)).2)
                    have ho2 := own_store ho x (du + 1)
                    have hoq2 := ownsRow_setCell_below hoq (a := ⟨w.heap.size, x, none⟩) (by show w.heap.size < _; omega) (.int .i64 (du + 1))
                    have hB2 := hB.setCell (p := ⟨w.heap.size, x, none⟩) (Nat.le_refl _) (.int .i64 (du + 1))
                    have hs2 : w.heap.size + 1 ≤ (wr.setCell ⟨w.heap.size, x, none⟩ (.int .i64 (du + 1))).heap.size := by rw [World.size_setCell]; exact hs1
                    have hN4 := HN.out
                    clear ho hoq hB h0 hz hdu hmem
                    obtain ⟨w5, hw5⟩ : ∃ w5, wr.setCell ⟨w.heap.size, x, none⟩ (.int .i64 (du + 1)) = w5 := ⟨_, rfl⟩
                    rw [hw5] at ho2 hoq2 hB2 hs2
                    have hs5 : Hid (w5.heap.size = wr.heap.size) := Lib.hid (by rw [← hw5, World.size_setCell])
                    replace hw5 := Lib.hid hw5
                    go_wp2_with (at_builtin; rw [hw5.out]; refine app_one (k := .i64) elI64 rfl _ _ rfl rfl hoq2 (by rw [hs5.out]; rfl) (by omega) hs2 ?_; intro a6 c6 w6 ho6 hb6)
                    go_roundw
                    case rel => exact ⟨j + 1, q ++ [x], a6, c6, zs.set x (du + 1), hjl, by rw [List.length_append]; omega, HN2.out.1.qlen, by go_num, by rw [List.length_append]; rfl, by rw [List.length_set]; exact hzl, HN2, own_out ho2 hb6, by rw [List.length_append, List.map_append]; exact ho6, Nat.le_trans hs2 hb6.size, hB2.trans (hb6.mono (by omega))⟩
                    case measure => simp [intOf]; omega
                  · have d0 : decide (z < 0) = false := decide_eq_false h0
                    have HN2 : Hid (Bfs (GE g) (fun n => (n : Int) ∈ l) k h (fun v => (v : Int) ∈ (gr g u).take (j + 1)) (gi zs) q ∧ nq q h = u) := Lib.hid ⟨HBF.out.1.see_old hlt hxk (by rw [hz]; omega) HD.out, HBF.out.2⟩
                    clear h0 hz hmem
                    go_wp2_with (fail)
                    go_roundw
                    case rel => exact ⟨j + 1, q, aq, cq, zs, hjl, hlt, hql, by go_num, rfl, hzl, HN2, ho, hoq, hs1, hB⟩
                    case measure => simp [intOf]; omega
                · obtain rfl : j = lu := by omega
                  have t4 : decide ((j : Int) < j) = false := decide_eq_false (by omega)
                  have HN2 : Hid (Bfs (GE g) (fun n => (n : Int) ∈ l) k (h + 1) (fun _ => False) (gi zs) q) := Lib.hid (HBF.out.1.next hlt (fun v hv => by
                    rw [HBF.out.2] at hv
                    rw [List.take_of_length_le (by rw [HRL.out]; exact Nat.le_refl _)]
                    exact hv) (fun _ f => f))
                  go_wp2_with (fail)
                  go_roundw
                  case rel => exact ⟨h + 1, q, aq, cq, zs, hlt, hql, by go_num, rfl, hzl, HN2, ho, hoq, hs1, hB⟩
                  case measure => simp [intOf]; omega
            · obtain rfl : h = q.length := by omega
              have t3 : decide ((q.length : Int) < q.length) = false := decide_eq_false (by omega)
              have HD : Hid (DistL g l zs) := Lib.hid ⟨by rw [hzl, HL.out], by have := HBF.out.fin HE.out; rwa [← HL.out] at this⟩
              go_wp2
              go_ret
              exact ⟨_, _, zs, rfl, ho, HD.out, hB⟩
end Go.Proofs.Ytlogmgkjikamaaa
