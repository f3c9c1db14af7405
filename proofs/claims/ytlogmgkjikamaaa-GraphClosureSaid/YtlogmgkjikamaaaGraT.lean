/-
  components: the second search.
-/
import Derived.Test.YtlogmgkjikamaaaGraS
import Derived.Test.YtlogmgkjikamaaaGraU
import Derived.Deep.DeepCutAuto
import Derived.Test.YtlogmgkjikamaaaGraG
import Derived.Test.YtlogmgkjikamaaaGraF
import Derived.Test.YtlogmgkjikamaaaGraJ
set_option linter.unusedSimpArgs false
set_option linter.unusedVariables false
set_option maxHeartbeats 4000000
namespace Go.Proofs.Ytlogmgkjikamaaa
open Go.RowKit
attribute [local go_sem] Oper.semAt_some

variable {a : Option Addr} {len cap : Nat} {g : List (List Int)} {w : World}

theorem FinL.length {out : List Nat} (h : FinL g out) : out.length = g.length := by
  have h1 := nodup_sub_length out (List.range g.length) h.1 fun x hx => List.mem_range.2 ((h.2.1 x).1 hx)
  have h2 := nodup_sub_length (List.range g.length) out List.nodup_range fun x hx => (h.2.1 x).2 (List.mem_range.1 hx)
  rw [List.length_range] at h1 h2
  omega
/-- What lies between two numbers is as it was. -/
def Mid (B : Nat) (w3 W : World) : Prop := ∀ k, B < k → k < w3.heap.size → W.heap[k]? = w3.heap[k]?
theorem Mid.refl (B : Nat) (w3 : World) : Mid B w3 w3 := fun _ _ _ => rfl
theorem Mid.below {B : Nat} {w3 W W' : World} (h : Mid B w3 W) (hb : Below w3.heap.size W W') : Mid B w3 W' := fun k h1 h2 => (hb.block k h2).trans (h k h1 h2)
theorem Mid.set {B : Nat} {w3 W : World} (h : Mid B w3 W) (x : Nat) (v : Value) : Mid B w3 (W.setCell ⟨B, x, none⟩ v) := fun k h1 h2 => (heap_setCell_other W ⟨B, x, none⟩ k v (by show k ≠ B; omega)).trans (h k h1 h2)
theorem Mid.owns {B B' e s n : Nat} {v : Value} {xs : List Value} {w3 W : World} (h : Mid B w3 W) (ho : w3.ownsRow B' e s v n xs) (hB : B < B') : W.ownsRow B' e s v n xs :=
  owns_same ho fun k hk => h k (by have := (ho.lt k hk).1; omega) (ho.lt k hk).2
theorem Mid.ownG {B B' To Ti n co : Nat} {ao : Option Addr} {ms vs : List Value} {rows : List (List Int)} {w3 W : World} (h : Mid B w3 W) (ho : OwnG w3 B' To Ti ao n co ms vs rows) (hB : B < B') : OwnG W B' To Ti ao n co ms vs rows :=
  ho.same (fun k hk => h k (by have := (ho.lt.1 k hk).1; omega) (ho.lt.1 k hk).2) fun i v k hi hv hk => h k (by have := (ho.lt.2 i v k hi hv hk).1; omega) (ho.lt.2 i v k hi hv hk).2
/-- How many are not told. -/
def negs (zs : List Int) : Nat := zs.countP fun z => decide (z < 0)
theorem negs_set {zs : List Int} {x : Nat} (hx : x < zs.length) (h : gi zs x < 0) (v : Nat) : negs (zs.set x (v : Int)) + 1 = negs zs := by
  unfold negs
  rw [gi_eq zs x hx] at h
  have hp : 0 < zs.countP fun z => decide (z < 0) := List.countP_pos_iff.2 ⟨zs[x], List.getElem_mem hx, by simpa using h⟩
  rw [List.countP_set hx, if_pos (by simpa using h), if_neg (by simp)]
  omega
theorem negs_le (zs : List Int) : negs zs ≤ zs.length := List.countP_le_length
theorem KosIn.conv {E : Nat → Nat → Prop} {N n r : Nat} {cl0 cl : Nat → Int} {pend pend' : Nat → Nat → Prop} {todo : List Nat} (b : KosIn E N n r cl0 pend cl todo) (h : ∀ x y, E x y → pend x y → pend' x y) : KosIn E N n r cl0 pend' cl todo :=
  { b with closed := fun y hy h0 => (b.closed y hy h0).imp id fun h1 x e hn => h1 x e fun hp => hn (h x y e hp) }
theorem backG_row {g : List (List Int)} {u : Nat} (hu : u < g.length) {z : Int} (hz : z ∈ gr (backG g) u) : ∃ x : Nat, x < g.length ∧ z = (x : Int) ∧ GE g x u := by
  unfold backG at hz
  rw [gr_graphE hu, mem_rowE] at hz
  obtain ⟨x, h1, h2, h3⟩ := hz
  exact ⟨x, h1, h3, geB_iff.1 h2⟩
theorem backG_in {g : List (List Int)} {u x : Nat} (hu : u < g.length) (hx : x < g.length) (h : GE g x u) : (x : Int) ∈ gr (backG g) u := by
  unfold backG
  rw [gr_graphE hu, mem_rowE]
  exact ⟨x, hx, geB_iff.2 h, rfl⟩
theorem backG_rowlen {g : List (List Int)} {u : Nat} (hu : u < g.length) : (gr (backG g) u).length ≤ g.length := by
  unfold backG
  rw [gr_graphE hu]
  exact rowE_len _ _
theorem nq_rev {out : List Nat} {j : Nat} (h : j < out.length) : gi ((out.map Int.ofNat).reverse) j = ((nq out (out.length - 1 - j) : Nat) : Int) := by
  rw [gi_eq _ _ (by simpa using h), nq_eq _ _ (by omega)]
  simp
/-- append of one nil row. -/
theorem app_nilrow {P : Program} {T To Ti : TypeId} (el : Elem P T To (.slice none 0 0) 1 24) {w0 : World} {ops : Array Oper} {rest : List Oper} {o : Oper} {a : Act} {Q : Exit → Act → World → Prop} (hgd : Region.wanted o (yielded ops a.tmps) = true) (s x : Operand)
    (ho : o.op = .call { callee := .builtin .append, args := #[s, x], argTypes := #[T, T] })
    {B n co : Nat} {ao : Option Addr} {ms : List Value} {rows : List (List Int)} (hG : OwnG w0 B To Ti ao n co ms ms rows) (hs : a.eval s = .slice ao n co) (hx : a.eval x = .slice (some ⟨w0.heap.size, 0, none⟩) 1 1) (hn : n ≤ 1000) (hB : B ≤ w0.heap.size)
    (h : ∀ az cz w', OwnG w' B To Ti az (n + 1) cz (ms ++ [.slice none 0 0]) (ms ++ [.slice none 0 0]) (rows ++ [[]]) → Below B w0 w' → wpList P ops Q rest (a.put o.dst (.slice az (n + 1) cz)) w') : wpList P ops Q (o :: rest) a (w0.alloc (.cells #[.slice none 0 0] To)) := by
  have hG1 := hG.kept ((Below.refl _ _).alloc (Nat.le_refl _) (.cells #[.slice none 0 0] To))
  refine wpList_wanted hgd fun K hK => wp_app_blk el s x ho hs hG1.out hx (news := [.slice none 0 0]) ⟨rfl, ?_, fun e => by cases e⟩ (by intro u hu; rw [List.mem_singleton.1 hu]; rfl) (by omega) (by simp; omega) ?_
  · rintro ad e j u hj
    injection e with e
    subst e
    have hn := heap_alloc_new w0 (.cells #[.slice none 0 0] To)
    rw [addr_add, Nat.zero_add, cell_of_row _ _ j _ _ _ hn]
    rw [← hj]
    simp
  · intro a' c' w' h1 h2 h3 h4
    exact hK _ _ (h a' c' w' (hG1.more (World.ownsRow_nil _ _ _ _) (fun k hk => by cases hk) (fun i u hu k hk => by cases hk) h1 h2 h4) (((Below.refl _ _).alloc hB _).trans h3))

set_option maxRecDepth 20000 in
theorem components_any (hg : IsRows w a len cap g) (hv : ValidG g) :
    Calls Try.prog 34 #[.slice a len cap] w fun e w' => ∃ ao co ms zc, e = .returned (.tuple #[.slice ao (rts (both (GE g)) len).length co, .slice (some ⟨w.heap.size, 0, none⟩) len len]) ∧ OwnG w' w.heap.size 25 3 ao (rts (both (GE g)) len).length co ms ms (cmps (both (GE g)) len len) ∧ zc.length = len ∧ w'.ownsRow w.heap.size 3 1 (.slice (some ⟨w.heap.size, 0, none⟩) len len) len (ivs .i64 zc) ∧ (∀ x, x < len → gi zc x = (ix (both (GE g)) x : Int)) ∧ Below w.heap.size w w' := by
  have HL := Lib.hid hg.length
  have hN4 : len ≤ 400 := by rw [← hg.length]; exact hv.1
  have HN := Lib.hid hN4
  have HV := Lib.hid hv
  have HGE : Hid (∀ x y, GE g x y → x < len ∧ y < len) := Lib.hid (fun x y h => by have := h.lt hv; rw [hg.length] at this; exact this)
  clear hv
  go_enter Try.func34, Try.ntmps34
  go_wp2_with (refine make_ints (k := .i64) elI64 rfl _ _ rfl rfl rfl rfl rfl (by omega) (Nat.le_refl _) ?_; intro w1 ho1 hb1 hs1)
  clear hs1
  go_loopw [25] (fun c W => ∃ (k : Nat) (zs : List Int), k ≤ len ∧ c = .int .i64 (k : Int) ∧ zs.length = len ∧ Hid (∀ i, i < k → gi zs i = -1) ∧ W.ownsRow w.heap.size 3 1 (.slice (some ⟨w.heap.size, 0, none⟩) len len) len (ivs .i64 zs) ∧ Below w.heap.size w W) (fun c _ => len - (intOf c).toNat)
  case atStart => exact ⟨0, _, Nat.zero_le _, rfl, by simp, Lib.hid (fun i hi => by omega), ho1, hb1⟩
  case round =>
    clear ho1 hb1
    obtain ⟨k, zs, hk, rfl, hzl, HZ, ho, hB⟩ := hrel
    rcases Nat.lt_or_ge k len with hlt | hge
    · have t1 : decide ((k : Int) < len) = true := decide_eq_true (by omega)
      obtain ⟨hc, hf⟩ := own_cell ho k hlt hzl
      have ho2 := own_store ho k (-1)
      have hB2 := hB.setCell (p := ⟨w.heap.size, k, none⟩) (Nat.le_refl _) (.int .i64 (-1))
      have HZ2 : Hid (∀ i, i < k + 1 → gi (zs.set k (-1)) i = -1) := Lib.hid (fun i hi => by
        rw [gi_put (by omega)]
        split
        · rfl
        · exact HZ.out i (by omega))
      clear ho hB
      go_wp2
      go_roundw
      case rel => exact ⟨k + 1, _, hlt, by go_num, by rw [List.length_set]; exact hzl, HZ2, ho2, hB2⟩
      case measure => simp [intOf]; omega
    · obtain rfl : k = len := by omega
      have t1 : decide ((k : Int) < k) = false := decide_eq_false (by omega)
      have hbs : w.heap.size < wr.heap.size := (ho.lt _ rfl).2
      obtain ⟨Bq, hBq⟩ : ∃ Bq, Bq = wr.heap.size := ⟨_, rfl⟩
      replace hBq := Lib.hid hBq
      have hrev := reversed_any (hg.later hB) HV.out
      have HFI := Lib.hid (fun W (h : Below w.heap.size w W) => finished_any (hg.later h) HV.out)
      go_wp2_with (fail)
      go_at_call 41
      refine hrev.mono ?_
      rintro e w2 ⟨ab, cb, ms, rfl, hG, hb2⟩
      clear hrev
      have hB2 := hB.trans (hb2.mono hB.size)
      have hfi := HFI.out w2 hB2
      have hs2 := hb2.size
      go_wp2_with (fail)
      go_at_call 49
      refine hfi.mono ?_
      rintro e w3 ⟨vo, out, rfl, HFL, hoo, hb3⟩
      replace HFL := Lib.hid HFL
      clear hfi HFI
      have hol : out.length = k := by rw [HFL.out.length, HL.out]
      have hrv := reverse_own (zs := out.map Int.ofNat) (by rw [List.length_map]; exact hoo) (by rw [List.length_map]; omega)
      rw [List.length_map] at hrv
      go_wp2_with (fail)
      go_at_call 50
      refine hrv.mono ?_
      rintro e w4 ⟨rfl, hor, hgr⟩
      clear hrv
      rw [hol] at hor
      have hb4 : Below w2.heap.size w2 w4 := hb3.grown hgr hb3.size (fun j hj => (hoo.lt j hj).1)
      have hG4 := hG.kept hb4
      have ho4 := own_out ho (hb2.mono (Nat.succ_le_of_lt hbs))
      replace ho4 := own_out ho4 (hb4.mono (by omega))
      have hB4 := hB2.trans (hb4.mono (by omega))
      have hs4 := hb4.size
      obtain ⟨ar, cr, rfl, -⟩ := owns_slice hor
      have HBK : Hid (∀ W, Mid w.heap.size w4 W → OwnG W Bq 25 3 ab k cb ms ms (backG g)) := Lib.hid (fun W h => by rw [hBq.out]; exact h.ownG hG4 hbs)
      have HOR : Hid (∀ W, Mid w.heap.size w4 W → W.ownsRow w2.heap.size 3 1 (.slice ar k cr) k (ivs .i64 (out.map Int.ofNat).reverse)) := Lib.hid (fun W h => h.owns hor (by omega))
      have HK0 : Hid (Kos (GE g) k out (k - 0) 0 (gi zs)) := Lib.hid (by
        have := Kos.start (GE g) (N := k) (out := out) HGE.out HZ.out
        rwa [hol] at this)
      have HOL := Lib.hid hol
      clear hoo hor hgr hb4 hb3 hb2 hG hG4 ho hB hB2 HZ hol
      go_wp2_with (fail)
      go_loopw [8, 40] (fun n c W => ∃ (j m : Nat) (zs : List Int), j ≤ k ∧ m ≤ j ∧ c = .int .i64 (j : Int) ∧ n = .int .i64 (m : Int) ∧ zs.length = k ∧ Hid (Kos (GE g) k out (k - j) m (gi zs)) ∧ W.ownsRow w.heap.size 3 1 (.slice (some ⟨w.heap.size, 0, none⟩) k k) k (ivs .i64 zs) ∧ Mid w.heap.size w4 W ∧ w4.heap.size ≤ W.heap.size ∧ Below w.heap.size w W) (fun _ c _ => k - (intOf c).toNat)
      case atStart => exact ⟨0, 0, zs, Nat.zero_le _, Nat.le_refl _, rfl, rfl, hzl, HK0, ho4, Mid.refl _ _, Nat.le_refl _, hB4⟩
      case round =>
        clear ho4 hB4 HK0 hzl
        obtain ⟨j, m, zs, hj, hm, rfl, rfl, hzl, HK, ho, hmid, hsz, hB⟩ := hrel
        rcases Nat.lt_or_ge j k with hlt | hge
        · have t2 : decide ((j : Int) < k) = true := decide_eq_true (by omega)
          have hro := HOR.out _ hmid
          obtain ⟨gr0, rfl, -, -⟩ := owns_at hro (by omega)
          have hcr := (own_cell hro j hlt (by simp [HOL.out])).1
          rw [nq_rev (by rw [HOL.out]; exact hlt), HOL.out] at hcr
          obtain ⟨r, hr⟩ : ∃ r, nq out (k - 1 - j) = r := ⟨_, rfl⟩
          have hrk : r < k := by
            have h := (HFL.out.2.1 _).1 (nq_mem (q := out) (i := k - 1 - j) (by rw [HOL.out]; omega))
            rw [HL.out, hr] at h
            exact h
          rw [hr] at hcr
          have HR := Lib.hid hr
          obtain ⟨hc, hf⟩ := own_cell ho r hrk hzl
          obtain ⟨z, hz⟩ : ∃ z, gi zs r = z := ⟨_, rfl⟩
          rw [hz] at hc
          have HZr := Lib.hid hz
          clear hro hr hz
          by_cases h0 : 0 ≤ z
          · have d0 : decide ((0 : Int) ≤ z) = true := decide_eq_true h0
            have HK2 : Hid (Kos (GE g) k out (k - (j + 1)) m (gi zs)) := Lib.hid (by
              have h := HK.out
              rw [show k - j = (k - (j + 1)) + 1 by omega] at h
              refine h.skip ?_
              rw [show k - (j + 1) = k - 1 - j by omega, HR.out, HZr.out]
              exact h0)
            go_wp2_with (fail)
            go_roundw
            case rel => exact ⟨j + 1, m, zs, hlt, by omega, by go_num, rfl, hzl, HK2, ho, hmid, hsz, hB⟩
            case measure => simp [intOf]; omega
          · have d0 : decide ((0 : Int) ≤ z) = false := decide_eq_false h0
            have h0' : z < 0 := by omega
            have HKP : Hid (Kos (GE g) k out (k - (j + 1) + 1) m (gi zs)) := Lib.hid (by
              have h := HK.out
              rwa [show k - j = (k - (j + 1)) + 1 by omega] at h)
            have HI0 : Hid (KosIn (GE g) k m r (gi zs) (fun _ _ => False) (gi (zs.set r (m : Int))) [r]) := Lib.hid (KosIn.start HKP.out hrk (by rw [HZr.out]; exact h0') (fun x hx => gi_put (by omega) _ x))
            have ho2 := own_store ho r (m : Int)
            have hB2 := hB.setCell (p := ⟨w.heap.size, r, none⟩) (Nat.le_refl _) (.int .i64 (m : Int))
            have hmid2 := hmid.set r (.int .i64 (m : Int))
            have hs5 : Hid ((wr.setCell ⟨w.heap.size, r, none⟩ (.int .i64 (m : Int))).heap.size = wr.heap.size) := Lib.hid (by rw [World.size_setCell])
            have hz0 : ¬ (0 ≤ z) := h0
            clear ho hB hmid HK h0 h0'
            replace hz0 := Lib.hid hz0
            go_wp2_with (fail)
            have hz1 : (zs.set r (m : Int)).length = k := by rw [List.length_set]; exact hzl
            have hod : (wr.setCell ⟨w.heap.size, r, none⟩ (.int .i64 (m : Int))).alloc (.cells #[.int .i64 (r : Int)] 3) |>.ownsRow w4.heap.size 3 1 (.slice (some ⟨wr.heap.size, 0, none⟩) [r].length 1) [r].length (ivs .i64 ([r].map Int.ofNat)) := by
              have h := World.ownsRow_lit (base := w4.heap.size) (e := 3) (size := 1) (wr.setCell ⟨w.heap.size, r, none⟩ (.int .i64 (m : Int))) #[.int .i64 (r : Int)] 1 (by rw [hs5.out]; exact hsz) (by decide) rfl
              rw [hs5.out] at h
              exact h
            have hsz6 : w4.heap.size ≤ ((wr.setCell ⟨w.heap.size, r, none⟩ (.int .i64 (m : Int))).alloc (.cells #[.int .i64 (r : Int)] 3)).heap.size := by simp; omega
            have ho6 := ho2.alloc (.cells #[.int .i64 (r : Int)] 3)
            have hB6 := hB2.alloc hB2.size (.cells #[.int .i64 (r : Int)] 3)
            have hmid6 := hmid2.below ((Below.refl w4.heap.size _).alloc (by rw [hs5.out]; exact hsz) (.cells #[.int .i64 (r : Int)] 3))
            have HN0 : Hid (negs (zs.set r (m : Int)) + [r].length ≤ 401 ∧ KosIn (GE g) k m r (gi zs) (fun _ _ => False) (gi (zs.set r (m : Int))) [r]) := Lib.hid ⟨by have := negs_le (zs.set r (m : Int)); rw [hz1] at this; simp; omega, HI0.out⟩
            clear HI0 hs5 ho2 hB2 hmid2 hc hf hcr
            go_loopg [11] 401 (fun q s W => ∃ (zt : List Int) (td : List Nat) (at_ : Option Addr) (ct : Nat), s = .slice at_ td.length ct ∧ zt.length = k ∧ q ≤ 401 ∧ Hid (negs zt + td.length ≤ q ∧ KosIn (GE g) k m r (gi zs) (fun _ _ => False) (gi zt) td) ∧ W.ownsRow w.heap.size 3 1 (.slice (some ⟨w.heap.size, 0, none⟩) k k) k (ivs .i64 zt) ∧ W.ownsRow w4.heap.size 3 1 (.slice at_ td.length ct) td.length (ivs .i64 (td.map Int.ofNat)) ∧ Mid w.heap.size w4 W ∧ w4.heap.size ≤ W.heap.size ∧ Below w.heap.size w W)
            case atStart => exact ⟨_, [r], _, 1, rfl, hz1, Nat.le_refl _, HN0, ho6, hod, hmid6, hsz6, hB6⟩
            case round =>
              clear ho6 hod hmid6 hsz6 hB6 HN0 hz1 hsz
              obtain ⟨zt, td, at_, ct, rfl, hzl2, hq, HI, ho, hod, hmid, hsz, hB⟩ := hrel
              rcases List.eq_nil_or_concat td with rfl | ⟨t0, u, htd⟩
              · have HK2 : Hid (Kos (GE g) k out (k - (j + 1)) (m + 1) (gi zt)) := Lib.hid (by
                  have e : nq out (k - (j + 1)) = r := by rw [show k - (j + 1) = k - 1 - j by omega]; exact HR.out
                  refine HKP.out.next HGE.out HFL.out.2.2 HFL.out.1 (fun x => by have := HFL.out.2.1 x; rwa [HL.out] at this) (by rw [HOL.out]; omega) (by rw [e, HZr.out]; have := hz0.out; omega) ?_
                  rw [e]
                  exact HI.out.2)
                go_wp2_with (fail)
                go_roundw
                case rel => exact ⟨j + 1, m + 1, zt, hlt, by omega, by go_num, by go_num, hzl2, HK2, ho, hmid, hsz, hB⟩
                case measure => simp [intOf]; omega
              · rw [List.concat_eq_append] at htd
                subst htd
                have HTL : Hid ((t0 ++ [u]).length = t0.length + 1) := Lib.hid (by simp)
                rw [HTL.out] at hod ⊢
                have htl : t0.length ≤ 400 := by
                  have h := HI.out.1
                  rw [HTL.out] at h
                  omega
                have huk := (HI.out.2.tod u (List.mem_append_right _ (List.mem_singleton.2 rfl))).1
                have hum := (HI.out.2.tod u (List.mem_append_right _ (List.mem_singleton.2 rfl))).2
                obtain ⟨gt, rfl, -, -⟩ := owns_at hod (by omega)
                have hcu := (own_cell hod t0.length (by omega) (by simp)).1
                rw [gi_nats, nq_last] at hcu
                have hcap : t0.length + 1 ≤ ct ∧ ct ≤ 9223372036854775807 := by
                  rcases hod.2 with ⟨h0, _⟩ | ⟨g', c', cur, e, _, _, h1, h2, _⟩
                  · cases h0
                  · cases e
                    unfold maxLen at h2
                    exact ⟨h1, h2⟩
                have hod2 := owns_cut (m := t0.length) hod (by omega) (fun e => by cases e)
                rw [show (ivs .i64 ((t0 ++ [u]).map Int.ofNat)).take t0.length = ivs .i64 (t0.map Int.ofNat) by simp [ivs]] at hod2
                have hGB := HBK.out _ hmid
                have HBL : Hid ((backG g).length = k) := Lib.hid (by unfold backG; rw [graphE_length, HL.out])
                obtain ⟨gb, rfl, -, -⟩ := hGB.addr (by omega)
                obtain ⟨v, hv, hrow⟩ := hGB.mem huk
                obtain ⟨lu, hlu⟩ : ∃ lu, (gr (backG g) u).length = lu := ⟨_, rfl⟩
                rw [hlu] at hrow
                obtain ⟨au, cu, rfl, -⟩ := owns_slice hrow
                have hcb := (hGB.cell hv).1
                have HROW : Hid (∀ W, Mid w.heap.size w4 W → W.ownsRow Bq 3 1 (.slice au lu cu) lu (ivs .i64 (gr (backG g) u))) := Lib.hid (fun W h => by
                  obtain ⟨v', hv', hr'⟩ := (HBK.out W h).mem huk
                  rw [hv] at hv'
                  injection hv' with hv'
                  subst hv'
                  rw [hlu] at hr'
                  exact hr')
                have hlu4 : lu ≤ 400 := by
                  have h := backG_rowlen (g := g) (u := u) (by rw [HL.out]; exact huk)
                  rw [hlu, HL.out] at h
                  omega
                have HRL := Lib.hid hlu
                have HGK : Hid (∀ x y, y = u → GE g x y → (x : Int) ∈ gr (backG g) u) := Lib.hid (fun x y hy e => by rw [hy] at e; exact backG_in (by rw [HL.out]; exact huk) (by rw [HL.out]; exact (HGE.out _ _ e).1) e)
                have HJ0 : Hid (negs zt + t0.length + 1 ≤ gk ∧ gi zt u = (m : Int) ∧ KosIn (GE g) k m r (gi zs) (fun x y => y = u ∧ (x : Int) ∈ (gr (backG g) u).drop 0) (gi zt) t0) := Lib.hid ⟨by have h := HI.out.1; rw [HTL.out] at h; omega, hum, HI.out.2.pop.conv fun x y e hp => ⟨hp, by rw [List.drop_zero]; exact HGK.out x y hp e⟩⟩
                clear hlu hv hGB hrow hum
                go_wp2_with (fail)
                clear hcu hcb hcap
                go_loopw [11, 74] (fun s c W => ∃ (i : Nat) (zt : List Int) (td : List Nat) (at_ : Option Addr) (ct : Nat), i ≤ lu ∧ c = .int .i64 (i : Int) ∧ s = .slice at_ td.length ct ∧ zt.length = k ∧ td.length ≤ 401 ∧ Hid (negs zt + td.length + 1 ≤ gk ∧ gi zt u = (m : Int) ∧ KosIn (GE g) k m r (gi zs) (fun x y => y = u ∧ (x : Int) ∈ (gr (backG g) u).drop i) (gi zt) td) ∧ W.ownsRow w.heap.size 3 1 (.slice (some ⟨w.heap.size, 0, none⟩) k k) k (ivs .i64 zt) ∧ W.ownsRow w4.heap.size 3 1 (.slice at_ td.length ct) td.length (ivs .i64 (td.map Int.ofNat)) ∧ Mid w.heap.size w4 W ∧ w4.heap.size ≤ W.heap.size ∧ Below w.heap.size w W) (fun _ c _ => lu - (intOf c).toNat)
                case atStart => exact ⟨0, zt, t0, _, ct, Nat.zero_le _, rfl, rfl, hzl2, by omega, HJ0, ho, hod2, hmid, hsz, hB⟩
                case round =>
                  clear ho hod hod2 hmid hsz hB HJ0 hzl2 HI
                  obtain ⟨i, zt, td, at_, ct, hi, rfl, rfl, hzl2, htd, HJ, ho, hod, hmid, hsz, hB⟩ := hrel
                  rcases Nat.lt_or_ge i lu with hilt | hige
                  · have t4 : decide ((i : Int) < lu) = true := decide_eq_true (by omega)
                    have hrw := HROW.out _ hmid
                    obtain ⟨gu, rfl, -, -⟩ := owns_at hrw (by omega)
                    have hcx := (own_cell hrw i hilt HRL.out).1
                    have hiL : i < (gr (backG g) u).length := by rw [HRL.out]; exact hilt
                    obtain ⟨x, hxk, hx, hxe⟩ := backG_row (by rw [HL.out]; exact huk) (gi_mem (gr (backG g) u) i hiL)
                    rw [HL.out] at hxk
                    rw [hx] at hcx
                    have HXE := Lib.hid hxe
                    have HD : Hid (∀ x' y' : Nat, (y' = u ∧ (x' : Int) ∈ (gr (backG g) u).drop i) → (y' = u ∧ (x' : Int) ∈ (gr (backG g) u).drop (i + 1)) ∨ x' = x) := Lib.hid (fun x' y' hp => by
                      have h := hp.2
                      rw [drop_gi _ i hiL, List.mem_cons, hx] at h
                      rcases h with h | h
                      · exact .inr (by omega)
                      · exact .inl ⟨hp.1, h⟩)
                    obtain ⟨hc, hf⟩ := own_cell ho x hxk hzl2
                    obtain ⟨y, hy⟩ : ∃ y, gi zt x = y := ⟨_, rfl⟩
                    rw [hy] at hc
                    have HY := Lib.hid hy
                    clear hrw hx hxe hy hiL
                    by_cases h0 : y < 0
                    · have d4 : decide (y < 0) = true := decide_eq_true h0
                      have HN2 : Hid (negs (zt.set x (m : Int)) + (td ++ [x]).length + 1 ≤ gk ∧ gi (zt.set x (m : Int)) u = (m : Int) ∧ KosIn (GE g) k m r (gi zs) (fun x y => y = u ∧ (x : Int) ∈ (gr (backG g) u).drop (i + 1)) (gi (zt.set x (m : Int))) (td ++ [x])) := Lib.hid (by
                        have hn := negs_set (zs := zt) (x := x) (by omega) (by rw [HY.out]; exact h0) m
                        refine ⟨?_, ?_, ?_⟩
                        · have := HJ.out.1
                          simp only [List.length_append, List.length_singleton]
                          omega
                        · rw [gi_put (by omega)]
                          split
                          · rfl
                          · exact HJ.out.2.1
                        · exact HJ.out.2.2.see_new hxk HJ.out.2.1 huk (fun x hx => (HKP.out.rng x hx).2) HXE.out (by rw [HY.out]; exact h0) (fun n hn => gi_put (by omega) _ n) HGE.out HD.out)
                      have ho2 := own_store ho x (m : Int)
                      have hod2 := ownsRow_setCell_below hod (a := ⟨w.heap.size, x, none⟩) (by show w.heap.size < _; omega) (.int .i64 (m : Int))
                      have hB2 := hB.setCell (p := ⟨w.heap.size, x, none⟩) (Nat.le_refl _) (.int .i64 (m : Int))
                      have hmid2 := hmid.set x (.int .i64 (m : Int))
                      have hs2 : w4.heap.size ≤ (wr.setCell ⟨w.heap.size, x, none⟩ (.int .i64 (m : Int))).heap.size := by rw [World.size_setCell]; exact hsz
                      clear ho hod hB hmid h0
                      obtain ⟨w5, hw5⟩ : ∃ w5, wr.setCell ⟨w.heap.size, x, none⟩ (.int .i64 (m : Int)) = w5 := ⟨_, rfl⟩
                      rw [hw5] at ho2 hod2 hB2 hs2 hmid2
                      have hs5 : Hid (w5.heap.size = wr.heap.size) := Lib.hid (by rw [← hw5, World.size_setCell])
                      replace hw5 := Lib.hid hw5
                      go_wp2_with (at_builtin; rw [hw5.out]; refine app_one (k := .i64) elI64 rfl _ _ rfl rfl hod2 (by rw [hs5.out]; rfl) (by omega) hs2 ?_; intro a6 c6 w6 ho6 hb6)
                      go_roundw
                      case rel => exact ⟨i + 1, zt.set x (m : Int), td ++ [x], a6, c6, hilt, by go_num, by rw [List.length_append]; rfl, by rw [List.length_set]; exact hzl2, by have := HN2.out.1; omega, HN2, own_out ho2 (hb6.mono (by omega)), by rw [List.length_append, List.map_append]; exact ho6, hmid2.below hb6, Nat.le_trans hs2 hb6.size, hB2.trans (hb6.mono (by omega))⟩
                      case measure => simp [intOf]; omega
                    · have d4 : decide (y < 0) = false := decide_eq_false h0
                      have HN2 : Hid (negs zt + td.length + 1 ≤ gk ∧ gi zt u = (m : Int) ∧ KosIn (GE g) k m r (gi zs) (fun x y => y = u ∧ (x : Int) ∈ (gr (backG g) u).drop (i + 1)) (gi zt) td) := Lib.hid ⟨HJ.out.1, HJ.out.2.1, HJ.out.2.2.see_old (by rw [HY.out]; omega) HD.out⟩
                      clear h0
                      go_wp2_with (fail)
                      go_roundw
                      case rel => exact ⟨i + 1, zt, td, at_, ct, hilt, by go_num, rfl, hzl2, htd, HN2, ho, hod, hmid, hsz, hB⟩
                      case measure => simp [intOf]; omega
                  · obtain rfl : i = lu := by omega
                    have t4 : decide ((i : Int) < i) = false := decide_eq_false (by omega)
                    have HI2 : Hid (negs zt + td.length ≤ gk - 1 ∧ KosIn (GE g) k m r (gi zs) (fun _ _ => False) (gi zt) td) := Lib.hid ⟨by have := HJ.out.1; omega, HJ.out.2.2.conv fun x y e hp => by
                      have h := hp.2
                      rw [List.drop_of_length_le (by rw [HRL.out]; exact Nat.le_refl _)] at h
                      cases h⟩
                    go_wp2_with (fail)
                    go_roundg (gk - 1)
                    case rel => exact ⟨zt, td, at_, ct, rfl, hzl2, by omega, HI2, ho, hod, hmid, hsz, hB⟩
                    case measure => have := HJ.out.1; omega
        · obtain rfl : j = k := by omega
          have t2 : decide ((j : Int) < j) = false := decide_eq_false (by omega)
          have HK2 : Hid (Kos (GE g) j out 0 m (gi zs)) := Lib.hid (by have h := HK.out; rwa [Nat.sub_self] at h)
          rename World => w5
          obtain ⟨bN, hbN⟩ : ∃ bN, w5.heap.size = bN := ⟨_, rfl⟩
          replace hbN := Lib.hid hbN
          have hbw : w.heap.size < bN := by rw [← hbN.out]; exact (ho.lt _ rfl).2
          clear HK HBK HOR hmid hsz
          go_wp2_with (refine make_ints (k := .i64) elI64 rfl _ _ rfl rfl rfl rfl rfl (by omega) (Nat.le_refl _) ?_; intro w6 ho6 hb6 hs6; rw [hbN.out] at ho6 hb6 ⊢)
          clear hs6
          go_loopw [99] (fun c W => ∃ (i : Nat) (nb : List Int), i ≤ m ∧ c = .int .i64 (i : Int) ∧ nb.length = m ∧ Hid (∀ c, c < i → gi nb c = -1) ∧ W.ownsRow bN 3 1 (.slice (some ⟨bN, 0, none⟩) m m) m (ivs .i64 nb) ∧ Below bN w5 W) (fun c _ => m - (intOf c).toNat)
          case atStart => exact ⟨0, _, Nat.zero_le _, rfl, by simp, Lib.hid (fun i hi => by omega), ho6, hb6⟩
          case round =>
            clear ho6 hb6
            obtain ⟨i, nb, hi, rfl, hnl, HZ, hn, hb⟩ := hrel
            rcases Nat.lt_or_ge i m with hilt | hige
            · have t3 : decide ((i : Int) < m) = true := decide_eq_true (by omega)
              obtain ⟨hc, hf⟩ := own_cell hn i hilt hnl
              have hn2 := own_store hn i (-1)
              have hb2 := hb.setCell (p := ⟨bN, i, none⟩) (Nat.le_refl _) (.int .i64 (-1))
              have HZ2 : Hid (∀ c, c < i + 1 → gi (nb.set i (-1)) c = -1) := Lib.hid (fun c hc => by
                rw [gi_put (by omega)]
                split
                · rfl
                · exact HZ.out c (by omega))
              clear hn hb
              go_wp2
              go_roundw
              case rel => exact ⟨i + 1, _, hilt, by go_num, by rw [List.length_set]; exact hnl, HZ2, hn2, hb2⟩
              case measure => simp [intOf]; omega
            · obtain rfl : i = m := by omega
              have t3 : decide ((i : Int) < i) = false := decide_eq_false (by omega)
              have hoc := own_out ho (hb.mono (by omega))
              have hB2 := hB.trans (hb.mono (by omega))
              have HR0 : Hid (Ren (both (GE g)) j i 0 (gi zs) (gi nb) (gi zs)) := Lib.hid (Ren.start _ _ _ HZ.out)
              have HE := Lib.hid (eqv_both (GE g))
              have hs6 : bN + 1 ≤ wr.heap.size := (hn.lt _ rfl).2
              have HNN : Hid (∀ x, x < j → 0 ≤ gi zs x) := Lib.hid (fun x hx => by
                obtain ⟨q, hq, e⟩ := mem_nq ((HFL.out.2.1 x).2 (by rw [HL.out]; exact hx))
                rw [← e]
                exact HK2.out.roots q (Nat.zero_le _) hq)
              obtain ⟨sm, hsm⟩ : ∃ sm, both (GE g) = sm := ⟨_, rfl⟩
              have HSM : Hid (∀ x y, x < j → y < j → (gi zs x = gi zs y ↔ sm x y = true)) := Lib.hid (fun x y hx hy => by
                rw [← hsm, both_iff]
                exact HK2.out.same x y hx hy (HNN.out x hx) (HNN.out y hy))
              have HRG : Hid (∀ x, x < j → ∃ d : Nat, d < i ∧ gi zs x = (d : Int)) := Lib.hid (fun x hx => by
                obtain ⟨d, hd⟩ := Int.eq_ofNat_of_zero_le (HNN.out x hx)
                exact ⟨d, by have := (HK2.out.rng x hx).2; omega, hd⟩)
              rw [hsm] at HR0 HE
              clear ho hB hb HZ
              go_wp2_with (fail)
              go_loopg [15, 108] j (fun rest o c W => ∃ (q : Nat) (nb zc : List Int) (ao : Option Addr) (co : Nat) (ms : List Value), Hid (q + rest = j) ∧ q ≤ j ∧ c = .int .i64 (q : Int) ∧ o = .slice ao (rts sm q).length co ∧ nb.length = i ∧ zc.length = j ∧ Hid (Ren sm j i q (gi zs) (gi nb) (gi zc)) ∧ W.ownsRow w.heap.size 3 1 (.slice (some ⟨w.heap.size, 0, none⟩) j j) j (ivs .i64 zc) ∧ W.ownsRow bN 3 1 (.slice (some ⟨bN, 0, none⟩) i i) i (ivs .i64 nb) ∧ OwnG W (bN + 1) 25 3 ao (rts sm q).length co ms ms (cmps sm q q) ∧ Below w.heap.size w W)
              case atStart => exact ⟨0, nb, zs, none, 0, [], Lib.hid (Nat.zero_add _), Nat.zero_le _, rfl, rfl, hnl, hzl, HR0, hoc, hn, OwnG.nil _ _ _ _, hB2⟩
              case round =>
                clear hoc hn HR0 hB2 hnl hzl
                obtain ⟨q, nb, zc, ao, co, ms, HQ, hq, rfl, rfl, hnl, hzl, HR, ho, hn, hG, hB⟩ := hrel
                rcases Nat.lt_or_ge q j with hqlt | hqge
                · have t4 : decide ((q : Int) < j) = true := decide_eq_true (by omega)
                  obtain ⟨d, hdm, hd⟩ := HRG.out q hqlt
                  have HDQ := Lib.hid hd
                  have hc1 := (own_cell ho q hqlt hzl).1
                  have hf1 := (own_cell ho q hqlt hzl).2
                  rw [HR.out.rest q (Nat.le_refl _) hqlt, hd] at hc1
                  obtain ⟨hc2, hf2⟩ := own_cell hn d hdm hnl
                  obtain ⟨y, hy⟩ : ∃ y, gi nb d = y := ⟨_, rfl⟩
                  rw [hy] at hc2
                  have HY := Lib.hid hy
                  have hLq : (rts sm q).length ≤ q := rts_len _ _
                  have hgs : bN + 1 ≤ wr.heap.size := (hn.lt _ rfl).2
                  clear hd hy
                  go_upto_if 117 with fail
                  go_cut [15] (fun o wc => ∃ (nb2 : List Int) (az : Option Addr) (cz : Nat) (ms2 : List Value) (rows1 : List (List Int)), o = .slice az (rts sm (q + 1)).length cz ∧ nb2.length = i ∧ Hid (gi nb2 d = (ix sm q : Int) ∧ (∀ e : Nat, e < i → e ≠ d → gi nb2 e = gi nb e) ∧ ∀ r, r < (rts sm (q + 1)).length → gr rows1 r = if r < (rts sm q).length then gr (cmps sm q q) r else []) ∧ wc.ownsRow w.heap.size 3 1 (.slice (some ⟨w.heap.size, 0, none⟩) j j) j (ivs .i64 zc) ∧ wc.ownsRow bN 3 1 (.slice (some ⟨bN, 0, none⟩) i i) i (ivs .i64 nb2) ∧ OwnG wc (bN + 1) 25 3 az (rts sm (q + 1)).length cz ms2 ms2 rows1 ∧ Below w.heap.size w wc)
                  case first =>
                    by_cases h0 : y < 0
                    · have d5 : decide (y < 0) = true := decide_eq_true h0
                      have HRT : Hid (IsRt sm q) := Lib.hid (HR.out.new HSM.out hqlt HDQ.out (by rw [HY.out]; exact h0))
                      have HL1 : Hid ((rts sm (q + 1)).length = (rts sm q).length + 1) := Lib.hid (by rw [rts_yes HRT.out]; simp)
                      have hn2 := own_store hn d ((rts sm q).length : Int)
                      have ho2 : (wr.setCell ⟨bN, d, none⟩ (.int .i64 ((rts sm q).length : Int))).ownsRow w.heap.size 3 1 (.slice (some ⟨w.heap.size, 0, none⟩) j j) j (ivs .i64 zc) := owns_same ho fun k hk => heap_setCell_other wr ⟨bN, d, none⟩ k _ (by injection hk with hk; simp only at hk; show k ≠ bN; omega)
                      have hG2 := hG.setBelow (a := ⟨bN, d, none⟩) (Nat.lt_succ_self _) (.int .i64 ((rts sm q).length : Int))
                      have hB2 := hB.setCell (p := ⟨bN, d, none⟩) (Nat.le_of_lt hbw) (.int .i64 ((rts sm q).length : Int))
                      have hgs2 : bN + 1 ≤ (wr.setCell ⟨bN, d, none⟩ (.int .i64 ((rts sm q).length : Int))).heap.size := by rw [World.size_setCell]; exact hgs
                      have hn2l : (nb.set d ((rts sm q).length : Int)).length = i := by rw [List.length_set]; exact hnl
                      have HC : Hid (gi (nb.set d ((rts sm q).length : Int)) d = (ix sm q : Int) ∧ (∀ e : Nat, e < i → e ≠ d → gi (nb.set d ((rts sm q).length : Int)) e = gi nb e) ∧ ∀ r, r < (rts sm (q + 1)).length → gr (cmps sm q q ++ [[]]) r = if r < (rts sm q).length then gr (cmps sm q q) r else []) := Lib.hid (by
                        refine ⟨by rw [gi_put (by omega), if_pos rfl, ix_new HE.out HRT.out], fun e he hne => by rw [gi_put (by omega), if_neg hne], fun r hr => ?_⟩
                        have hcl := cmps_length sm q q
                        by_cases h : r < (rts sm q).length
                        · rw [if_pos h]
                          simp [gr, List.getD, List.getElem?_append_left (show r < (cmps sm q q).length by omega)]
                        · rw [if_neg h]
                          simp only [gr, List.getD]
                          rw [List.getElem?_append_right (by omega)]
                          cases r - (cmps sm q q).length <;> simp)
                      clear hc1 hf1 ho hn hG hB
                      obtain ⟨w7, hw7⟩ : ∃ w7, wr.setCell ⟨bN, d, none⟩ (.int .i64 ((rts sm q).length : Int)) = w7 := ⟨_, rfl⟩
                      rw [hw7] at hn2 ho2 hG2 hB2 hgs2
                      have hs7 : Hid (w7.heap.size = wr.heap.size) := Lib.hid (by rw [← hw7, World.size_setCell])
                      replace hw7 := Lib.hid hw7
                      go_wp2_with (at_builtin; rw [hw7.out]; refine app_nilrow elG2 rfl _ _ rfl hG2 rfl (by rw [hs7.out]; rfl) (by omega) hgs2 ?_; intro a8 c8 w8 hG8 hb8)
                      go_meet
                      case rel => exact ⟨_, a8, c8, _, cmps sm q q ++ [[]], by rw [HL1.out], hn2l, HC, own_out ho2 (hb8.mono (by omega)), own_out hn2 hb8, by rw [HL1.out]; exact hG8, hB2.trans (hb8.mono (by omega))⟩
                    · have d5 : decide (y < 0) = false := decide_eq_false h0
                      have HO := Lib.hid (HR.out.old HE.out HSM.out hqlt hdm HDQ.out (by rw [HY.out]; exact h0))
                      have HL1 : Hid ((rts sm (q + 1)).length = (rts sm q).length) := Lib.hid (by rw [rts_no HO.out.2])
                      go_wp2_with (fail)
                      go_meet
                      case rel => exact ⟨nb, ao, co, ms, cmps sm q q, by rw [HL1.out], hnl, Lib.hid ⟨HO.out.1, fun _ _ _ => rfl, fun r hr => by rw [HL1.out] at hr; rw [if_pos hr]⟩, ho, hn, by rw [HL1.out]; exact hG, hB⟩
                  case rest =>
                    clear hc1 hc2 hf2 hG hn ho hB hnl hgs
                    obtain ⟨nb2, az, cz, ms2, rows1, rfl, hnl2, HC, ho, hn, hG, hB⟩ := hcut
                    have HAL := ix_lt HE.out (i := q) (k := q + 1) (Nat.lt_succ_self q)
                    have hLq1 : (rts sm (q + 1)).length ≤ q + 1 := rts_len _ _
                    obtain ⟨Ln, hLn⟩ : ∃ Ln, (rts sm (q + 1)).length = Ln := ⟨_, rfl⟩
                    obtain ⟨A, hA⟩ : ∃ A, ix sm q = A := ⟨_, rfl⟩
                    rw [hLn] at HAL hLq1 hG ⊢
                    rw [hA] at HAL
                    obtain ⟨go, rfl, hgo, -⟩ := hG.addr (by omega)
                    obtain ⟨hc2, -⟩ := own_cell hn d hdm hnl2
                    rw [HC.out.1, hA] at hc2
                    have ho2 := own_store ho q (A : Int)
                    have hn2 := ownsRow_setCell_below (w := wc) hn (a := ⟨w.heap.size, q, none⟩) hbw (.int .i64 (A : Int))
                    have hG2 := hG.setBelow (a := ⟨w.heap.size, q, none⟩) (by show w.heap.size < _; omega) (.int .i64 (A : Int))
                    have hB2 := hB.setCell (p := ⟨w.heap.size, q, none⟩) (Nat.le_refl _) (.int .i64 (A : Int))
                    obtain ⟨hc1, hf1⟩ := own_cell ho q hqlt hzl
                    have HLN := Lib.hid hLn
                    have HA := Lib.hid hA
                    clear hLn hA ho hn hG hB
                    go_wp2_with (fail)
                    obtain ⟨w9, hw9⟩ : ∃ w9, wc.setCell ⟨w.heap.size, q, none⟩ (.int .i64 (A : Int)) = w9 := ⟨_, rfl⟩
                    rw [hw9] at ho2 hn2 hG2 hB2 ⊢
                    clear hw9 hc1 hf1 hc2
                    have hlz : (gr rows1 A).length ≤ 401 := by
                      rw [HC.out.2.2 A (by rw [HLN.out]; exact HAL)]
                      split
                      · rw [gr_eq _ _ (by rw [cmps_length]; assumption)]
                        simp only [cmps, List.getElem_map]
                        have := memb_len sm q (rts sm q)[A]
                        omega
                      · simp
                    have hnext : Hid (rows1.set A (gr rows1 A ++ [(q : Int)]) = cmps sm (q + 1) (q + 1)) := Lib.hid (by
                      have hrl : rows1.length = Ln := hG2.len
                      refine rows_ext (by rw [List.length_set, cmps_length, HLN.out, hrl]) fun r hr => ?_
                      rw [List.length_set, hrl] at hr
                      rw [gr_set (by omega), cmps_row HE.out r (by rw [HLN.out]; exact hr), HA.out, HC.out.2.2 A (by rw [HLN.out]; exact HAL), HC.out.2.2 r (by rw [HLN.out]; exact hr)]
                      by_cases e : r = A
                      · rw [e, if_pos rfl, if_pos rfl]
                      · rw [if_neg e, if_neg e, List.append_nil])
                    obtain ⟨v0, hv0, hrow0⟩ := hG2.mem HAL
                    obtain ⟨a0, c0, rfl, -⟩ := owns_slice hrow0
                    obtain ⟨n0, hn0⟩ : ∃ n0, (gr rows1 A).length = n0 := ⟨_, rfl⟩
                    rw [hn0] at hv0 hrow0 hlz
                    have HN0 := Lib.hid hn0
                    have hgI : go ≠ bN := by omega
                    have hgW : go ≠ w.heap.size := by omega
                    clear hn0
                    obtain ⟨S, hSd⟩ : ∃ S : (Nat → Bool) → (Nat → Value) → World → Prop, S = fun L f W => Below w.heap.size w W ∧ W.ownsRow bN 3 1 (.slice (some ⟨bN, 0, none⟩) i i) i (ivs .i64 nb2) ∧ (L 13 = true → L 14 = false → ∃ p, f 13 = .slice (some ⟨p, 0, none⟩) 1 1 ∧ BlkAt W p #[.int .i64 (q : Int)]) ∧ OwnG W (bN + 1) 25 3 (some ⟨go, 0, none⟩) Ln cz (if L 16 = true then ms2.set A (f 14) else ms2) (if L 14 = true then ms2.set A (f 14) else ms2) (if L 14 = true then rows1.set A (gr rows1 A ++ [(q : Int)]) else rows1) ∧ W.ownsRow w.heap.size 3 1 (.slice (some ⟨w.heap.size, 0, none⟩) j j) j (ivs .i64 (zc.set q (A : Int))) := ⟨_, rfl⟩
                    refine wp_region_st mixed (by kernel_rfl) [[], [], [], [(1, 134), (2, 135)], [(3, 136)], [], [], [], [(6, 139), (7, 140)], [(8, 141)], [(5, 138), (9, 142)], [(10, 143)], [], [(12, 145)], [(11, 144), (13, 146)], [(0, 133), (4, 137), (0, 133), (1, 134), (2, 135), (3, 136), (4, 137), (5, 138), (6, 139), (7, 140), (8, 141), (9, 142), (10, 143), (11, 144), (12, 145), (13, 146), (14, 147)], [(15, 148), (14, 147), (14, 147), (0, 133), (1, 134), (2, 135), (3, 136), (4, 137), (5, 138), (6, 139), (7, 140), (8, 141), (9, 142), (10, 143), (11, 144), (12, 145), (13, 146), (14, 147)]] [(0, 133), (1, 134), (2, 135), (3, 136), (4, 137), (5, 138), (6, 139), (7, 140), (8, 141), (9, 142), (10, 143), (11, 144), (12, 145), (13, 146), (14, 147), (15, 148)] rfl rfl [EV ?e0, EV ?e1, EV ?e2, EV ?e3, EV ?e4, EV ?e5, EV ?e6, EV ?e7, EV ?e8, EV ?e9, EV ?e10, EV ?e11, EV ?e12, fun v => ∃ b, v = .slice (some ⟨b, 0, none⟩) 1 1, fun v => ∃ a c, v = .slice a (n0 + 1) c, EV ?e15, fun _ => True] S ?start ?steps ?rest
                    case start =>
                      intro f
                      rw [hSd]
                      exact ⟨hB2.drew, hn2, fun h => (by cases h), hG2.kept ((Below.refl _ _).drew), ho2⟩
                    case steps =>
                      refine ⟨fun L f W hi hd hdn hh hS => ?_, fun L f W hi hd hdn hh hS => ?_, fun L f W hi hd hdn hh hS => ?_, fun L f W hi hd hdn hh hS => ?_, fun L f W hi hd hdn hh hS => ?_, fun L f W hi hd hdn hh hS => ?_, fun L f W hi hd hdn hh hS => ?_, fun L f W hi hd hdn hh hS => ?_, fun L f W hi hd hdn hh hS => ?_, fun L f W hi hd hdn hh hS => ?_, fun L f W hi hd hdn hh hS => ?_, fun L f W hi hd hdn hh hS => ?_, fun L f W hi hd hdn hh hS => ?_, fun L f W hi hd hdn hh hS => ?_, fun L f W hi hd hdn hh hS => ?_, fun L f W hi hd hdn hh hS => ?_, fun L f W hi hd hdn hh hS => ?_, trivial⟩
                      · -- 0: Op.move (Operand.tmp 15)
                        unfold stStep
                        rw [if_pos (by simp [Region.wanted])]
                        intro K Q hK
                        simp only [puts, List.foldr_nil]
                        go_step
                        refine st_ex hK rfl rfl (by simp only [Act.put, List.setIfInBounds_toArray, List.set_cons_succ, List.set_cons_zero, Array.getD_eq_getD_getElem?, List.getElem?_toArray, List.getElem?_cons_succ, List.getElem?_cons_zero, Option.getD_some] <;> rfl) rfl (by rw [hSd] at hS ⊢; exact hS)
                      · -- 1: Op.move (Operand.tmp 16)
                        unfold stStep
                        rw [if_pos (by simp [Region.wanted])]
                        intro K Q hK
                        simp only [puts, List.foldr_nil]
                        go_step
                        refine st_ex hK rfl rfl (by simp only [Act.put, List.setIfInBounds_toArray, List.set_cons_succ, List.set_cons_zero, Array.getD_eq_getD_getElem?, List.getElem?_toArray, List.getElem?_cons_succ, List.getElem?_cons_zero, Option.getD_some] <;> rfl) rfl (by rw [hSd] at hS ⊢; exact hS)
                      · -- 2: Op.move (Operand.tmp 19)
                        unfold stStep
                        rw [if_pos (by simp [Region.wanted])]
                        intro K Q hK
                        simp only [puts, List.foldr_nil]
                        go_step
                        refine st_ex hK rfl rfl (by simp only [Act.put, List.setIfInBounds_toArray, List.set_cons_succ, List.set_cons_zero, Array.getD_eq_getD_getElem?, List.getElem?_toArray, List.getElem?_cons_succ, List.getElem?_cons_zero, Option.getD_some] <;> rfl) rfl (by rw [hSd] at hS ⊢; exact hS)
                      · -- 3: Op.indexAddr 25 (Operand.tmp 134) (Operand.tmp 135)
                        obtain ⟨h1, h2, -⟩ := hh
                        have g1 : f 1 = _ := h1
                        have g2 : f 2 = _ := h2
                        unfold stStep
                        rw [if_pos (by simp [Region.wanted])]
                        intro K Q hK
                        simp only [puts, List.foldr_cons, List.foldr_nil, List.setIfInBounds_toArray, List.set_cons_succ, List.set_cons_zero, g1, g2]
                        go_step
                        refine st_ex hK rfl rfl (by simp only [Act.put, List.setIfInBounds_toArray, List.set_cons_succ, List.set_cons_zero, Array.getD_eq_getD_getElem?, List.getElem?_toArray, List.getElem?_cons_succ, List.getElem?_cons_zero, Option.getD_some] <;> rfl) rfl (by rw [hSd] at hS ⊢; exact hS)
                      · -- 4: Op.load 3 (Operand.tmp 136)
                        obtain ⟨h3, -⟩ := hh
                        have g3 : f 3 = _ := h3
                        unfold stStep
                        rw [if_pos (by simp [Region.wanted])]
                        intro K Q hK
                        simp only [puts, List.foldr_cons, List.foldr_nil, List.setIfInBounds_toArray, List.set_cons_succ, List.set_cons_zero, g3]
                        have hS' := hS
                        rw [hSd] at hS'
                        obtain ⟨hc2, -⟩ := own_cell hS'.2.1 d hdm hnl2
                        rw [HC.out.1, HA.out] at hc2
                        go_step
                        refine st_ex hK rfl rfl (by simp only [Act.put, List.setIfInBounds_toArray, List.set_cons_succ, List.set_cons_zero, Array.getD_eq_getD_getElem?, List.getElem?_toArray, List.getElem?_cons_succ, List.getElem?_cons_zero, Option.getD_some] <;> rfl) rfl (by rw [hSd] at hS ⊢; exact hS)
                      · -- 5: Op.move (Operand.tmp 15)
                        unfold stStep
                        rw [if_pos (by simp [Region.wanted])]
                        intro K Q hK
                        simp only [puts, List.foldr_nil]
                        go_step
                        refine st_ex hK rfl rfl (by simp only [Act.put, List.setIfInBounds_toArray, List.set_cons_succ, List.set_cons_zero, Array.getD_eq_getD_getElem?, List.getElem?_toArray, List.getElem?_cons_succ, List.getElem?_cons_zero, Option.getD_some] <;> rfl) rfl (by rw [hSd] at hS ⊢; exact hS)
                      · -- 6: Op.move (Operand.tmp 16)
                        unfold stStep
                        rw [if_pos (by simp [Region.wanted])]
                        intro K Q hK
                        simp only [puts, List.foldr_nil]
                        go_step
                        refine st_ex hK rfl rfl (by simp only [Act.put, List.setIfInBounds_toArray, List.set_cons_succ, List.set_cons_zero, Array.getD_eq_getD_getElem?, List.getElem?_toArray, List.getElem?_cons_succ, List.getElem?_cons_zero, Option.getD_some] <;> rfl) rfl (by rw [hSd] at hS ⊢; exact hS)
                      · -- 7: Op.move (Operand.tmp 19)
                        unfold stStep
                        rw [if_pos (by simp [Region.wanted])]
                        intro K Q hK
                        simp only [puts, List.foldr_nil]
                        go_step
                        refine st_ex hK rfl rfl (by simp only [Act.put, List.setIfInBounds_toArray, List.set_cons_succ, List.set_cons_zero, Array.getD_eq_getD_getElem?, List.getElem?_toArray, List.getElem?_cons_succ, List.getElem?_cons_zero, Option.getD_some] <;> rfl) rfl (by rw [hSd] at hS ⊢; exact hS)
                      · -- 8: Op.indexAddr 25 (Operand.tmp 139) (Operand.tmp 140)
                        obtain ⟨h6, h7, -⟩ := hh
                        have g6 : f 6 = _ := h6
                        have g7 : f 7 = _ := h7
                        unfold stStep
                        rw [if_pos (by simp [Region.wanted])]
                        intro K Q hK
                        simp only [puts, List.foldr_cons, List.foldr_nil, List.setIfInBounds_toArray, List.set_cons_succ, List.set_cons_zero, g6, g7]
                        go_step
                        refine st_ex hK rfl rfl (by simp only [Act.put, List.setIfInBounds_toArray, List.set_cons_succ, List.set_cons_zero, Array.getD_eq_getD_getElem?, List.getElem?_toArray, List.getElem?_cons_succ, List.getElem?_cons_zero, Option.getD_some] <;> rfl) rfl (by rw [hSd] at hS ⊢; exact hS)
                      · -- 9: Op.load 3 (Operand.tmp 141)
                        obtain ⟨h8, -⟩ := hh
                        have g8 : f 8 = _ := h8
                        unfold stStep
                        rw [if_pos (by simp [Region.wanted])]
                        intro K Q hK
                        simp only [puts, List.foldr_cons, List.foldr_nil, List.setIfInBounds_toArray, List.set_cons_succ, List.set_cons_zero, g8]
                        have hS' := hS
                        rw [hSd] at hS'
                        obtain ⟨hc2, -⟩ := own_cell hS'.2.1 d hdm hnl2
                        rw [HC.out.1, HA.out] at hc2
                        go_step
                        refine st_ex hK rfl rfl (by simp only [Act.put, List.setIfInBounds_toArray, List.set_cons_succ, List.set_cons_zero, Array.getD_eq_getD_getElem?, List.getElem?_toArray, List.getElem?_cons_succ, List.getElem?_cons_zero, Option.getD_some] <;> rfl) rfl (by rw [hSd] at hS ⊢; exact hS)
                      · -- 10: Op.indexAddr 22 (Operand.tmp 138) (Operand.tmp 142)
                        obtain ⟨h5, h9, -⟩ := hh
                        have g5 : f 5 = _ := h5
                        have g9 : f 9 = _ := h9
                        unfold stStep
                        rw [if_pos (by simp [Region.wanted])]
                        intro K Q hK
                        simp only [puts, List.foldr_cons, List.foldr_nil, List.setIfInBounds_toArray, List.set_cons_succ, List.set_cons_zero, g5, g9]
                        go_step
                        refine st_ex hK rfl rfl (by simp only [Act.put, List.setIfInBounds_toArray, List.set_cons_succ, List.set_cons_zero, Array.getD_eq_getD_getElem?, List.getElem?_toArray, List.getElem?_cons_succ, List.getElem?_cons_zero, Option.getD_some] <;> rfl) rfl (by rw [hSd] at hS ⊢; exact hS)
                      · -- 11: Op.load 25 (Operand.tmp 143)
                        obtain ⟨h10, -⟩ := hh
                        have g10 : f 10 = _ := h10
                        have l14 : L 14 = false := Bool.eq_false_iff.2 fun h => by have q := hdn 14 _ h rfl 11 (by decide); rw [show L 11 = false from hi] at q; cases q
                        have l16 : L 16 = false := Bool.eq_false_iff.2 fun h => by have q := hdn 16 _ h rfl 14 (by decide); rw [show L 14 = false from l14] at q; cases q
                        unfold stStep
                        rw [if_pos (by simp [Region.wanted])]
                        intro K Q hK
                        simp only [puts, List.foldr_cons, List.foldr_nil, List.setIfInBounds_toArray, List.set_cons_succ, List.set_cons_zero, g10]
                        have hS' := hS
                        rw [hSd] at hS'
                        simp only [l16, if_false, Bool.false_eq_true] at hS'
                        obtain ⟨c7, -⟩ := hS'.2.2.2.1.cell hv0
                        go_step
                        refine st_ex hK rfl rfl (by simp only [Act.put, List.setIfInBounds_toArray, List.set_cons_succ, List.set_cons_zero, Array.getD_eq_getD_getElem?, List.getElem?_toArray, List.getElem?_cons_succ, List.getElem?_cons_zero, Option.getD_some] <;> rfl) rfl (by rw [hSd] at hS ⊢; exact hS)
                      · -- 12: Op.move (Operand.tmp 18)
                        unfold stStep
                        rw [if_pos (by simp [Region.wanted])]
                        intro K Q hK
                        simp only [puts, List.foldr_nil]
                        go_step
                        refine st_ex hK rfl rfl (by simp only [Act.put, List.setIfInBounds_toArray, List.set_cons_succ, List.set_cons_zero, Array.getD_eq_getD_getElem?, List.getElem?_toArray, List.getElem?_cons_succ, List.getElem?_cons_zero, Option.getD_some] <;> rfl) rfl (by rw [hSd] at hS ⊢; exact hS)
                      · -- 13: Op.buildSlice 25 1 #[(0, Operand.tmp 145)]
                        obtain ⟨h12, -⟩ := hh
                        have g12 : f 12 = _ := h12
                        have l14 : L 14 = false := Bool.eq_false_iff.2 fun h => by have q := hdn 14 _ h rfl 13 (by decide); rw [show L 13 = false from hi] at q; cases q
                        have l16 : L 16 = false := Bool.eq_false_iff.2 fun h => by have q := hdn 16 _ h rfl 14 (by decide); rw [show L 14 = false from l14] at q; cases q
                        unfold stStep
                        rw [if_pos (by simp [Region.wanted])]
                        intro K Q hK
                        simp only [puts, List.foldr_cons, List.foldr_nil, List.setIfInBounds_toArray, List.set_cons_succ, List.set_cons_zero, g12]
                        rw [hSd] at hS hK
                        have l13 : L 13 = false := hi
                        try simp only [stage, l14, l16, l13, if_true, if_false, Bool.false_eq_true] at hS
                        obtain ⟨hbW, hnW, -, hGW, hoW⟩ := hS
                        have hal : Below W.heap.size W (W.alloc (.cells #[.int .i64 (q : Int)] 3)) := (Below.refl _ _).alloc (Nat.le_refl _) _
                        go_step
                        refine hK.out _ _ rfl ⟨_, rfl⟩ ?_
                        refine ⟨hbW.alloc hbW.size _, hnW.alloc _, fun _ _ => ⟨_, rfl, BlkAt.new W _ _⟩, ?_, hoW.alloc _⟩
                        simp only [l14, l16, Bool.false_eq_true, ↓reduceIte, Nat.reduceEqDiff]
                        exact hGW.kept hal
                      · -- 14: Op.call { callee := Callee.builtin Builtin.append, args := #[Operand.tmp 144, Operand.tmp 
                        obtain ⟨h11, h13, -⟩ := hh
                        have g11 : f 11 = _ := h11
                        obtain ⟨b13, (g13 : f 13 = _)⟩ := h13
                        have l13 : L 13 = true := hd 13 (by decide)
                        have l16 : L 16 = false := Bool.eq_false_iff.2 fun h => by have q := hdn 16 _ h rfl 14 (by decide); rw [show L 14 = false from hi] at q; cases q
                        unfold stStep
                        rw [if_pos (by simp [Region.wanted])]
                        intro K Q hK
                        simp only [puts, List.foldr_cons, List.foldr_nil, List.setIfInBounds_toArray, List.set_cons_succ, List.set_cons_zero, g11, g13]
                        rw [hSd] at hS hK
                        have l14 : L 14 = false := hi
                        try simp only [stage, l16, l14, l13, if_true, if_false, Bool.false_eq_true] at hS
                        obtain ⟨hbW, hnW, h13, hGW, hoW⟩ := hS
                        obtain ⟨p, e13, hq⟩ := h13 trivial trivial
                        rw [g13] at e13
                        obtain rfl : b13 = p := by simpa using e13
                        try simp only [l14, l16, if_false, Bool.false_eq_true] at hGW
                        obtain ⟨u, hu, hrow⟩ := hGW.row A HAL
                        rw [hv0] at hu
                        injection hu with hu
                        subst hu
                        rw [HN0.out] at hrow
                        refine wp_app_blk elI64 _ _ rfl rfl hrow rfl (news := [.int .i64 (q : Int)]) ⟨rfl, fun ad e j u hj => by injection e with e; subst e; rw [addr_add, Nat.zero_add, (hq.cell j).1, ← hj]; simp, fun e => by cases e⟩ (by intro u hu; rw [List.mem_singleton.1 hu]; rfl) (by omega) (hnW.lt _ rfl).2 ?_
                        intro a' c' w' ho hg hbw hblk
                        have ho3 : w'.ownsRow (bN + 1) 3 1 (.slice a' (n0 + 1) c') (gr rows1 A ++ [(q : Int)]).length (ivs .i64 (gr rows1 A ++ [(q : Int)])) := by rw [ivs_append, List.length_append, HN0.out]; exact ho
                        refine hK.out _ _ rfl ⟨a', c', rfl⟩ ?_
                        refine ⟨hbW.trans (hbw.mono (by omega)), own_out hnW hbw, fun _ h => (by simp at h), ?_, own_out hoW (hbw.mono (by omega))⟩
                        simp only [l16, Bool.false_eq_true, ↓reduceIte, Nat.reduceEqDiff]
                        exact hGW.grow HAL hv0 hg ho3 (hblk.elim .inl fun h => .inr (.inl h))
                      · -- 15: Op.indexAddr 22 (Operand.tmp 133) (Operand.tmp 137)
                        obtain ⟨h0, h4, _, h1, h2, h3, _, h5, h6, h7, h8, h9, h10, h11, h12, h13, h14, -⟩ := hh
                        have g0 : f 0 = _ := h0
                        have g4 : f 4 = _ := h4
                        have g1 : f 1 = _ := h1
                        have g2 : f 2 = _ := h2
                        have g3 : f 3 = _ := h3
                        have g5 : f 5 = _ := h5
                        have g6 : f 6 = _ := h6
                        have g7 : f 7 = _ := h7
                        have g8 : f 8 = _ := h8
                        have g9 : f 9 = _ := h9
                        have g10 : f 10 = _ := h10
                        have g11 : f 11 = _ := h11
                        have g12 : f 12 = _ := h12
                        obtain ⟨b13, (g13 : f 13 = _)⟩ := h13
                        obtain ⟨a14, c14, (g14 : f 14 = _)⟩ := h14
                        unfold stStep
                        rw [if_pos (by simp [Region.wanted])]
                        intro K Q hK
                        simp only [puts, List.foldr_cons, List.foldr_nil, List.setIfInBounds_toArray, List.set_cons_succ, List.set_cons_zero, g0, g4, g1, g2, g3, g5, g6, g7, g8, g9, g10, g11, g12, g13, g14]
                        go_step
                        refine st_ex hK rfl rfl (by simp only [Act.put, List.setIfInBounds_toArray, List.set_cons_succ, List.set_cons_zero, Array.getD_eq_getD_getElem?, List.getElem?_toArray, List.getElem?_cons_succ, List.getElem?_cons_zero, Option.getD_some] <;> rfl) rfl (by rw [hSd] at hS ⊢; exact hS)
                      · -- 16: Op.store 25 (Operand.tmp 148) (Operand.tmp 147)
                        obtain ⟨h15, h14, _, h0, h1, h2, h3, h4, h5, h6, h7, h8, h9, h10, h11, h12, h13, _, -⟩ := hh
                        have g15 : f 15 = _ := h15
                        obtain ⟨a14, c14, (g14 : f 14 = _)⟩ := h14
                        have g0 : f 0 = _ := h0
                        have g1 : f 1 = _ := h1
                        have g2 : f 2 = _ := h2
                        have g3 : f 3 = _ := h3
                        have g4 : f 4 = _ := h4
                        have g5 : f 5 = _ := h5
                        have g6 : f 6 = _ := h6
                        have g7 : f 7 = _ := h7
                        have g8 : f 8 = _ := h8
                        have g9 : f 9 = _ := h9
                        have g10 : f 10 = _ := h10
                        have g11 : f 11 = _ := h11
                        have g12 : f 12 = _ := h12
                        obtain ⟨b13, (g13 : f 13 = _)⟩ := h13
                        have l14 : L 14 = true := hd 14 (by decide)
                        unfold stStep
                        rw [if_pos (by simp [Region.wanted])]
                        intro K Q hK
                        simp only [puts, List.foldr_cons, List.foldr_nil, List.setIfInBounds_toArray, List.set_cons_succ, List.set_cons_zero, g15, g14, g0, g1, g2, g3, g4, g5, g6, g7, g8, g9, g10, g11, g12, g13]
                        rw [hSd] at hS hK
                        have l16 : L 16 = false := hi
                        try simp only [stage, l16, l14, if_true, if_false, Bool.false_eq_true] at hS
                        obtain ⟨hbW, hnW, -, hGW, hoW⟩ := hS
                        have l14' : L 14 = true := hd 14 (by decide)
                        try simp only [l14', l16, if_false, if_true, Bool.false_eq_true] at hGW
                        rw [g14] at hGW
                        obtain ⟨c13, f13⟩ := hGW.cell hv0
                        go_step
                        refine hK.out _ _ rfl trivial ?_
                        refine ⟨hbW.setCell (by show w.heap.size ≤ go; omega) _, owns_same hnW fun k hk => heap_setCell_other W ⟨go, A, none⟩ k _ (by injection hk with hk; simp only at hk; show k ≠ go; omega), fun _ h => (by simp [l14'] at h), ?_, owns_same hoW fun k hk => heap_setCell_other W ⟨go, A, none⟩ k _ (by injection hk with hk; simp only at hk; show k ≠ go; omega)⟩
                        simp only [l14', ↓reduceIte, Nat.reduceEqDiff, g14]
                        exact hGW.put HAL _
                    case rest =>
                      intro L f WA hL hh hS
                      rw [hSd] at hS
                      clear hSd
                      have l13 : L 13 = true := hL 13 (by decide)
                      have l14 : L 14 = true := hL 14 (by decide)
                      have l16 : L 16 = true := hL 16 (by decide)
                      simp only [stage, l13, l14, l16, if_true] at hS
                      clear hL l13 l14 l16
                      obtain ⟨h0, h1, h2, h3, h4, h5, h6, h7, h8, h9, h10, h11, h12, h13, h14, h15, -⟩ := hh
                      have g0 : f 0 = _ := h0
                      have g1 : f 1 = _ := h1
                      have g2 : f 2 = _ := h2
                      have g3 : f 3 = _ := h3
                      have g4 : f 4 = _ := h4
                      have g5 : f 5 = _ := h5
                      have g6 : f 6 = _ := h6
                      have g7 : f 7 = _ := h7
                      have g8 : f 8 = _ := h8
                      have g9 : f 9 = _ := h9
                      have g10 : f 10 = _ := h10
                      have g11 : f 11 = _ := h11
                      have g12 : f 12 = _ := h12
                      obtain ⟨b13, (g13 : f 13 = _)⟩ := h13
                      obtain ⟨a14, c14, (g14 : f 14 = _)⟩ := h14
                      have g15 : f 15 = _ := h15
                      simp only [puts, List.foldr_cons, List.foldr_nil, List.setIfInBounds_toArray, List.set_cons_succ, List.set_cons_zero, g0, g1, g2, g3, g4, g5, g6, g7, g8, g9, g10, g11, g12, g13, g14, g15]
                      clear h0 h1 h2 h3 h4 h5 h6 h7 h8 h9 h10 h11 h12 h15 g0 g1 g2 g3 g4 g5 g6 g7 g8 g9 g10 g11 g12 g15
                      simp only [g14] at hS
                      obtain ⟨hbW, hnW, -, hGW, hoW⟩ := hS
                      rw [hnext.out, ← HLN.out] at hGW
                      have HR2 : Hid (Ren sm j i (q + 1) (gi zs) (gi nb2) (gi (zc.set q (A : Int)))) := Lib.hid (HR.out.step HE.out HSM.out hqlt HDQ.out HC.out.1 HC.out.2.1 HRG.out (fun x hx => by rw [gi_put (by omega), HA.out]))
                      have HQ2 : Hid (q + 1 + (gk - 1) = j) := Lib.hid (by have := HQ.out; omega)
                      have hzl3 : (zc.set q (A : Int)).length = j := by rw [List.length_set]; exact hzl
                      clear hG2 hB2 ho2 hn2 hrow0 hv0
                      go_wp2_with (fail)
                      go_roundg (gk - 1)
                      case rel => exact ⟨q + 1, nb2, _, _, cz, _, HQ2, hqlt, by go_num, by rw [HLN.out], hnl2, hzl3, HR2, hoW, hnW, hGW, hbW⟩
                      case measure => have := HQ.out; omega
                · obtain rfl : q = j := by omega
                  have t4 : decide ((q : Int) < q) = false := decide_eq_false (by omega)
                  have HFI := Lib.hid HR.out.fin
                  replace hsm := Lib.hid hsm
                  have hG2 := hG.base (B' := w.heap.size) (by omega)
                  clear hG hn HR
                  go_wp2
                  go_ret2
                  rw [hsm.out]
                  exact ⟨ao, co, ms, zc, rfl, hG2, hzl, ho, HFI.out, hB⟩
end Go.Proofs.Ytlogmgkjikamaaa
