/-
  Counts of linear extensions and heights in plain words. No walk.
-/
import Derived.Test.YtofnbndpoiohhaaDoorOrdL
import Derived.Test.YtofnbndpoiohhaaDoorOrdX
set_option linter.unusedVariables false
namespace Go.Proofs.YtofnbndpoiohhaaDoor
open Go.RowKit Go.Shelf

variable {N : Nat} {es : List (Int × Int)}

theorem sum_ge (f : Nat → Nat) : ∀ (l : List Nat) (x : Nat), x ∈ l → f x ≤ (l.map f).sum
  | [], x, h => by cases h
  | y :: l, x, h => by
    rw [List.map_cons, List.sum_cons]
    rcases List.mem_cons.1 h with rfl | h
    · omega
    · have := sum_ge f l x h
      omega
theorem sum_ge2 (f : Nat → Nat) : ∀ (l : List Nat) (x y : Nat), x ∈ l → y ∈ l → x ≠ y → f x + f y ≤ (l.map f).sum
  | [], x, y, h, _, _ => by cases h
  | z :: l, x, y, hx, hy, hne => by
    rw [List.map_cons, List.sum_cons]
    rcases List.mem_cons.1 hx with rfl | hx'
    · rcases List.mem_cons.1 hy with rfl | hy'
      · exact absurd rfl hne
      · have := sum_ge f l y hy'
        omega
    · rcases List.mem_cons.1 hy with rfl | hy'
      · have := sum_ge f l x hx'
        omega
      · have := sum_ge2 f l x y hx' hy' hne
        omega
theorem sum_le (f g : Nat → Nat) : ∀ (l : List Nat), (∀ x ∈ l, f x ≤ g x) → (l.map f).sum ≤ (l.map g).sum
  | [], _ => Nat.le_refl _
  | y :: l, h => by
    rw [List.map_cons, List.sum_cons, List.map_cons, List.sum_cons]
    have := h y List.mem_cons_self
    have := sum_le f g l fun x hx => h x (List.mem_cons_of_mem _ hx)
    omega
theorem sum_one (f : Nat → Nat) (x : Nat) : ∀ (l : List Nat), l.Nodup → x ∈ l → f x = 1 → (∀ y ∈ l, y ≠ x → f y = 0) → (l.map f).sum = 1
  | [], _, h, _, _ => by cases h
  | y :: l, hn, hx, h1, h0 => by
    rw [List.map_cons, List.sum_cons]
    have hn' := List.nodup_cons.1 hn
    have zero : ∀ (m : List Nat), (∀ z ∈ m, f z = 0) → (m.map f).sum = 0 := by
      intro m
      induction m with
      | nil => intro _; rfl
      | cons z m ih => intro h; rw [List.map_cons, List.sum_cons, h z List.mem_cons_self, ih fun u hu => h u (List.mem_cons_of_mem _ hu)]
    rcases List.mem_cons.1 hx with rfl | hx'
    · rw [h1, zero l fun z hz => h0 z (List.mem_cons_of_mem _ hz) fun e => hn'.1 (by rw [← e]; exact hz)]
    · rw [h0 y List.mem_cons_self fun e => hn'.1 (by rw [e]; exact hx'), sum_one f x l hn'.2 hx' h1 fun z hz => h0 z (List.mem_cons_of_mem _ hz)]

theorem rdy_of_ok {p : List Int} {x : Int} (h : OkS (N : Int) es p x) : ∃ i : Nat, x = (i : Int) ∧ i < N ∧ Rdy2 es p i := by
  obtain ⟨i, rfl⟩ := Int.eq_ofNat_of_zero_le h.1.1.1
  have := h.1.1.2
  exact ⟨i, rfl, by omega, h.1.2, by simpa using h.2⟩
theorem cntE_pos : ∀ (R p : List Int), Steps (N : Int) es p R → 1 ≤ cntE es N R.length p
  | [], p, _ => Nat.le_refl _
  | x :: R, p, ⟨h1, h2⟩ => by
    obtain ⟨i, rfl, hi, hr⟩ := rdy_of_ok h1
    have ih := cntE_pos R _ h2
    have := sum_ge (fun i => open Classical in if Rdy2 es p i then cntE es N R.length (p ++ [(i : Int)]) else 0) (List.range N) i (List.mem_range.2 hi)
    simp only [if_pos hr] at this
    exact Nat.le_trans ih this
theorem cntE_two : ∀ (R R' p : List Int), Steps (N : Int) es p R → Steps (N : Int) es p R' → R.length = R'.length → R ≠ R' → 2 ≤ cntE es N R.length p
  | [], [], _, _, _, _, h => absurd rfl h
  | [], _ :: _, _, _, _, h, _ => by simp at h
  | _ :: _, [], _, _, _, h, _ => by simp at h
  | x :: R, y :: R', p, ⟨h1, h2⟩, ⟨g1, g2⟩, hl, hne => by
    have hl' : R.length = R'.length := by simpa using hl
    obtain ⟨i, rfl, hi, hr⟩ := rdy_of_ok h1
    obtain ⟨j, rfl, hj, hr'⟩ := rdy_of_ok g1
    by_cases e : i = j
    · subst e
      have hne' : R ≠ R' := fun h => hne (by rw [h])
      have ih := cntE_two R R' _ h2 g2 hl' hne'
      have := sum_ge (fun i => open Classical in if Rdy2 es p i then cntE es N R.length (p ++ [(i : Int)]) else 0) (List.range N) i (List.mem_range.2 hi)
      simp only [if_pos hr] at this
      exact Nat.le_trans ih this
    · have p1 := cntE_pos R _ h2
      have p2 := cntE_pos R' _ g2
      rw [← hl'] at p2
      have := sum_ge2 (fun i => open Classical in if Rdy2 es p i then cntE es N R.length (p ++ [(i : Int)]) else 0) (List.range N) i j (List.mem_range.2 hi) (List.mem_range.2 hj) e
      simp only [if_pos hr, if_pos hr'] at this
      show 2 ≤ ((List.range N).map fun i => open Classical in if Rdy2 es p i then cntE es N R.length (p ++ [(i : Int)]) else 0).sum
      omega
theorem cntE_mono {es' : List (Int × Int)} (h : ∀ a b, Path (Ed es) a b → Path (Ed es') a b) : ∀ (left : Nat) (p : List Int), cntE es' N left p ≤ cntE es N left p
  | 0, _ => Nat.le_refl _
  | left + 1, p => by
    refine sum_le _ _ _ fun i _ => ?_
    split
    · rename_i hr
      have hr2 : Rdy2 es p i := ⟨hr.1, fun a pa => hr.2 a (h _ _ pa)⟩
      rw [if_pos hr2]
      exact cntE_mono h left _
    · exact Nat.zero_le _
theorem path_mono {es es' : List (Int × Int)} (h : ∀ e ∈ es, e ∈ es') {a b : Nat} (p : Path (Ed es) a b) : Path (Ed es') a b := by
  induction p with
  | one e => exact .one (h _ e)
  | cons e _ ih => exact .cons (h _ e) ih

theorem gi_map (l : List Nat) (k : Nat) (h : k < l.length) : gi (l.map Int.ofNat) k = ((l[k] : Nat) : Int) := by
  rw [gi_eq _ _ (by rw [List.length_map]; exact h), List.getElem_map]
  rfl

/-- Each of the list is before the next one. -/
def Chain (es : List (Int × Int)) (ls : List Nat) : Prop := ∀ k (h : k + 1 < ls.length), Path (Ed es) ls[k] ls[k + 1]
theorem Chain.lt {ls : List Nat} (h : Chain es ls) : ∀ (d k : Nat) (hk : k + (d + 1) < ls.length), Path (Ed es) (ls[k]'(by omega)) ls[k + (d + 1)]
  | 0, k, hk => h k hk
  | d + 1, k, hk => (h.lt d k (by omega)).trans (h (k + (d + 1)) hk)

/-- A chain has one linear extension. -/
theorem cnt_chain {ls : List Nat} (hv : ValidO N es) (hk : KL (Ed es) N ls) (hl : ls.length = N) (hc : Chain es ls) : ∀ (left k : Nat), k + left = N → cntE es N left ((ls.take k).map Int.ofNat) = 1
  | 0, _, _ => rfl
  | left + 1, k, hkl => by
    have hkN : k < ls.length := by omega
    have ih := cnt_chain hv hk hl hc left (k + 1) (by omega)
    have e : (ls.take k).map Int.ofNat ++ [((ls[k] : Nat) : Int)] = (ls.take (k + 1)).map Int.ofNat := by
      rw [List.take_succ_eq_append_getElem hkN, List.map_append]
      rfl
    have hst := (steps_iff _ []).1 (kl_steps hk) k (by rw [List.length_map]; exact hkN)
    rw [List.nil_append, gi_map _ _ hkN, ← List.map_take] at hst
    have hr : Rdy2 es ((ls.take k).map Int.ofNat) ls[k] := ⟨hst.1.2, hst.2⟩
    refine sum_one (fun i => open Classical in if Rdy2 es ((ls.take k).map Int.ofNat) i then cntE es N left ((ls.take k).map Int.ofNat ++ [(i : Int)]) else 0) ls[k] (List.range N) List.nodup_range (List.mem_range.2 (hk.topo.lt _ (List.getElem_mem hkN))) ?_ ?_
    · simp only [if_pos hr]
      rw [e]
      exact ih
    · intro y hy hne
      have hyN := List.mem_range.1 hy
      refine if_neg fun hry => ?_
      obtain ⟨j, hj, rfl⟩ := List.mem_iff_getElem.1 (hk.topo.full hl y hyN)
      rcases Nat.lt_trichotomy j k with h | h | h
      · exact hry.1 (mem_ofNat.2 (by
          have : ls[j] = (ls.take k)[j]'(by rw [List.length_take]; omega) := by rw [List.getElem_take]
          rw [this]
          exact List.getElem_mem _))
      · subst h; exact hne rfl
      · have hp : Path (Ed es) ls[k] ls[j] := by
          have := hc.lt (j - k - 1) k (by omega)
          have e : k + (j - k - 1 + 1) = j := by omega
          simp only [e] at this
          exact this
        have := mem_ofNat.1 (hry.2 _ hp)
        exact hst.1.2 (mem_ofNat.2 this)

open Classical in
/-- With one linear extension, the least list is a chain. -/
theorem chain_of_one {ls : List Nat} (hv : ValidO N es) (hk : KL (Ed es) N ls) (hl : ls.length = N) (h1 : cntE es N N [] = 1) : Chain es ls := by
  intro k hk1
  have hst := kl_steps hk
  have hlen : ((ls.map Int.ofNat).length : Int) = N := by rw [List.length_map, hl]
  have hsw := swap_lin (n := N) hv hst hlen (i := k) (by rw [List.length_map]; exact hk1)
  cases hb : beforeB N es (gi (ls.map Int.ofNat) k) (gi (ls.map Int.ofNat) (k + 1)) with
  | true =>
    have := before_path hb
    rw [gi_map _ _ (by omega), gi_map _ _ hk1, Int.toNat_natCast, Int.toNat_natCast] at this
    exact this
  | false =>
    exfalso
    rw [hb] at hsw
    have hlin : LinP N es (((ls.map Int.ofNat).set k (gi (ls.map Int.ofNat) (k + 1))).set (k + 1) (gi (ls.map Int.ofNat) k)) := by
      unfold linB at hsw
      exact of_decide_eq_true hsw
    have hst2 := (linP_iff.1 hlin).2.2
    have hne := (steps_ne hst (k := k) (i := k + 1) (by omega) (by rw [List.length_map]; exact hk1)).1
    have := cntE_two (N := N) _ _ _ hst hst2 (by simp) (fun e => by
      have h2 : gi (ls.map Int.ofNat) (k + 1) = gi _ (k + 1) := congrArg (fun l => gi l (k + 1)) e
      rw [gi_set _ _ _ _ (by simp; omega), if_pos rfl] at h2
      exact hne h2)
    rw [List.length_map, hl, h1] at this
    omega

/-! Heights. -/
def HtOk (es : List (Int × Int)) (ls : List Nat) (H : Nat → Nat) : Prop := ∀ x ∈ ls, 1 ≤ H x ∧ (∀ c, Path (Ed es) c x → H c + 1 ≤ H x) ∧ (H x = 1 ∨ ∃ c, Path (Ed es) c x ∧ H x = H c + 1)
def HtTop (ls : List Nat) (H : Nat → Nat) (m : Nat) : Prop := (∀ x ∈ ls, H x ≤ m) ∧ (m = 0 ∨ ∃ x ∈ ls, m = H x)
def IsHeight (N : Nat) (es : List (Int × Int)) (m : Nat) : Prop := ∃ ls H, KL (Ed es) N ls ∧ ls.length = N ∧ HtOk es ls H ∧ HtTop ls H m
theorem ht_uniq {ls : List Nat} {H H' : Nat → Nat} (hk : Topo (Ed es) N ls) (h : HtOk es ls H) (h' : HtOk es ls H') : ∀ (i : Nat) (x : Nat), x ∈ ls → ls.idxOf x < i → H x = H' x
  | 0, _, _, hi => absurd hi (Nat.not_lt_zero _)
  | i + 1, x, hx, hi => by
    have hc : ∀ c, Path (Ed es) c x → H c = H' c := fun c p => by
      have := hk.path p hx
      exact ht_uniq hk h h' i c this.1 (by omega)
    obtain ⟨a1, a2, a3⟩ := h x hx
    obtain ⟨b1, b2, b3⟩ := h' x hx
    have le1 : H x ≤ H' x := by
      rcases a3 with e | ⟨c, p, e⟩
      · omega
      · have := b2 c p
        have := hc c p
        omega
    have le2 : H' x ≤ H x := by
      rcases b3 with e | ⟨c, p, e⟩
      · omega
      · have := a2 c p
        have := hc c p
        omega
    omega
theorem height_uniq {m m' : Nat} (h : IsHeight N es m) (h' : IsHeight N es m') : m = m' := by
  obtain ⟨ls, H, hk, hl, ho, t1, t2⟩ := h
  obtain ⟨ls', H', hk', hl', ho', s1, s2⟩ := h'
  obtain rfl := hk.uniq hk' (by rw [hl, hl'])
  have he : ∀ x ∈ ls, H x = H' x := fun x hx => ht_uniq hk.topo ho ho' _ x hx (Nat.lt_succ_self _)
  have le1 : m ≤ m' := by
    rcases t2 with e | ⟨x, hx, e⟩
    · omega
    · have := s1 x hx
      have := he x hx
      omega
  have le2 : m' ≤ m := by
    rcases s2 with e | ⟨x, hx, e⟩
    · omega
    · have := t1 x hx
      have := he x hx
      omega
  omega
theorem ht_idx {ls : List Nat} {H : Nat → Nat} (hk : Topo (Ed es) N ls) (h : HtOk es ls H) : ∀ (i : Nat) (x : Nat), x ∈ ls → ls.idxOf x < i → H x ≤ ls.idxOf x + 1
  | 0, _, _, hi => absurd hi (Nat.not_lt_zero _)
  | i + 1, x, hx, hi => by
    obtain ⟨a1, a2, a3⟩ := h x hx
    rcases a3 with e | ⟨c, p, e⟩
    · omega
    · have hp := hk.path p hx
      have := ht_idx hk h i c hp.1 (by omega)
      omega
theorem height_le {m : Nat} (h : IsHeight N es m) : m ≤ N := by
  obtain ⟨ls, H, hk, hl, ho, t1, t2⟩ := h
  rcases t2 with e | ⟨x, hx, e⟩
  · omega
  · have := ht_idx hk.topo ho _ x hx (Nat.lt_succ_self _)
    have := List.idxOf_lt_length_of_mem hx
    omega
/-- The height of a chain. -/
theorem height_chain {m : Nat} {ls : List Nat} {H : Nat → Nat} (hk : KL (Ed es) N ls) (hl : ls.length = N) (ho : HtOk es ls H) (ht : HtTop ls H m) (hc : Chain es ls) : m = N := by
  have up : ∀ k (h : k < ls.length), k + 1 ≤ H ls[k] := by
    intro k
    induction k with
    | zero => intro h; exact (ho _ (List.getElem_mem h)).1
    | succ k ih =>
      intro h
      have := ih (by omega)
      have := (ho _ (List.getElem_mem h)).2.1 _ (hc k h)
      omega
  have hle := height_le ⟨ls, H, hk, hl, ho, ht⟩
  rcases Nat.eq_zero_or_pos N with h0 | h0
  · omega
  · have := up (N - 1) (by omega)
    have := ht.1 _ (List.getElem_mem (show N - 1 < ls.length by omega))
    omega
/-- An order as high as it has events is a chain. -/
theorem chain_of_height {ls : List Nat} {H : Nat → Nat} (hk : KL (Ed es) N ls) (hl : ls.length = N) (ho : HtOk es ls H) (ht : HtTop ls H N) : Chain es ls := by
  have hnd := hk.topo.nodup
  have idx : ∀ k (h : k < ls.length), ls.idxOf ls[k] = k := fun k h => hnd.idxOf_getElem k h
  have hi : ∀ x ∈ ls, H x ≤ ls.idxOf x + 1 := fun x hx => ht_idx hk.topo ho _ x hx (Nat.lt_succ_self _)
  have down : ∀ (d k : Nat) (h : k < ls.length), k + d + 1 = N → H ls[k] = k + 1 := by
    intro d
    induction d with
    | zero =>
      intro k h hd
      rcases ht.2 with e | ⟨x, hx, e⟩
      · omega
      · have h1 := hi x hx
        have h2 := List.idxOf_lt_length_of_mem hx
        have h3 : ls.idxOf x = k := by omega
        have h4 : ls[k] = x := by
          have := List.getElem_idxOf h2
          simp only [h3] at this
          exact this
        rw [h4]
        omega
    | succ d ih =>
      intro k h hd
      have h1 := ih (k + 1) (by omega) (by omega)
      rcases (ho _ (List.getElem_mem (show k + 1 < ls.length by omega))).2.2 with e | ⟨c, p, e⟩
      · omega
      · have hp := hk.topo.path p (List.getElem_mem _)
        rw [idx] at hp
        have h2 := hi c hp.1
        have h3 : ls.idxOf c = k := by omega
        have h4 : ls[k] = c := by
          have := List.getElem_idxOf (List.idxOf_lt_length_of_mem hp.1)
          simp only [h3] at this
          exact this
        rw [h4]
        omega
  intro k hk1
  have h1 := down (N - (k + 1) - 1) (k + 1) hk1 (by omega)
  rcases (ho _ (List.getElem_mem hk1)).2.2 with e | ⟨c, p, e⟩
  · omega
  · have hp := hk.topo.path p (List.getElem_mem _)
    rw [idx] at hp
    have h2 := hi c hp.1
    have h3 : ls.idxOf c = k := by omega
    have h4 : ls[k]'(by omega) = c := by
      have := List.getElem_idxOf (List.idxOf_lt_length_of_mem hp.1)
      simp only [h3] at this
      exact this
    rw [h4]
    exact p
theorem one_iff_height {m : Nat} (hv : ValidO N es) (h : IsHeight N es m) (hN : 0 < N) : cntE es N N [] = 1 ↔ m = N := by
  obtain ⟨ls, H, hk, hl, ho, ht⟩ := h
  constructor
  · exact fun h1 => height_chain hk hl ho ht (chain_of_one hv hk hl h1)
  · rintro rfl
    have := cnt_chain hv hk hl (chain_of_height hk hl ho ht) m 0 (by omega)
    simpa using this
theorem cnt_pos {ls : List Nat} (hk : KL (Ed es) N ls) (hl : ls.length = N) : 1 ≤ cntE es N N [] := by
  have := cntE_pos _ _ (kl_steps hk)
  rwa [List.length_map, hl] at this
end Go.Proofs.YtofnbndpoiohhaaDoor
