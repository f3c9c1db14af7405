/-
  The plain laws of the hash, of sealing and of digits. No program in sight.
-/
import Derived.Test.YtoicaacndkjjoaaSumF
import Derived.Test.YtoicaacndkjjoaaSumD
namespace Go.Proofs.Ytoicaacndkjjoaa
open Go.RowKit

theorem stepH_eq (x c : Int) (hx0 : 0 ≤ x) (hx1 : x < 18446744073709551616) (hc0 : 0 ≤ c) (hc1 : c < 256) : stepH x c = (((x.toNat ^^^ c.toNat : Nat) : Int) * 1099511628211) % 18446744073709551616 := by
  unfold stepH
  rw [show IntKind.u64.wrap c = c from IntWalk.u64_in _ (by omega), u64_xor x c hx0 hx1 hc0 (by omega), IntKind.wrap_u64]

theorem lin_inv (a b P I M q t : Int) (h : a * P - b * P = M * t) (hpi : P * I = M * q + 1) : a - b = M * (t * I - (a - b) * q) := by
  have h1 : (a * P - b * P) * I = M * t * I := by rw [h]
  have h2 : (a * P - b * P) * I = (a - b) * (P * I) := by rw [← Int.sub_mul, Int.mul_assoc]
  rw [h2, hpi, Int.mul_add, Int.mul_one] at h1
  rw [Int.mul_sub, ← Int.mul_assoc, Int.mul_left_comm M]
  omega

theorem mul_inj (a b : Nat) (ha : a < 18446744073709551616) (hb : b < 18446744073709551616) (h : ((a : Int) * 1099511628211) % 18446744073709551616 = ((b : Int) * 1099511628211) % 18446744073709551616) : a = b := by
  have h1 := Int.emod_eq_emod_iff_emod_sub_eq_zero.1 h
  obtain ⟨t, ht⟩ := Int.dvd_of_emod_eq_zero h1
  have hu := lin_inv a b 1099511628211 14886173955864302971 18446744073709551616 887285111055 t ht (by simp)
  generalize t * 14886173955864302971 - ((a : Int) - b) * 887285111055 = u at hu
  clear h h1 ht
  omega

theorem xor_lt (x c : Nat) (hx : x < 18446744073709551616) (hc : c < 18446744073709551616) : x ^^^ c < 18446744073709551616 :=
  Nat.xor_lt_two_pow (n := 64) hx hc

theorem xor_cancel {a b c : Nat} (h : a ^^^ c = b ^^^ c) : a = b := by
  have := congrArg (· ^^^ c) h
  simpa [Nat.xor_assoc] using this
theorem stepH_inj_seed {x y c : Int} (hx0 : 0 ≤ x) (hx1 : x < 18446744073709551616) (hy0 : 0 ≤ y) (hy1 : y < 18446744073709551616) (hc0 : 0 ≤ c) (hc1 : c < 256) (h : stepH x c = stepH y c) : x = y := by
  rw [stepH_eq x c hx0 hx1 hc0 hc1, stepH_eq y c hy0 hy1 hc0 hc1] at h
  have := mul_inj _ _ (xor_lt _ _ (by omega) (by omega)) (xor_lt _ _ (by omega) (by omega)) h
  have := xor_cancel this
  omega

theorem stepH_inj_byte {x c d : Int} (hx0 : 0 ≤ x) (hx1 : x < 18446744073709551616) (hc0 : 0 ≤ c) (hc1 : c < 256) (hd0 : 0 ≤ d) (hd1 : d < 256) (h : stepH x c = stepH x d) : c = d := by
  rw [stepH_eq x c hx0 hx1 hc0 hc1, stepH_eq x d hx0 hx1 hd0 hd1] at h
  have := mul_inj _ _ (xor_lt _ _ (by omega) (by omega)) (xor_lt _ _ (by omega) (by omega)) h
  rw [Nat.xor_comm x.toNat, Nat.xor_comm x.toNat] at this
  have := xor_cancel this
  omega

theorem fromH_append (s : Int) (xs ys : List Int) : fromH s (xs ++ ys) = fromH (fromH s xs) ys := by simp [fromH]
theorem fromH_cons (s z : Int) (zs : List Int) : fromH s (z :: zs) = fromH (stepH s z) zs := rfl

theorem fromH_inj_seed {x y : Int} {zs : List Int} (hb : Bytes zs) (hx0 : 0 ≤ x) (hx1 : x < 18446744073709551616) (hy0 : 0 ≤ y) (hy1 : y < 18446744073709551616) (h : fromH x zs = fromH y zs) : x = y := by
  induction zs generalizing x y with
  | nil => exact h
  | cons z zs ih =>
    have hz := hb z List.mem_cons_self
    have := ih (fun u hu => hb u (List.mem_cons_of_mem _ hu)) (stepH_bd x z).1 (stepH_bd x z).2 (stepH_bd y z).1 (stepH_bd y z).2 h
    exact stepH_inj_seed hx0 hx1 hy0 hy1 hz.1 hz.2 this

/-- A list with one number turned. -/
theorem fromH_set {s v : Int} {zs : List Int} {k : Nat} (hb : Bytes zs) (hs0 : 0 ≤ s) (hs1 : s < 18446744073709551616) (hv0 : 0 ≤ v) (hv1 : v < 256) (hk : k < zs.length) (h : fromH s (zs.set k v) = fromH s zs) : gi zs k = v := by
  induction zs generalizing s k with
  | nil => simp at hk
  | cons z zs ih =>
    have hz := hb z List.mem_cons_self
    have hb' : Bytes zs := fun u hu => hb u (List.mem_cons_of_mem _ hu)
    cases k with
    | zero =>
      simp only [List.set_cons_zero, fromH_cons] at h
      have := fromH_inj_seed hb' (stepH_bd s v).1 (stepH_bd s v).2 (stepH_bd s z).1 (stepH_bd s z).2 h
      exact (stepH_inj_byte hs0 hs1 hv0 hv1 hz.1 hz.2 this).symm
    | succ k =>
      simp only [List.set_cons_succ, fromH_cons] at h
      have := ih hb' (stepH_bd s z).1 (stepH_bd s z).2 (by simpa using hk) h
      simpa [gi] using this

theorem set_same {zs : List Int} {k : Nat} (hk : k < zs.length) {v : Int} (h : gi zs k = v) : zs.set k v = zs := by
  rw [← h, gi_eq zs k hk]; exact List.set_getElem_self hk

theorem Bytes.set {zs : List Int} (h : Bytes zs) (k : Nat) {v : Int} (hv0 : 0 ≤ v) (hv1 : v < 256) : Bytes (zs.set k v) := by
  intro z hz
  rcases List.mem_or_eq_of_mem_set hz with hz | hz
  · exact h z hz
  · subst hz; exact ⟨hv0, hv1⟩

theorem sealL_bytes {zs : List Int} (h : Bytes zs) : Bytes (sealL zs) :=
  h.append (eightL_bytes _ (fromH_bd _ _ (by decide) (by decide)).1 (fromH_bd _ _ (by decide) (by decide)).2)

theorem eightL_inj {a b : Int} (_ha0 : 0 ≤ a) (_hb0 : 0 ≤ b) (h : eightL a = eightL b) : a = b := by
  simp only [eightL, List.cons.injEq, and_true] at h
  omega

theorem open_seal (zs : List Int) : openR (sealL zs) = (zs, 0) := by
  have hl : (sealL zs).length = zs.length + 8 := sealL_length zs
  have ht : (sealL zs).take zs.length = zs := by rw [sealL]; exact List.take_left
  have hd : (sealL zs).drop zs.length = eightL (fromH 14695981039346656037 zs) := by rw [sealL]; exact List.drop_left
  have := openR_ok hl (by rw [ht, hd])
  rw [this, ht]

theorem seal_open {zs : List Int} (h : (openR zs).2 = 0) : sealL (openR zs).1 = zs := by
  unfold openR at h ⊢
  split
  · rename_i h1; rw [if_pos h1] at h; simp at h
  · rename_i h1
    rw [if_neg h1] at h
    split
    · rename_i h2
      simp only [sealL]
      rw [h2]
      exact List.take_append_drop _ _
    · rename_i h2; rw [if_neg h2] at h; simp at h

theorem damage {zs : List Int} {k : Nat} {v : Int} (hb : Bytes zs) (hk : k < zs.length + 8) (hv0 : 0 ≤ v) (hv1 : v < 256) (hne : gi (sealL zs) k ≠ v) : openR ((sealL zs).set k v) = ([], 5) := by
  have hl : ((sealL zs).set k v).length = zs.length + 8 := by rw [List.length_set, sealL_length]
  refine openR_bad hl ?_
  have hF := fromH_bd 14695981039346656037 zs (by decide) (by decide)
  intro e
  by_cases hkl : k < zs.length
  · have h1 : ((sealL zs).set k v).take zs.length = zs.set k v := by
      rw [List.take_set, sealL, List.take_left]
    have h2 : ((sealL zs).set k v).drop zs.length = eightL (fromH 14695981039346656037 zs) := by
      rw [List.drop_set, if_pos hkl, sealL, List.drop_left]
    rw [h1, h2] at e
    have hG := fromH_bd 14695981039346656037 (zs.set k v) (by decide) (by decide)
    have := fromH_set hb (by decide) (by decide) hv0 hv1 hkl (eightL_inj hG.1 hF.1 e)
    exact hne (by rw [sealL, gi_append_left _ _ _ hkl]; exact this)
  · have h1 : ((sealL zs).set k v).take zs.length = zs := by
      rw [List.take_set, sealL, List.take_left]
      exact List.set_eq_of_length_le (by omega)
    have h2 : ((sealL zs).set k v).drop zs.length = (eightL (fromH 14695981039346656037 zs)).set (k - zs.length) v := by
      rw [List.drop_set, if_neg hkl, sealL, List.drop_left]
    rw [h1, h2] at e
    have hk' : k - zs.length < (eightL (fromH 14695981039346656037 zs)).length := by rw [eightL_length]; omega
    apply hne
    have hkk : k = zs.length + (k - zs.length) := by omega
    rw [hkk, sealL, gi_append_right]
    have e2 : gi (eightL (fromH 14695981039346656037 zs)) (k - zs.length) = gi ((eightL (fromH 14695981039346656037 zs)).set (k - zs.length) v) (k - zs.length) := congrArg (fun l => gi l (k - zs.length)) e
    rw [e2]
    simp [gi, hk']

/-! digits -/
theorem hv_dg (x : Int) (h0 : 0 ≤ x) (h1 : x < 16) : hv (dg x) = x := by
  have : x = 0 ∨ x = 1 ∨ x = 2 ∨ x = 3 ∨ x = 4 ∨ x = 5 ∨ x = 6 ∨ x = 7 ∨ x = 8 ∨ x = 9 ∨ x = 10 ∨ x = 11 ∨ x = 12 ∨ x = 13 ∨ x = 14 ∨ x = 15 := by omega
  rcases this with h | h | h | h | h | h | h | h | h | h | h | h | h | h | h | h <;> (subst h; decide)

theorem dg_hv : ∀ n : Fin 256, 0 ≤ hv (UInt8.ofNat n.val) → dg (hv (UInt8.ofNat n.val)) = UInt8.ofNat n.val := by decide +kernel
theorem dg_of_hv {c : UInt8} (h : 0 ≤ hv c) : dg (hv c) = c := by
  have := dg_hv ⟨c.toNat, c.toNat_lt⟩
  simp only [UInt8.ofNat_toNat] at this
  exact this h

/-- Digits by repeated division. -/
def digF : Nat → Int → List Int
  | 0, _ => []
  | n + 1, h => digF n (h / 16) ++ [h % 16]
def valF (l : List Int) : Int := l.foldl (fun a d => a * 16 + d) 0
theorem digF_length : ∀ (n : Nat) (h : Int), (digF n h).length = n
  | 0, _ => rfl
  | n + 1, h => by simp [digF, digF_length n]
theorem digF_lt : ∀ (n : Nat) (h : Int), ∀ d ∈ digF n h, 0 ≤ d ∧ d < 16
  | 0, _, d, hd => by cases hd
  | n + 1, h, d, hd => by
    rcases List.mem_append.1 hd with hd | hd
    · exact digF_lt n _ d hd
    · simp only [List.mem_singleton] at hd; subst hd; omega
theorem valF_digF : ∀ (n : Nat) (h : Int), 0 ≤ h → h < 16 ^ n → valF (digF n h) = h
  | 0, h, h0, h1 => by simp at h1; show (0 : Int) = h; omega
  | n + 1, h, h0, h1 => by
    have ih := valF_digF n (h / 16) (by omega) (by rw [Int.pow_succ] at h1; omega)
    simp only [valF, digF, List.foldl_append, List.foldl_cons, List.foldl_nil] at ih ⊢
    rw [ih]; omega
theorem digF_valF : ∀ (n : Nat) (l : List Int), l.length = n → (∀ d ∈ l, 0 ≤ d ∧ d < 16) → digF n (valF l) = l ∧ 0 ≤ valF l := by
  intro n
  induction n with
  | zero => intro l hl _; rw [List.eq_nil_of_length_eq_zero hl]; exact ⟨rfl, by decide⟩
  | succ n ih =>
    intro l hl hd
    obtain ⟨r, d, rfl⟩ : ∃ r d, l = r ++ [d] := ⟨l.dropLast, l.getLast (by intro e; rw [e] at hl; simp at hl), (List.dropLast_concat_getLast _).symm⟩
    have hr := ih r (by simpa using hl) fun x hx => hd x (List.mem_append_left _ hx)
    have hdd := hd d (by simp)
    have e : valF (r ++ [d]) = valF r * 16 + d := by simp [valF]
    rw [e, digF]
    have e1 : (valF r * 16 + d) / 16 = valF r := by omega
    have e2 : (valF r * 16 + d) % 16 = d := by omega
    rw [e1, e2, hr.1]
    exact ⟨rfl, by omega⟩
theorem digL_digF (h : Int) : digL h = (digF 16 h).map dg := by
  have e2 : h / 16 / 16 = h / 256 := by omega
  have e3 : h / 256 / 16 = h / 4096 := by omega
  have e4 : h / 4096 / 16 = h / 65536 := by omega
  have e5 : h / 65536 / 16 = h / 1048576 := by omega
  have e6 : h / 1048576 / 16 = h / 16777216 := by omega
  have e7 : h / 16777216 / 16 = h / 268435456 := by omega
  have e8 : h / 268435456 / 16 = h / 4294967296 := by omega
  have e9 : h / 4294967296 / 16 = h / 68719476736 := by omega
  have e10 : h / 68719476736 / 16 = h / 1099511627776 := by omega
  have e11 : h / 1099511627776 / 16 = h / 17592186044416 := by omega
  have e12 : h / 17592186044416 / 16 = h / 281474976710656 := by omega
  have e13 : h / 281474976710656 / 16 = h / 4503599627370496 := by omega
  have e14 : h / 4503599627370496 / 16 = h / 72057594037927936 := by omega
  have e15 : h / 72057594037927936 / 16 = h / 1152921504606846976 := by omega
  simp only [digF, List.nil_append, List.cons_append, List.map_cons, List.map_nil, digL, e2, e3, e4, e5, e6, e7, e8, e9, e10, e11, e12, e13, e14, e15]
theorem pv_map (l : List Int) (hd : ∀ d ∈ l, 0 ≤ d ∧ d < 16) : pv (l.map dg) = valF l ∧ goodL (l.map dg) = true := by
  suffices H : ∀ a : Int, (l.map dg).foldl (fun a c => a * 16 + hv c) a = l.foldl (fun a d => a * 16 + d) a by
    refine ⟨H 0, ?_⟩
    rw [goodL, List.all_eq_true]
    intro c hc
    obtain ⟨d, hdm, rfl⟩ := List.mem_map.1 hc
    rw [hv_dg d (hd d hdm).1 (hd d hdm).2]
    exact decide_eq_true (hd d hdm).1
  induction l with
  | nil => intro a; rfl
  | cons d l ih =>
    intro a
    have hd0 := hd d List.mem_cons_self
    simp only [List.map_cons, List.foldl_cons, hv_dg d hd0.1 hd0.2]
    exact ih (fun x hx => hd x (List.mem_cons_of_mem _ hx)) _

theorem parse_dig (h : Int) (h0 : 0 ≤ h) (h1 : h < 18446744073709551616) : parseV (digL h) = .tuple #[.int .u64 h, .int .i64 0] := by
  have hp := pv_map _ (digF_lt 16 h)
  rw [← digL_digF] at hp
  rw [parseV_yes rfl hp.2, hp.1, valF_digF 16 h h0 (by simpa using h1)]

theorem dig_parse {l : List UInt8} (h : l.length = 16) (g : goodL l = true) : digL (pv l) = l := by
  have hg : ∀ c ∈ l, 0 ≤ hv c := by
    rw [goodL, List.all_eq_true] at g
    intro c hc; simpa using g c hc
  have hback : (l.map hv).map dg = l := by
    rw [List.map_map]
    conv => rhs; rw [← List.map_id l]
    exact List.map_congr_left fun c hc => dg_of_hv (hg c hc)
  have hd : ∀ d ∈ l.map hv, 0 ≤ d ∧ d < 16 := by
    intro d hd
    obtain ⟨c, hc, rfl⟩ := List.mem_map.1 hd
    exact ⟨hg c hc, by have := (hv_b c).2; omega⟩
  have hp := (pv_map _ hd).1
  rw [hback] at hp
  rw [hp, digL_digF, (digF_valF 16 _ (by simpa using h) hd).1, hback]
end Go.Proofs.Ytoicaacndkjjoaa
