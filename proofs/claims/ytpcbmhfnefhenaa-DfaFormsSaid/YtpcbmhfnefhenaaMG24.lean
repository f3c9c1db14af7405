import Derived.Test.YtpcbmhfnefhenaaMG13
import Derived.Test.YtpcbmhfnefhenaaMG14
import Derived.Test.YtpcbmhfnefhenaaMG23
/-
  DfaUw, DfaKa
-/
set_option linter.unusedSimpArgs false
set_option linter.unusedVariables false
namespace Go.Proofs.Ytpcbmhfnefhenaa
open Go.RowKit
attribute [local go_sem] Oper.semAt_some

variable {d : Dfa} {h : DH} {w : World}
def finK (fin : List Bool) (k : Nat) : List Int := (lets k).filter fun z => gb fin z.toNat
theorem lets_succ (k : Nat) : lets (k + 1) = lets k ++ [(k : Int)] := by unfold lets; rw [List.range_succ, List.map_append]; rfl
theorem finK_asc (fin : List Bool) (k : Nat) : Asc (finK fin k) := (lets_asc k).filter _
theorem finK_mem {fin : List Bool} {k : Nat} {z : Int} : z ∈ finK fin k ↔ (0 ≤ z ∧ z < k) ∧ gb fin z.toNat = true := by unfold finK; rw [List.mem_filter, lets_mem]
theorem finK_yes {fin : List Bool} {k : Nat} (h : gb fin k = true) : withL (finK fin k) k = finK fin (k + 1) := asc_ext (withL_isAsc (finK_asc _ _) _) (finK_asc _ _) fun z => by
  rw [withL_mem (finK_asc _ _), finK_mem, finK_mem]
  constructor
  · rintro (⟨h1, h2⟩ | rfl)
    · exact ⟨⟨h1.1, by omega⟩, h2⟩
    · exact ⟨⟨by omega, by omega⟩, by rw [Int.toNat_natCast]; exact h⟩
  · rintro ⟨h1, h2⟩
    by_cases e : z = k
    · exact .inr e
    · exact .inl ⟨⟨h1.1, by omega⟩, h2⟩
theorem finK_no {fin : List Bool} {k : Nat} (h : gb fin k = false) : finK fin k = finK fin (k + 1) := by
  unfold finK
  rw [lets_succ, List.filter_append]
  simp [h]
theorem finK_len (fin : List Bool) (k : Nat) : (finK fin k).length ≤ k := by
  unfold finK
  refine Nat.le_trans (List.length_filter_le _ _) ?_
  simp [lets]
theorem finK_use {d : Dfa} (hv : ValidD d) : UseI d (finK d.fin d.n.toNat) := by
  have hn := hv.1
  refine ⟨finK_asc _ _, fun z hz => ?_, fun i hi hf => finK_mem.2 ⟨⟨by omega, by omega⟩, by rw [Int.toNat_natCast]; exact hf⟩⟩
  obtain ⟨h1, h2⟩ := finK_mem.1 hz
  exact ⟨⟨h1.1, by omega⟩, [], by rw [accQ_nil]; exact h2⟩
theorem use_len {d : Dfa} {l : List Int} (h : UseI d l) : l.length ≤ d.n.toNat := ints_le (asc_nodup h.1) fun x hx => (h.2.1 x hx).1
set_option maxRecDepth 20000 in
set_option maxHeartbeats 4000000 in
theorem refUseful_any (hv : ValidD d) (hd : IsDfa w h d) : Calls Try.prog 42 #[vDf d h] w fun e w' => (∃ a' n' c', e = .returned (.slice a' n' c') ∧ IsInts .i64 w' a' n' c' (useL d)) ∧ Below w.heap.size w w' := by
  have HV := Lib.hid hv
  obtain ⟨UL, hUL⟩ : ∃ UL, useL d = UL := ⟨_, rfl⟩
  rw [hUL]
  have HUL := Lib.hid hUL
  clear hUL
  obtain ⟨W1, hW1, hs1, hb1, hO⟩ := boxRW d h w hd
  have hn := hv.1
  have hfl := hd.1.length
  have hal := hd.2.length
  have hvf := hv.2.2.1
  have hva := hv.2.2.2.1
  have hfk := finK_use hv
  obtain ⟨n, s, fin, es⟩ := d
  obtain ⟨fa, fl, fc, aa, al, ac⟩ := h
  simp only [vDf] at hW1 hs1 hb1 hO hn HV HUL hfl hal hvf hva hfk ⊢
  obtain ⟨N, rfl⟩ := Int.eq_ofNat_of_zero_le (show 0 ≤ n by omega)
  rw [Int.toNat_natCast] at hfk
  obtain ⟨bf, of, rfl, hfc⟩ := hd.1.fix (show 0 < fl by omega)
  have hae := hd.2
  simp only at hae
  have HFC := Lib.hid hfc
  have HAE := Lib.hid hae
  have HFK := Lib.hid hfk
  have HAL := Lib.hid hal
  have hflN : fl = N := by omega
  subst hflN
  have hN : fl ≤ 1000 := by omega
  have HO : Hid (∀ W, Below W1.heap.size W1 W → (W.cell? ⟨w.heap.size, 0, none⟩ = some (.int .i64 (fl : Int)) ∧ W.cell? ⟨w.heap.size, 2, none⟩ = some (.slice (some ⟨bf, of, none⟩) fl fc) ∧ W.cell? ⟨w.heap.size, 3, none⟩ = some (.slice aa al ac)) ∧ Below w.heap.size w W) := Lib.hid (fun W hb => by
    have h1 := hO W (hb.mono (by omega))
    exact ⟨⟨h1.1.1, h1.1.2.2.1, h1.1.2.2.2⟩, h1.2.2⟩)
  have hal2 : al ≤ 20000 := by omega
  clear hO hd hfc hae hfk hal hva hvf hn hv
  go_enter Try.func42, Try.ntmps42
  go_wp2_with (fail)
  clear hW1 hb1
  go_loopw [3, 4] (fun v x W => ∃ (k : Nat) (ao : Option Addr) (no co : Nat), k ≤ fl ∧ x = .int .i64 (k : Int) ∧ v = .slice ao no co ∧ IsInts .i64 W ao no co (finK fin k) ∧ Below W1.heap.size W1 W) (fun _ x _ => fl - (intOf x).toNat)
  case atStart => exact ⟨0, none, 0, 0, Nat.zero_le _, rfl, rfl, .inl ⟨rfl, rfl, rfl, rfl⟩, Below.refl _ _⟩
  case round =>
    obtain ⟨k, ao, no, co, hk, rfl, rfl, hI, hb⟩ := hrel
    obtain ⟨⟨c1, c2, c3⟩, hbW⟩ := HO.out wr hb
    have hno : no ≤ fl := by have h1 := hI.length; have h2 := finK_len fin k; omega
    rcases Nat.lt_or_ge k fl with hlt | hge
    · have t1 : decide ((k : Int) < (fl : Int)) = true := decide_eq_true (by omega)
      have ck := HFC.out wr hbW k hlt
      have hwi := refWith_any _ _ _ _ (k : Int) wr hI (by omega)
      cases hg : gb fin k with
      | true =>
        rw [hg] at ck
        have HG : Hid (withL (finK fin k) k = finK fin (k + 1)) := Lib.hid (finK_yes hg)
        rw [HG.out] at hwi
        clear hI hg
        go_wp2_with (go_at_call 68; refine hwi.mono ?_; rintro e w3 ⟨a3, n3, c3', rfl, ho3, hb3⟩)
        go_roundw
        case rel => exact ⟨k + 1, a3, n3, c3', hlt, by go_num, rfl, (IsInts.of_owns ho3).1, hb.trans (hb3.mono hb.size)⟩
        case measure => simp [intOf]; omega
      | false =>
        rw [hg] at ck
        rw [finK_no hg] at hI
        clear hg hwi
        go_wp2_with (fail)
        go_roundw
        case rel => exact ⟨k + 1, ao, no, co, hlt, by go_num, rfl, hI, hb⟩
        case measure => simp [intOf]; omega
    · have t1 : decide ((k : Int) < (fl : Int)) = false := decide_eq_false (by omega)
      obtain rfl : k = fl := by omega
      have HI0 := Lib.hid hI
      clear hI
      go_wp2_with (fail)
      go_loopw [3, 5] (fun v x W => ∃ (m : Nat) (ao : Option Addr) (no co : Nat) (l : List Int), m ≤ k ∧ m ≤ no ∧ x = .int .i64 (m : Int) ∧ v = .slice ao no co ∧ IsInts .i64 W ao no co l ∧ Hid (UseI ⟨k, s, fin, es⟩ l) ∧ Below W1.heap.size W1 W) (fun _ x _ => k - (intOf x).toNat)
      case atStart => exact ⟨0, ao, no, co, finK fin k, Nat.zero_le _, Nat.zero_le _, rfl, rfl, HI0.out, HFK, hb⟩
      case round =>
        clear HI0 c1 c2 c3 hbW hb hno
        obtain ⟨m, ao, no, co, l, hm, hmn, rfl, rfl, hI, HU, hb⟩ := hrel
        obtain ⟨⟨c1, c2, c3⟩, hbW⟩ := HO.out wr hb
        have hln := hI.length
        rcases Nat.lt_or_ge m k with hlt | hge
        · have t2 : decide ((m : Int) < (k : Int)) = true := decide_eq_true (by omega)
          have HI1 := Lib.hid hI
          have HLN := Lib.hid hln
          clear hI hln
          go_wp2_with (fail)
          go_loopw [3, 7] (fun v x W => ∃ (j : Nat) (a2 : Option Addr) (n2 c2 : Nat), j ≤ al ∧ x = .int .i64 (j : Int) ∧ v = .slice a2 n2 c2 ∧ IsInts .i64 W a2 n2 c2 (roundU (es.take j) l) ∧ Below W1.heap.size W1 W) (fun _ x _ => al - (intOf x).toNat)
          case atStart => exact ⟨0, ao, no, co, Nat.zero_le _, rfl, rfl, HI1.out, hb⟩
          case round =>
            clear HI1 c1 c2 c3 hbW hb
            obtain ⟨j, a2, n2, c2', hj, rfl, rfl, hI, hb⟩ := hrel
            obtain ⟨⟨c1, c2, c3⟩, hbW⟩ := HO.out wr hb
            have HUJ : Hid (UseI ⟨k, s, fin, es⟩ (roundU (es.take j) l)) := Lib.hid (roundU_keep HV.out _ _ (fun x hx => List.mem_of_mem_take hx) HU.out)
            have hnk : n2 ≤ k := by have h1 := hI.length; have h2 := use_len HUJ.out; simp only [Int.toNat_natCast] at h2; omega
            rcases Nat.lt_or_ge j al with hjl | hjg
            · have t3 : decide ((j : Int) < (al : Int)) = true := decide_eq_true (by omega)
              obtain ⟨b5, o5, rfl, hc5⟩ := HAE.out.fix (by omega)
              obtain ⟨x1, x2, x3⟩ := hc5 wr hbW j hjl
              have HST : Hid (roundU (es.take (j + 1)) l = stepU (roundU (es.take j) l) (g3 es j)) := Lib.hid (roundU_succ es l (by rw [HAL.out]; exact hjl))
              obtain ⟨X, hX⟩ : ∃ X, g3 es j = X := ⟨_, rfl⟩
              rw [hX] at x1 x2 x3 HST
              obtain ⟨y1, y2, y3⟩ := X
              simp only at x1 x2 x3
              clear hX hc5
              have hHas := refHas_any _ _ _ _ y3 wr hI (by omega)
              by_cases hy : y3 ∈ roundU (es.take j) l
              · rw [decide_eq_true hy] at hHas
                have hwi := refWith_any _ _ _ _ y1 wr hI (by omega)
                have HS : Hid (roundU (es.take (j + 1)) l = withL (roundU (es.take j) l) y1) := Lib.hid (by rw [HST.out]; unfold stepU; rw [if_pos hy])
                rw [← HS.out] at hwi
                clear hI hy HST
                go_wp2_with (first | (go_at_call 43; refine hHas.mono ?_; rintro e w3 ⟨rfl, rfl⟩) | (go_at_call 68; refine hwi.mono ?_; rintro e w4 ⟨a3, n3, c3', rfl, ho3, hb3⟩))
                go_roundw
                case rel => exact ⟨j + 1, a3, n3, c3', hjl, by go_num, rfl, (IsInts.of_owns ho3).1, hb.trans (hb3.mono hb.size)⟩
                case measure => simp [intOf]; omega
              · rw [decide_eq_false hy] at hHas
                have HS : Hid (roundU (es.take (j + 1)) l = roundU (es.take j) l) := Lib.hid (by rw [HST.out]; unfold stepU; rw [if_neg hy])
                rw [← HS.out] at hI
                clear hy HST
                go_wp2_with (go_at_call 43; refine hHas.mono ?_; rintro e w3 ⟨rfl, rfl⟩)
                go_roundw
                case rel => exact ⟨j + 1, a2, n2, c2', hjl, by go_num, rfl, hI, hb⟩
                case measure => simp [intOf]; omega
            · have t3 : decide ((j : Int) < (al : Int)) = false := decide_eq_false (by omega)
              obtain rfl : j = al := by omega
              rw [List.take_of_length_le (by rw [HAL.out]; exact Nat.le_refl _)] at hI HUJ
              have hln2 := hI.length
              have hrl := roundU_len HV.out es l (fun x hx => hx) HU.out
              rw [hln2, HLN.out] at hrl
              by_cases he : n2 = no
              · have t4 : ((n2 : Int) == (no : Int)) = true := by simp; omega
                have h5 := hrl.2 he
                rw [h5.1] at hI
                have HR : Hid (l = UL) := Lib.hid (by rw [← HUL.out]; exact use_fin HV.out HU.out h5.2)
                have HI := Lib.hid hI
                clear hI h5 hrl he hln2
                go_wp2_with (fail)
                go_ret
                exact ⟨⟨a2, n2, c2', rfl, by rw [← HR.out]; exact HI.out⟩, hbW⟩
              · have t4 : ((n2 : Int) == (no : Int)) = false := by simp; omega
                have HI := Lib.hid hI
                have hgrow : m + 1 ≤ n2 := by omega
                clear hI hrl he hln2
                go_wp2_with (fail)
                go_roundw
                case rel => exact ⟨m + 1, a2, n2, c2', _, hlt, hgrow, by go_num, rfl, HI.out, HUJ, hb⟩
                case measure => simp [intOf]; omega
        · have t2 : decide ((m : Int) < (k : Int)) = false := decide_eq_false (by omega)
          have HR : Hid (l = UL) := Lib.hid (by rw [← HUL.out]; exact use_full HV.out HU.out (by simp only; omega))
          have HI := Lib.hid hI
          clear hI hln
          go_wp2_with (fail)
          go_ret
          exact ⟨⟨ao, no, co, rfl, by rw [← HR.out]; exact HI.out⟩, hbW⟩
end Go.Proofs.Ytpcbmhfnefhenaa

set_option linter.unusedVariables false
set_option linter.unusedSectionVars false
namespace Go.Proofs.Ytpcbmhfnefhenaa

section
variable {α : Type} [DecidableEq α]
theorem plF_pre {xs ys : List α} (h : xs <+: ys) {x : α} (hx : x ∈ xs) : plF ys x = plF xs x := idx_pre h hx
theorem plF_new {l : List α} {x : α} (h : x ∉ l) : plF (l ++ [x]) x = l.length := by
  unfold plF
  rw [List.idxOf_append, if_neg h]
  simp
end
abbrev Ky := Int × Int × Int
def plK (N : Nat) (ks : List Ky) (x : Ky) : Int := ((plF ks x + N : Nat) : Int)
def stp (ks : List Ky) (x : Ky) : List Ky := if x ∈ ks then ks else ks ++ [x]
theorem stp_mem (ks : List Ky) (x : Ky) : x ∈ stp ks x := by unfold stp; split <;> simp_all
theorem stp_pre (ks : List Ky) (x : Ky) : ks <+: stp ks x := by
  unfold stp
  split
  · exact List.prefix_refl _
  · exact List.prefix_append _ _
theorem stp_len (ks : List Ky) (x : Ky) : (stp ks x).length ≤ ks.length + 1 := by unfold stp; split <;> simp
theorem plK_pre {N : Nat} {xs ys : List Ky} (h : xs <+: ys) {x : Ky} (hx : x ∈ xs) : plK N ys x = plK N xs x := by
  unfold plK; rw [plF_pre h hx]
theorem plK_new {N : Nat} {ks : List Ky} {x : Ky} (h : x ∉ ks) : plK N (ks ++ [x]) x = ((ks.length + N : Nat) : Int) := by
  unfold plK
  rw [plF_new h]
theorem plK_inj {N : Nat} {ks : List Ky} {x y : Ky} (hx : x ∈ ks) (hy : y ∈ ks) (h : plK N ks x = plK N ks y) : x = y := by
  unfold plK at h
  exact idx_inj hx hy (by omega)
theorem plK_lt {N : Nat} {ks : List Ky} {x : Ky} (hx : x ∈ ks) : (N : Int) ≤ plK N ks x ∧ plK N ks x < N + ks.length := by
  have := plF_lt hx
  unfold plK
  omega
def numS (N : Nat) (ks : List Ky) (c : Int) (l : List (Int × Int)) : Int := l.foldl (fun p x => plK N ks (p, x.1, x.2)) (plK N ks (c, -1, -1))
theorem numS_nil (N : Nat) (ks : List Ky) (c : Int) : numS N ks c [] = plK N ks (c, -1, -1) := rfl
theorem numS_snoc (N : Nat) (ks : List Ky) (c : Int) (l : List (Int × Int)) (x : Int × Int) : numS N ks c (l ++ [x]) = plK N ks (numS N ks c l, x.1, x.2) := by
  unfold numS; rw [List.foldl_append]; rfl
def ChIn (N : Nat) (ks : List Ky) (c : Int) (l : List (Int × Int)) : Prop := (c, -1, -1) ∈ ks ∧ ∀ j (hj : j < l.length), (numS N ks c (l.take j), (l[j]).1, (l[j]).2) ∈ ks
theorem ChIn.nil {N : Nat} {ks : List Ky} {c : Int} (h : (c, -1, -1) ∈ ks) : ChIn N ks c [] := ⟨h, fun j hj => by simp at hj⟩
theorem ChIn.snoc {N : Nat} {ks : List Ky} {c : Int} {l : List (Int × Int)} {x : Int × Int} : ChIn N ks c (l ++ [x]) ↔ ChIn N ks c l ∧ (numS N ks c l, x.1, x.2) ∈ ks := by
  constructor
  · rintro ⟨h1, h2⟩
    refine ⟨⟨h1, fun j hj => ?_⟩, ?_⟩
    · have := h2 j (by simp; omega)
      rw [List.take_append_of_le_length (by omega)] at this
      simpa [List.getElem_append_left hj] using this
    · have := h2 l.length (by simp)
      simpa using this
  · rintro ⟨⟨h1, h2⟩, h3⟩
    refine ⟨h1, fun j hj => ?_⟩
    rcases Nat.lt_or_ge j l.length with h | h
    · have := h2 j h
      rw [List.take_append_of_le_length (by omega)]
      simpa [List.getElem_append_left h] using this
    · have e : j = l.length := by simp at hj; omega
      subst e
      simpa using h3
theorem numS_pre {N : Nat} {xs ys : List Ky} (h : xs <+: ys) {c : Int} {l : List (Int × Int)} (hc : ChIn N xs c l) : numS N ys c l = numS N xs c l ∧ ChIn N ys c l := by
  have key : ∀ n (l : List (Int × Int)), l.length = n → ChIn N xs c l → numS N ys c l = numS N xs c l ∧ ChIn N ys c l := by
    intro n
    induction n with
    | zero =>
      intro l hl hc
      rw [List.eq_nil_of_length_eq_zero hl] at hc ⊢
      exact ⟨plK_pre h hc.1, ChIn.nil (h.subset hc.1)⟩
    | succ n ih =>
      intro l hl hc
      have hne : l ≠ [] := fun e => by rw [e] at hl; cases hl
      rw [← List.dropLast_concat_getLast hne] at hc ⊢
      obtain ⟨h1, h2⟩ := ChIn.snoc.1 hc
      obtain ⟨k1, k2⟩ := ih _ (by rw [List.length_dropLast, hl]; rfl) h1
      rw [numS_snoc, numS_snoc, k1]
      exact ⟨plK_pre h h2, ChIn.snoc.2 ⟨k2, by rw [k1]; exact h.subset h2⟩⟩
  exact key _ l rfl hc
theorem chin_step {N : Nat} {ks : List Ky} {c : Int} {l : List (Int × Int)} (h : ChIn N ks c l) (x : Int × Int) :
    ChIn N (stp ks (numS N ks c l, x.1, x.2)) c (l ++ [x]) ∧ numS N (stp ks (numS N ks c l, x.1, x.2)) c (l ++ [x]) = plK N (stp ks (numS N ks c l, x.1, x.2)) (numS N ks c l, x.1, x.2) := by
  obtain ⟨e, h'⟩ := numS_pre (stp_pre ks (numS N ks c l, x.1, x.2)) h
  exact ⟨ChIn.snoc.2 ⟨h', by rw [e]; exact stp_mem _ _⟩, by rw [numS_snoc, e]⟩
theorem numS_range {N : Nat} {ks : List Ky} {c : Int} {l : List (Int × Int)} (hc : ChIn N ks c l) : (N : Int) ≤ numS N ks c l ∧ numS N ks c l < N + ks.length := by
  by_cases hne : l = []
  · subst hne; exact plK_lt hc.1
  · rw [← List.dropLast_concat_getLast hne] at hc ⊢
    rw [numS_snoc]
    exact plK_lt (ChIn.snoc.1 hc).2
theorem numS_inj {N : Nat} {ks : List Ky} {c c' : Int} : ∀ (n : Nat) (l l' : List (Int × Int)), l.length = n → (∀ x ∈ l, 1 ≤ x.1) → (∀ x ∈ l', 1 ≤ x.1) → ChIn N ks c l → ChIn N ks c' l' → numS N ks c l = numS N ks c' l' → c = c' ∧ l = l'
  | 0, l, l', hl, hp, hp', h, h', e => by
    have hl0 := List.eq_nil_of_length_eq_zero hl
    subst hl0
    by_cases hne : l' = []
    · subst hne
      rw [numS_nil, numS_nil] at e
      have := plK_inj h.1 h'.1 e
      injection this with e1
      exact ⟨e1, rfl⟩
    · rw [← List.dropLast_concat_getLast hne] at h' e hp'
      rw [numS_nil, numS_snoc] at e
      have := plK_inj h.1 (ChIn.snoc.1 h').2 e
      injection this with e1 e2
      injection e2 with e2 e3
      have := hp' (l'.getLast hne) (by simp)
      omega
  | n + 1, l, l', hl, hp, hp', h, h', e => by
    have hne : l ≠ [] := fun e => by rw [e] at hl; cases hl
    rw [← List.dropLast_concat_getLast hne] at h e hp ⊢
    by_cases hne' : l' = []
    · subst hne'
      rw [numS_nil, numS_snoc] at e
      have := plK_inj (ChIn.snoc.1 h).2 h'.1 e
      injection this with e1 e2
      injection e2 with e2 e3
      have := hp (l.getLast hne) (by simp)
      omega
    · rw [← List.dropLast_concat_getLast hne'] at h' e hp' ⊢
      rw [numS_snoc, numS_snoc] at e
      obtain ⟨k1, k2⟩ := ChIn.snoc.1 h
      obtain ⟨k3, k4⟩ := ChIn.snoc.1 h'
      have := plK_inj k2 k4 e
      injection this with e1 e2
      injection e2 with e2 e3
      obtain ⟨i1, i2⟩ := numS_inj n _ _ (by rw [List.length_dropLast, hl]; rfl) (fun x hx => hp x (List.mem_append_left _ hx)) (fun x hx => hp' x (List.mem_append_left _ hx)) k1 k3 e1
      exact ⟨i1, by rw [i2, show l.getLast hne = l'.getLast hne' from Prod.ext e2 e3]⟩
section
variable {α β : Type} [DecidableEq α] [DecidableEq β]
theorem idxOf_map_on {f : α → β} {l : List α} {x : α} (h : ∀ y ∈ l, f y = f x → y = x) : plF (l.map f) (f x) = plF l x := by
  unfold plF
  induction l with
  | nil => rfl
  | cons y l ih =>
    have ih := ih fun z hz => h z (List.mem_cons_of_mem _ hz)
    rw [List.map_cons, List.idxOf_cons, List.idxOf_cons, ih]
    by_cases e : y = x
    · subst e; simp
    · have e' : f y ≠ f x := fun he => e (h y List.mem_cons_self he)
      have b1 : (y == x) = false := by simpa using e
      have b2 : (f y == f x) = false := by simpa using e'
      rw [b1, b2]
theorem mem_map_on {f : α → β} {l : List α} {x : α} (h : ∀ y ∈ l, f y = f x → y = x) : f x ∈ l.map f ↔ x ∈ l := by
  rw [List.mem_map]
  exact ⟨fun ⟨y, hy, e⟩ => h y hy e ▸ hy, fun hx => ⟨x, hx, rfl⟩⟩
end
def numA (N : Nat) (ks : List Ky) (s : Int × List (Int × Int)) : Int := numS N ks s.1 s.2
def SigOk (s : Int × List (Int × Int)) : Prop := ∀ x ∈ s.2, 1 ≤ x.1
structure RefI (es : List A3) (cl : List Int) (N k : Nat) (ks : List Ky) (fk : List Int) : Prop where
  chin : ∀ i, i < k → ChIn N ks (sigA es cl i).1 (sigA es cl i).2
  fks : fk = (firsts (sigs es cl k)).map (numA N ks)
section
variable {es : List A3} {cl : List Int} {N k : Nat} {ks : List Ky} {fk : List Int}
theorem RefI.start (es : List A3) (cl : List Int) (N : Nat) : RefI es cl N 0 [] [] := ⟨fun i hi => by omega, rfl⟩
theorem RefI.chOf (h : RefI es cl N k ks fk) {s : Int × List (Int × Int)} (hs : s ∈ firsts (sigs es cl k)) : ChIn N ks s.1 s.2 := by
  obtain ⟨i, hi, rfl⟩ := List.mem_map.1 (mem_firsts.1 hs)
  exact h.chin i (List.mem_range.1 hi)
theorem RefI.grow (h : RefI es cl N k ks fk) {ks' : List Ky} (hp : ks <+: ks') : RefI es cl N k ks' fk := by
  refine ⟨fun i hi => (numS_pre hp (h.chin i hi)).2, ?_⟩
  rw [h.fks]
  exact List.map_congr_left fun s hs => (numS_pre hp (h.chOf hs)).1.symm
theorem sig_ok (hl : ∀ x ∈ es, 1 ≤ x.l) (i : Nat) : SigOk (sigA es cl i) := by
  intro x hx
  obtain ⟨y, hy, rfl⟩ := List.mem_map.1 hx
  exact hl y (outsD_mem.1 hy).1
theorem RefI.distinct (hl : ∀ x ∈ es, 1 ≤ x.l) (h : RefI es cl N k ks fk) (hk : ChIn N ks (sigA es cl k).1 (sigA es cl k).2) : ∀ s ∈ firsts (sigs es cl k), numA N ks s = numA N ks (sigA es cl k) → s = sigA es cl k := by
  intro s hs e
  obtain ⟨i, hi, rfl⟩ := List.mem_map.1 (mem_firsts.1 hs)
  obtain ⟨e1, e2⟩ := numS_inj _ _ _ rfl (sig_ok hl i) (sig_ok hl k) (h.chin i (List.mem_range.1 hi)) hk e
  exact Prod.ext e1 e2
theorem sigs_succ (es : List A3) (cl : List Int) (k : Nat) : sigs es cl (k + 1) = sigs es cl k ++ [sigA es cl k] := by
  unfold sigs; rw [List.range_succ, List.map_append]; rfl
theorem RefI.step (hl : ∀ x ∈ es, 1 ≤ x.l) (h : RefI es cl N k ks fk) (hk : ChIn N ks (sigA es cl k).1 (sigA es cl k).2) :
    RefI es cl N (k + 1) ks (if numA N ks (sigA es cl k) ∈ fk then fk else fk ++ [numA N ks (sigA es cl k)]) := by
  refine ⟨fun i hi => ?_, ?_⟩
  · rcases Nat.lt_or_ge i k with h1 | h1
    · exact h.chin i h1
    · rw [show i = k by omega]; exact hk
  · have hm := mem_map_on (h.distinct hl hk)
    rw [← h.fks] at hm
    rw [sigs_succ, firsts_snoc]
    by_cases hf : sigA es cl k ∈ firsts (sigs es cl k)
    · rw [if_pos hf, if_pos (hm.2 hf)]; exact h.fks
    · rw [if_neg hf, if_neg (fun e => hf (hm.1 e)), List.map_append, ← h.fks]; rfl
theorem RefI.idx (hl : ∀ x ∈ es, 1 ≤ x.l) (hkN : k < N) (h : RefI es cl N (k + 1) ks fk) : ((plF fk (numA N ks (sigA es cl k)) : Nat) : Int) = gi (refC es N cl) k := by
  rw [refC_at es cl hkN, h.fks]
  have hk := h.chin k (Nat.lt_succ_self k)
  have e1 := idxOf_map_on (f := numA N ks) (l := firsts (sigs es cl (k + 1))) (x := sigA es cl k) fun s hs e => by
    obtain ⟨i, hi, rfl⟩ := List.mem_map.1 (mem_firsts.1 hs)
    obtain ⟨e1, e2⟩ := numS_inj _ _ _ rfl (sig_ok hl i) (sig_ok hl k) (h.chin i (List.mem_range.1 hi)) hk e
    exact Prod.ext e1 e2
  rw [e1]
  have hm : sigA es cl k ∈ firsts (sigs es cl (k + 1)) := sig_mem es cl (Nat.lt_succ_self k)
  have hp : firsts (sigs es cl (k + 1)) <+: firsts (sigs es cl N) := by
    have e : sigs es cl N = sigs es cl (k + 1) ++ ((List.range' (k + 1) (N - (k + 1))).map (sigA es cl)) := by
      unfold sigs
      rw [← List.map_append]
      congr 1
      rw [List.range_eq_range', List.range_eq_range']
      have := List.range'_append_1 (s := 0) (m := k + 1) (n := N - (k + 1))
      rw [Nat.zero_add] at this
      rw [this, show k + 1 + (N - (k + 1)) = N by omega]
    rw [e]
    exact firsts_pre _ _
  rw [plF_pre hp hm]
theorem RefI.count (h : RefI es cl N N ks fk) : fk.length = refN es N cl := by rw [h.fks, List.length_map]; rfl
end
def outR (es : List A3) (cl : List Int) (N k : Nat) : List Int := (refC es N cl).take k ++ List.replicate (N - k) 0
theorem outR_len (es : List A3) (cl : List Int) (N k : Nat) (h : k ≤ N) : (outR es cl N k).length = N := by
  unfold outR
  rw [List.length_append, List.length_take, refC_len, List.length_replicate]
  omega
theorem outR_set {es : List A3} {cl : List Int} {N k : Nat} (h : k < N) : (outR es cl N k).set k (gi (refC es N cl) k) = outR es cl N (k + 1) := by
  unfold outR
  have hl := refC_len es cl N
  rw [List.set_append_right _ _ (by rw [List.length_take]; omega), List.length_take, show k - min k (refC es N cl).length = 0 by omega]
  obtain ⟨m, hm⟩ : ∃ m, N - k = m + 1 := ⟨N - k - 1, by omega⟩
  rw [hm, show N - (k + 1) = m by omega, List.replicate_succ, List.set_cons_zero, List.take_succ_eq_append_getElem (by omega), gi_eq _ _ (by omega), List.append_assoc]
  rfl
theorem outR_full (es : List A3) (cl : List Int) (N : Nat) : outR es cl N N = refC es N cl := by
  unfold outR
  rw [List.take_of_length_le (by rw [refC_len]; exact Nat.le_refl _)]
  simp
end Go.Proofs.Ytpcbmhfnefhenaa
