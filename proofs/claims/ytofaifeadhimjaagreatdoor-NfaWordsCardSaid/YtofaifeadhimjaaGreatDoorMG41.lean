import Derived.Test.YtofaifeadhimjaaGreatDoorMG36
import Derived.Test.YtofaifeadhimjaaGreatDoorMG40
/-
  NfaSt
-/
set_option linter.unusedSimpArgs false
set_option linter.unusedVariables false
namespace Go.Proofs.YtofaifeadhimjaaGreatDoor
open Go.RowKit
attribute [local go_sem] Oper.semAt_some

noncomputable def shW (a : Nfa) : List Int := if vN a = true then (shN a).getD [] else []
noncomputable def shX (a : Nfa) : Int := if vN a = true then (if (shN a).isSome = true then 0 else 8) else 1
def GivesSh (a : Nfa) (w : World) (e : Ending) (w' : World) : Prop := (∃ b c, e = .returned (.tuple #[.slice b (shW a).length c, .int .i64 (shX a)]) ∧ IsInts .i64 w' b (shW a).length c (shW a)) ∧ Below w.heap.size w w'
theorem sh_no {a : Nfa} (h : ¬ ValidN a) : shW a = [] ∧ shX a = 1 := by
 unfold shW shX
 rw [vN_no h]
 exact ⟨rfl, rfl⟩
theorem sh_none {a : Nfa} (h : ValidN a) (hn : ∀ w, ¬ AccF a (cloL a.arcs a.s) w) : shW a = [] ∧ shX a = 8 := by
 unfold shW shX
 rw [vN_yes h, shN_none fun w hw => hn w ((accF_clo h.arcsIn h.startIn).2 hw)]
 exact ⟨rfl, rfl⟩
theorem sh_some {a : Nfa} (h : ValidN a) {w : List Int} (hw : LeastF a a.s w) : shW a = w ∧ shX a = 0 := by
 unfold shW shX
 rw [vN_yes h, shN_some hw]
 exact ⟨rfl, rfl⟩
def ShP (a : Nfa) : Prop := (∀ u, ¬ AccF a a.s u) ∨ ∃ u, LeastF a a.s u ∧ (u.length : Int) < a.n
theorem least_clo {a : Nfa} (h : ValidN a) {w : List Int} (hw : LeastF a (cloL a.arcs a.s) w) : LeastF a a.s w :=
 ⟨(accF_clo h.arcsIn h.startIn).1 hw.1, fun v hv => hw.2 v ((accF_clo h.arcsIn h.startIn).2 hv)⟩
theorem asc_before {l : List Int} (hl : l.Pairwise (· < ·)) {k : Nat} (hk : k < l.length) {d : Int} (hd : d ∈ l) (hlt : d < gi l k) : ∃ j, j < k ∧ gi l j = d := by
 obtain ⟨j, hj, e⟩ := List.getElem_of_mem hd
 have ej : gi l j = d := by rw [gi_eq l j hj]; exact e
 refine ⟨j, ?_, ej⟩
 refine Nat.lt_of_not_le fun hle => ?_
 rcases Nat.lt_or_ge k j with h1 | h1
 ·have := List.pairwise_iff_getElem.1 hl k j hk hj h1
  rw [← gi_eq l k hk, ← gi_eq l j hj, ej] at this
  omega
 ·obtain rfl : j = k := by omega
  omega
theorem app_oneG {P : Program} {T E : TypeId} {z0 : Value} {bytes : Nat} {k : IntKind} (el : Elem P T E z0 1 bytes) {w0 : World} {ops : Array Oper} {rest : List Oper} {o : Oper} {a : Act} {Q : Exit → Act → World → Prop} (hgd : Region.wanted o (yielded ops a.tmps) = true) (s x : Operand)
  (ho : o.op = .call { callee := .builtin .append, args := #[s, x], argTypes := #[T, T] })
  {B : Nat} {v : Value} {n : Nat} {xs : List Int} (hs : a.eval s = v) (hown : w0.ownsRow B E 1 v n (ivs k xs)) {z : Int} (hx : a.eval x = .slice (some ⟨w0.heap.size, 0, none⟩) 1 1)
  (hb : (n + 1) * (bytes + 1) ≤ 140737488355328) (hB : B ≤ w0.heap.size)
  (h : ∀ a' c' w', w'.ownsRow B E 1 (.slice a' (n + 1) c') (n + 1) (ivs k (xs ++ [z])) → Below B w0 w' → (∀ b, b < w0.heap.size → v.ownBlock ≠ some b → w'.heap[b]? = w0.heap[b]?) → wpList P ops Q rest (a.put o.dst (.slice a' (n + 1) c')) w') : wpList P ops Q (o :: rest) a (w0.alloc (.cells #[.int k z] E)) := by
 refine app_ints (k := k) (xs := xs) (ys := [z]) el hgd s x ho hs (hown.kept_below ((Below.refl _ _).alloc (Nat.le_refl _) _)) hx (new_ints k w0 E [z] 1 rfl (by decide)) hb (by simp; omega) ?_
 intro a' c' w' h1 h2 h3 _
 refine h a' c' w' h1 (((Below.refl _ _).alloc hB _).trans h3) fun b hb hne => ?_
 rw [h2.block b (by simp; omega) (fun e => hne e.symm), Below.heap_alloc _ _ _ hb]
theorem IsInts.same {k : IntKind} {w w' : World} {b off len cap : Nat} {zs : List Int} (h : IsInts k w (some ⟨b, off, none⟩) len cap zs) (hb : w'.heap[b]? = w.heap[b]?) : IsInts k w' (some ⟨b, off, none⟩) len cap zs := by
 rcases h with ⟨e, _⟩ | ⟨b', off', e, h1, h2, h3, h4⟩
 ·cases e
 ·injection e with e; injection e with e1 e2; subst e1; subst e2
  refine .inr ⟨b, off, rfl, h1, h2, h3, fun i hi => ?_⟩
  rw [← h4 i hi]
  unfold World.cell?
  simp only [hb]
variable {a : Nfa} {h : NH} {w : World}
set_option maxRecDepth 20000 in
set_option maxHeartbeats 2000000 in
theorem Shortest_any (hd : IsNfa w h a) (hT : TabW w) : Calls Tryz.prog 9 #[vNf a h] w fun e w' => GivesSh a w e w' ∧ (ValidN a → ShP a) := by
 obtain ⟨W1, hW1, hs1, hb1, hO⟩ := boxNW a h w hd
 have hva := valid_any a h W1 (hd.later hb1)
 simp only [vNf] at hva
 have HT := Lib.hid hT
 have HO := Lib.hid hO
 have HS1 := Lib.hid hs1
 have HB1 := Lib.hid hb1
 obtain ⟨⟨c1, c2, c3, c4⟩, -, -⟩ := hO W1 (by rw [← hs1]; exact Below.refl _ _)
 unfold vNf
 by_cases hv : ValidN a
 ·rw [vN_yes hv] at hva
  have HV := Lib.hid hv
  have HLB : Hid (∀ W, Below W1.heap.size W1 W → Below w.heap.size w W) := Lib.hid (fun W hB => HB1.out.trans (hB.mono (by have := HS1.out; omega)))
  have hdi := fun W (hB : Below W1.heap.size W1 W) => distances_any (w := W) hv (HO.out W (by rw [← HS1.out]; exact hB)).2.1
  have hcl := fun W (hB : Below W1.heap.size W1 W) => closed_any (w := W) hv (HO.out W (by rw [← HS1.out]; exact hB)).2.1 (HO.out W (by rw [← HS1.out]; exact hB)).2.1.start hv.startIn
  have hmv := fun W (hB : Below W1.heap.size W1 W) (c : Int) (S : List Int) (g t : Nat) (zs : List Int) (hi : IsInts .u64 W (some ⟨g, 0, none⟩) t t zs) (hz : Bt.SetIs zs (inL S)) (hS : CS a S) => moved_any (w := W) (c := c) hv (HO.out W (by rw [← HS1.out]; exact hB)).2.1 hi hz hS (HT.out.later (HLB.out W hB))
  have hlv := fun W (hB : Below W1.heap.size W1 W) (S : List Int) (g t : Nat) (zs : List Int) (hi : IsInts .u64 W (some ⟨g, 0, none⟩) t t zs) (hz : Bt.SetIs zs (inL S)) (hS : CS a S) => leaving_any (w := W) hv (HO.out W (by rw [← HS1.out]; exact hB)).2.1 hi hz hS (HT.out.later (HLB.out W hB))
  simp only [vNf] at hdi hcl hmv hlv
  have HDI := Lib.hid hdi
  have HCL := Lib.hid hcl
  have HMV := Lib.hid hmv
  have HLV := Lib.hid hlv
  clear hd hT hO hb1 hs1 hv hdi hcl hmv hlv
  go_enter Tryz.func9, Tryz.ntmps9
  go_wp2_with (first | (go_at_call 18; refine hva.mono ?_; rintro e w3 ⟨rfl, hb3⟩; obtain ⟨⟨d1, d2, d3, d4⟩, -, -⟩ := HO.out w3 (by rw [← HS1.out]; exact hb3)) | (go_at_call 26; refine (HDI.out w3 hb3).mono ?_; rintro e w4 ⟨⟨L, aL, lL, cL, rfl, hiL, hnl, hDF⟩, hb4⟩; have HNL := Lib.hid hnl; clear hnl; have hb14 := hb3.trans (hb4.mono hb3.size); obtain ⟨⟨f1, f2, f3, f4⟩, -, -⟩ := HO.out w4 (by rw [← HS1.out]; exact hb14)) | (go_at_call 19; refine (HCL.out w4 hb14).mono ?_; rintro e w5 ⟨g, t, us, rfl, hpz, hzs, ht, hb5⟩; have hb15 := hb14.trans (hb5.mono hb14.size); have hi5 := hpz.ints))
  have hcs : CS a (cloL a.arcs a.s) := cs_clo HV.out HV.out.startIn
  obtain ⟨S0, hS0⟩ : ∃ S0, cloL a.arcs a.s = S0 := ⟨_, rfl⟩
  have HS0 := Lib.hid hS0
  rw [hS0] at hzs hcs
  have hne := nearest_any (hiL.later hb5) hi5 hzs hcs.2.2 hcs.1 (by have := HV.out.1; omega) HNL.out (HT.out.later (HLB.out _ hb15))
  have hnr := nearL_is hDF hcs.1
  obtain ⟨r, hr⟩ : ∃ r, nearL L S0 = r := ⟨_, rfl⟩
  rw [hr] at hne hnr
  have HNR := Lib.hid hnr
  have HDF := Lib.hid hDF
  have HIL := Lib.hid (hiL.later hb5)
  have HI5 := Lib.hid hi5
  have HZ5 := Lib.hid hzs
  have HCS := Lib.hid hcs
  have HB15 := Lib.hid hb15
  clear hW1 c1 c2 c3 c4 d1 d2 d3 d4 f1 f2 f3 f4 hva hS0 hzs hcs hnr hr hDF hiL hi5 hpz hb3 hb4 hb14 hb15 hb5
  by_cases h0 : r < 0
  ·have t1 : decide (r < 0) = true := decide_eq_true h0
   have HE : Hid ((shW a = [] ∧ shX a = 8) ∧ ShP a) := Lib.hid (by
    have h9 : ∀ w, ¬ AccF a (cloL a.arcs a.s) w := by
     rw [HS0.out]
     rcases HNR.out with h1 | h1
     ·exact h1.2
     ·omega
    exact ⟨sh_none HV.out h9, .inl fun u hu => h9 u ((accF_clo HV.out.arcsIn HV.out.startIn).2 hu)⟩)
   clear h0
   go_wp2_with (go_at_call 27; refine hne.mono ?_; rintro e w6 ⟨rfl, hb6⟩)
   go_ret2
   unfold GivesSh
   rw [HE.out.1.1, HE.out.1.2]
   exact ⟨⟨⟨none, 0, rfl, .inl ⟨rfl, rfl, rfl, rfl⟩⟩, HLB.out _ (HB15.out.trans (hb6.mono HB15.out.size))⟩, fun _ => HE.out.2⟩
  ·have t1 : decide (r < 0) = false := decide_eq_false h0
   have hr200 : r ≤ 200 ∧ r < a.n := by
    rcases HNR.out with h1 | h1
    ·omega
    ·have := HV.out.1; omega
   have HRN := Lib.hid hr200.2
   replace hr200 := hr200.1
   go_wp2_with (go_at_call 27; refine hne.mono ?_; rintro e w6 ⟨rfl, hb6⟩)
   clear hne t1
   have HI6 := Lib.hid (HI5.out.later hb6)
   have HL6 := Lib.hid (HIL.out.later hb6)
   have HB6 : Hid (Below W1.heap.size W1 w6 ∧ W1.heap.size ≤ w6.heap.size) := Lib.hid ⟨HB15.out.trans (hb6.mono HB15.out.size), Nat.le_trans HB15.out.size hb6.size⟩
   have HLE : Hid (∀ u, LeastF a S0 u → LeastF a a.s ([] ++ u)) := Lib.hid (fun u hu => by rw [List.nil_append]; exact least_clo HV.out (by rw [HS0.out]; exact hu))
   clear hb6
   go_loopw [5, 6, 7] (fun vs vr vw W => ∃ (ρ : Int) (g t : Nat) (zs S word : List Int) (aw : Option Addr) (cw : Nat), vs = .slice (some ⟨g, 0, none⟩) t t ∧ vr = .int .i64 ρ ∧ 0 ≤ ρ ∧ Hid ((word.length : Int) + ρ = r) ∧ vw = .slice aw word.length cw ∧ Hid (IsInts .u64 W (some ⟨g, 0, none⟩) t t zs) ∧ Hid (Bt.SetIs zs (inL S)) ∧ Hid (CS a S) ∧ Hid (NearIs a S ρ) ∧ Hid (∀ u, LeastF a S u → LeastF a a.s (word ++ u)) ∧ Hid (W.ownsRow w6.heap.size 3 1 (.slice aw word.length cw) word.length (ivs .i64 word)) ∧ Hid (Below w6.heap.size w6 W)) (fun _ vr _ _ => (intOf vr).toNat)
   case atStart => exact ⟨r, _, _, us, S0, [], none, 0, rfl, rfl, by omega, Lib.hid (by simp), rfl, HI6, HZ5, HCS, HNR, HLE, Lib.hid (World.ownsRow_nil _ _ _ _), Lib.hid (Below.refl _ _)⟩
   case round =>
    clear HI6 HZ5 HCS HNR HLE h0
    obtain ⟨ρ, g, t, zs, S, word, aw, cw, rfl, rfl, hρ, HWL, rfl, HI, HZ, HCS, HNR, HLE, HOW, HB⟩ := hrel
    have HBW : Hid (Below W1.heap.size W1 wr ∧ w6.heap.size ≤ wr.heap.size) := Lib.hid ⟨HB6.out.1.trans (HB.out.mono HB6.out.2), HB.out.size⟩
    obtain ⟨⟨d1, d2, d3, d4⟩, -, -⟩ := HO.out wr (by rw [← HS1.out]; exact HBW.out.1)
    have hwl : word.length ≤ 200 ∧ ρ ≤ 200 := by have := HWL.out; omega
    by_cases h0 : 0 < ρ
    ·have t1 : decide (0 < ρ) = true := decide_eq_true h0
     have HNS := Lib.hid (near_step HV.out HCS.out.1 HCS.out.2.1 HNR.out h0)
     have hl := HLV.out wr HBW.out.1 S g t zs HI.out HZ.out HCS.out
     go_wp2_with (go_at_call 28; refine hl.mono ?_; rintro e w7 ⟨⟨aR, cR, rfl, hoR⟩, hb7⟩)
     clear d1 d2 d3 d4 hl
     have hla := lvL_asc a.arcs S
     obtain ⟨lv, hlv⟩ : ∃ lv, lvL a.arcs S = lv := ⟨_, rfl⟩
     rw [hlv] at HNS hla hoR ⊢
     obtain ⟨ll, hll⟩ : ∃ ll, lv.length = ll := ⟨_, rfl⟩
     have HIR := Lib.hid (IsInts.of_owns hoR).1
     have HLL := Lib.hid hll
     have HLA := Lib.hid hla
     rw [hll] at HIR ⊢
     have hl10 : ll ≤ 1000000 := by
      have h1 := bd_len hla (n := 10001) (fun z hz => by rw [← hlv] at hz; have := (mem_lvL.1 hz).1; omega)
      omega
     have HB7 : Hid (Below W1.heap.size W1 w7 ∧ w6.heap.size ≤ w7.heap.size ∧ W1.heap.size ≤ w7.heap.size) := Lib.hid ⟨HBW.out.1.trans (hb7.mono HBW.out.1.size), Nat.le_trans HBW.out.2 hb7.size, Nat.le_trans HBW.out.1.size hb7.size⟩
     have HI7 := Lib.hid (HI.out.later hb7)
     have HOW7 := Lib.hid (HOW.out.kept_below hb7)
     have HB67 := Lib.hid (HB.out.trans (hb7.mono HB.out.size))
     clear hlv hll hla hoR hb7 HI HOW HB HBW HNR
     go_loopw [5, 7, 33] (fun vs vw c W => ∃ k : Nat, k ≤ ll ∧ c = .int .i64 (k : Int) ∧ vs = .slice (some ⟨g, 0, none⟩) t t ∧ vw = .slice aw word.length cw ∧ Hid (∀ j, j < k → ¬ NearIs a (movL a.arcs S (gi lv j)) (ρ - 1)) ∧ Hid (Below w7.heap.size w7 W)) (fun _ _ c _ => ll - (intOf c).toNat)
     case atStart => exact ⟨0, Nat.zero_le _, rfl, rfl, rfl, Lib.hid (fun j hj => by omega), Lib.hid (Below.refl _ _)⟩
     case round =>
      obtain ⟨k, hk, rfl, rfl, rfl, HNO, HB⟩ := hrel
      have HBW : Hid (Below W1.heap.size W1 wr ∧ w6.heap.size ≤ wr.heap.size ∧ W1.heap.size ≤ wr.heap.size) := Lib.hid ⟨HB7.out.1.trans (HB.out.mono HB7.out.2.2), Nat.le_trans HB7.out.2.1 HB.out.size, Nat.le_trans HB7.out.2.2 HB.out.size⟩
      obtain ⟨⟨d1, d2, d3, d4⟩, -, -⟩ := HO.out wr (by rw [← HS1.out]; exact HBW.out.1)
      rcases Nat.lt_or_ge k ll with hlt | hge
      ·have t2 : decide (k < ll) = true := decide_eq_true hlt
       obtain ⟨bR, oR, rfl, -, hcR⟩ := HIR.out.at wr HB.out k hlt
       obtain ⟨c, hc⟩ : ∃ c, gi lv k = c := ⟨_, rfl⟩
       have hcm : c ∈ lv := by rw [← hc]; exact gi_mem lv k (by rw [HLL.out]; exact hlt)
       rw [hc] at hcR
       have hm := HMV.out wr HBW.out.1 c S g t zs (HI7.out.later HB.out) HZ.out HCS.out
       have hcs := cs_mov HV.out S c
       obtain ⟨S', hS'⟩ : ∃ S', movL a.arcs S c = S' := ⟨_, rfl⟩
       rw [hS'] at hm hcs
       have hne := fun W (hB : Below wr.heap.size wr W) (g t : Nat) (zs : List Int) (hi : IsInts .u64 W (some ⟨g, 0, none⟩) t t zs) (hz : Bt.SetIs zs (inL S')) => nearest_any (HL6.out.later (HB67.out.trans ((HB.out.trans (hB.mono HB.out.size)).mono HB7.out.2.1))) hi hz hcs.2.2 hcs.1 (by have := HV.out.1; omega) HNL.out (HT.out.later (HLB.out _ (HBW.out.1.trans (hB.mono HBW.out.2.2))))
       have hnr := nearL_is HDF.out hcs.1
       obtain ⟨nl, hnl⟩ : ∃ nl, nearL L S' = nl := ⟨_, rfl⟩
       rw [hnl] at hne hnr
       have HNE := Lib.hid hne
       have HC := Lib.hid hc
       have HS' := Lib.hid hS'
       have HCM := Lib.hid hcm
       have HCS' := Lib.hid hcs
       have HNR := Lib.hid hnr
       clear hnl hne hc hS' hcm hcs hnr
       by_cases hq : nl = ρ - 1
       ·have t3 : (nl == ρ - 1) = true := by simpa using hq
        have HLE2 : Hid (∀ u, LeastF a S' u → LeastF a a.s (word ++ [c] ++ u)) := Lib.hid (fun u hu => by
         rw [List.append_assoc]
         refine HLE.out _ (HNS.out.2 c HCM.out (by rw [HS'.out, ← hq]; exact HNR.out) (fun d hd hdc => ?_) u (by rw [HS'.out]; exact hu))
         obtain ⟨j, hj, e⟩ := asc_before HLA.out (k := k) (by rw [HLL.out]; exact hlt) hd (by rw [HC.out]; exact hdc)
         rw [← e]
         exact HNO.out j hj)
        have HNR2 : Hid (NearIs a S' (ρ - 1)) := Lib.hid (by rw [← hq]; exact HNR.out)
        have HOWr := Lib.hid (HOW7.out.kept_below HB.out)
        have HB6r := Lib.hid (HB67.out.trans (HB.out.mono HB7.out.2.1))
        have HSZ : Hid (w6.heap.size ≤ wr.heap.size) := Lib.hid HBW.out.2.1
        subst hq
        clear HNO HNS HNR HLE
        go_wp2_with (first | (go_at_call 20; refine hm.mono ?_; rintro e w8 ⟨g8, t8, us8, rfl, hpz8, hzs8, ht8, hb8⟩; have hn8 := HNE.out w8 hb8 g8 t8 us8 hpz8.ints hzs8) | (go_at_call 27; refine hn8.mono ?_; rintro e w9 ⟨rfl, hb9⟩; have hoN := (HOWr.out.kept_below hb8).kept_below hb9; have hszN : w6.heap.size ≤ w9.heap.size := Nat.le_trans HSZ.out (Nat.le_trans hb8.size hb9.size)) | (at_builtin; refine app_oneG (k := .i64) elI64 rfl _ _ rfl rfl hoN rfl (by omega) hszN ?_; intro a3 c3 w10 ho10 hb10 hk10))
        have hlt8 := hpz8.base
        have hi10 : IsInts .u64 w10 (some ⟨g8, 0, none⟩) t8 t8 us8 := (hpz8.ints.later hb9).same (hk10 g8 (Nat.lt_of_lt_of_le hlt8.2 hb9.size) fun e => by
         have := (World.ownsRow.lt HOWr.out g8 e).2
         omega)
        have hl2 : (word ++ [c]).length = word.length + 1 := by simp
        refine ⟨⟨ρ - 1, g8, t8, us8, S', word ++ [c], a3, c3, rfl, rfl, by omega, Lib.hid (by have := HWL.out; rw [hl2]; omega), by rw [hl2], Lib.hid hi10, Lib.hid hzs8, HCS', HNR2, HLE2, Lib.hid (by rw [hl2]; exact ho10), Lib.hid (HB6r.out.trans (((hb8.trans (hb9.mono hb8.size)).mono HSZ.out).trans hb10))⟩, ?_⟩
        simp only [intOf]
        omega
       ·have t3 : (nl == ρ - 1) = false := by simpa using hq
        have HNO2 : Hid (∀ j, j < k + 1 → ¬ NearIs a (movL a.arcs S (gi lv j)) (ρ - 1)) := Lib.hid (fun j hj => by
         rcases Nat.lt_or_ge j k with h1 | h1
         ·exact HNO.out j h1
         ·rw [show j = k by omega, HC.out, HS'.out]
          exact fun hx => hq (HNR.out.uniq hx))
        clear hq HNO
        go_wp2_with (first | (go_at_call 20; refine hm.mono ?_; rintro e w8 ⟨g8, t8, us8, rfl, hpz8, hzs8, ht8, hb8⟩; have hn8 := HNE.out w8 hb8 g8 t8 us8 hpz8.ints hzs8) | (go_at_call 27; refine hn8.mono ?_; rintro e w9 ⟨rfl, hb9⟩))
        go_roundw
        case rel => exact ⟨k + 1, hlt, by go_num, rfl, rfl, HNO2, Lib.hid (HB.out.trans ((hb8.trans (hb9.mono hb8.size)).mono HB.out.size))⟩
        case measure => simp [intOf]; omega
      ·exfalso
       obtain ⟨c, hcm, hcn⟩ := HNS.out.1
       obtain ⟨j, hj, e⟩ := List.getElem_of_mem hcm
       refine HNO.out j (by rw [HLL.out] at hj; omega) ?_
       rw [gi_eq lv j hj, e]
       exact hcn
    ·have t1 : decide (0 < ρ) = false := decide_eq_false h0
     obtain rfl : ρ = 0 := by omega
     have HE := Lib.hid (sh_some HV.out (HLE.out [] (near_zero HNR.out)))
     clear h0
     go_wp2_with (fail)
     go_ret2
     unfold GivesSh
     rw [HE.out.1, HE.out.2, List.append_nil]
     exact ⟨⟨⟨_, _, rfl, (IsInts.of_owns HOW.out).1⟩, HLB.out _ HBW.out.1⟩, fun _ => .inr ⟨word, by have := HLE.out [] (near_zero HNR.out); rwa [List.append_nil] at this, by have := HWL.out; have := HRN.out; omega⟩⟩
 ·rw [vN_no hv] at hva
  have HE := Lib.hid (sh_no hv)
  have HNV := Lib.hid hv
  clear hd hO hb1 hs1 hv
  go_enter Tryz.func9, Tryz.ntmps9
  go_wp2_with (go_at_call 18; refine hva.mono ?_; rintro e w3 ⟨rfl, hb3⟩)
  go_ret2
  unfold GivesSh
  rw [HE.out.1, HE.out.2]
  exact ⟨⟨⟨none, 0, rfl, .inl ⟨rfl, rfl, rfl, rfl⟩⟩, HB1.out.trans (hb3.mono (by have := HS1.out; omega))⟩, fun h9 => absurd h9 HNV.out⟩
end Go.Proofs.YtofaifeadhimjaaGreatDoor
