/-
  Opening: what the reference's Open returns.
-/
import Derived.Test.YtoicaacndkjjoaaSumB
import Derived.Test.YtoicaacndkjjoaaFam
set_option linter.unusedSimpArgs false
set_option linter.unusedVariables false
namespace Go.Proofs.Ytoicaacndkjjoaa
open Go.RowKit

theorem elU8 : Elem Try.prog 23 5 (.int .u8 0) 1 1 := ⟨Try.underlying23, by kernel_rfl, rfl, by decide⟩
theorem mixed : Try.prog.follows .mixedOrders = true := by kernel_rfl

/-- The predicate of a slice that reads as numbers. -/
def SlP (k : IntKind) (n : Nat) (zs : List Int) : Value → World → Prop := fun v W => ∃ a c, v = .slice a n c ∧ IsInts k W a n c zs
theorem stays_sl (k : IntKind) (n : Nat) (zs : List Int) : Stays (SlP k n zs) := fun _ _ _ hb ⟨a, c, e, h⟩ => ⟨a, c, e, h.later hb⟩

theorem stepH_bd (x c : Int) : 0 ≤ stepH x c ∧ stepH x c < 18446744073709551616 := by
  unfold stepH
  rw [IntKind.wrap_u64]
  omega
theorem fromH_bd (s : Int) (zs : List Int) (h0 : 0 ≤ s) (h1 : s < 18446744073709551616) : 0 ≤ fromH s zs ∧ fromH s zs < 18446744073709551616 := by
  unfold fromH
  induction zs generalizing s with
  | nil => exact ⟨h0, h1⟩
  | cons z zs ih => exact ih _ (stepH_bd s z).1 (stepH_bd s z).2

/-- A list of bytes. -/
def Bytes (zs : List Int) : Prop := ∀ z ∈ zs, 0 ≤ z ∧ z < 256
theorem Bytes.take {zs : List Int} (h : Bytes zs) (n : Nat) : Bytes (zs.take n) := fun z hz => h z (List.mem_of_mem_take hz)
theorem Bytes.drop {zs : List Int} (h : Bytes zs) (n : Nat) : Bytes (zs.drop n) := fun z hz => h z (List.mem_of_mem_drop hz)
theorem Bytes.append {xs ys : List Int} (h : Bytes xs) (k : Bytes ys) : Bytes (xs ++ ys) := fun z hz => by
  rcases List.mem_append.1 hz with hz | hz
  · exact h z hz
  · exact k z hz
theorem bsOf_toList (zs : List Int) : (bsOf zs).toList = zs.map fun n => UInt8.ofNat n.toNat := by
  rw [ByteArray.toList_eq]; rfl
theorem bsOf_inj {xs ys : List Int} (hx : Bytes xs) (hy : Bytes ys) (h : (bsOf xs).toList = (bsOf ys).toList) : xs = ys := by
  rw [bsOf_toList, bsOf_toList] at h
  have back : ∀ zs : List Int, Bytes zs → (zs.map fun n => UInt8.ofNat n.toNat).map (fun u => (u.toNat : Int)) = zs := by
    intro zs hz
    induction zs with
    | nil => rfl
    | cons z zs ih =>
      have hz0 := hz z List.mem_cons_self
      simp only [List.map_cons, List.cons.injEq]
      refine ⟨?_, ih fun y hy => hz y (List.mem_cons_of_mem _ hy)⟩
      simp
      omega
  have := congrArg (List.map fun u : UInt8 => (u.toNat : Int)) h
  rwa [back xs hx, back ys hy] at this
theorem bsOf_eq {xs ys : List Int} (hx : Bytes xs) (hy : Bytes ys) : ((bsOf xs).toList == (bsOf ys).toList) = decide (xs = ys) := by
  by_cases h : xs = ys
  · subst h; simp
  · simp only [h, decide_false]
    exact beq_eq_false_iff_ne.2 fun e => h (bsOf_inj hx hy e)
theorem eightL_bytes (h : Int) (h0 : 0 ≤ h) (h1 : h < 18446744073709551616) : Bytes (eightL h) := by
  intro z hz
  simp only [eightL, List.mem_cons, List.not_mem_nil, or_false] at hz
  rcases hz with rfl | rfl | rfl | rfl | rfl | rfl | rfl | rfl <;> omega

/-- What Open returns: the payload and the number of the error. -/
def openR (zs : List Int) : List Int × Int :=
  if zs.length < 8 then ([], 4)
  else if eightL (fromH 14695981039346656037 (zs.take (zs.length - 8))) = zs.drop (zs.length - 8) then (zs.take (zs.length - 8), 0) else ([], 5)
theorem openR_short {zs : List Int} (h : zs.length < 8) : openR zs = ([], 4) := if_pos h
theorem openR_ok {zs : List Int} {n : Nat} (h : zs.length = n + 8) (e : eightL (fromH 14695981039346656037 (zs.take n)) = zs.drop n) : openR zs = (zs.take n, 0) := by
  unfold openR
  rw [if_neg (by omega), h, Nat.add_sub_cancel, if_pos e]
theorem openR_bad {zs : List Int} {n : Nat} (h : zs.length = n + 8) (e : ¬ eightL (fromH 14695981039346656037 (zs.take n)) = zs.drop n) : openR zs = ([], 5) := by
  unfold openR
  rw [if_neg (by omega), h, Nat.add_sub_cancel, if_neg e]

theorem refOpen_any (a : Option Addr) (len cap : Nat) (zs : List Int) (w : World) (hs : IsInts .u8 w a len cap zs) (hb : Bytes zs) (hlen : len ≤ 60000) :
    Calls Try.prog 20 #[.slice a len cap] w fun e w' => ∃ a' n' c', e = .returned (.tuple #[.slice a' n' c', .int .i64 (openR zs).2]) ∧ IsInts .u8 w' a' n' c' (openR zs).1 ∧ Below w.heap.size w w' := by
  by_cases h8 : len < 8
  · go_enter Try.func20, Try.ntmps20
    go_wp2
    go_ret2
    rw [openR_short (by rw [hs.length]; exact h8)]
    exact ⟨_, _, _, rfl, .inl ⟨rfl, rfl, rfl, rfl⟩, Below.refl _ _⟩
  · obtain ⟨n, rfl⟩ : ∃ n, len = n + 8 := ⟨len - 8, by omega⟩
    have hcap := hs.cap
    have hsl : IsInts .u8 w a n cap (zs.take n) := by
      have := hs.slice 0 n cap (by omega) (by omega) (by omega) (by omega) (a' := a) (fun h => (by cases a with | none => rfl | some x => simp [Addr.add])) (fun _ => rfl)
      simpa using this
    have hs1 := hsl.later ((Below.refl _ w).alloc (Nat.le_refl _) (.cells #[] 5))
    go_enter Try.func20, Try.ntmps20
    go_wp2_with (at_builtin; refine app_ints0 (k := .u8) (v := .slice (some ⟨w.heap.size, 0, none⟩) 0 0) elU8 rfl _ _ rfl rfl (World.ownsRow_made _ _ _ (Nat.le_refl _) (by decide) rfl) rfl hs1 (by omega) (by simp) ?_; intro a' c' w1 hown hgr hbel hnil)
    obtain ⟨HI, _⟩ := IsInts.of_owns hown
    have hbW : Below w.heap.size w w1 := ((Below.refl _ w).alloc (Nat.le_refl _) _).trans hbel
    have hsW := hs.later hbW
    have hH := fromH_bd 14695981039346656037 (zs.take n) (by decide) (by decide)
    obtain ⟨hH0, hH1⟩ := hH
    have hT : IsInts .u8 w1 (Option.map (fun x => x.add n) a) 8 (cap - n) (zs.drop n) := by
      have := hsW.slice n (n + 8) cap (by omega) (by omega) (by omega) (by omega) (a' := Option.map (fun x => x.add n) a) (fun _ => rfl) (fun h => by omega)
      rw [Nat.add_sub_cancel_left, List.take_of_length_le (by rw [List.length_drop, hs.length]; omega)] at this
      exact this
    clear hnil hgr hown hbel hs1
    refine wp_region_grow mixed (by kernel_rfl) [[], [(0, 15)], [(1, 16), (1, 16)], [(2, 17)], [], [], [(5, 20)], [(6, 21)], [(4, 19), (7, 22)], [(8, 23)], [(3, 18), (9, 24)]] [(0, 15), (1, 16), (2, 17), (3, 18), (4, 19), (5, 20), (6, 21), (7, 22), (8, 23), (9, 24), (10, 25)] rfl rfl [Ex ?e0, Ex ?e1, SlP .u8 8 (eightL (fromH 14695981039346656037 (zs.take n))), Ex ?e3, Ex ?e4, Ex ?e5, Ex ?e6, Ex ?e7, Ex ?e8, Ex ?e9, Ex ?e10] ⟨stays_ex _, stays_ex _, stays_sl _ _ _, stays_ex _, stays_ex _, stays_ex _, stays_ex _, stays_ex _, stays_ex _, stays_ex _, stays_ex _, trivial⟩ ?steps ?rest
    case steps =>
      refine ⟨fun f W hC hh => ?_, fun f W hC hh => ?_, fun f W hC hh => ?_, fun f W hC hh => ?_, fun f W hC hh => ?_, fun f W hC hh => ?_, fun f W hC hh => ?_, fun f W hC hh => ?_, fun f W hC hh => ?_, fun f W hC hh => ?_, fun f W hC hh => ?_, trivial⟩
      · -- 0: Op.move (Operand.tmp 4)
        refine tab_plain fun K Q hK => ?_
        simp only [puts, List.foldr_nil]
        go_step
        refine fam_ex hK rfl rfl (by simp only [Act.put, List.setIfInBounds_toArray, List.set_cons_succ, List.set_cons_zero, Array.getD_eq_getD_getElem?, List.getElem?_toArray, List.getElem?_cons_succ, List.getElem?_cons_zero, Option.getD_some] <;> rfl) rfl (Below.refl _ _) hC
      · -- 1: Op.call { callee := Callee.value (Operand.func 12), args := #[Operand.tmp 15], argTypes :=
        obtain ⟨h0, -⟩ := hh
        have g0 : f 0 = _ := h0
        refine tab_plain fun K Q hK => ?_
        simp only [puts, List.foldr_cons, List.foldr_nil, List.setIfInBounds_toArray, List.set_cons_succ, List.set_cons_zero, g0]
        go_step
        go_at_call 12
        refine (refOf_any _ _ _ _ _ (HI.later hC)).mono ?_
        rintro e w' ⟨rfl, rfl⟩
        refine fam_ex hK rfl rfl (by simp only [Act.put, List.setIfInBounds_toArray, List.set_cons_succ, List.set_cons_zero, Array.getD_eq_getD_getElem?, List.getElem?_toArray, List.getElem?_cons_succ, List.getElem?_cons_zero, Option.getD_some] <;> rfl) rfl (Below.refl _ _) hC
      · -- 2: Op.call { callee := Callee.value (Operand.func 25), args := #[Operand.tmp 16], argTypes :=
        obtain ⟨h1, _, -⟩ := hh
        have g1 : f 1 = _ := h1
        refine tab_plain fun K Q hK => ?_
        simp only [puts, List.foldr_cons, List.foldr_nil, List.setIfInBounds_toArray, List.set_cons_succ, List.set_cons_zero, g1]
        go_step
        go_at_call 25
        refine (refEight_any _ _ hH0 hH1).mono ?_
        rintro e w' ⟨av, cv, rfl, hv, hb⟩
        exact fam_fin hK rfl ⟨_, _, rfl, (IsInts.of_owns hv).1⟩ hb (hC.trans (hb.mono hC.size))
      · -- 3: Op.convert 23 9 (Operand.tmp 17)
        obtain ⟨h2, -⟩ := hh
        obtain ⟨a2, c2, g2, s2⟩ := h2
        refine tab_plain fun K Q hK => ?_
        simp only [puts, List.foldr_cons, List.foldr_nil, List.setIfInBounds_toArray, List.set_cons_succ, List.set_cons_zero, g2]
        have hcv := run_toString (P := Try.prog) W 23 9 5 Try.underlying23 Try.underlying5 Try.underlying9 _ _ _ _ s2
        go_step
        refine fam_ex hK rfl rfl (by simp only [Act.put, List.setIfInBounds_toArray, List.set_cons_succ, List.set_cons_zero, Array.getD_eq_getD_getElem?, List.getElem?_toArray, List.getElem?_cons_succ, List.getElem?_cons_zero, Option.getD_some] <;> rfl) rfl (Below.refl _ _) hC
      · -- 4: Op.move (Operand.tmp 0)
        refine tab_plain fun K Q hK => ?_
        simp only [puts, List.foldr_nil]
        go_step
        refine fam_ex hK rfl rfl (by simp only [Act.put, List.setIfInBounds_toArray, List.set_cons_succ, List.set_cons_zero, Array.getD_eq_getD_getElem?, List.getElem?_toArray, List.getElem?_cons_succ, List.getElem?_cons_zero, Option.getD_some] <;> rfl) rfl (Below.refl _ _) hC
      · -- 5: Op.move (Operand.tmp 0)
        refine tab_plain fun K Q hK => ?_
        simp only [puts, List.foldr_nil]
        go_step
        refine fam_ex hK rfl rfl (by simp only [Act.put, List.setIfInBounds_toArray, List.set_cons_succ, List.set_cons_zero, Array.getD_eq_getD_getElem?, List.getElem?_toArray, List.getElem?_cons_succ, List.getElem?_cons_zero, Option.getD_some] <;> rfl) rfl (Below.refl _ _) hC
      · -- 6: Op.call { callee := Callee.builtin Builtin.len, args := #[Operand.tmp 20], argTypes := #[2
        obtain ⟨h5, -⟩ := hh
        have g5 : f 5 = _ := h5
        refine tab_plain fun K Q hK => ?_
        simp only [puts, List.foldr_cons, List.foldr_nil, List.setIfInBounds_toArray, List.set_cons_succ, List.set_cons_zero, g5]
        go_step
        refine fam_ex hK rfl rfl (by simp only [Act.put, List.setIfInBounds_toArray, List.set_cons_succ, List.set_cons_zero, Array.getD_eq_getD_getElem?, List.getElem?_toArray, List.getElem?_cons_succ, List.getElem?_cons_zero, Option.getD_some] <;> rfl) rfl (Below.refl _ _) hC
      · -- 7: Op.binOp BinOp.sub 3 (Operand.tmp 21) (Operand.const (Value.int IntKind.i64 8)) 3
        obtain ⟨h6, -⟩ := hh
        have g6 : f 6 = _ := h6
        refine tab_plain fun K Q hK => ?_
        simp only [puts, List.foldr_cons, List.foldr_nil, List.setIfInBounds_toArray, List.set_cons_succ, List.set_cons_zero, g6]
        go_step
        refine fam_ex hK rfl rfl (by simp only [Act.put, List.setIfInBounds_toArray, List.set_cons_succ, List.set_cons_zero, Array.getD_eq_getD_getElem?, List.getElem?_toArray, List.getElem?_cons_succ, List.getElem?_cons_zero, Option.getD_some] <;> rfl) rfl (Below.refl _ _) hC
      · -- 8: Op.slice 23 (Operand.tmp 19) (some (Operand.tmp 22)) none none
        obtain ⟨h4, h7, -⟩ := hh
        have g4 : f 4 = _ := h4
        have g7 : f 7 = _ := h7
        refine tab_plain fun K Q hK => ?_
        simp only [puts, List.foldr_cons, List.foldr_nil, List.setIfInBounds_toArray, List.set_cons_succ, List.set_cons_zero, g4, g7]
        go_step
        refine fam_ex hK rfl rfl (by simp only [Act.put, List.setIfInBounds_toArray, List.set_cons_succ, List.set_cons_zero, Array.getD_eq_getD_getElem?, List.getElem?_toArray, List.getElem?_cons_succ, List.getElem?_cons_zero, Option.getD_some] <;> rfl) rfl (Below.refl _ _) hC
      · -- 9: Op.convert 23 9 (Operand.tmp 23)
        obtain ⟨h8, -⟩ := hh
        have g8 : f 8 = _ := h8
        refine tab_plain fun K Q hK => ?_
        simp only [puts, List.foldr_cons, List.foldr_nil, List.setIfInBounds_toArray, List.set_cons_succ, List.set_cons_zero, g8]
        have hcv := run_toString (P := Try.prog) W 23 9 5 Try.underlying23 Try.underlying5 Try.underlying9 _ _ _ _ (hT.later hC)
        go_step
        refine fam_ex hK rfl rfl (by simp only [Act.put, List.setIfInBounds_toArray, List.set_cons_succ, List.set_cons_zero, Array.getD_eq_getD_getElem?, List.getElem?_toArray, List.getElem?_cons_succ, List.getElem?_cons_zero, Option.getD_some] <;> rfl) rfl (Below.refl _ _) hC
      · -- 10: Op.binOp BinOp.neq 9 (Operand.tmp 18) (Operand.tmp 24) 9
        obtain ⟨h3, h9, -⟩ := hh
        have g3 : f 3 = _ := h3
        have g9 : f 9 = _ := h9
        refine tab_plain fun K Q hK => ?_
        simp only [puts, List.foldr_cons, List.foldr_nil, List.setIfInBounds_toArray, List.set_cons_succ, List.set_cons_zero, g3, g9]
        go_step
        refine fam_ex hK rfl rfl (by simp only [Act.put, List.setIfInBounds_toArray, List.set_cons_succ, List.set_cons_zero, Array.getD_eq_getD_getElem?, List.getElem?_toArray, List.getElem?_cons_succ, List.getElem?_cons_zero, Option.getD_some] <;> rfl) rfl (Below.refl _ _) hC
    case rest =>
      intro f W2 hC hh
      obtain ⟨h0, h1, h2, h3, h4, h5, h6, h7, h8, h9, h10, -⟩ := hh
      have g0 : f 0 = _ := h0
      have g1 : f 1 = _ := h1
      obtain ⟨a2, c2, g2, s2⟩ := h2
      have g3 : f 3 = _ := h3
      have g4 : f 4 = _ := h4
      have g5 : f 5 = _ := h5
      have g6 : f 6 = _ := h6
      have g7 : f 7 = _ := h7
      have g8 : f 8 = _ := h8
      have g9 : f 9 = _ := h9
      have g10 : f 10 = _ := h10
      simp only [puts, List.foldr_cons, List.foldr_nil, List.setIfInBounds_toArray, List.set_cons_succ, List.set_cons_zero, g0, g1, g2, g3, g4, g5, g6, g7, g8, g9, g10]
      clear h0 h1 h3 h4 h5 h6 h7 h8 h9 h10 g0 g1 g3 g4 g5 g6 g7 g8 g9 g10
      have HL : zs.length = n + 8 := hs.length
      have HE := bsOf_eq (eightL_bytes _ hH0 hH1) (hb.drop n)
      by_cases he : eightL (fromH 14695981039346656037 (zs.take n)) = zs.drop n
      · have HB : ((bsOf (eightL (fromH 14695981039346656037 (zs.take n)))).toList == (bsOf (zs.drop n)).toList) = true := by rw [HE]; exact decide_eq_true he
        clear HE
        rw [HB]
        have HO := Lib.hid (openR_ok HL he)
        clear he HB HL g2
        go_wp2
        go_ret2
        rw [HO.out]
        exact ⟨_, _, _, rfl, HI.later hC, hbW.trans (hC.mono hbW.size)⟩
      · have HB : ((bsOf (eightL (fromH 14695981039346656037 (zs.take n)))).toList == (bsOf (zs.drop n)).toList) = false := by rw [HE]; exact decide_eq_false he
        clear HE
        rw [HB]
        have HO := Lib.hid (openR_bad HL he)
        clear he HB HL g2
        go_wp2
        go_ret2
        rw [HO.out]
        exact ⟨_, _, _, rfl, .inl ⟨rfl, rfl, rfl, rfl⟩, hbW.trans (hC.mono hbW.size)⟩
end Go.Proofs.Ytoicaacndkjjoaa
