/-
  The walks of seed, of parts and of its iterator.
-/
import Derived.Test.YtpmhnmkpmkeadaaWalF
import Derived.Test.YtpmhnmkpmkeadaaRng
set_option linter.unusedSimpArgs false
set_option linter.unusedVariables false
set_option maxHeartbeats 4000000
namespace Go.Proofs.Ytpmhnmkpmkeadaa
open Go.RowKit
attribute [local go_sem] Oper.semAt_some

def topB (h : Int) : Nat → Int
  | 0 => 0
  | 1 => h / 72057594037927936
  | 2 => h / 281474976710656
  | 3 => h / 1099511627776
  | 4 => h / 4294967296
  | 5 => h / 16777216
  | 6 => h / 65536
  | 7 => h / 256
  | _ => h
theorem or_byte (p d : Int) (h0 : 0 ≤ p) (h1 : p < 72057594037927936) (h2 : 0 ≤ d) (h3 : d < 256) : bits BinOp.or IntKind.u64 (IntKind.u64.wrap (p * 256)) d = p * 256 + d := by
  rw [show IntKind.u64.wrap (p * 256) = p * 256 from IntWalk.u64_in _ (by omega), u64_or _ _ (by omega) (by omega) h2 (by omega), nat_join 8 _ _ (by omega) (by omega)]
  omega
theorem topB_succ (h : Int) (h0 : 0 ≤ h) (h1 : h < 18446744073709551616) (k : Nat) (hk : k < 8) : bits BinOp.or IntKind.u64 (IntKind.u64.wrap (topB h k * 256)) (gi (eightL h) k) = topB h (k + 1) := by
  have : k = 0 ∨ k = 1 ∨ k = 2 ∨ k = 3 ∨ k = 4 ∨ k = 5 ∨ k = 6 ∨ k = 7 := by omega
  rcases this with e | e | e | e | e | e | e | e <;> (subst e; simp only [topB, eightL, gi, List.getD_cons_zero, List.getD_cons_succ]; rw [or_byte _ _ (by omega) (by omega) (by omega) (by omega)]; omega)

theorem seed_tail (a : Option Addr) (T cap : Nat) (ts : List Int) (h : Int) (w : World) (hs : IsInts .u8 w a (T + 8) cap (ts ++ eightL h)) (hT : ts.length = T) (h0 : 0 ≤ h) (h1 : h < 18446744073709551616) :
    Calls Try.prog 26 #[.slice a (T + 8) cap] w fun e w' => e = .returned (.int .u64 h) ∧ w = w' := by
  have hcap := hs.cap
  unfold maxLen at hcap
  have d8 : decide (((T + 8 : Nat) : Int) < 8) = false := decide_eq_false (by omega)
  obtain ⟨E, hE⟩ : ∃ E, eightL h = E := ⟨_, rfl⟩
  have HE := Lib.hid hE
  have hE8 : E.length = 8 := by rw [← hE]; rfl
  rw [hE] at hs
  obtain ⟨b, off, rfl, -, -⟩ := hs.at w (Below.refl _ _) 0 (by omega)
  have hc : ∀ k, k < 8 → w.cell? ⟨b, off + T + k, none⟩ = some (.int .u8 (gi E k)) := by
    intro k hk
    obtain ⟨b', off', e, -, hc⟩ := hs.at w (Below.refl _ _) (T + k) (by omega)
    cases e
    rw [← hT, gi_append_right, hT, ← Nat.add_assoc] at hc
    exact hc
  have HC := Lib.hid hc
  clear hc hE hs
  go_enter Try.func26, Try.ntmps26
  go_wp2
  go_loop [3, 15] (fun t i => ∃ k : Nat, k ≤ 8 ∧ i = .int .i64 k ∧ t = .int .u64 (topB h k)) (fun _ i => 8 - (intOf i).toNat)
  case atStart => exact ⟨0, Nat.zero_le _, rfl, rfl⟩
  case round =>
    obtain ⟨k, hk, rfl, rfl⟩ := hrel
    by_cases hlt : k < 8
    · have hcell := HC.out k hlt
      have dlt : decide ((k : Int) < 8) = true := decide_eq_true (by omega)
      go_wp2
      go_round
      case rel =>
        refine ⟨k + 1, by omega, by go_num, ?_⟩
        have hb : 0 ≤ gi E k ∧ gi E k < 256 := by rw [← HE.out]; exact eightL_bytes h h0 h1 _ (gi_mem _ k hlt)
        rw [show IntKind.u64.wrap (gi E k) = gi E k from IntWalk.u64_in _ (by omega), ← HE.out, topB_succ h h0 h1 k hlt]
      case measure => simp [intOf]; omega
    · obtain rfl : k = 8 := by omega
      go_wp2
      go_ret
      exact ⟨rfl, rfl⟩

theorem seed_any (a : Option Addr) (len cap : Nat) (ps : List Prt) (w : World) (hs : IsInts .u8 w a len cap (encP basis ps)) (hP : ∀ x ∈ ps, OkP x) :
    Calls Try.prog 26 #[.slice a len cap] w fun e w' => e = .returned (.int .u64 (hashP basis ps)) ∧ w = w' := by
  obtain ⟨h0, h1⟩ := hashP_bd (s := basis) ps basis_bd.1 basis_bd.2
  have hl := hs.length
  rw [encP_length hP] at hl
  rcases List.eq_nil_or_concat ps with rfl | ⟨qs, x, e⟩
  · have hl0 : len = 0 := by rw [← hl]; rfl
    subst hl0
    have hcap := hs.cap
    unfold maxLen at hcap
    go_enter Try.func26, Try.ntmps26
    go_wp2
    go_ret
    exact ⟨rfl, rfl⟩
  · rw [List.concat_eq_append] at e
    subst e
    have hx := (hP x (by simp)).len
    have hqs : ∀ y ∈ qs, OkP y := fun y hy => hP y (List.mem_append_left _ hy)
    have ez : encP basis (qs ++ [x]) = (encP basis qs ++ headL x) ++ eightL (hashP basis (qs ++ [x])) := by
      rw [encP_append, hashP_append]
      simp [encP, cellL, hashP]
    have hlen : (encP basis qs ++ headL x).length = 32 * qs.length + 24 := by rw [List.length_append, encP_length hqs, headL_length hx]
    rw [ez] at hs
    obtain ⟨T, rfl⟩ : ∃ T, len = T + 8 := ⟨len - 8, by rw [List.length_append] at hl; simp only [List.length_cons, List.length_nil] at hl; omega⟩
    exact seed_tail a T cap _ _ w hs (by rw [hlen]; simp at hl; omega) h0 h1

theorem parts_any (v : Value) (w : World) (hv : ∃ a n c, v = .slice a n c) :
    Calls Try.prog 27 #[v] w fun e w' => e = .returned (.func (.func 38) #[] #[.pointer (some ⟨w.heap.size, 0, none⟩)]) ∧ w' = w.alloc (.cells #[v] 24) := by
  obtain ⟨a, n, c, rfl⟩ := hv
  have hmf : ∀ fn first cap w, (Instr.makeFunc fn first cap).run Try.prog w = .ok (.func fn first cap) w := fun _ _ _ _ => rfl
  go_enter Try.func27, Try.ntmps27
  go_wp2
  go_ret
  exact ⟨rfl, rfl⟩

/-- What is left of a record when k parts have been taken. -/
def recV (ar : Option Addr) (lr cr k : Nat) : Value := .slice (ar.map (·.add (22 * k))) (lr - 22 * k) (cr - 22 * k)
/-- The k-th part, as it is handed over. -/
def kindE (lr k : Nat) : Int := if lr ≤ 22 * (k + 1) then 2 else 1
def lenE (lr k : Nat) : Nat := if lr ≤ 22 * (k + 1) then lr - 22 * k else 22
def partE (ar : Option Addr) (lr cr : Nat) (k : Nat) : Array Value := #[.int .u8 (kindE lr k), .slice (ar.map (·.add (22 * k))) (lenE lr k) (cr - 22 * k)]

def leftOf (R : Nat) (W : World) : Nat := match W.cell? ⟨R, 0, none⟩ with | some (.slice _ n _) => n | _ => 0
theorem leftOf_eq {R : Nat} {W : World} {ar : Option Addr} {lr cr k : Nat} (h : Box1 W R (recV ar lr cr k)) : leftOf R W = lr - 22 * k := by
  unfold leftOf
  rw [h.cells.1]
  rfl

theorem add_add22 (ar : Option Addr) (k : Nat) (h : ∀ x, ar = some x → x.spot = none) : (ar.map (·.add (22 * k))).map (·.add 22) = ar.map (·.add (22 * (k + 1))) := by
  cases ar with
  | none => rfl
  | some x =>
    obtain ⟨b, o, s⟩ := x
    have := h _ rfl
    simp only at this
    subst this
    simp only [Option.map_some, addr_add]
    congr 2

theorem iter_any (ar : Option Addr) (lr cr R : Nat) (hsp : ∀ x, ar = some x → 22 < lr → x.spot = none) (hlc : lr ≤ cr) (hc : cr ≤ maxLen) :
    SeqN Try.prog 38 #[.pointer (some ⟨R, 0, none⟩)] (partE ar lr cr) (cellsN lr) R (recV ar lr cr 0) := by
  intro l J W hB hJ hY h0
  unfold maxLen at hc
  refine callsIn_of_wp Try.func38 rfl trivial ?_ rfl
  simp only [Try.ntmps38, List.size_toArray, List.length_cons, List.length_nil, Nat.reduceAdd, Nat.reduceSub, Array.replicate_succ, Array.replicate_zero, List.push_toArray, List.append_toArray, List.nil_append, List.cons_append]
  gi_wp2
  gi_loopw [3] (fun p wr => ∃ k : Nat, k < cellsN lr ∧ Box1 wr R (recV ar lr cr k) ∧ J k wr) (fun p wr => leftOf R wr)
  case atStart => exact ⟨0, cellsN_pos lr, hB, h0⟩
  case round =>
    obtain ⟨k, hk, hb, hj⟩ := hrel
    have hlast := cellsN_last lr
    obtain ⟨q0, q1⟩ := hb.cells
    obtain ⟨fn, tmps, assign, body, hy, hR⟩ := hY k wr hk hj
    obtain ⟨ak, hak⟩ : ∃ ak, ar.map (·.add (22 * k)) = ak := ⟨_, rfl⟩
    have hmap : ak.map (fun x => x) = ak := by cases ak <;> rfl
    by_cases h22 : 22 * (k + 1) < lr
    · have d22 : decide ((22 : Int) < ((lr - 22 * k : Nat) : Int)) = true := decide_eq_true (by omega)
      unfold partE kindE lenE at hy
      rw [if_neg (by omega), if_neg (by omega), hak] at hy
      unfold recV at q0
      rw [hak] at q0
      obtain ⟨m, hm⟩ : ∃ m, lr - 22 * k = m := ⟨_, rfl⟩
      obtain ⟨c, hc'⟩ : ∃ c, cr - 22 * k = c := ⟨_, rfl⟩
      have hmc : m ≤ c ∧ 22 < m ∧ c ≤ 9223372036854775807 := by omega
      obtain ⟨hmc1, hmc2, hmc3⟩ := hmc
      rw [hm] at q0 d22
      rw [hc'] at q0 hy
      gi_wp2
      refine ⟨rfl, hR.mono ?_⟩
      rintro e W3 ⟨rfl, hJ3, hk3⟩
      have hb3 := hk3 _ hb
      obtain ⟨r0, r1⟩ := hb3.cells
      unfold recV at r0
      rw [hak, hm, hc'] at r0
      gi_wp2
      have hval : Value.slice (ak.map fun x => { block := x.block, off := x.off + 22, spot := none }) (m - 22) (c - 22) = recV ar lr cr (k + 1) := by
        unfold recV
        rw [← hak, ← hm, ← hc', show lr - 22 * k - 22 = lr - 22 * (k + 1) by omega, show cr - 22 * k - 22 = cr - 22 * (k + 1) by omega]
        congr 1
        cases ar with
        | none => rfl
        | some x =>
          obtain ⟨b, o, s⟩ := x
          have := hsp _ rfl (by omega)
          simp only at this
          subst this
          simp only [Option.map_some, addr_add]
          congr 2
      rw [hval]
      have hnew := hb3.set (recV ar lr cr (k + 1))
      go_roundw
      case rel => exact ⟨k + 1, lt_cellsN.2 h22, hnew, hJ _ _ _ hJ3⟩
      case measure => rw [leftOf_eq hnew, leftOf_eq hb]; omega
    · have d22 : decide ((22 : Int) < ((lr - 22 * k : Nat) : Int)) = false := decide_eq_false (by omega)
      unfold partE kindE lenE at hy
      rw [if_pos (by omega), if_pos (by omega), hak] at hy
      unfold recV at q0
      rw [hak] at q0
      gi_wp2
      refine ⟨rfl, hR.mono ?_⟩
      rintro e W3 ⟨rfl, hJ3, hk3⟩
      gi_wp2
      go_end0
      have hkn : k + 1 = cellsN lr := by have := lt_cellsN (n := lr) (i := k); omega
      rw [hkn] at hJ3
      exact ⟨⟨_, rfl⟩, hJ3⟩
end Go.Proofs.Ytpmhnmkpmkeadaa
