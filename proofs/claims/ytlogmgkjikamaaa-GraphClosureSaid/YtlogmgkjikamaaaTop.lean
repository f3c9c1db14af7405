/-
  What every law's last step takes: a slice of integers that came in, as the walk reads it.
-/
import Derived.Test.YtlogmgkjikamaaaRows
import Derived.Test.YtlogmgkjikamaaaLib
import Derived.WalkKit
import Derived.ProofKit
import Derived.OpenShut
import Derived.ShutString
import Derived.ChangeOld
import Derived.Below
import Derived.ChangeSlices
import Derived.Lib.SmallJoins
import Derived.SizedLaws
namespace Go.Proofs.Ytlogmgkjikamaaa
open Go.ChangeShapes Go.WideShapes Go.ChangeAt Go.RowKit

theorem own : ownKnob Try.prog.godebug = none := by kernel_rfl
theorem laidOut : laidOutB Try.prog = true := by kernel_rfl

theorem blocks_lt {H : Type} {enc : TypeId × Value → H} {P : Program} {W : World} {s : Nat → Bool} {hd : Bool} {t : TypeId} {v : Value} {d : DataW H} {p : List MemPlace} (h : DataW.Trod enc P W 0 s hd t v d p) : ∀ x ∈ p, x.block < W.heap.size := by
  obtain ⟨m, hm⟩ := h
  exact DataW.trod_lt m _ _ _ hm

theorem ints_in {H : Type} {enc : TypeId × Value → H} {P : Program} {W : World} {t e : TypeId} {k : IntKind} {v : Value} {d : DataW H} {p : List MemPlace} {r : Reach} {b0 : Nat}
    (ht : P.underlying t = some (.slice e)) (he : P.underlying e = some (.int k)) (hc : P.cellsOf e = 1) (hv : Value.okWide P W r b0 t v) (h : DataW.Trod enc P W 0 (fun _ => true) true t v d p)
    {ts : List TypeId} {ds : List (DataW H)} (hsz : (DataW.weightsEach P ts ds).all (· ≤ reachBytes) = true) (j : Nat) (hj : ts[j]? = some t) (hd : ds[j]? = some d) (n : Nat) (hn : P.bytesOf e = n) :
    ∃ a len cap zs, v = .slice a len cap ∧ IsInts k W a len cap zs ∧ (∀ n ∈ zs, (Lit.int k n).wf = true) ∧ cap * n ≤ 140737488351232 := by
  obtain ⟨a, len, cap, rfl⟩ := okWide_slice ht hv
  obtain ⟨fuel, hf⟩ := h
  rcases open_ints ht he hc hf with ⟨hcs, _⟩ | ⟨x, l, c, zs, hcs, _, hl, hm, hz, hx, hcell, hwz⟩
  · simp [Value.cells] at hcs
    obtain ⟨rfl, rfl, rfl⟩ := hcs
    exact ⟨_, _, _, [], rfl, .inl ⟨rfl, rfl, rfl, rfl⟩, (fun n hn => by cases hn), by omega⟩
  · simp [Value.cells] at hcs
    obtain ⟨rfl, rfl, rfl⟩ := hcs
    have hsp : x.spot = none := by
      simp only [Value.okWide, ht, Cell.okWide, Cell.ok, World.has] at hv
      exact hv.2.2.2.1
    obtain ⟨b, off, s⟩ := x
    simp only at hsp
    subst hsp
    have hz' : zs.length = cap := by simpa using hz
    have hcap : cap * n ≤ 140737488351232 := by
      cases hx
      have := sized_slice hsz hj hd ht
      rw [hn] at this
      simp only [lits, List.length_map, List.length_take, List.length_drop, reachBytes] at this
      rw [show min len zs.length + (zs.length - len) = cap from by omega] at this
      exact this
    refine ⟨_, _, _, zs.take len, rfl, .inr ⟨b, off, rfl, hl, hm, by simp; omega, fun i hi => ?_⟩, (fun n hn => hwz n (List.mem_of_mem_take hn)), hcap⟩
    have := hcell i (by omega)
    rw [addr_add] at this
    rw [this, gi_take _ _ _ hi, gi]
end Go.Proofs.Ytlogmgkjikamaaa
