/-
  Reduce and Height, of any order: what both texts return.
-/
import Derived.Test.YtofnbndpoiohhaaDoorOrdYr
import Derived.Test.YtofnbndpoiohhaaDoorOrdYa
import Derived.Test.YtofnbndpoiohhaaDoorOrdZa
import Derived.Test.YtofnbndpoiohhaaDoorOrdZb
import Derived.Test.YtofnbndpoiohhaaDoorOrdZs
import Derived.Test.YtofnbndpoiohhaaDoorOrdXa
import Derived.Test.YtofnbndpoiohhaaDoorOrdU
set_option linter.unusedVariables false
namespace Go.Proofs.YtofnbndpoiohhaaDoor
open Go.RowKit Go.Shelf

variable {n : Int} {a : Option Addr} {len cap : Nat} {es : List (Int × Int)} {w : World}

def RedRes (n : Int) (es : List (Int × Int)) (u : Int) (ps : List (Int × Int)) (c : Int) : Prop := (¬ ValidO n es ∧ u = 0 ∧ ps = [] ∧ c = 1) ∨ (ValidO n es ∧ u = n ∧ ps = redE es n.toNat ∧ c = 0)
theorem RedRes.uniq {u u' c c' : Int} {ps ps' : List (Int × Int)} (h : RedRes n es u ps c) (h' : RedRes n es u' ps' c') : u = u' ∧ ps = ps' ∧ c = c' := by
  rcases h with ⟨h1, rfl, rfl, rfl⟩ | ⟨h1, rfl, rfl, rfl⟩
  · rcases h' with ⟨h2, rfl, rfl, rfl⟩ | ⟨h2, rfl, rfl, rfl⟩
    · exact ⟨rfl, rfl, rfl⟩
    · exact absurd h2 h1
  · rcases h' with ⟨h2, rfl, rfl, rfl⟩ | ⟨h2, rfl, rfl, rfl⟩
    · exact absurd h1 h2
    · exact ⟨rfl, rfl, rfl⟩
def HtRes (n : Int) (es : List (Int × Int)) (m c : Int) : Prop := (¬ ValidO n es ∧ m = 0 ∧ c = 1) ∨ (ValidO n es ∧ (∃ k : Nat, m = k ∧ IsHeight n.toNat es k) ∧ c = 0)
theorem HtRes.uniq {m m' c c' : Int} (h : HtRes n es m c) (h' : HtRes n es m' c') : m = m' ∧ c = c' := by
  rcases h with ⟨h1, rfl, rfl⟩ | ⟨h1, ⟨k, rfl, hk⟩, rfl⟩
  · rcases h' with ⟨h2, rfl, rfl⟩ | ⟨h2, _, rfl⟩
    · exact ⟨rfl, rfl⟩
    · exact absurd h2 h1
  · rcases h' with ⟨h2, rfl, rfl⟩ | ⟨h2, ⟨k', rfl, hk'⟩, rfl⟩
    · exact absurd h1 h2
    · rw [height_uniq hk hk']; exact ⟨rfl, rfl⟩
theorem ExtRes.uniq {most v c v' c' : Int} (h : ExtRes n most es v c) (h' : ExtRes n most es v' c') : v = v' ∧ c = c' := by
  rcases h with ⟨h1, rfl, rfl⟩ | ⟨h1, h2, rfl, rfl⟩ | ⟨h1, h2, h3, rfl, rfl⟩ <;> rcases h' with ⟨g1, rfl, rfl⟩ | ⟨g1, g2, rfl, rfl⟩ | ⟨g1, g2, g3, rfl, rfl⟩ <;> first | exact ⟨rfl, rfl⟩ | exact absurd h1 g1 | exact absurd g1 h1 | omega

theorem redE_len {N : Nat} (h : N ≤ 60) : (redE es N).length ≤ 3600 := Nat.le_trans (redTo_length (es := es) (N := N) N) (Nat.mul_le_mul h h)
def RetRed (n : Int) (es : List (Int × Int)) (e : Ending) (w' : World) : Prop := ∃ u ao k co ps c, e = .returned (.tuple #[.agg #[.int .i64 u, .slice ao k co], .int .i64 c]) ∧ IsPairs w' ao k co ps ∧ k ≤ 3600 ∧ RedRes n es u ps c
theorem reduce_any (he : IsPairs w a len cap es) (hT : TabAt 0 Lib.deBruijn64tab w) :
    Calls Tryd.prog 28 #[.agg #[.int .i64 n, .slice a len cap]] w fun e w' => RetRed n es e w' ∧ Below w.heap.size w w' := by
  by_cases hv : ValidO n es
  · refine (reduce_yes he hT hv).mono ?_
    rintro e w' ⟨ao, co, rfl, hrow, hb⟩
    have hN : n.toNat ≤ 60 := by have := hv.1; omega
    exact ⟨⟨n, ao, _, co, redE es n.toNat, 0, rfl, (IsPairs.of_owns hrow).1, redE_len hN, .inr ⟨hv, rfl, rfl, rfl⟩⟩, hb⟩
  · refine (reduce_no he hT hv).mono ?_
    rintro e w' ⟨rfl, hb⟩
    exact ⟨⟨0, none, 0, 0, [], 1, rfl, .inl ⟨rfl, rfl, rfl, rfl⟩, by omega, .inl ⟨hv, rfl, rfl, rfl⟩⟩, hb⟩
theorem refReduce_any (he : IsPairs w a len cap es) (hcap : len ≤ 9223372036854775807) :
    Calls Tryd.prog 30 #[.agg #[.int .i64 n, .slice a len cap]] w fun e w' => RetRed n es e w' ∧ Below w.heap.size w w' := by
  by_cases hv : ValidO n es
  · refine (refReduce_yes he hcap hv).mono ?_
    rintro e w' ⟨ao, co, rfl, hrow, hb⟩
    have hN : n.toNat ≤ 60 := by have := hv.1; omega
    exact ⟨⟨n, ao, _, co, redE es n.toNat, 0, rfl, (IsPairs.of_owns hrow).1, redE_len hN, .inr ⟨hv, rfl, rfl, rfl⟩⟩, hb⟩
  · refine (refReduce_no he hcap hv).mono ?_
    rintro e w' ⟨rfl, hb⟩
    exact ⟨⟨0, none, 0, 0, [], 1, rfl, .inl ⟨rfl, rfl, rfl, rfl⟩, by omega, .inl ⟨hv, rfl, rfl, rfl⟩⟩, hb⟩
theorem height_any (he : IsPairs w a len cap es) (hT : TabAt 0 Lib.deBruijn64tab w) :
    Calls Tryd.prog 27 #[.agg #[.int .i64 n, .slice a len cap]] w fun e w' => (∃ m c, e = .returned (.tuple #[.int .i64 m, .int .i64 c]) ∧ HtRes n es m c) ∧ Below w.heap.size w w' := by
  by_cases hv : ValidO n es
  · refine (height_yes he hT hv).mono ?_
    rintro e w' ⟨⟨m, rfl, hm⟩, hb⟩
    exact ⟨⟨m, 0, rfl, .inr ⟨hv, ⟨m, rfl, hm⟩, rfl⟩⟩, hb⟩
  · refine (height_no he hT hv).mono ?_
    rintro e w' ⟨rfl, hb⟩
    exact ⟨⟨0, 1, rfl, .inl ⟨hv, rfl, rfl⟩⟩, hb⟩
theorem refHeight_any (he : IsPairs w a len cap es) (hcap : len ≤ 9223372036854775807) :
    Calls Tryd.prog 31 #[.agg #[.int .i64 n, .slice a len cap]] w fun e w' => (∃ m c, e = .returned (.tuple #[.int .i64 m, .int .i64 c]) ∧ HtRes n es m c) ∧ Below w.heap.size w w' := by
  by_cases hv : ValidO n es
  · refine (refHeight_yes he hcap hv).mono ?_
    rintro e w' ⟨⟨m, rfl, hm⟩, hb⟩
    exact ⟨⟨m, 0, rfl, .inr ⟨hv, ⟨m, rfl, hm⟩, rfl⟩⟩, hb⟩
  · refine (refHeight_no he hcap hv).mono ?_
    rintro e w' ⟨rfl, hb⟩
    exact ⟨⟨0, 1, rfl, .inl ⟨hv, rfl, rfl⟩⟩, hb⟩
theorem ext_any (most : Int) (he : IsPairs w a len cap es) (hT : TabAt 0 Lib.deBruijn64tab w) :
    Calls Tryd.prog 26 #[.agg #[.int .i64 n, .slice a len cap], .int .i64 most] w fun e w' => (∃ v c, e = .returned (.tuple #[.int .i64 v, .int .i64 c]) ∧ ExtRes n most es v c) ∧ Below w.heap.size w w' := by
  refine (extensions_any most he hT).mono ?_
  rintro e w' ⟨⟨v, c, rfl, h⟩, hb⟩
  exact ⟨⟨v, c, rfl, h⟩, hb⟩
end Go.Proofs.YtofnbndpoiohhaaDoor
