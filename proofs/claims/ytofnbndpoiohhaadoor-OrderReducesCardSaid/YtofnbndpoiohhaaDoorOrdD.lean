/-
  Package order: what closed returns.
-/
import Derived.Test.YtofnbndpoiohhaaDoorOrdB
import Derived.Test.YtofnbndpoiohhaaDoorFam
import Derived.Laws.CopyOwn
set_option linter.unusedVariables false
namespace Go.Proofs.YtofnbndpoiohhaaDoor
open Go.RowKit Go.Shelf

def ValidO (n : Int) (es : List (Int × Int)) : Prop := (0 ≤ n ∧ n ≤ 60) ∧ es.length ≤ 3600 ∧ InR n es ∧ ∀ a, ¬ Path (Ed es) a a
def PastOf (es : List (Int × Int)) (ps : List Int) : Prop := ps.length = 60 ∧ W64 ps ∧ ∀ b, b < 60 → ∀ a, a < 64 → (tb (gi ps b) a = true ↔ Path (Ed es) a b)
def ClosedRes (n : Int) (es : List (Int × Int)) (w : World) (e : Ending) (w' : World) : Prop :=
  Below w.heap.size w w' ∧
  ((¬ ValidO n es ∧ e = .returned (.tuple #[.agg (ivs .u64 zero60).toArray, .slice none 0 0, .bool false])) ∨
   (ValidO n es ∧ ∃ ps l ao co, e = .returned (.tuple #[.agg (ivs .u64 ps).toArray, .slice ao l.length co, .bool true]) ∧ PastOf es ps ∧ KL (Ed es) n.toNat l ∧ l.length = n.toNat ∧
     w'.ownsRow w.heap.size 3 1 (.slice ao l.length co) l.length (ivs .i64 (l.map Int.ofNat))))

end Go.Proofs.YtofnbndpoiohhaaDoor
