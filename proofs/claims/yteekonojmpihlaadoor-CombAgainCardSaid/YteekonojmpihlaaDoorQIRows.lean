/- Rows of ints: slices of slices of ints. -/
import Derived.Test.YteekonojmpihlaaDoorQMod
import Derived.Great.BuildSlice
import Derived.Test.YteekonojmpihlaaDoorRows
namespace Go.Proofs.YteekonojmpihlaaDoor
open Go Go.RowKit Go.ChangeShapes Go.WideShapes
namespace Kt
/-- A row. -/
structure IRow where
  a : Option Addr
  cap : Nat
  l : List Int
  deriving Inhabited
def IRow.v (r : IRow) : Value := .slice r.a r.l.length r.cap
structure IRow.ok (w : World) (r : IRow) : Prop where
  cap : r.l.length ≤ r.cap
  max : r.cap ≤ maxLen
  nil : r.a = none → r.cap = 0
  rd : Rd w r.a (i64s r.l)
theorem IRow.ok.keep {w w' : World} {r : IRow} (h : r.ok w) (hb : Below w.heap.size w w') : r.ok w' := ⟨h.cap, h.max, h.nil, h.rd.keep hb⟩
section
variable {H : Type} {enc : TypeId × Value → H} {P : Program} {w : World} {base : Nat} {spare : Nat → Bool} {held : Bool}
end
end Kt
end Go.Proofs.YteekonojmpihlaaDoor
