/- Rows of ints: slices of slices of ints. -/
import Derived.Test.YteekonojmpihlaaDoorQMod
import Derived.Great.BuildSlice
import Derived.Test.YteekonojmpihlaaDoorRows
namespace Go.Proofs.YteekonojmpihlaaDoor
open Go Go.RowKit Go.ChangeShapes Go.WideShapes
namespace Kt
/-- A row. -/
structure IRow where
  a : Option Addr
  cap : Nat
  l : List Int
  deriving Inhabited
def IRow.v (r : IRow) : Value := .slice r.a r.l.length r.cap
structure IRow.ok (w : World) (r : IRow) : Prop where
  cap : r.l.length ≤ r.cap
  max : r.cap ≤ maxLen
  nil : r.a = none → r.cap = 0
  rd : Rd w r.a (i64s r.l)
theorem IRow.ok.keep {w w' : World} {r : IRow} (h : r.ok w) (hb : Below w.heap.size w w') : r.ok w' := ⟨h.cap, h.max, h.nil, h.rd.keep hb⟩
section
variable {H : Type} {enc : TypeId × Value → H} {P : Program} {w : World} {base : Nat} {spare : Nat → Bool} {held : Bool}
theorem open_irows {t e q : TypeId} {fuel : Nat} {v : Value} {x : DataW H × List MemPlace} (ht : P.underlying t = some (.slice e)) (he : P.underlying e = some (.slice q)) (hq : P.underlying q = some (.int .i64)) (hc : P.cellsOf e = 1) (hc2 : P.cellsOf q = 1)
    (h : DataW.trod enc P w base spare held fuel t [v] = some x) :
    ∃ a cap, ∃ l : List IRow, v = .slice a l.length cap ∧ l.length ≤ cap ∧ cap ≤ maxLen ∧ (a = none → cap = 0) ∧ Rd w a (l.map IRow.v) ∧ ∀ r ∈ l, r.ok w ∧ ∀ n ∈ r.l, (Lit.int .i64 n).wf = true := by
  exact open_rd (α := IRow) IRow.v (fun r => r.ok w ∧ ∀ n ∈ r.l, (Lit.int .i64 n).wf = true) ht hc (fun n u y hy _ => by
    obtain ⟨a, cap, l, rfl, h2, h3, h4, h5, h6⟩ := open_i64s he hq hc2 hy
    exact ⟨⟨a, cap, l⟩, rfl, ⟨h2, h3, h4, h5⟩, h6⟩) h
end
end Kt
end Go.Proofs.YteekonojmpihlaaDoor
