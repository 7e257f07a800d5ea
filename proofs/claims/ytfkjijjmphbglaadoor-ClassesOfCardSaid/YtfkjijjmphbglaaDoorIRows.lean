/- Rows of ints: slices of slices of ints. -/
import Derived.Test.YtfkjijjmphbglaaDoorMod
import Derived.Great.BuildSlice
import Derived.Test.YtfkjijjmphbglaaDoorRows
namespace Go.Proofs.YtfkjijjmphbglaaDoor
open Go Go.RowKit Go.ChangeShapes Go.WideShapes
namespace Kt
/-- A row. -/
structure IRow where
  a : Option Addr
  cap : Nat
  l : List Int
  deriving Inhabited
def IRow.v (r : IRow) : Value := .slice r.a r.l.length r.cap
structure IRow.ok (w : World) (r : IRow) : Prop where
  cap : r.l.length ≤ r.cap
  max : r.cap ≤ maxLen
  nil : r.a = none → r.cap = 0
  rd : Rd w r.a (i64s r.l)
theorem IRow.ok.keep {w w' : World} {r : IRow} (h : r.ok w) (hb : Below w.heap.size w w') : r.ok w' := ⟨h.cap, h.max, h.nil, h.rd.keep hb⟩
section
variable {H : Type} {enc : TypeId × Value → H} {P : Program} {w : World} {base : Nat} {spare : Nat → Bool} {held : Bool}
theorem open_irows {t e q : TypeId} {fuel : Nat} {v : Value} {x : DataW H × List MemPlace} (ht : P.underlying t = some (.slice e)) (he : P.underlying e = some (.slice q)) (hq : P.underlying q = some (.int .i64)) (hc : P.cellsOf e = 1) (hc2 : P.cellsOf q = 1)
    (h : DataW.trod enc P w base spare held fuel t [v] = some x) :
    ∃ a cap, ∃ l : List IRow, v = .slice a l.length cap ∧ l.length ≤ cap ∧ cap ≤ maxLen ∧ (a = none → cap = 0) ∧ Rd w a (l.map IRow.v) ∧ ∀ r ∈ l, r.ok w ∧ ∀ n ∈ r.l, (Lit.int .i64 n).wf = true := by
  exact open_rd (α := IRow) IRow.v (fun r => r.ok w ∧ ∀ n ∈ r.l, (Lit.int .i64 n).wf = true) ht hc (fun n u y hy _ => by
    obtain ⟨a, cap, l, rfl, h2, h3, h4, h5, h6⟩ := open_i64s he hq hc2 hy
    exact ⟨⟨a, cap, l⟩, rfl, ⟨h2, h3, h4, h5⟩, h6⟩) h
end
/-- A slice literal of one element, whatever its size. -/
theorem build_one {P : Program} {t e : TypeId} {z : Value} {size bytes : Nat} (E : El P t e z size bytes) (hsm : size ≤ 16777216) {v : Value} (hv : v.cells.size = size) (w : World) :
    (Instr.buildSlice t 1 #[(0, v)]).run P w = .ok (.slice (some ⟨w.heap.size, 0, none⟩) 1 1) (w.alloc (.cells v.cells e)) := by
  obtain ⟨i, hi, hz, hs, _⟩ := E.info
  have hp := E.pos
  have hf := Great.fill_whole (s := i.size) (by omega) [v] ((Array.range (1 * i.size)).map (z.cells[· % z.cells.size]!)) (by simp [hv, hs]) (by simp)
  have := run_buildSlice (P := P) w t e 1 #[(0, v)] _ i z E.ht hi hz (by omega) (by omega) hf
  simpa using this
/-- A slice literal of one element whose run is known. -/
theorem wp_build_run {P : Program} {op : Oper} {a : Act} {w w' : World} {K : Act → World → Prop} {Q : Exit → Act → World → Prop} {t : TypeId} {x : Operand} {u v : Value} (hrun : (Instr.buildSlice t 1 #[(0, u)]).run P w = .ok v w')
    (ho : op.op = .buildSlice t 1 #[(0, x)]) (hx : a.eval x = u) (h : K (a.put op.dst v) w') : op.wp P a w K Q := by
  subst hx
  unfold Oper.wp execOp
  simp only [ho, Sem.run_bind]
  have e : (#[(0, x)] : Array (Nat × Operand)).map (fun (i, x) => (i, a.eval x)) = #[(0, a.eval x)] := by simp
  rw [e, hrun]
  exact h
end Kt
end Go.Proofs.YtfkjijjmphbglaaDoor
