import Derived.Test.YtoeeddfinmfnoaaDoorQTreePure
import Derived.Great.BuildSlice
import Derived.Test.YtoeeddfinmfnoaaDoorRows
/- Rows of ints: slices of slices of ints. -/
namespace Go.Proofs.YtoeeddfinmfnoaaDoor
open Go Go.RowKit Go.ChangeShapes Go.WideShapes
namespace Kt
section
variable {H : Type} {enc : TypeId × Value → H} {P : Program} {w : World} {base : Nat} {spare : Nat → Bool} {held : Bool}
end
/-- A slice literal of one element, whatever its size. -/
theorem build_one {P : Program} {t e : TypeId} {z : Value} {size bytes : Nat} (E : El P t e z size bytes) (hsm : size ≤ 16777216) {v : Value} (hv : v.cells.size = size) (w : World) :
    (Instr.buildSlice t 1 #[(0, v)]).run P w = .ok (.slice (some ⟨w.heap.size, 0, none⟩) 1 1) (w.alloc (.cells v.cells e)) := by
  obtain ⟨i, hi, hz, hs, _⟩ := E.info
  have hp := E.pos
  have hf := Great.fill_whole (s := i.size) (by omega) [v] ((Array.range (1 * i.size)).map (z.cells[· % z.cells.size]!)) (by simp [hv, hs]) (by simp)
  have := run_buildSlice (P := P) w t e 1 #[(0, v)] _ i z E.ht hi hz (by omega) (by omega) hf
  simpa using this
/-- A slice literal of one element whose run is known. -/
theorem wp_build_run {P : Program} {op : Oper} {a : Act} {w w' : World} {K : Act → World → Prop} {Q : Exit → Act → World → Prop} {t : TypeId} {x : Operand} {u v : Value} (hrun : (Instr.buildSlice t 1 #[(0, u)]).run P w = .ok v w')
    (ho : op.op = .buildSlice t 1 #[(0, x)]) (hx : a.eval x = u) (h : K (a.put op.dst v) w') : op.wp P a w K Q := by
  subst hx
  unfold Oper.wp execOp
  simp only [ho, Sem.run_bind]
  have e : (#[(0, x)] : Array (Nat × Operand)).map (fun (i, x) => (i, a.eval x)) = #[(0, a.eval x)] := by simp
  rw [e, hrun]
  exact h
end Kt
end Go.Proofs.YtoeeddfinmfnoaaDoor
