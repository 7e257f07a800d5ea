import Derived.Test.YteekonojmpihlaaDoorQBrkPure
import Derived.Test.YteekonojmpihlaaDoorQSpellRef
import Derived.Deep.RegionHeld3
import Derived.Test.YteekonojmpihlaaDoorQSetsR3
import Derived.Test.YteekonojmpihlaaDoorQTreePure
import Derived.Deep.LoopGhost
/- The document's brackets: dofferref06.Read answers brd. -/
namespace Go.Proofs.YteekonojmpihlaaDoor
open Go Go.RowKit Kt Sp St
namespace Bk
variable {w W W' : World}
/-- An array variable of four words at block r. -/
def Aw (W : World) (r x0 x1 x2 x3 : Nat) : Prop := W.heap[r]? = some (.cells #[.int .u64 (x0 : Int), .int .u64 (x1 : Int), .int .u64 (x2 : Int), .int .u64 (x3 : Int)] 33 (0, 0))
theorem Aw.below {r x0 x1 x2 x3 : Nat} (h : Aw W r x0 x1 x2 x3) (hb : Below W.heap.size W W') : Aw W' r x0 x1 x2 x3 := (hb.block r (block_lt h)).trans h
theorem Aw.cells {r x0 x1 x2 x3 : Nat} (h : Aw W r x0 x1 x2 x3) : (W.cell? ⟨r, 0, none⟩ = some (.int .u64 (x0 : Int)) ∧ W.cell? ⟨r, 1, none⟩ = some (.int .u64 (x1 : Int)) ∧ W.cell? ⟨r, 2, none⟩ = some (.int .u64 (x2 : Int)) ∧ W.cell? ⟨r, 3, none⟩ = some (.int .u64 (x3 : Int))) ∧
    W.frozen? ⟨r, 0, none⟩ = false ∧ W.frozen? ⟨r, 1, none⟩ = false ∧ W.frozen? ⟨r, 2, none⟩ = false ∧ W.frozen? ⟨r, 3, none⟩ = false :=
  ⟨⟨cell_block h 0, cell_block h 1, cell_block h 2, cell_block h 3⟩, frozen_block h 0, frozen_block h 1, frozen_block h 2, frozen_block h 3⟩
def putw (W : World) (r x0 x1 x2 x3 : Nat) : World := (((W.setCell ⟨r, 0, none⟩ (.int .u64 (x0 : Int))).setCell ⟨r, 1, none⟩ (.int .u64 (x1 : Int))).setCell ⟨r, 2, none⟩ (.int .u64 (x2 : Int))).setCell ⟨r, 3, none⟩ (.int .u64 (x3 : Int))
theorem Aw.put {r x0 x1 x2 x3 : Nat} (h : Aw W r x0 x1 x2 x3) (z0 z1 z2 z3 : Nat) : Aw (putw W r z0 z1 z2 z3) r z0 z1 z2 z3 := store4 h _ _ _ _
theorem putw_below {B : Nat} {W0 : World} {r : Nat} (h : Below B W0 W) (hr : B ≤ r) (z0 z1 z2 z3 : Nat) : Below B W0 (putw W r z0 z1 z2 z3) :=
  (((h.setCell (p := ⟨r, 0, none⟩) hr _).setCell (p := ⟨r, 1, none⟩) hr _).setCell (p := ⟨r, 2, none⟩) hr _).setCell (p := ⟨r, 3, none⟩) hr _
variable {r z g : Nat} {f f' : Nat → Bool}
end Bk
end Go.Proofs.YteekonojmpihlaaDoor
