/- The walks of package brackets' reader: a byte, an item. Condition: the sentinels read as laid. -/
import Derived.Test.YteekonojmpihlaaDoorQBrkPure
import Derived.Test.YteekonojmpihlaaDoorQSpell
import Derived.Test.YteekonojmpihlaaDoorQSets6
import Derived.Laws.BitsAllLaws
import Derived.Test.YteekonojmpihlaaDoorQLib
import Derived.Laws.ResultCell
import Derived.Laws.Rows
import Derived.Deep.RegionHeld3
namespace Go.Proofs.YteekonojmpihlaaDoor
open Go Go.RowKit Kt Sp St
namespace Bk
variable {w W W' : World} {p : Nat} {s : ByteArray} {i : Nat} {A : Nat → Addr}

/-- An array variable of four words at block r. -/
def Ab (W : World) (r x0 x1 x2 x3 : Nat) : Prop := W.heap[r]? = some (.cells #[.int .u64 (x0 : Int), .int .u64 (x1 : Int), .int .u64 (x2 : Int), .int .u64 (x3 : Int)] 34 (0, 0))
theorem Ab.mod {S : List Nat} {r x0 x1 x2 x3 : Nat} (h : Ab W r x0 x1 x2 x3) (hM : Mod S W W') (hr : r ∉ S) : Ab W' r x0 x1 x2 x3 := (hM.block r (block_lt h) hr).trans h
theorem Ab.below {r x0 x1 x2 x3 : Nat} (h : Ab W r x0 x1 x2 x3) (hb : Below W.heap.size W W') : Ab W' r x0 x1 x2 x3 := (hb.block r (block_lt h)).trans h
theorem Ab.cells {r x0 x1 x2 x3 : Nat} (h : Ab W r x0 x1 x2 x3) : (W.cell? ⟨r, 0, none⟩ = some (.int .u64 (x0 : Int)) ∧ W.cell? ⟨r, 1, none⟩ = some (.int .u64 (x1 : Int)) ∧ W.cell? ⟨r, 2, none⟩ = some (.int .u64 (x2 : Int)) ∧ W.cell? ⟨r, 3, none⟩ = some (.int .u64 (x3 : Int))) ∧
    W.frozen? ⟨r, 0, none⟩ = false ∧ W.frozen? ⟨r, 1, none⟩ = false ∧ W.frozen? ⟨r, 2, none⟩ = false ∧ W.frozen? ⟨r, 3, none⟩ = false :=
  ⟨⟨cell_block h 0, cell_block h 1, cell_block h 2, cell_block h 3⟩, frozen_block h 0, frozen_block h 1, frozen_block h 2, frozen_block h 3⟩
def put4 (W : World) (r x0 x1 x2 x3 : Nat) : World := (((W.setCell ⟨r, 0, none⟩ (.int .u64 (x0 : Int))).setCell ⟨r, 1, none⟩ (.int .u64 (x1 : Int))).setCell ⟨r, 2, none⟩ (.int .u64 (x2 : Int))).setCell ⟨r, 3, none⟩ (.int .u64 (x3 : Int))
theorem Ab.put {r x0 x1 x2 x3 : Nat} (h : Ab W r x0 x1 x2 x3) (z0 z1 z2 z3 : Nat) : Ab (put4 W r z0 z1 z2 z3) r z0 z1 z2 z3 := store4 h _ _ _ _
theorem put4_below {B : Nat} {W0 : World} {r : Nat} (h : Below B W0 W) (hr : B ≤ r) (z0 z1 z2 z3 : Nat) : Below B W0 (put4 W r z0 z1 z2 z3) :=
  (((h.setCell (p := ⟨r, 0, none⟩) hr _).setCell (p := ⟨r, 1, none⟩) hr _).setCell (p := ⟨r, 2, none⟩) hr _).setCell (p := ⟨r, 3, none⟩) hr _

end Bk
end Go.Proofs.YteekonojmpihlaaDoor
