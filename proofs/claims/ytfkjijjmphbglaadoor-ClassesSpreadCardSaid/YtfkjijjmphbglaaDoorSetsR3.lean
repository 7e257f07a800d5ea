/- The document's sets: dofferref01.Both. -/
import Derived.Test.YtfkjijjmphbglaaDoorSetsR2
import Derived.Deep.RegionHeld3
namespace Go.Proofs.YtfkjijjmphbglaaDoor
open Go Go.RowKit Kt
namespace St
open Mk
/-- What Both asks of a byte. -/
def bf (how : Nat) (x y : Bool) : Bool := if how = 0 then x || y else if how = 1 then x && y else x && !y
/-- The loop of Both. -/
def RbR (w : World) (xs ys : List Nat) (F : Nat → Bool) (i : Value) (W : World) : Prop := ∃ c : Nat, c ≤ 256 ∧ i = .int .i64 (c : Int) ∧
  W.ownsRow (w.heap.size + 3) 4 1 (.slice (some ⟨w.heap.size + 3, 0, none⟩) 256 256) 256 (bools (mkl fun q => decide (q < c) && F q)) ∧
  W.heap[w.heap.size]? = some (.cells (vals xs).toArray 55 (0, 0)) ∧ W.heap[w.heap.size + 1]? = some (.cells (vals ys).toArray 55 (0, 0)) ∧
  W.heap[w.heap.size + 2]? = some (.cells #[.int .u64 0, .int .u64 0, .int .u64 0, .int .u64 0] 55 (0, 0)) ∧ Below w.heap.size w W

end St
end Go.Proofs.YtfkjijjmphbglaaDoor
