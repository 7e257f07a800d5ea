import Derived.Test.YtoeeddfinmfnoaaDoorQTreePure
import Derived.Test.YtoeeddfinmfnoaaDoorQBrkPure
import Derived.Test.YtoeeddfinmfnoaaDoorQSetsIs
import Derived.Lib.Join
import Derived.Test.YtoeeddfinmfnoaaDoorRows
import Derived.Test.YtoeeddfinmfnoaaDoorQActPure
import Derived.WalkKit
import Derived.BigQuiet
import Derived.Deep.RegionHeld3
import Derived.Test.YtoeeddfinmfnoaaDoorQTreeBnd
import Derived.Shelf.Strings.SplitCore
import Derived.Shelf.Strings.Search3
import Derived.Shelf.Strings.Count
import Derived.Shelf.Strings.OnBuilder
import Derived.Lib.SplitLaws
import Derived.Test.YtoeeddfinmfnoaaDoorQApp
import Derived.Test.YtoeeddfinmfnoaaDoorQTreeDep
/- tree.within, (Node).joined: kids' texts. -/
namespace Go.Proofs.YtoeeddfinmfnoaaDoor
namespace Kt
end Kt
namespace St
end St
namespace Sp
end Sp
namespace Bk
end Bk
open Go Go.RowKit Kt St Sp Bk
namespace Tr
/-- A node's block, cell by cell. -/
theorem nd_cells {W : World} {b T : Nat} {k : Int} {x0 x1 x2 x3 : Nat} {a : Option Addr} {nl c : Nat} {mn mx : Int} {t : List UInt8} {f : Nat × Nat}
    (h : W.heap[b]? = some (Obj.cells #[.int .i64 k, .int .u64 (x0 : Int), .int .u64 (x1 : Int), .int .u64 (x2 : Int), .int .u64 (x3 : Int), .slice a nl c, .int .i64 mn, .int .i64 mx, .string (Str t)] T f)) :
    W.cell? ⟨b, 0, none⟩ = some (.int .i64 k) ∧ W.cell? ⟨b, 1, none⟩ = some (.int .u64 (x0 : Int)) ∧ W.cell? ⟨b, 2, none⟩ = some (.int .u64 (x1 : Int)) ∧ W.cell? ⟨b, 3, none⟩ = some (.int .u64 (x2 : Int)) ∧ W.cell? ⟨b, 4, none⟩ = some (.int .u64 (x3 : Int)) ∧
    W.cell? ⟨b, 5, none⟩ = some (.slice a nl c) ∧ W.cell? ⟨b, 6, none⟩ = some (.int .i64 mn) ∧ W.cell? ⟨b, 7, none⟩ = some (.int .i64 mx) ∧ W.cell? ⟨b, 8, none⟩ = some (.string (Str t)) :=
  ⟨cell_block h 0, cell_block h 1, cell_block h 2, cell_block h 3, cell_block h 4, cell_block h 5, cell_block h 6, cell_block h 7, cell_block h 8⟩
theorem goods_len {B : Nat} {W : World} {ks : List Nd} (h : IsAll B W ks) : ∀ n ∈ ks, n.set.length = 4 := fun n hn => (Is.all h n hn).len
end Tr
end Go.Proofs.YtoeeddfinmfnoaaDoor
