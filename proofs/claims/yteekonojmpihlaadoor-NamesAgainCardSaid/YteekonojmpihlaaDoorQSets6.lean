import Derived.Test.YteekonojmpihlaaDoorQSetsOpen
import Derived.ChangeKeysEq
import Derived.Deep.RegionHeld3
import Derived.Test.YteekonojmpihlaaDoorQSetsIs
import Derived.WalkKit
import Derived.Test.YteekonojmpihlaaDoorQLib
import Derived.Test.YteekonojmpihlaaDoorQMapG
import Derived.Test.YteekonojmpihlaaDoorRows
import Derived.Laws.Bits64b
import Derived.Lib.TrailingZeros
import Derived.Laws.StructEq
/- The walks of package sets: Has, Empty, Minus, One, below. -/
namespace Go.Proofs.YteekonojmpihlaaDoor
namespace Kt
end Kt
open Go Go.RowKit Kt
namespace St
open Mk
/-- Two sets held against one another. -/
theorem eq_run (xs ys : List Nat) (hx : xs.length = 4) (hy : ys.length = 4) (w : World) : (binOp .eql 34 (sv xs) (sv ys)).run Tryd.prog w = .ok (.bool (decide (xs = ys))) w := by
  obtain ⟨x0, x1, x2, x3, rfl⟩ := four hx
  obtain ⟨y0, y1, y2, y3, rfl⟩ := four hy
  have u3 := Tryd.underlying32
  obtain ⟨i, hi⟩ : ∃ i, Tryd.prog.info? 32 = some i := Option.isSome_iff_exists.1 (by kernel_rfl)
  have hce : Tryd.prog.cellsOf 32 = 1 := by kernel_rfl
  simp only [sv, vals, List.map_cons, List.map_nil]
  rw [run_eql_struct, show (10000 : Nat) = 9999 + 1 from rfl, run_equalIn_array (P := Tryd.prog) w 9999 _ _ Tryd.underlying34 hi, hce]
  rw [show List.range 4 = [0, 1, 2, 3] from rfl]
  simp only [Op.eqItems]
  go_simp
  by_cases h0 : x0 = y0 <;> by_cases h1 : x1 = y1 <;> by_cases h2 : x2 = y2 <;> by_cases h3 : x3 = y3 <;> simp [h0, h1, h2, h3] <;> (intros; omega)
end St
end Go.Proofs.YteekonojmpihlaaDoor
