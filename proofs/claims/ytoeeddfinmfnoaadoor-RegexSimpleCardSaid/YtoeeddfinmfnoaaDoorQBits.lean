import Derived.Test.YtoeeddfinmfnoaaDoorQBitsPure
import Derived.Test.YtoeeddfinmfnoaaDoorQTreePure
import Derived.Test.YtoeeddfinmfnoaaDoorRows
import Derived.Laws.Bits64b
import Derived.Lib.TrailingZeros
/- math/bits.OnesCount64 and TrailingZeros64. Condition of the latter, at a number that is not 0: its table reads as laid. -/
namespace Go.Proofs.YtoeeddfinmfnoaaDoor
namespace Kt
end Kt
open Go Go.RowKit Kt
namespace Bt
theorem and64 (X M : Int) (x m r : Nat) (hX : X = (x : Int)) (hM : M = (m : Int)) (hx : x < 18446744073709551616) (hm : m < 18446744073709551616) (hr : x &&& m = r) : bits .and .u64 X M = (r : Int) := by
  subst hX hM hr
  exact bits_and_u64_nat x m hx hm
end Bt
end Go.Proofs.YtoeeddfinmfnoaaDoor
