/- The walks of package sets: Minus; the chapter's example. Condition of the latter: the table of TrailingZeros64 reads as laid. -/
import Derived.Test.YtmfcabidmacdcaaDoorSets7
import Derived.Test.YtmfcabidmacdcaaDoorSets3
namespace Go.Proofs.YtmfcabidmacdcaaDoor
open Go Go.RowKit Kt
namespace St
open Mk

end St
end Go.Proofs.YtmfcabidmacdcaaDoor
