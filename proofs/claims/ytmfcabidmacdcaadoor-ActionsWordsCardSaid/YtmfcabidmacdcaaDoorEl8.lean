/- Slices of bytes as the laws on make and append ask them. -/
import Derived.Test.YtmfcabidmacdcaaDoorRows
import Derived.Test.YtmfcabidmacdcaaDoorLib
namespace Go.Proofs.YtmfcabidmacdcaaDoor
open Go Go.RowKit Kt
namespace Num
theorem elU8 : El Tryd.prog 40 5 (.int .u8 0) 1 1 := ⟨Tryd.underlying40, info_parts (by kernel_rfl), rfl, by decide⟩
end Num
end Go.Proofs.YtmfcabidmacdcaaDoor
