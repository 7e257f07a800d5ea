import Derived.Test.YtoeeddfinmfnoaaDoorRows
import Derived.Test.YtoeeddfinmfnoaaDoorQTreePure
/- Slices of bytes as the laws on make and append ask them. -/
namespace Go.Proofs.YtoeeddfinmfnoaaDoor
namespace Kt
end Kt
open Go Go.RowKit Kt
namespace Num
theorem elU8 : El Tryd.prog 54 5 (.int .u8 0) 1 1 := ⟨Tryd.underlying54, info_parts (by kernel_rfl), rfl, by decide⟩
end Num
end Go.Proofs.YtoeeddfinmfnoaaDoor
