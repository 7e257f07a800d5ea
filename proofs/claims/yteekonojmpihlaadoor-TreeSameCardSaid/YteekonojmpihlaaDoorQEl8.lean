import Derived.Test.YteekonojmpihlaaDoorRows
import Derived.Test.YteekonojmpihlaaDoorQActPure
/- Slices of bytes as the laws on make and append ask them. -/
namespace Go.Proofs.YteekonojmpihlaaDoor
open Go Go.RowKit Kt
namespace Num
theorem elU8 : El Tryd.prog 129 5 (.int .u8 0) 1 1 := ⟨Tryd.underlying129, info_parts (by kernel_rfl), rfl, by decide⟩
end Num
end Go.Proofs.YteekonojmpihlaaDoor
