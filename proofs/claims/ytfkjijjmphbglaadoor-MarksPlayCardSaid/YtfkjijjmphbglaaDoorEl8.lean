/- Slices of bytes as the laws on make and append ask them. -/
import Derived.Test.YtfkjijjmphbglaaDoorRows
import Derived.Test.YtfkjijjmphbglaaDoorLib
namespace Go.Proofs.YtfkjijjmphbglaaDoor
open Go Go.RowKit Kt
namespace Num
theorem elU8 : El Tryd.prog 197 5 (.int .u8 0) 1 1 := ⟨Tryd.underlying197, info_parts (by kernel_rfl), rfl, by decide⟩
end Num
end Go.Proofs.YtfkjijjmphbglaaDoor
