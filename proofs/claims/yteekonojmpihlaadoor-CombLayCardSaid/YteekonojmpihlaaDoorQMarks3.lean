/- The walks of package marks: List, Key, Same. -/
import Derived.WalkKit
import Derived.Lib.TrailingZeros
import Derived.Test.YteekonojmpihlaaDoorQLib
import Derived.Test.YteekonojmpihlaaDoorQMod
import Derived.Test.YteekonojmpihlaaDoorRows
import Derived.Laws.Bits64b
import Derived.Laws.OwnMore
namespace Go.Proofs.YteekonojmpihlaaDoor
namespace Kt
end Kt
open Go Go.RowKit Kt
namespace Mk
variable {w w' : World} {p b n : Nat} {ws : List Nat}
theorem elI : El Tryd.prog 69 3 (.int .i64 0) 1 8 := ⟨Tryd.underlying69, info_parts (by kernel_rfl), rfl, by decide⟩
end Mk
end Go.Proofs.YteekonojmpihlaaDoor
