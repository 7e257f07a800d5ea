import Derived.Test.YteekonojmpihlaaDoorQMarks
import Derived.Laws.OwnMore
import Derived.Test.YteekonojmpihlaaDoorQTreePure
import Derived.Test.YteekonojmpihlaaDoorRows
import Derived.Test.YteekonojmpihlaaDoorQBuildM
/- The walks of package marks: List, Key, Same. -/
namespace Go.Proofs.YteekonojmpihlaaDoor
open Go Go.RowKit Kt
namespace Mk
variable {w w' : World} {p b n : Nat} {ws : List Nat}
theorem elI : El Tryd.prog 69 3 (.int .i64 0) 1 8 := ⟨Tryd.underlying69, info_parts (by kernel_rfl), rfl, by decide⟩
end Mk
end Go.Proofs.YteekonojmpihlaaDoor
