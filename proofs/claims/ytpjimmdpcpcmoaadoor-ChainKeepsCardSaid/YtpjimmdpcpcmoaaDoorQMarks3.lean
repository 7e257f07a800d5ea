/- The walks of package marks: List, Key, Same. -/
import Derived.Test.YtpjimmdpcpcmoaaDoorQMarks2
import Derived.Test.YtpjimmdpcpcmoaaDoorQMod
import Derived.Test.YtpjimmdpcpcmoaaDoorRows
import Derived.Test.YtpjimmdpcpcmoaaDoorQLib
namespace Go.Proofs.YtpjimmdpcpcmoaaDoor
open Go Go.RowKit Kt
namespace Mk
variable {w w' : World} {p b n : Nat} {ws : List Nat}
theorem elI : El Tryd.prog 38 3 (.int .i64 0) 1 8 := ⟨Tryd.underlying38, info_parts (by kernel_rfl), rfl, by decide⟩
end Mk
end Go.Proofs.YtpjimmdpcpcmoaaDoor
