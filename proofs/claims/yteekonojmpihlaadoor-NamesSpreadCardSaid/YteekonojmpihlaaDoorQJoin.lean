import Derived.Test.YteekonojmpihlaaDoorRows
import Derived.Test.YteekonojmpihlaaDoorQActPure
import Derived.Shelf.Strings.SplitCore
import Derived.Shelf.Strings.Search3
import Derived.Shelf.Strings.Count
import Derived.Shelf.Strings.OnBuilder
import Derived.Lib.SplitLaws
/- strings.Join with any text between: the library's contract laid, over lists of bytes. -/
namespace Go.Proofs.YteekonojmpihlaaDoor
namespace Kt
end Kt
open Go Go.RowKit Go.Shelf Kt
namespace Tr
open Ac
theorem elStr : El Tryd.prog 38 9 (.string ⟨#[]⟩) 1 16 := ⟨Tryd.underlying38, info_parts (by kernel_rfl), rfl, by decide⟩
end Tr
end Go.Proofs.YteekonojmpihlaaDoor
