import Derived.Test.YteekonojmpihlaaDoorQBrkDot
import Derived.Test.YteekonojmpihlaaDoorQSets4
import Derived.Deep.LoopGhost
import Derived.Deep.CutBlock
import Derived.Test.YteekonojmpihlaaDoorQBrkPure
import Derived.Test.YteekonojmpihlaaDoorQSpellRef
import Derived.Deep.RegionHeld3
import Derived.Test.YteekonojmpihlaaDoorQSets6
import Derived.Laws.BitsAllLaws
import Derived.Test.YteekonojmpihlaaDoorQRetCell
import Derived.Test.YteekonojmpihlaaDoorQSets5
/- dofferlaw06: the chapter's example, and BracketsRead. Condition: the sentinels read as laid. -/
namespace Go.Proofs.YteekonojmpihlaaDoor
open Go Go.RowKit Kt Sp St
namespace Bk
theorem all_is {ws : List Nat} {f : Nat → Bool} (h : IsSet ws f) : Mk.all ws = (List.range 256).filter f := by
  unfold Mk.all
  rw [h.len]
  exact List.filter_congr fun q hq => h.at' q (by simpa using hq)

end Bk
end Go.Proofs.YteekonojmpihlaaDoor
