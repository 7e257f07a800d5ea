import Derived.Test.YteekonojmpihlaaDoorQTreeHv
import Derived.Test.YteekonojmpihlaaDoorQTreeBnd
import Derived.Test.YteekonojmpihlaaDoorQTreeCp
import Derived.Test.YteekonojmpihlaaDoorQTreeRight
import Derived.Test.YteekonojmpihlaaDoorQTreeTx
import Derived.Test.YteekonojmpihlaaDoorQSetsR
import Derived.Deep.RegionHeld3
import Derived.Deep.DeepCutAuto
import Derived.Test.YteekonojmpihlaaDoorQTreeOf
import Derived.Test.YteekonojmpihlaaDoorQTreeLaw1
/- dofferlaw07.TreeSame. -/
namespace Go.Proofs.YteekonojmpihlaaDoor
open Go Go.RowKit Kt St Sp Bk
namespace Tr
theorem long_of {n : Nd} (h : ∀ x ∈ walk n, x.1.text.length ≤ 50) : ∀ x ∈ walk n, x.1.text.length ≤ 1000000 := fun x hx => by have := h x hx; omega
theorem text_er {n m : Nd} (h : er m = er n) (k : ∀ x ∈ walk n, x.1.text.length ≤ 50) : ∀ x ∈ walk m, x.1.text.length ≤ 1000000 := long_of (text_walk h 50 k)
end Tr
end Go.Proofs.YteekonojmpihlaaDoor
