/- brackets' reader: an item, a bracket. Condition: the sentinels read as laid. -/
import Derived.Test.YteekonojmpihlaaDoorQBrkRead
namespace Go.Proofs.YteekonojmpihlaaDoor
open Go Go.RowKit Kt Sp St
namespace Bk
variable {w W W' : World} {p : Nat} {s : ByteArray} {i : Nat} {A : Nat → Addr}

theorem set_four {rs : List Nat} {f : Nat → Bool} (h : IsSet rs f) : ∃ x0 x1 x2 x3, rs = [x0, x1, x2, x3] := four h.len

variable {W0 : World} {r : Nat}

end Bk
end Go.Proofs.YteekonojmpihlaaDoor
