/- (Set).List. Condition: the table of TrailingZeros64 reads as laid. -/
import Derived.Test.YtfkjijjmphbglaaDoorSets1
import Derived.Test.YtfkjijjmphbglaaDoorEl8
namespace Go.Proofs.YtfkjijjmphbglaaDoor
open Go Go.RowKit Go.Shelf Kt
namespace St
open Mk
attribute [local go_sem] Oper.semAt_some
def b8 (x : Fin 256) : Value := .int .u8 ((x.val : Nat) : Int)

end St
end Go.Proofs.YtfkjijjmphbglaaDoor
