/- The document's spellings: dofferref05. -/
import Derived.Test.YteekonojmpihlaaDoorQSpell
import Derived.Laws.Concat
namespace Go.Proofs.YteekonojmpihlaaDoor
open Go Go.RowKit Kt
namespace Sp
/-- Two texts, one behind the other. -/
theorem add_run {P : Program} (w : World) (a b : List UInt8) (h : a.length + b.length ≤ 9223372036854775807) : (Op.stringOp .add (Str a) (Str b)).run P w = .ok (.string (Str (a ++ b))) w := by
  have := run_string_add_sum (P := P) w (Str a) (Str b) (by rw [Str_size, Str_size]; exact h)
  rw [this]
  congr 2
end Sp
end Go.Proofs.YteekonojmpihlaaDoor
