import Derived.Test.YteekonojmpihlaaDoorQLib
import Derived.Lib.Bytealg
import Derived.Test.YteekonojmpihlaaDoorQSetsIs
/- Plain law of chapter 06: what a bracket reads as, and how a set is written. No program. -/
namespace Go.Proofs.YteekonojmpihlaaDoor
namespace Kt
end Kt
namespace Sp
end Sp
open Go Go.RowKit Kt Sp
namespace Bk
theorem snoc_ind {α : Type} {P : List α → Prop} (h0 : P []) (h1 : ∀ l x, P l → P (l ++ [x])) (l : List α) : P l := by
  have h : ∀ r : List α, P r.reverse := by
    intro r
    induction r with
    | nil => exact h0
    | cons x r ih => rw [List.reverse_cons]; exact h1 _ x ih
  simpa using h l.reverse
/-! How a set is written. -/
/-! Spans. -/
/-! Brackets of one byte each. -/
end Bk
end Go.Proofs.YteekonojmpihlaaDoor
