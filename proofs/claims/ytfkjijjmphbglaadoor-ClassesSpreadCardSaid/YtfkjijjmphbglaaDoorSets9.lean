/- The chapter's example: dofferlaw01.alive. Condition: the table of TrailingZeros64 reads as laid. -/
import Derived.Test.YtfkjijjmphbglaaDoorSets8
namespace Go.Proofs.YtfkjijjmphbglaaDoor
open Go Go.RowKit Kt
namespace St
open Mk
theorem ex_set : IsSet [0, 60129542144, 0, 0] (fun q => decide (97 ≤ q) && decide (q ≤ 99)) := by
  refine ⟨rfl, by intro x hx; simp at hx; omega, fun c hc => ?_⟩
  have h : ((List.range 256).all fun c => has [0, 60129542144, 0, 0] c == (decide (97 ≤ c) && decide (c ≤ 99))) = true := by decide +kernel
  have := List.all_eq_true.1 h c (by simpa using hc)
  simpa using this
theorem ex_all : all [0, 60129542144, 0, 0] = [97, 98, 99] := by decide +kernel
theorem ex_sps : sps [97, 98, 99] = [(97, 99)] := by decide

end St
end Go.Proofs.YtfkjijjmphbglaaDoor
