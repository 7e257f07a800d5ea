/- Every class is below their number. -/
import Derived.Test.YtfkjijjmphbglaaDoorClsLaw
namespace Go.Proofs.YtfkjijjmphbglaaDoor
open Go Go.RowKit Kt
namespace Cl
open Sb
theorem klass_lt (rows : List (List Int)) {b : Nat} (hb : b < 256) : klass rows b < (fsts rows 256).length := by
  obtain ⟨j, f, h1, h2, _, _⟩ := (ok_st (colb rows) 256).lt b hb
  rw [klass_get rows hb] at h1
  simp only [Option.some.injEq] at h1
  rw [h1]
  exact (List.getElem?_eq_some_iff.1 h2).1
end Cl
end Go.Proofs.YtfkjijjmphbglaaDoor
