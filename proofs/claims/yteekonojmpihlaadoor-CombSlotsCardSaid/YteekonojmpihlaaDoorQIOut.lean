/- Rows of ints that the call makes: a slice of slices, each of its own. -/
import Derived.Test.YteekonojmpihlaaDoorQIRows
import Derived.Test.YteekonojmpihlaaDoorQApp
import Derived.Test.YteekonojmpihlaaDoorQMarks3
namespace Go.Proofs.YteekonojmpihlaaDoor
open Go Go.RowKit
namespace Kt
/-- A row of the call's own, made behind B. -/
theorem IRow.of_own {w : World} {base n cap : Nat} {a : Option Addr} {l : List Int} (h : w.ownsRow base 3 1 (.slice a n cap) n (i64s l)) (hn : l.length = n) : (IRow.mk a cap l).ok w ∧ (IRow.mk a cap l).v = .slice a n cap ∧ ∀ p, a = some p → base ≤ p.block ∧ p.block < w.heap.size := by
  subst hn
  obtain ⟨a', cap', h1, h2, h3, h4, _⟩ := rd_own h
  simp only [Value.slice.injEq] at h1
  obtain ⟨rfl, _, rfl⟩ := h1
  refine ⟨⟨h2, h3, fun hn => ?_, h4⟩, rfl, fun p hp => ?_⟩
  · simp only at hn
    subst hn
    exact (own_none h).1
  · have := h.lt p.block (by rw [hp]; rfl)
    omega
end Kt
end Go.Proofs.YteekonojmpihlaaDoor
