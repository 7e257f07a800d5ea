/- Plain law of chapter 23: a laid comb is right, and its rows are what was laid. No program. -/
import Derived.Test.YteekonojmpihlaaDoorQCbLayQ
import Derived.Test.YteekonojmpihlaaDoorQCbAt
import Derived.Test.YteekonojmpihlaaDoorQMod
import Derived.Test.YteekonojmpihlaaDoorRows
import Derived.Test.YteekonojmpihlaaDoorQSame
import Derived.Test.YteekonojmpihlaaDoorQIOut
import Derived.Test.YteekonojmpihlaaDoorQCbOwnA
namespace Go.Proofs.YteekonojmpihlaaDoor
namespace Kt
end Kt
open Go Go.RowKit Kt
namespace Cb
/-- A comb is rows laid. -/
structure Laid (rows : List (List Int)) (c : Cs) : Prop where
  wide : c.wide = ((rows.getD 0 []).length : Int)
  base : c.base = (layL rows).base
  dflt : c.dflt = rows.map cmn
  next : c.next = (layL rows).next
  check : c.check = (layL rows).check
structure LyF (rows : List (List Int)) (f : Nat) : Prop where
  many : 1 ≤ rows.length ∧ rows.length ≤ 200
  wide : 1 ≤ f ∧ f ≤ 256
  len : ∀ r ∈ rows, r.length = f
  num : ∀ r ∈ rows, ∀ n ∈ r, 0 ≤ n ∧ n < rows.length
theorem lyF_of {rows : List (List Int)} (h : layable rows = true) : LyF rows (rows.getD 0 []).length := by
  unfold layable at h
  simp only [Bool.and_eq_true, decide_eq_true_eq, List.all_eq_true] at h
  obtain ⟨h1, h2, h3, h4, h5⟩ := h
  refine ⟨⟨h1, h2⟩, ⟨h3, h4⟩, fun r hr => (h5 r hr).1, fun r hr n hn => ?_⟩
  have := (h5 r hr).2 n hn
  simp only [outb, Bool.not_eq_true', Bool.or_eq_false_iff, decide_eq_false_iff_not] at this
  omega
theorem laid_cnt {rows : List (List Int)} {c : Cs} (h : Laid rows c) (hy : layable rows = true) : cntS c.check = ownAll rows := by
  have hl := lyF_of hy
  rw [h.check]
  exact layL_cnt hl.wide.2 hl.len
end Cb
end Go.Proofs.YteekonojmpihlaaDoor
