import Derived.RangeFuncNested
import Derived.RangeFuncBound
import Derived.RangeFuncCalls
import Derived.RangeFuncLeaves
import Derived.RangeFuncBox
import Derived.Shelf.Abstract
import Derived.Shelf.RegionOpen
import Derived.OwnWalkIn
import Derived.TacticsInMore
import Derived.LoopNIn
import Derived.LoopIn
import Derived.Maps.AppendAt
import Derived.Test.YteekonojmpihlaaDoorQSetsIs
import Derived.WalkKit
import Derived.Test.YteekonojmpihlaaDoorQLib
import Derived.Test.YteekonojmpihlaaDoorQMapG
import Derived.Test.YteekonojmpihlaaDoorRows
import Derived.Laws.Bits64b
import Derived.Lib.TrailingZeros
import Derived.Laws.IdiomArrays
import Derived.OpenShut
/- The iterator of sets: (Set).all. Condition: the table of TrailingZeros64 reads as laid. -/
namespace Go.Proofs.YteekonojmpihlaaDoor
namespace Kt
end Kt
open Go Go.RowKit Go.Shelf Kt
namespace St
open Mk
attribute [local go_sem] Oper.semAt_some
def vals (ws : List Nat) : List Value := ws.map fun (x : Nat) => .int .u64 (x : Int)
/-- A set's value. -/
def sv (ws : List Nat) : Value := .agg (vals ws).toArray
end St
end Go.Proofs.YteekonojmpihlaaDoor

/- A set that came in. -/
namespace Go.Proofs.YteekonojmpihlaaDoor
open Go Go.RowKit Kt
namespace St
open Mk
theorem wf_u64 {n : Int} (h : (Lit.int .u64 n).wf = true) : ∃ c : Nat, n = (c : Int) ∧ c < 18446744073709551616 := by
  have h1 : 0 ≤ n ∧ n ≤ 18446744073709551615 := bounds_u64 h
  exact ⟨n.toNat, by omega, by omega⟩
end St
end Go.Proofs.YteekonojmpihlaaDoor
