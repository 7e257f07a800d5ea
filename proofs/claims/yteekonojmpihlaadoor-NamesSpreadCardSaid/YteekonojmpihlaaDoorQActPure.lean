import Derived.Test.YteekonojmpihlaaDoorQLib
/- Plain law of chapter 12: names, words, and what they say. No program. -/
namespace Go.Proofs.YteekonojmpihlaaDoor
namespace Kt
end Kt
open Go Go.RowKit Kt
namespace Ac
def isLet (c : UInt8) : Bool := decide (97 ≤ c.toNat) && decide (c.toNat ≤ 122)
def isDig (c : UInt8) : Bool := decide (48 ≤ c.toNat) && decide (c.toNat ≤ 57)
/-- A name's byte at a place. -/
def nmAt (i : Nat) (c : UInt8) : Bool := isLet c || (decide (0 < i) && isDig c)
def nmAll : Nat → List UInt8 → Bool
  | _, [] => true
  | i, c :: l => nmAt i c && nmAll (i + 1) l
/-- A right name. -/
def nm (l : List UInt8) : Bool := nmAll 0 l && (decide (l ≠ []) && decide (l.length ≤ 12))
end Ac
end Go.Proofs.YteekonojmpihlaaDoor
