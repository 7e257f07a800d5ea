import Derived.WalkKit
import Derived.Lib.TrailingZeros
/- Plain law of chapter 02: sets of small numbers as words of bits. No program. -/
namespace Go.Proofs.YteekonojmpihlaaDoor
namespace Mk
def has (ws : List Nat) (i : Nat) : Bool := (ws.getD (i / 64) 0).testBit (i % 64)
end Mk
end Go.Proofs.YteekonojmpihlaaDoor

/- Plain law of chapter 01: a set by its bytes. No program. -/
namespace Go.Proofs.YteekonojmpihlaaDoor
namespace St
open Mk
/-- Four words that hold the bytes f. -/
structure IsSet (rs : List Nat) (f : Nat → Bool) : Prop where
  len : rs.length = 4
  lt : ∀ x ∈ rs, x < 18446744073709551616
  at' : ∀ c, c < 256 → has rs c = f c
theorem four {ws : List Nat} (h : ws.length = 4) : ∃ a b c d, ws = [a, b, c, d] := by
  match ws, h with
  | [a, b, c, d], _ => exact ⟨a, b, c, d, rfl⟩
theorem isSet_self {ws : List Nat} (h : ws.length = 4) (hlt : ∀ x ∈ ws, x < 18446744073709551616) : IsSet ws (has ws) := ⟨h, hlt, fun _ _ => rfl⟩
end St
end Go.Proofs.YteekonojmpihlaaDoor
