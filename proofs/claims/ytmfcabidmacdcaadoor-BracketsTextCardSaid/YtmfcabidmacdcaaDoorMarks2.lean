/- The walks of package marks: New, Len, After. -/
import Derived.Test.YtmfcabidmacdcaaDoorMarks
import Derived.Laws.OwnMore
namespace Go.Proofs.YtmfcabidmacdcaaDoor
open Go Go.RowKit Kt
namespace Mk
variable {w w' : World} {p b n : Nat} {ws : List Nat}

theorem has_zero (c m : Nat) : has (List.replicate c 0) m = false := by
  unfold has
  rw [List.getD_eq_getElem?_getD, List.getElem?_replicate]
  split <;> simp

theorem shl_small {x s y : Nat} (hx : x < 18446744073709551616) (hy : x / 2 ^ s * 2 ^ s = y) : y < 18446744073709551616 ∧ IntKind.u64.wrap ((x : Int) / 2 ^ s * 2 ^ s) = (y : Int) := by
  have h1 : y ≤ x := by rw [← hy]; exact Nat.div_mul_le_self x (2 ^ s)
  have h2 : (x : Int) / 2 ^ s * 2 ^ s = ((x / 2 ^ s * 2 ^ s : Nat) : Int) := by rw [Int.natCast_mul, Int.natCast_ediv, Int.natCast_pow]; rfl
  rw [h2, hy, IntKind.wrap_u64]
  omega

end Mk
end Go.Proofs.YtmfcabidmacdcaaDoor
