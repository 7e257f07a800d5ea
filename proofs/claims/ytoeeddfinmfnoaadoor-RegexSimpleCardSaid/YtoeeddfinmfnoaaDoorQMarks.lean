import Derived.Test.YtoeeddfinmfnoaaDoorQSetsIs
import Derived.Test.YtoeeddfinmfnoaaDoorQBits
/- The walks of package marks. -/
namespace Go.Proofs.YtoeeddfinmfnoaaDoor
namespace Kt
end Kt
open Go Go.RowKit Kt
namespace Mk
variable {w w' : World} {p b n : Nat} {ws : List Nat}
theorem wrap_pow {t m : Nat} (ht : t < 64) (hm : 2 ^ t = m) : IntKind.u64.wrap ((2 : Int) ^ t) = (m : Int) := by
  have h1 : (2 : Nat) ^ t < 2 ^ 64 := Nat.pow_lt_pow_right (by decide) ht
  have h2 : ((2 : Int) ^ t) = ((2 ^ t : Nat) : Int) := by rw [Int.natCast_pow]; rfl
  rw [h2, hm, IntKind.wrap_u64]
  rw [hm] at h1
  omega
end Mk
end Go.Proofs.YtoeeddfinmfnoaaDoor
