/- The walks of package marks. -/
import Derived.Test.YtmfcabidmacdcaaDoorMarksPure
import Derived.Test.YtmfcabidmacdcaaDoorBits
namespace Go.Proofs.YtmfcabidmacdcaaDoor
open Go Go.RowKit Kt
namespace Mk
def vals (ws : List Nat) : List Value := ws.map fun (x : Nat) => .int .u64 (x : Int)

variable {w w' : World} {p b n : Nat} {ws : List Nat}

theorem wrap_pow {t m : Nat} (ht : t < 64) (hm : 2 ^ t = m) : IntKind.u64.wrap ((2 : Int) ^ t) = (m : Int) := by
  have h1 : (2 : Nat) ^ t < 2 ^ 64 := Nat.pow_lt_pow_right (by decide) ht
  have h2 : ((2 : Int) ^ t) = ((2 ^ t : Nat) : Int) := by rw [Int.natCast_pow]; rfl
  rw [h2, hm, IntKind.wrap_u64]
  rw [hm] at h1
  omega
theorem and_pow {a t m : Nat} (hm : 2 ^ t = m) : a &&& m = if a.testBit t then m else 0 := by
  subst hm
  apply Nat.eq_of_testBit_eq
  intro j
  rw [Nat.testBit_and, Nat.testBit_two_pow]
  by_cases hj : t = j
  · subst hj
    cases h : a.testBit t <;> simp
  · cases h : a.testBit t <;> simp [hj]

end Mk
end Go.Proofs.YtmfcabidmacdcaaDoor
