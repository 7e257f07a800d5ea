/- Plain law of chapter 31, second part: dropping bytes, pushing many, two chains. No program. -/
import Derived.Test.YtpjimmdpcpcmoaaDoorQChnPure
namespace Go.Proofs.YtpjimmdpcpcmoaaDoor
namespace Ch
open Po
/-! ### Giving back -/
/-! ### Pushing many -/
/-- How many of k bytes are pushed behind n, and the error. -/
def psh (E : Nat → Int) : Nat → Nat → Nat × Int
  | _, 0 => (0, 0)
  | n, k + 1 => if E n = 0 then ((psh E (n + 1) k).1 + 1, (psh E (n + 1) k).2) else (0, E n)
theorem psh_fail {E : Nat → Int} : ∀ {k n j : Nat}, j < k → (∀ i, i < j → E (n + i) = 0) → E (n + j) ≠ 0 → psh E n k = (j, E (n + j))
  | 0, _, _, h, _, _ => absurd h (Nat.not_lt_zero _)
  | k + 1, n, 0, _, _, h3 => by
    rw [Nat.add_zero] at h3
    unfold psh
    rw [if_neg h3]
    rfl
  | k + 1, n, j + 1, h1, h2, h3 => by
    unfold psh
    rw [if_pos (by simpa using h2 0 (by omega)), psh_fail (k := k) (n := n + 1) (j := j) (by omega) (fun i hi => by rw [Nat.add_assoc, Nat.add_comm 1 i]; exact h2 (i + 1) (by omega)) (by rw [Nat.add_assoc, Nat.add_comm 1 j]; exact h3), Nat.add_assoc, Nat.add_comm 1 j]
theorem psh_all {E : Nat → Int} : ∀ {k n : Nat}, (∀ i, i < k → E (n + i) = 0) → psh E n k = (k, 0)
  | 0, _, _ => rfl
  | k + 1, n, h => by
    unfold psh
    rw [if_pos (by simpa using h 0 (by omega)), psh_all (k := k) (n := n + 1) (fun i hi => by rw [Nat.add_assoc, Nat.add_comm 1 i]; exact h (i + 1) (by omega))]
/-! ### Two accounts -/
end Ch
end Go.Proofs.YtpjimmdpcpcmoaaDoor
