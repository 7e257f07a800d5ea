import Derived.Test.YtpjimmdpcpcmoaaDoorQPoolTake2
import Derived.Test.YtpjimmdpcpcmoaaDoorQPoolNew
import Derived.Test.YtpjimmdpcpcmoaaDoorQPoolGive2
import Derived.Test.YtpjimmdpcpcmoaaDoorQPoolAcc
import Derived.Test.YtpjimmdpcpcmoaaDoorQPoolPure
import Derived.Test.YtpjimmdpcpcmoaaDoorQMapP
/- The law PoolKeeps' state. -/
namespace Go.Proofs.YtpjimmdpcpcmoaaDoor
open Go Go.RowKit Kt
namespace Po
variable {w W W' : World} {p z n : Nat} {m m' : Md} {l l' : List (Int × Int)} {own own' : List Int} {L L' : List Nat}
theorem low (i : Int) (k : Int) (h0 : 0 < k) (h1 : k ≤ 1000) : ∃ L : Nat, wrap64 ((IntKind.u64.wrap i).tmod k) = (L : Int) ∧ (L : Int) < k := by
  have h2 : 0 ≤ IntKind.u64.wrap i := wrap_u64_nonneg i
  have h3 := Int.emod_nonneg (IntKind.u64.wrap i) (show k ≠ 0 by omega)
  have h4 := Int.emod_lt_of_pos (IntKind.u64.wrap i) h0
  refine ⟨((IntKind.u64.wrap i) % k).toNat, ?_, by omega⟩
  rw [Int.tmod_eq_emod_of_nonneg h2, show wrap64 (IntKind.u64.wrap i % k) = IntKind.u64.wrap i % k by unfold wrap64; omega]
  omega
end Po
end Go.Proofs.YtpjimmdpcpcmoaaDoor
