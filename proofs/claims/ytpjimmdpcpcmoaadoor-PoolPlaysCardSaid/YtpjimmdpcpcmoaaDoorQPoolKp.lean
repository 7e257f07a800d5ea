/- The law PoolKeeps' state. -/
import Derived.Test.YtpjimmdpcpcmoaaDoorQPoolAlive
import Derived.Test.YtpjimmdpcpcmoaaDoorQPoolGive2
import Derived.Test.YtpjimmdpcpcmoaaDoorQPoolAcc
import Derived.Test.YtpjimmdpcpcmoaaDoorQPoolPure
import Derived.Test.YtpjimmdpcpcmoaaDoorQMapP
namespace Go.Proofs.YtpjimmdpcpcmoaaDoor
open Go Go.RowKit Kt
namespace Po
variable {w W W' : World} {p z n : Nat} {m m' : Md} {l l' : List (Int × Int)} {own own' : List Int} {L L' : List Nat}
/-- An act's five cells. -/
structure AcT where
  k : Int
  n : Int
  m : Int
  at' : Int
  c : UInt8
instance : Inhabited AcT := ⟨⟨0, 0, 0, 0, 0⟩⟩
def ac5 (a : AcT) : List Value := [.int .i64 a.k, .int .i64 a.n, .int .i64 a.m, .int .i64 a.at', .int .u8 (a.c.toNat : Int)]
end Po
end Go.Proofs.YtpjimmdpcpcmoaaDoor
