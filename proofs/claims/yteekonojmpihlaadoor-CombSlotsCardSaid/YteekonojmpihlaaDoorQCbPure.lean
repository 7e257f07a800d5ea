/- Plain law of chapter 23: combs. No program. -/
import Derived.Test.YteekonojmpihlaaDoorQMod
namespace Go.Proofs.YteekonojmpihlaaDoor
namespace Kt
end Kt
open Go Go.RowKit Kt
namespace Cb
/-- A comb: its width, its four rows with their places. -/
structure Cs where
  wide : Int
  a1 : Option Addr
  base : List Int
  c1 : Nat
  a2 : Option Addr
  dflt : List Int
  c2 : Nat
  a3 : Option Addr
  next : List Int
  c3 : Nat
  a4 : Option Addr
  check : List Int
  c4 : Nat
def cells (c : Cs) : List Value := [.int .i64 c.wide, .slice c.a1 c.base.length c.c1, .slice c.a2 c.dflt.length c.c2, .slice c.a3 c.next.length c.c3, .slice c.a4 c.check.length c.c4]
def cv (c : Cs) : Value := .agg (cells c).toArray
/-- A number is not in 0 .. bound - 1. -/
def outb (n bound : Int) : Bool := decide (n < 0) || decide (bound ≤ n)
/-- A comb in memory. -/
structure Is (W : World) (c : Cs) : Prop where
  r1 : Rd W c.a1 (i64s c.base)
  r2 : Rd W c.a2 (i64s c.dflt)
  r3 : Rd W c.a3 (i64s c.next)
  r4 : Rd W c.a4 (i64s c.check)
end Cb
end Go.Proofs.YteekonojmpihlaaDoor
