/- Plain law of chapter 23: combs. No program. -/
import Derived.Test.YteekonojmpihlaaDoorQMod
namespace Go.Proofs.YteekonojmpihlaaDoor
namespace Kt
end Kt
open Go Go.RowKit Kt
namespace Cb
/-- A comb: its width, its four rows with their places. -/
structure Cs where
  wide : Int
  a1 : Option Addr
  base : List Int
  c1 : Nat
  a2 : Option Addr
  dflt : List Int
  c2 : Nat
  a3 : Option Addr
  next : List Int
  c3 : Nat
  a4 : Option Addr
  check : List Int
  c4 : Nat
def cells (c : Cs) : List Value := [.int .i64 c.wide, .slice c.a1 c.base.length c.c1, .slice c.a2 c.dflt.length c.c2, .slice c.a3 c.next.length c.c3, .slice c.a4 c.check.length c.c4]
def cv (c : Cs) : Value := .agg (cells c).toArray
/-- A number is not in 0 .. bound - 1. -/
def outb (n bound : Int) : Bool := decide (n < 0) || decide (bound ≤ n)
/-- A slot is right. -/
def slotOk (c : Cs) (i : Nat) : Bool :=
  if c.check.getD i 0 = -1 then decide (c.next.getD i 0 = 0)
  else !outb (c.check.getD i 0) c.base.length && (!outb ((i : Int) - c.base.getD (c.check.getD i 0).toNat 0) c.wide && !outb (c.next.getD i 0) c.base.length)
def baseOk (c : Cs) (i : Nat) : Bool := !outb (c.base.getD i 0) 65536 && !outb (c.dflt.getD i 0) c.base.length
/-- A comb is right. -/
def rightC (c : Cs) : Bool :=
  (decide (1 ≤ c.base.length) && decide (c.base.length ≤ 200) && decide (c.dflt.length = c.base.length) && decide (1 ≤ c.wide) && decide (c.wide ≤ 256) && decide (c.next.length = c.check.length) && decide (c.next.length ≤ 65536)) &&
  ((List.range c.base.length).all (baseOk c) && ((List.range c.check.length).all (slotOk c) && (decide (c.check.length = 0) || decide (c.check.getD (c.check.length - 1) 0 ≠ -1))))
/-- What is looked up in a right comb. -/
def atC (c : Cs) (row place : Nat) : Int :=
  let slot := (c.base.getD row 0 + place).toNat
  if slot < c.check.length ∧ c.check.getD slot 0 = row then c.next.getD slot 0 else c.dflt.getD row 0
/-- A comb in memory. -/
structure Is (W : World) (c : Cs) : Prop where
  r1 : Rd W c.a1 (i64s c.base)
  r2 : Rd W c.a2 (i64s c.dflt)
  r3 : Rd W c.a3 (i64s c.next)
  r4 : Rd W c.a4 (i64s c.check)
theorem Is.below {W W' : World} {c : Cs} (h : Is W c) (hb : Below W.heap.size W W') : Is W' c := ⟨h.r1.keep hb, h.r2.keep hb, h.r3.keep hb, h.r4.keep hb⟩
end Cb
end Go.Proofs.YteekonojmpihlaaDoor
