/- The document's sets: dofferref01.Has, Of. -/
import Derived.Test.YtfkjijjmphbglaaDoorSets7
namespace Go.Proofs.YtfkjijjmphbglaaDoor
open Go Go.RowKit Kt
namespace St
open Mk
def bools (l : List Bool) : List Value := l.map .bool
theorem Rd.bool {w : World} {a : Option Addr} {l : List Bool} (h : Rd w a (bools l)) (i : Nat) (hi : i < l.length) : ∃ b off, a = some ⟨b, off, none⟩ ∧ w.cell? ⟨b, off + i, none⟩ = some (.bool l[i]) := Rd.map_at h i hi
theorem shift_word (x t m : Nat) (hx : x < 18446744073709551616) (hm : 2 ^ t = m) (v : Bool) (hv : x.testBit t = v) : (IntKind.u64.wrap ((x : Int) / (m : Int))).tmod 2 = if v then 1 else 0 := by
  have e0 : (x : Int) / (m : Int) = ((x / m : Nat) : Int) := (Int.natCast_ediv x m).symm
  have e1 : x / m < 18446744073709551616 := Nat.lt_of_le_of_lt (Nat.div_le_self _ _) hx
  rw [e0, IntKind.wrap_u64, tmod_of_emod]
  subst hm hv
  have h : (x / 2 ^ t).testBit 0 = x.testBit (0 + t) := Nat.testBit_div_two_pow x 0
  rw [Nat.testBit_zero, Nat.zero_add] at h
  rw [← h]
  generalize x / 2 ^ t = z at *
  by_cases hh : z % 2 = 1
  · simp only [hh, decide_true, if_true]
    omega
  · simp only [hh, decide_false, Bool.false_eq_true, if_false]
    omega

/-- A bit not yet set, added. -/
theorem add_bit {x t m : Nat} (hm : 2 ^ t = m) (h : ∀ s, t ≤ s → x.testBit s = false) : x + m = x ||| m := by
  subst hm
  have hx : x < 2 ^ t := Nat.lt_pow_two_of_testBit x fun s hs => h s hs
  have := Nat.two_pow_add_eq_or_of_lt hx 1
  rw [Nat.mul_one] at this
  rw [Nat.add_comm, this, Nat.or_comm]
/-- The loop of Of. -/
def RoR (w : World) (l : List Bool) (i : Value) (W : World) : Prop := ∃ (k : Nat) (rs : List Nat), k ≤ 256 ∧ i = .int .i64 (k : Int) ∧ IsSet rs (fun q => decide (q < k) && l.getD q false) ∧
  W.heap[w.heap.size]? = some (.cells #[.int .u64 0, .int .u64 0, .int .u64 0, .int .u64 0] 55 (0, 0)) ∧ W.heap[w.heap.size + 1]? = some (.cells (vals rs).toArray 55 (0, 0)) ∧ Below w.heap.size w W

end St
end Go.Proofs.YtfkjijjmphbglaaDoor
