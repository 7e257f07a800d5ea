import Derived.Test.YtoeeddfinmfnoaaDoorQTreePure
import Derived.Lib.Bytealg
/- Plain law of chapter 05: how bytes are spelled and read back. No program. -/
namespace Go.Proofs.YtoeeddfinmfnoaaDoor
namespace Kt
end Kt
open Go Go.RowKit Kt
namespace Sp
def figs : List UInt8 := [48, 49, 50, 51, 52, 53, 54, 55, 56, 57, 97, 98, 99, 100, 101, 102]
def ins : List UInt8 := [91, 93, 94, 45, 92, 47]
/-- How a byte is spelled. -/
def sp (no : List UInt8) (c : UInt8) : List UInt8 :=
  if c = 10 then [92, 110] else if c = 9 then [92, 116] else if c = 13 then [92, 114] else if c = 32 then [92, 115]
  else if c.toNat < 33 ∨ 126 < c.toNat then [92, 120, figs.getD (c.toNat / 16) 0, figs.getD (c.toNat % 16) 0]
  else if no.contains c then [92, c] else [c]
/-- A figure's number. -/
def fig (c : UInt8) : Int :=
  if 48 ≤ c.toNat ∧ c.toNat ≤ 57 then (c.toNat : Int) - 48 else if 97 ≤ c.toNat ∧ c.toNat ≤ 102 then (c.toNat : Int) - 87 else if 65 ≤ c.toNat ∧ c.toNat ≤ 70 then (c.toNat : Int) - 55 else -1
def mark (c : UInt8) : Bool := decide (33 ≤ c.toNat) && decide (c.toNat ≤ 47) || decide (58 ≤ c.toNat) && decide (c.toNat ≤ 64) || decide (91 ≤ c.toNat) && decide (c.toNat ≤ 96) || decide (123 ≤ c.toNat) && decide (c.toNat ≤ 126)
/-- What is spelled at a place of a text of n bytes, 't' being what stands there: the byte, the place behind (or of the fault), the error's number. -/
def rdt (n i : Nat) : List UInt8 → Int × Nat × Nat
  | [] => (0, n, 2)
  | c :: t => if c ≠ 92 then (c.toNat, i + 1, 0) else match t with
    | [] => (0, n, 2)
    | d :: u => if d = 110 then (10, i + 2, 0) else if d = 116 then (9, i + 2, 0) else if d = 114 then (13, i + 2, 0) else if d = 115 then (32, i + 2, 0)
      else if d = 120 then (match u with
        | [] => (0, n, 2)
        | x :: v => if fig x < 0 then (0, i + 2, 4) else match v with
          | [] => (0, n, 2)
          | y :: _ => if fig y < 0 then (0, i + 3, 4) else (16 * fig x + fig y, i + 4, 0))
      else if mark d then (d.toNat, i + 2, 0) else (0, i + 1, 4)
def rd (s : List UInt8) (i : Nat) : Int × Nat × Nat := rdt s.length i (s.drop i)

/-- A fact on all bytes, by trying them. -/
theorem all_bytes {p : UInt8 → Bool} (h : ((List.range 256).all fun n => p (UInt8.ofNat n)) = true) (c : UInt8) : p c = true := by
  have := List.all_eq_true.1 h c.toNat (by have := c.toNat_lt; simp; omega)
  simpa using this
theorem fig_le (c : UInt8) : -1 ≤ fig c ∧ fig c ≤ 15 := by unfold fig; have := c.toNat_lt; split <;> (try split) <;> (try split) <;> omega
/-- What the code does for a figure. -/
theorem fig_code (c : UInt8) : Lib.indexByte figs (if 65 ≤ c.toNat ∧ c.toNat ≤ 70 then c + 32 else c) = fig c := by
  have := all_bytes (p := fun c => Lib.indexByte figs (if 65 ≤ c.toNat ∧ c.toNat ≤ 70 then c + 32 else c) == fig c) (by decide +kernel) c
  simpa using this
theorem names_code (c : UInt8) : Lib.indexByte [110, 116, 114, 115] c = if c = 110 then 0 else if c = 116 then 1 else if c = 114 then 2 else if c = 115 then 3 else -1 := by
  have := all_bytes (p := fun c => Lib.indexByte [110, 116, 114, 115] c == if c = 110 then 0 else if c = 116 then 1 else if c = 114 then 2 else if c = 115 then 3 else -1) (by decide +kernel) c
  simpa using this
theorem no_code (l : List UInt8) (c : UInt8) : decide (0 ≤ Lib.indexByte l c) = l.contains c := by
  induction l with
  | nil => rfl
  | cons x l ih =>
    unfold Lib.indexByte
    have hg := Lib.indexByte_ge l c
    by_cases hx : x = c
    · subst hx; simp
    · have h1 : (x == c) = false := by simpa using hx
      have h2 : (c == x) = false := by simpa using fun h : c = x => hx h.symm
      rw [h1, List.contains_cons, h2, Bool.false_or, ← ih]
      simp only [Bool.false_eq_true, if_false]
      by_cases hm : Lib.indexByte l c = -1
      · simp [hm]
      · have h3 : (Lib.indexByte l c == -1) = false := by simpa using hm
        rw [h3]
        simp only [Bool.false_eq_true, if_false, decide_eq_decide]
        omega
end Sp
end Go.Proofs.YtoeeddfinmfnoaaDoor
