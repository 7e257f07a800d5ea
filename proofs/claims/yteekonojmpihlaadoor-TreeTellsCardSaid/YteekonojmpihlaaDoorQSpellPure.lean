import Derived.Test.YteekonojmpihlaaDoorQTreePure
import Derived.Lib.Bytealg
/- Plain law of chapter 05: how bytes are spelled and read back. No program. -/
namespace Go.Proofs.YteekonojmpihlaaDoor
open Go Go.RowKit Kt
namespace Sp
def figs : List UInt8 := [48, 49, 50, 51, 52, 53, 54, 55, 56, 57, 97, 98, 99, 100, 101, 102]
def outs : List UInt8 := [124, 42, 43, 63, 40, 41, 91, 93, 123, 125, 46, 92, 47]
def ins : List UInt8 := [91, 93, 94, 45, 92, 47]
/-- How a byte is spelled. -/
def sp (no : List UInt8) (c : UInt8) : List UInt8 :=
  if c = 10 then [92, 110] else if c = 9 then [92, 116] else if c = 13 then [92, 114] else if c = 32 then [92, 115]
  else if c.toNat < 33 ∨ 126 < c.toNat then [92, 120, figs.getD (c.toNat / 16) 0, figs.getD (c.toNat % 16) 0]
  else if no.contains c then [92, c] else [c]
/-- A fact on all bytes, by trying them. -/
theorem all_bytes {p : UInt8 → Bool} (h : ((List.range 256).all fun n => p (UInt8.ofNat n)) = true) (c : UInt8) : p c = true := by
  have := List.all_eq_true.1 h c.toNat (by have := c.toNat_lt; simp; omega)
  simpa using this
theorem sp_len (c : UInt8) : (sp outs c).length ≤ 4 ∧ 1 ≤ (sp outs c).length ∧ (sp ins c).length ≤ 4 ∧ 1 ≤ (sp ins c).length := by
  have := all_bytes (p := fun c => decide ((sp outs c).length ≤ 4 ∧ 1 ≤ (sp outs c).length ∧ (sp ins c).length ≤ 4 ∧ 1 ≤ (sp ins c).length)) (by decide +kernel) c
  simpa using this
theorem named_code (c : UInt8) : Lib.indexByte [10, 9, 13, 32] c = if c = 10 then 0 else if c = 9 then 1 else if c = 13 then 2 else if c = 32 then 3 else -1 := by
  have := all_bytes (p := fun c => Lib.indexByte [10, 9, 13, 32] c == if c = 10 then 0 else if c = 9 then 1 else if c = 13 then 2 else if c = 32 then 3 else -1) (by decide +kernel) c
  simpa using this
theorem no_code (l : List UInt8) (c : UInt8) : decide (0 ≤ Lib.indexByte l c) = l.contains c := by
  induction l with
  | nil => rfl
  | cons x l ih =>
    unfold Lib.indexByte
    have hg := Lib.indexByte_ge l c
    by_cases hx : x = c
    · subst hx; simp
    · have h1 : (x == c) = false := by simpa using hx
      have h2 : (c == x) = false := by simpa using fun h : c = x => hx h.symm
      rw [h1, List.contains_cons, h2, Bool.false_or, ← ih]
      simp only [Bool.false_eq_true, if_false]
      by_cases hm : Lib.indexByte l c = -1
      · simp [hm]
      · have h3 : (Lib.indexByte l c == -1) = false := by simpa using hm
        rw [h3]
        simp only [Bool.false_eq_true, if_false, decide_eq_decide]
        omega
end Sp
end Go.Proofs.YteekonojmpihlaaDoor
