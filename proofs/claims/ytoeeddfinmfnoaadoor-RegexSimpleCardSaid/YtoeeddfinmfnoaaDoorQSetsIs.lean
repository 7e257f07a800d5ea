import Derived.Test.YtoeeddfinmfnoaaDoorQBitsPure
import Derived.Lib.TrailingZeros
/- Plain law of chapter 02: sets of small numbers as words of bits. No program. -/
namespace Go.Proofs.YtoeeddfinmfnoaaDoor
namespace Mk
def has (ws : List Nat) (i : Nat) : Bool := (ws.getD (i / 64) 0).testBit (i % 64)
end Mk
end Go.Proofs.YtoeeddfinmfnoaaDoor

/- Plain law of chapter 01: a set of bytes as four words. No program. -/
namespace Go.Proofs.YtoeeddfinmfnoaaDoor
namespace St
open Mk
theorem has_word (ws : List Nat) (i t : Nat) (ht : t < 64) : has ws (64 * i + t) = (ws.getD i 0).testBit t := by
  unfold has
  rw [show (64 * i + t) / 64 = i by omega, show (64 * i + t) % 64 = t by omega]
end St
end Go.Proofs.YtoeeddfinmfnoaaDoor

/- Plain law of chapter 01: the spans of a list of bytes. No program. -/
namespace Go.Proofs.YtoeeddfinmfnoaaDoor
namespace St
/-- One more byte. -/
def step (acc : List (Nat × Nat)) (c : Nat) : List (Nat × Nat) :=
  match acc.getLast? with
  | some p => if p.2 + 1 = c then acc.dropLast ++ [(p.1, c)] else acc ++ [(c, c)]
  | none => [(c, c)]
def sps (l : List Nat) : List (Nat × Nat) := l.foldl step []
end St
end Go.Proofs.YtoeeddfinmfnoaaDoor

/- Plain law of chapter 01: a set by its bytes. No program. -/
namespace Go.Proofs.YtoeeddfinmfnoaaDoor
namespace St
open Mk
/-- Four words that hold the bytes f. -/
structure IsSet (rs : List Nat) (f : Nat → Bool) : Prop where
  len : rs.length = 4
  lt : ∀ x ∈ rs, x < 18446744073709551616
  at' : ∀ c, c < 256 → has rs c = f c
theorem four {ws : List Nat} (h : ws.length = 4) : ∃ a b c d, ws = [a, b, c, d] := by
  match ws, h with
  | [a, b, c, d], _ => exact ⟨a, b, c, d, rfl⟩
theorem word_eq {x y : Nat} (hx : x < 18446744073709551616) (hy : y < 18446744073709551616) (h : ∀ t, t < 64 → x.testBit t = y.testBit t) : x = y := by
  apply Nat.eq_of_testBit_eq
  intro t
  by_cases ht : t < 64
  · exact h t ht
  · have e : ∀ z, z < 18446744073709551616 → z.testBit t = false := fun z hz => Nat.testBit_lt_two_pow (Nat.lt_of_lt_of_le hz (Nat.pow_le_pow_right (n := 2) (by decide) (show 64 ≤ t by omega)))
    rw [e x hx, e y hy]
theorem IsSet.unique {rs ts : List Nat} {f : Nat → Bool} (h : IsSet rs f) (k : IsSet ts f) : rs = ts := by
  obtain ⟨a0, a1, a2, a3, rfl⟩ := four h.len
  obtain ⟨b0, b1, b2, b3, rfl⟩ := four k.len
  have hw : ∀ i, i < 4 → ([a0, a1, a2, a3] : List Nat).getD i 0 = [b0, b1, b2, b3].getD i 0 := by
    intro i hi
    refine word_eq ?_ ?_ fun t ht => ?_
    · rw [List.getD_eq_getElem?_getD, List.getElem?_eq_getElem (by simpa using hi)]
      exact h.lt _ (List.getElem_mem _)
    · rw [List.getD_eq_getElem?_getD, List.getElem?_eq_getElem (by simpa using hi)]
      exact k.lt _ (List.getElem_mem _)
    · rw [← has_word _ _ _ ht, ← has_word _ _ _ ht, h.at' _ (by omega), k.at' _ (by omega)]
  have e0 := hw 0 (by omega)
  have e1 := hw 1 (by omega)
  have e2 := hw 2 (by omega)
  have e3 := hw 3 (by omega)
  simp at e0 e1 e2 e3
  rw [e0, e1, e2, e3]
theorem isSet_self {ws : List Nat} (h : ws.length = 4) (hlt : ∀ x ∈ ws, x < 18446744073709551616) : IsSet ws (has ws) := ⟨h, hlt, fun _ _ => rfl⟩
/-- Four words, one by one. -/
theorem isSet_of {a0 a1 a2 a3 : Nat} {f : Nat → Bool} (hlt : ∀ x ∈ [a0, a1, a2, a3], x < 18446744073709551616) (h : ∀ i, i < 4 → ∀ t, t < 64 → ([a0, a1, a2, a3].getD i 0).testBit t = f (64 * i + t)) : IsSet [a0, a1, a2, a3] f := by
  refine ⟨rfl, hlt, fun c hc => ?_⟩
  have := h (c / 64) (by omega) (c % 64) (by omega)
  rw [show 64 * (c / 64) + c % 64 = c by omega] at this
  exact this
theorem or64 {a b : Nat} (ha : a < 18446744073709551616) (hb : b < 18446744073709551616) : a ||| b < 18446744073709551616 := Nat.or_lt_two_pow (n := 64) ha hb
/-- The word without another's bits. -/
def nt (x : Nat) : Nat := 18446744073709551615 ^^^ x
theorem nt_lt {x : Nat} (hx : x < 18446744073709551616) : nt x < 18446744073709551616 := Nat.xor_lt_two_pow (n := 64) (by decide) hx
theorem nt_bit (x t : Nat) (ht : t < 64) : (nt x).testBit t = !x.testBit t := by
  unfold nt
  rw [Nat.testBit_xor, show (18446744073709551615 : Nat) = 2 ^ 64 - 1 by rfl, Nat.testBit_two_pow_sub_one]
  have : decide (t < 64) = true := by simpa using ht
  rw [this]
  simp
/-- The bits of a word below a place. -/
def bl (m : Int) : Nat := if 64 ≤ m then 18446744073709551615 else 2 ^ m.toNat - 1
theorem bl_lt (m : Int) : bl m < 18446744073709551616 := by
  unfold bl
  split
  · decide
  · rename_i h
    have : 2 ^ m.toNat < 2 ^ 64 := Nat.pow_lt_pow_right (by decide) (by omega)
    omega
theorem bl_bit (m : Int) (t : Nat) (ht : t < 64) : (bl m).testBit t = decide ((t : Int) < m) := by
  unfold bl
  split
  · rename_i h
    rw [show (18446744073709551615 : Nat) = 2 ^ 64 - 1 by rfl, Nat.testBit_two_pow_sub_one]
    apply decide_eq_decide.2
    omega
  · rename_i h
    rw [Nat.testBit_two_pow_sub_one]
    apply decide_eq_decide.2
    omega
end St
end Go.Proofs.YtoeeddfinmfnoaaDoor
