/- Plain law of chapter 02: sets of small numbers as words of bits. No program. -/
import Derived.Test.YteekonojmpihlaaDoorQBitsPure
import Derived.Lib.TrailingZeros
namespace Go.Proofs.YteekonojmpihlaaDoor
namespace Mk
def has (ws : List Nat) (i : Nat) : Bool := (ws.getD (i / 64) 0).testBit (i % 64)
/-- A word's bits from s on. -/
theorem mask_bit (w s t : Nat) : (w / 2 ^ s * 2 ^ s).testBit t = (decide (s ≤ t) && w.testBit t) := by
  rw [Nat.testBit_mul_two_pow, Nat.testBit_div_two_pow]
  by_cases h : s ≤ t
  · rw [Nat.sub_add_cancel h]
  · simp [h]
theorem ctz_bits {V : Nat} (h0 : V ≠ 0) (hV : V < 18446744073709551616) : Lib.ctz 64 V < 64 ∧ V.testBit (Lib.ctz 64 V) = true ∧ ∀ t, t < Lib.ctz 64 V → V.testBit t = false := by
  obtain ⟨m, hm, hk⟩ := Lib.ctzFrom_spec 64 V (by omega) hV
  have e : Lib.ctz 64 V = Lib.ctzFrom 64 V := by simp [Lib.ctz, h0]
  rw [e]
  generalize Lib.ctzFrom 64 V = c at *
  refine ⟨hk, ?_, ?_⟩
  · rw [hm, Nat.mul_comm, Nat.testBit_mul_two_pow]
    simp
  · intro t ht
    rw [hm, Nat.mul_comm, Nat.testBit_mul_two_pow]
    have : ¬ c ≤ t := by omega
    simp [this]
/-- All numbers that are in. -/
def all (ws : List Nat) : List Nat := (List.range (64 * ws.length)).filter (has ws)
theorem filter_none {p : Nat → Bool} (j d : Nat) (h : ∀ q, j ≤ q → q < j + d → p q = false) : (List.range (j + d)).filter p = (List.range j).filter p := by
  induction d with
  | zero => rfl
  | succ d ih =>
    rw [← Nat.add_assoc, List.range_succ, List.filter_append, ih (fun q h1 h2 => h q h1 (by omega)), List.filter_cons, h (j + d) (by omega) (by omega)]
    simp
theorem filter_next {p : Nat → Bool} {j m : Nat} (hj : j ≤ m) (hm : p m = true) (h : ∀ q, j ≤ q → q < m → p q = false) : (List.range (m + 1)).filter p = (List.range j).filter p ++ [m] := by
  obtain ⟨d, rfl⟩ : ∃ d, m = j + d := ⟨m - j, by omega⟩
  rw [List.range_succ, List.filter_append, filter_none j d h, List.filter_cons, hm]
  simp
theorem all_lt {ws : List Nat} {x : Nat} (h : x ∈ all ws) : x < 64 * ws.length := by
  unfold all at h
  have := (List.mem_filter.1 h).1
  simpa using this
/-- How many are in. -/
def cnt (ws : List Nat) : Nat := (ws.map (Bt.pc 64)).sum
theorem cnt_all (ws : List Nat) : cnt ws = (all ws).length := by
  have key : ∀ k, k ≤ ws.length → ((ws.take k).map (Bt.pc 64)).sum = ((List.range (64 * k)).filter (has ws)).length := by
    intro k
    induction k with
    | zero => intro _; rfl
    | succ k ih =>
      intro hk
      have e : ws.take (k + 1) = ws.take k ++ [ws[k]'(by omega)] := (List.take_append_getElem (by omega)).symm
      have hx : ws.getD k 0 = ws[k]'(by omega) := by rw [List.getD_eq_getElem?_getD, List.getElem?_eq_getElem (by omega)]; rfl
      have e4 : Bt.pc 64 (ws[k]'(by omega)) = ((List.map (fun t => 64 * k + t) (List.range 64)).filter (has ws)).length := by
        rw [Bt.pc_filter, List.filter_map, List.length_map, ← hx]
        have : (List.range 64).filter (fun j => (ws.getD k 0).testBit j) = (List.range 64).filter (has ws ∘ fun t => 64 * k + t) := by
          apply List.filter_congr
          intro t ht
          have ht' : t < 64 := List.mem_range.1 ht
          have e1 : (64 * k + t) / 64 = k := by omega
          have e2 : (64 * k + t) % 64 = t := by omega
          simp only [Function.comp, has, e1, e2]
        rw [this]
      rw [e, List.map_append, List.sum_append, ih (by omega), show 64 * (k + 1) = 64 * k + 64 by omega, List.range_add, List.filter_append, List.length_append, ← e4]
      simp only [List.map_cons, List.map_nil, List.sum_cons, List.sum_nil, Nat.add_zero]
  have := key ws.length (Nat.le_refl _)
  rw [List.take_length] at this
  exact this
end Mk
end Go.Proofs.YteekonojmpihlaaDoor
