/- Plain law of chapter 01: a set of bytes as four words. No program. -/
import Derived.Test.YteekonojmpihlaaDoorQMarksPure
namespace Go.Proofs.YteekonojmpihlaaDoor
namespace St
open Mk
/-- What comes before place t of word i. -/
def El (ws : List Nat) (i t : Nat) : List Nat := (List.range (64 * i + t)).filter (has ws)
theorem el_next_word (ws : List Nat) (i : Nat) : El ws i 64 = El ws (i + 1) 0 := by
  unfold El
  rw [show 64 * i + 64 = 64 * (i + 1) + 0 by omega]
theorem has_word (ws : List Nat) (i t : Nat) (ht : t < 64) : has ws (64 * i + t) = (ws.getD i 0).testBit t := by
  unfold has
  rw [show (64 * i + t) / 64 = i by omega, show (64 * i + t) % 64 = t by omega]
theorem el_done {ws : List Nat} {i t : Nat} (ht : t ≤ 64) (h : ws.getD i 0 / 2 ^ t * 2 ^ t = 0) : El ws i t = El ws i 64 := by
  unfold El
  obtain ⟨d, hd⟩ : ∃ d, 64 = t + d := ⟨64 - t, by omega⟩
  rw [show 64 * i + 64 = (64 * i + t) + d by omega]
  refine (filter_none _ _ fun q h1 h2 => ?_).symm
  obtain ⟨s, rfl⟩ : ∃ s, q = 64 * i + s := ⟨q - 64 * i, by omega⟩
  rw [has_word _ _ _ (by omega)]
  have := mask_bit (ws.getD i 0) t s
  rw [h] at this
  have h5 : decide (t ≤ s) = true := by simp; omega
  rw [h5, Bool.true_and] at this
  rw [← this]
  simp
/-- The lowest bit of a word taken away. -/
theorem clear_low {x t v : Nat} (hv : x / 2 ^ t * 2 ^ t = v) (h0 : v ≠ 0) (hv64 : v < 18446744073709551616) : Lib.ctz 64 v < 64 ∧ t ≤ Lib.ctz 64 v ∧ x.testBit (Lib.ctz 64 v) = true ∧ (∀ s, t ≤ s → s < Lib.ctz 64 v → x.testBit s = false) ∧ v &&& (v - 1) = x / 2 ^ (Lib.ctz 64 v + 1) * 2 ^ (Lib.ctz 64 v + 1) := by
  obtain ⟨h1, h2, h3⟩ := ctz_bits h0 hv64
  obtain ⟨m, hm, _⟩ := Lib.ctzFrom_spec 64 v (by omega) hv64
  have e : Lib.ctz 64 v = Lib.ctzFrom 64 v := by simp [Lib.ctz, h0]
  rw [← e] at hm
  generalize Lib.ctz 64 v = c at *
  have hbit : ∀ s, v.testBit s = (decide (t ≤ s) && x.testBit s) := fun s => by rw [← hv]; exact mask_bit x t s
  rw [hbit] at h2
  simp only [Bool.and_eq_true, decide_eq_true_eq] at h2
  refine ⟨h1, h2.1, h2.2, fun s hs1 hs2 => ?_, ?_⟩
  · have := h3 s hs2
    rw [hbit] at this
    have h5 : decide (t ≤ s) = true := by simpa using hs1
    rwa [h5, Bool.true_and] at this
  · apply Nat.eq_of_testBit_eq
    intro j
    rw [Nat.testBit_and, mask_bit, hbit j]
    have hp : 0 < 2 ^ c := Nat.pow_pos (by decide)
    have hm1 : v - 1 = 2 ^ c * (2 * m) + (2 ^ c - 1) := by rw [hm, Nat.mul_add]; omega
    have hj : (v - 1).testBit j = if j < c then true else (2 * m).testBit (j - c) := by
      rw [hm1, Nat.testBit_two_pow_mul_add _ (by omega)]
      split
      · rename_i hjc
        rw [Nat.testBit_two_pow_sub_one]
        simpa using hjc
      · rfl
    rw [hj]
    by_cases hjc : j < c
    · rw [if_pos hjc, Bool.and_true]
      have h4 := h3 j hjc
      rw [hbit] at h4
      rw [h4]
      have : decide (c + 1 ≤ j) = false := by simp; omega
      rw [this, Bool.false_and]
    · rw [if_neg hjc]
      by_cases hje : j = c
      · subst hje
        simp
        intro h
        omega
      · have hv2 : v.testBit j = (2 * m + 1).testBit (j - c) := by
          rw [hm, Nat.mul_comm, Nat.testBit_mul_two_pow]
          have : decide (c ≤ j) = true := by simp; omega
          rw [this, Bool.true_and]
        obtain ⟨q, hq⟩ : ∃ q, j - c = q + 1 := ⟨j - c - 1, by omega⟩
        rw [hbit] at hv2
        rw [hq] at hv2 ⊢
        rw [Nat.testBit_succ] at hv2 ⊢
        rw [show (2 * m + 1) / 2 = m by omega] at hv2
        rw [show 2 * m / 2 = m by omega, ← hv2]
        have h6 : decide (t ≤ j) = true := by simp; omega
        have h7 : decide (c + 1 ≤ j) = true := by simp; omega
        rw [h6, h7]
        simp
theorem el_step {ws : List Nat} {i t v : Nat} (hv : ws.getD i 0 / 2 ^ t * 2 ^ t = v) (h0 : v ≠ 0) (hv64 : v < 18446744073709551616) : Lib.ctz 64 v < 64 ∧ El ws i (Lib.ctz 64 v + 1) = El ws i t ++ [64 * i + Lib.ctz 64 v] ∧ ws.getD i 0 / 2 ^ (Lib.ctz 64 v + 1) * 2 ^ (Lib.ctz 64 v + 1) = v &&& (v - 1) := by
  obtain ⟨h1, h2, h3, h4, h5⟩ := clear_low hv h0 hv64
  generalize Lib.ctz 64 v = c at *
  refine ⟨h1, ?_, h5.symm⟩
  unfold El
  rw [← Nat.add_assoc]
  refine filter_next (by omega) (by rw [has_word _ _ _ h1]; exact h3) fun q hq1 hq2 => ?_
  obtain ⟨s, rfl⟩ : ∃ s, q = 64 * i + s := ⟨q - 64 * i, by omega⟩
  rw [has_word _ _ _ (by omega)]
  exact h4 s (by omega) (by omega)
theorem and_lt {v : Nat} (h0 : v ≠ 0) : v &&& (v - 1) < v := Nat.lt_of_le_of_lt Nat.and_le_right (by omega)
theorem el_zero (ws : List Nat) : El ws 0 0 = [] := rfl
theorem el_all {ws : List Nat} (h : ws.length = 4) : El ws 4 0 = all ws := by
  unfold El all
  rw [h]
theorem el_prefix {ws : List Nat} (h : ws.length = 4) (i t : Nat) (hi : 64 * i + t ≤ 256) : El ws i t <+: all ws := by
  unfold El all
  rw [h]
  obtain ⟨m, hm⟩ : ∃ m, 64 * i + t = m := ⟨_, rfl⟩
  rw [hm] at hi ⊢
  obtain ⟨d, hd⟩ : ∃ d, 64 * 4 = m + d := ⟨256 - m, by omega⟩
  rw [hd, List.range_add, List.filter_append]
  exact List.prefix_append _ _
end St
end Go.Proofs.YteekonojmpihlaaDoor
