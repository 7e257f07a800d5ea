/- Plain law of chapter 02: sets of small numbers as words of bits. No program. -/
import Derived.WalkKit
import Derived.Lib.TrailingZeros
namespace Go.Proofs.YtpjimmdpcpcmoaaDoor
namespace Mk
def has (ws : List Nat) (i : Nat) : Bool := (ws.getD (i / 64) 0).testBit (i % 64)
def put (ws : List Nat) (i : Nat) : List Nat := ws.set (i / 64) (ws.getD (i / 64) 0 ||| 2 ^ (i % 64))
theorem has_put {ws : List Nat} {i : Nat} (h : i / 64 < ws.length) (j : Nat) : has (put ws i) j = (has ws j || decide (j = i)) := by
  unfold has put
  by_cases hk : i / 64 = j / 64
  · rw [List.getD_eq_getElem?_getD, hk, List.getElem?_set_self (by omega)]
    simp only [Option.getD_some, Nat.testBit_or, Nat.testBit_two_pow]
    congr 1
    apply decide_eq_decide.2
    omega
  · rw [List.getD_eq_getElem?_getD, List.getElem?_set_ne hk, ← List.getD_eq_getElem?_getD]
    have : decide (j = i) = false := by simp; omega
    rw [this, Bool.or_false]
theorem put_len (ws : List Nat) (i : Nat) : (put ws i).length = ws.length := by simp [put]
theorem put_has {ws : List Nat} {i : Nat} (h : has ws i = true) (hl : i / 64 < ws.length) : put ws i = ws := by
  have e : ws.getD (i / 64) 0 ||| 2 ^ (i % 64) = ws.getD (i / 64) 0 := by
    apply Nat.eq_of_testBit_eq
    intro j
    rw [Nat.testBit_or, Nat.testBit_two_pow]
    by_cases hj : i % 64 = j
    · subst hj
      have h' : (ws.getD (i / 64) 0).testBit (i % 64) = true := h
      rw [h']
      rfl
    · simp [hj]
  unfold put
  rw [e]
  apply List.ext_getElem?
  intro j
  by_cases hj : i / 64 = j
  · subst hj
    rw [List.getElem?_set_self hl, List.getD_eq_getElem?_getD, List.getElem?_eq_getElem hl]
    rfl
  · rw [List.getElem?_set_ne hj]
theorem or_lt {a : Nat} (ha : a < 18446744073709551616) {k : Nat} (hk : k < 64) : a ||| 2 ^ k < 18446744073709551616 := by
  have h1 : 2 ^ k < 2 ^ 64 := Nat.pow_lt_pow_right (by decide) hk
  exact Nat.or_lt_two_pow (n := 64) ha h1
theorem put_lt {ws : List Nat} (h : ∀ x ∈ ws, x < 18446744073709551616) (i : Nat) : ∀ x ∈ put ws i, x < 18446744073709551616 := by
  intro x hx
  unfold put at hx
  rcases List.mem_or_eq_of_mem_set hx with h1 | rfl
  · exact h x h1
  · apply or_lt _ (by omega)
    rw [List.getD_eq_getElem?_getD]
    cases hg : ws[i / 64]? with
    | none => simp
    | some y => exact h y (List.mem_of_getElem? hg)
/-- 'r' is the least number from j on, or -1. -/
def Nx (ws : List Nat) (j : Nat) (r : Int) : Prop :=
  (r = -1 ∧ ∀ m, j ≤ m → has ws m = false) ∨ ∃ m : Nat, r = (m : Int) ∧ j ≤ m ∧ m < 64 * ws.length ∧ has ws m = true ∧ ∀ q, j ≤ q → q < m → has ws q = false
theorem has_out {ws : List Nat} {m : Nat} (h : 64 * ws.length ≤ m) : has ws m = false := by
  unfold has
  rw [List.getD_eq_getElem?_getD, List.getElem?_eq_none (by omega)]
  simp
/-- A word's bits from s on. -/
theorem mask_bit (w s t : Nat) : (w / 2 ^ s * 2 ^ s).testBit t = (decide (s ≤ t) && w.testBit t) := by
  rw [Nat.testBit_mul_two_pow, Nat.testBit_div_two_pow]
  by_cases h : s ≤ t
  · rw [Nat.sub_add_cancel h]
  · simp [h]
theorem ctz_bits {V : Nat} (h0 : V ≠ 0) (hV : V < 18446744073709551616) : Lib.ctz 64 V < 64 ∧ V.testBit (Lib.ctz 64 V) = true ∧ ∀ t, t < Lib.ctz 64 V → V.testBit t = false := by
  obtain ⟨m, hm, hk⟩ := Lib.ctzFrom_spec 64 V (by omega) hV
  have e : Lib.ctz 64 V = Lib.ctzFrom 64 V := by simp [Lib.ctz, h0]
  rw [e]
  generalize Lib.ctzFrom 64 V = c at *
  refine ⟨hk, ?_, ?_⟩
  · rw [hm, Nat.mul_comm, Nat.testBit_mul_two_pow]
    simp
  · intro t ht
    rw [hm, Nat.mul_comm, Nat.testBit_mul_two_pow]
    have : ¬ c ≤ t := by omega
    simp [this]
/-- Found in the word k. -/
theorem nx_found {ws : List Nat} {j k : Nat} (hk : k < ws.length) (hj : j / 64 ≤ k) (hno : ∀ m, j ≤ m → m < 64 * k → has ws m = false) {V : Nat} (hV : V = if k = j / 64 then ws.getD k 0 / 2 ^ (j % 64) * 2 ^ (j % 64) else ws.getD k 0) (h0 : V ≠ 0) (hlt : V < 18446744073709551616) : Nx ws j (64 * (k : Int) + (Lib.ctz 64 V : Nat)) := by
  obtain ⟨h1, h2, h3⟩ := ctz_bits h0 hlt
  generalize Lib.ctz 64 V = c at *
  have hbit : ∀ t, t < 64 → V.testBit t = (decide (j ≤ 64 * k + t) && has ws (64 * k + t)) := by
    intro t ht
    have e1 : (64 * k + t) / 64 = k := by omega
    have e2 : (64 * k + t) % 64 = t := by omega
    unfold has
    rw [e1, e2, hV]
    by_cases hkj : k = j / 64
    · rw [if_pos hkj, mask_bit]
      congr 1
      apply decide_eq_decide.2
      omega
    · rw [if_neg hkj]
      have : decide (j ≤ 64 * k + t) = true := by simp; omega
      rw [this, Bool.true_and]
  rw [hbit c h1] at h2
  simp only [Bool.and_eq_true, decide_eq_true_eq] at h2
  refine .inr ⟨64 * k + c, by omega, h2.1, by omega, h2.2, ?_⟩
  intro q hq hqm
  by_cases hqk : q < 64 * k
  · exact hno q hq hqk
  · have h4 := h3 (q - 64 * k) (by omega)
    rw [hbit _ (by omega)] at h4
    have e3 : 64 * k + (q - 64 * k) = q := by omega
    rw [e3] at h4
    have : decide (j ≤ q) = true := by simpa using hq
    rw [this, Bool.true_and] at h4
    exact h4
/-- Not found in the word k: on to the next. -/
theorem nx_on {ws : List Nat} {j k : Nat} (_hj : j / 64 ≤ k) (hno : ∀ m, j ≤ m → m < 64 * k → has ws m = false) {V : Nat} (hV : V = if k = j / 64 then ws.getD k 0 / 2 ^ (j % 64) * 2 ^ (j % 64) else ws.getD k 0) (h0 : V = 0) : ∀ m, j ≤ m → m < 64 * (k + 1) → has ws m = false := by
  intro m hm hlt
  by_cases hk : m < 64 * k
  · exact hno m hm hk
  · have e1 : m / 64 = k := by omega
    unfold has
    rw [e1]
    by_cases hkj : k = j / 64
    · rw [if_pos hkj] at hV
      have := mask_bit (ws.getD k 0) (j % 64) (m % 64)
      rw [← hV, h0] at this
      simp only [Nat.zero_testBit] at this
      have h5 : decide (j % 64 ≤ m % 64) = true := by simp; omega
      rw [h5, Bool.true_and] at this
      exact this.symm
    · rw [if_neg hkj] at hV
      rw [← hV, h0]
      simp
end Mk
end Go.Proofs.YtpjimmdpcpcmoaaDoor
