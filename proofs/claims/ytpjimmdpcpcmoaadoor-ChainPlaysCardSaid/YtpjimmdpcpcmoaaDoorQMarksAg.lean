import Derived.WalkKit
import Derived.Lib.TrailingZeros
/- Plain law of chapter 02: sets of small numbers as words of bits. No program. -/
namespace Go.Proofs.YtpjimmdpcpcmoaaDoor
namespace Mk
def has (ws : List Nat) (i : Nat) : Bool := (ws.getD (i / 64) 0).testBit (i % 64)
def put (ws : List Nat) (i : Nat) : List Nat := ws.set (i / 64) (ws.getD (i / 64) 0 ||| 2 ^ (i % 64))
theorem has_put {ws : List Nat} {i : Nat} (h : i / 64 < ws.length) (j : Nat) : has (put ws i) j = (has ws j || decide (j = i)) := by
  unfold has put
  by_cases hk : i / 64 = j / 64
  · rw [List.getD_eq_getElem?_getD, hk, List.getElem?_set_self (by omega)]
    simp only [Option.getD_some, Nat.testBit_or, Nat.testBit_two_pow]
    congr 1
    apply decide_eq_decide.2
    omega
  · rw [List.getD_eq_getElem?_getD, List.getElem?_set_ne hk, ← List.getD_eq_getElem?_getD]
    have : decide (j = i) = false := by simp; omega
    rw [this, Bool.or_false]
theorem put_len (ws : List Nat) (i : Nat) : (put ws i).length = ws.length := by simp [put]
theorem put_has {ws : List Nat} {i : Nat} (h : has ws i = true) (hl : i / 64 < ws.length) : put ws i = ws := by
  have e : ws.getD (i / 64) 0 ||| 2 ^ (i % 64) = ws.getD (i / 64) 0 := by
    apply Nat.eq_of_testBit_eq
    intro j
    rw [Nat.testBit_or, Nat.testBit_two_pow]
    by_cases hj : i % 64 = j
    · subst hj
      have h' : (ws.getD (i / 64) 0).testBit (i % 64) = true := h
      rw [h']
      rfl
    · simp [hj]
  unfold put
  rw [e]
  apply List.ext_getElem?
  intro j
  by_cases hj : i / 64 = j
  · subst hj
    rw [List.getElem?_set_self hl, List.getD_eq_getElem?_getD, List.getElem?_eq_getElem hl]
    rfl
  · rw [List.getElem?_set_ne hj]
theorem or_lt {a : Nat} (ha : a < 18446744073709551616) {k : Nat} (hk : k < 64) : a ||| 2 ^ k < 18446744073709551616 := by
  have h1 : 2 ^ k < 2 ^ 64 := Nat.pow_lt_pow_right (by decide) hk
  exact Nat.or_lt_two_pow (n := 64) ha h1
theorem put_lt {ws : List Nat} (h : ∀ x ∈ ws, x < 18446744073709551616) (i : Nat) : ∀ x ∈ put ws i, x < 18446744073709551616 := by
  intro x hx
  unfold put at hx
  rcases List.mem_or_eq_of_mem_set hx with h1 | rfl
  · exact h x h1
  · apply or_lt _ (by omega)
    rw [List.getD_eq_getElem?_getD]
    cases hg : ws[i / 64]? with
    | none => simp
    | some y => exact h y (List.mem_of_getElem? hg)
/-- 'r' is the least number from j on, or -1. -/
def Nx (ws : List Nat) (j : Nat) (r : Int) : Prop :=
  (r = -1 ∧ ∀ m, j ≤ m → has ws m = false) ∨ ∃ m : Nat, r = (m : Int) ∧ j ≤ m ∧ m < 64 * ws.length ∧ has ws m = true ∧ ∀ q, j ≤ q → q < m → has ws q = false
theorem has_out {ws : List Nat} {m : Nat} (h : 64 * ws.length ≤ m) : has ws m = false := by
  unfold has
  rw [List.getD_eq_getElem?_getD, List.getElem?_eq_none (by omega)]
  simp
/-- A word's bits from s on. -/
theorem mask_bit (w s t : Nat) : (w / 2 ^ s * 2 ^ s).testBit t = (decide (s ≤ t) && w.testBit t) := by
  rw [Nat.testBit_mul_two_pow, Nat.testBit_div_two_pow]
  by_cases h : s ≤ t
  · rw [Nat.sub_add_cancel h]
  · simp [h]
theorem ctz_bits {V : Nat} (h0 : V ≠ 0) (hV : V < 18446744073709551616) : Lib.ctz 64 V < 64 ∧ V.testBit (Lib.ctz 64 V) = true ∧ ∀ t, t < Lib.ctz 64 V → V.testBit t = false := by
  obtain ⟨m, hm, hk⟩ := Lib.ctzFrom_spec 64 V (by omega) hV
  have e : Lib.ctz 64 V = Lib.ctzFrom 64 V := by simp [Lib.ctz, h0]
  rw [e]
  generalize Lib.ctzFrom 64 V = c at *
  refine ⟨hk, ?_, ?_⟩
  · rw [hm, Nat.mul_comm, Nat.testBit_mul_two_pow]
    simp
  · intro t ht
    rw [hm, Nat.mul_comm, Nat.testBit_mul_two_pow]
    have : ¬ c ≤ t := by omega
    simp [this]
/-- Found in the word k. -/
theorem nx_found {ws : List Nat} {j k : Nat} (hk : k < ws.length) (hj : j / 64 ≤ k) (hno : ∀ m, j ≤ m → m < 64 * k → has ws m = false) {V : Nat} (hV : V = if k = j / 64 then ws.getD k 0 / 2 ^ (j % 64) * 2 ^ (j % 64) else ws.getD k 0) (h0 : V ≠ 0) (hlt : V < 18446744073709551616) : Nx ws j (64 * (k : Int) + (Lib.ctz 64 V : Nat)) := by
  obtain ⟨h1, h2, h3⟩ := ctz_bits h0 hlt
  generalize Lib.ctz 64 V = c at *
  have hbit : ∀ t, t < 64 → V.testBit t = (decide (j ≤ 64 * k + t) && has ws (64 * k + t)) := by
    intro t ht
    have e1 : (64 * k + t) / 64 = k := by omega
    have e2 : (64 * k + t) % 64 = t := by omega
    unfold has
    rw [e1, e2, hV]
    by_cases hkj : k = j / 64
    · rw [if_pos hkj, mask_bit]
      congr 1
      apply decide_eq_decide.2
      omega
    · rw [if_neg hkj]
      have : decide (j ≤ 64 * k + t) = true := by simp; omega
      rw [this, Bool.true_and]
  rw [hbit c h1] at h2
  simp only [Bool.and_eq_true, decide_eq_true_eq] at h2
  refine .inr ⟨64 * k + c, by omega, h2.1, by omega, h2.2, ?_⟩
  intro q hq hqm
  by_cases hqk : q < 64 * k
  · exact hno q hq hqk
  · have h4 := h3 (q - 64 * k) (by omega)
    rw [hbit _ (by omega)] at h4
    have e3 : 64 * k + (q - 64 * k) = q := by omega
    rw [e3] at h4
    have : decide (j ≤ q) = true := by simpa using hq
    rw [this, Bool.true_and] at h4
    exact h4
/-- Not found in the word k: on to the next. -/
theorem nx_on {ws : List Nat} {j k : Nat} (_hj : j / 64 ≤ k) (hno : ∀ m, j ≤ m → m < 64 * k → has ws m = false) {V : Nat} (hV : V = if k = j / 64 then ws.getD k 0 / 2 ^ (j % 64) * 2 ^ (j % 64) else ws.getD k 0) (h0 : V = 0) : ∀ m, j ≤ m → m < 64 * (k + 1) → has ws m = false := by
  intro m hm hlt
  by_cases hk : m < 64 * k
  · exact hno m hm hk
  · have e1 : m / 64 = k := by omega
    unfold has
    rw [e1]
    by_cases hkj : k = j / 64
    · rw [if_pos hkj] at hV
      have := mask_bit (ws.getD k 0) (j % 64) (m % 64)
      rw [← hV, h0] at this
      simp only [Nat.zero_testBit] at this
      have h5 : decide (j % 64 ≤ m % 64) = true := by simp; omega
      rw [h5, Bool.true_and] at this
      exact this.symm
    · rw [if_neg hkj] at hV
      rw [← hV, h0]
      simp
end Mk
end Go.Proofs.YtpjimmdpcpcmoaaDoor

/- Plain law of chapter 02: words of bits beside the document's row of truths. No program. -/
namespace Go.Proofs.YtpjimmdpcpcmoaaDoor
namespace Mk
/-- A number let out. -/
def outm (ws : List Nat) (i : Nat) : List Nat := ws.set (i / 64) (ws.getD (i / 64) 0 &&& (18446744073709551615 - 2 ^ (i % 64)))
theorem not_bit (t j : Nat) (ht : t < 64) : (18446744073709551615 - 2 ^ t).testBit j = (decide (j < 64) && !decide (j = t)) := by
  have h : (18446744073709551615 : Nat) - 2 ^ t = 2 ^ 64 - (2 ^ t + 1) := by omega
  rw [h, Nat.testBit_two_pow_sub_succ (Nat.pow_lt_pow_right (by decide) ht), Nat.testBit_two_pow]
  congr 2
  apply decide_eq_decide.2
  omega
theorem has_outm {ws : List Nat} {i : Nat} (h : i / 64 < ws.length) (j : Nat) : has (outm ws i) j = (has ws j && !decide (j = i)) := by
  unfold has outm
  by_cases hk : i / 64 = j / 64
  · rw [List.getD_eq_getElem?_getD, hk, List.getElem?_set_self (by omega)]
    simp only [Option.getD_some, Nat.testBit_and, not_bit _ _ (Nat.mod_lt i (by omega : 64 > 0))]
    have : decide (j % 64 < 64) = true := by simp; omega
    rw [this, Bool.true_and]
    congr 2
    apply decide_eq_decide.2
    omega
  · rw [List.getD_eq_getElem?_getD, List.getElem?_set_ne hk, ← List.getD_eq_getElem?_getD]
    have : decide (j = i) = false := by simp; omega
    rw [this]
    simp
theorem outm_len (ws : List Nat) (i : Nat) : (outm ws i).length = ws.length := by simp [outm]
theorem outm_lt {ws : List Nat} (h : ∀ x ∈ ws, x < 18446744073709551616) (i : Nat) : ∀ x ∈ outm ws i, x < 18446744073709551616 := by
  intro x hx
  unfold outm at hx
  rcases List.mem_or_eq_of_mem_set hx with h1 | rfl
  · exact h x h1
  · refine Nat.lt_of_le_of_lt Nat.and_le_left ?_
    rw [List.getD_eq_getElem?_getD]
    cases hg : ws[i / 64]? with
    | none => simp
    | some y => exact h y (List.mem_of_getElem? hg)
/-- Words and truths are of one set. -/
structure Ag (ws : List Nat) (bs : List Bool) : Prop where
  at' : ∀ i, has ws i = bs.getD i false
variable {ws us : List Nat} {bs cs : List Bool}
theorem getD_out {i : Nat} (h : bs.length ≤ i) : bs.getD i false = false := by rw [List.getD_eq_getElem?_getD, List.getElem?_eq_none h]; rfl
theorem Ag.put (h : Ag ws bs) {i : Nat} (hi : i < bs.length) (hl : i / 64 < ws.length) : Ag (put ws i) (bs.set i true) := ⟨fun j => by
  rw [has_put hl, h.at' j, List.getD_eq_getElem?_getD, List.getD_eq_getElem?_getD]
  by_cases hj : i = j
  · subst hj; rw [List.getElem?_set_self hi]; simp
  · rw [List.getElem?_set_ne hj]
    have : decide (j = i) = false := by simp; omega
    rw [this, Bool.or_false]⟩
theorem Ag.out (h : Ag ws bs) {i : Nat} (hi : i < bs.length) (hl : i / 64 < ws.length) : Ag (outm ws i) (bs.set i false) := ⟨fun j => by
  rw [has_outm hl, h.at' j, List.getD_eq_getElem?_getD, List.getD_eq_getElem?_getD]
  by_cases hj : i = j
  · subst hj; rw [List.getElem?_set_self hi]; simp
  · rw [List.getElem?_set_ne hj]
    have : decide (j = i) = false := by simp; omega
    rw [this]; simp⟩
theorem ag_zero (c n : Nat) : Ag (List.replicate c 0) (List.replicate n false) := ⟨fun i => by
  have h1 : has (List.replicate c 0) i = false := by
    unfold has
    rw [List.getD_eq_getElem?_getD, List.getElem?_replicate]
    split <;> simp
  rw [h1, List.getD_eq_getElem?_getD, List.getElem?_replicate]
  split <;> rfl⟩
/-- What the calls answer, by the row of truths. -/
def hasB (bs : List Bool) (i : Int) : Bool := decide (0 ≤ i) && bs.getD i.toNat false
def inB (bs : List Bool) (i : Int) : Bool := decide (0 ≤ i) && decide (i < bs.length)
def puB (bs : List Bool) (i : Int) : List Bool := if inB bs i then bs.set i.toNat true else bs
def prB (bs : List Bool) (i : Int) : Bool := inB bs i && !bs.getD i.toNat false
def ouB (bs : List Bool) (i : Int) : List Bool := if inB bs i then bs.set i.toNat false else bs
theorem inB_nat (i : Nat) (hi : i < bs.length) : inB bs i = true := by simp [inB]; exact hi
theorem inB_out (i : Int) (h : i < 0 ∨ (bs.length : Int) ≤ i) : inB bs i = false := by simp [inB]; omega
theorem hasB_nat (i : Nat) : hasB bs i = bs.getD i false := by simp [hasB]
theorem hasB_out (i : Int) (h : i < 0 ∨ (bs.length : Int) ≤ i) : hasB bs i = false := by
  unfold hasB
  by_cases h0 : 0 ≤ i
  · rw [getD_out (by omega)]; simp
  · simp [h0]
theorem puB_nat (i : Nat) (hi : i < bs.length) : puB bs i = bs.set i true := by simp [puB, inB_nat i hi]
theorem puB_out (i : Int) (h : i < 0 ∨ (bs.length : Int) ≤ i) : puB bs i = bs := by simp [puB, inB_out i h]
theorem prB_nat (i : Nat) (hi : i < bs.length) : prB bs i = !bs.getD i false := by simp [prB, inB_nat i hi]
theorem prB_out (i : Int) (h : i < 0 ∨ (bs.length : Int) ≤ i) : prB bs i = false := by simp [prB, inB_out i h]
theorem ouB_nat (i : Nat) (hi : i < bs.length) : ouB bs i = bs.set i false := by simp [ouB, inB_nat i hi]
theorem ouB_out (i : Int) (h : i < 0 ∨ (bs.length : Int) ≤ i) : ouB bs i = bs := by simp [ouB, inB_out i h]
theorem set_same {i : Nat} {v : Bool} (h : i < bs.length) (hv : bs.getD i false = v) : bs.set i v = bs := by
  apply List.ext_getElem?
  intro j
  by_cases hj : i = j
  · subst hj
    rw [List.getElem?_set_self h, ← hv, List.getD_eq_getElem?_getD, List.getElem?_eq_getElem h]; rfl
  · rw [List.getElem?_set_ne hj]
/-- The least one above a number. -/
def aft (bs : List Bool) (i : Int) : Int := match (List.range bs.length).find? (fun (k : Nat) => bs.getD k false && decide (i < (k : Int))) with
  | some k => (k : Int)
  | none => -1
theorem aft_some {i : Int} {k : Nat} (h1 : bs.getD k false = true) (h2 : i < (k : Int)) (h3 : ∀ q : Nat, q < k → i < (q : Int) → bs.getD q false = false) : aft bs i = k := by
  have hk : k < bs.length := by
    apply Nat.lt_of_not_le
    intro h
    rw [getD_out h] at h1
    cases h1
  have : (List.range bs.length).find? (fun (k : Nat) => bs.getD k false && decide (i < (k : Int))) = some k := by
    rw [List.find?_range_eq_some]
    refine ⟨by rw [h1]; simpa using h2, by simpa using hk, fun q hq => ?_⟩
    by_cases hi : i < (q : Int)
    · rw [h3 q hq hi]; rfl
    · simp; omega
  unfold aft
  rw [this]
theorem aft_none {i : Int} (h : ∀ q : Nat, i < (q : Int) → bs.getD q false = false) : aft bs i = -1 := by
  have : (List.range bs.length).find? (fun (k : Nat) => bs.getD k false && decide (i < (k : Int))) = none := by
    rw [List.find?_range_eq_none]
    intro q _
    by_cases hi : i < (q : Int)
    · rw [h q hi]; rfl
    · simp; omega
  unfold aft
  rw [this]
theorem nx_aft (h : Ag ws bs) {i r : Int} {j : Nat} (hj : (j : Int) = max i (-1) + 1) (hn : Nx ws j r) : r = aft bs i := by
  rcases hn with ⟨rfl, hno⟩ | ⟨m, rfl, hm, _, hh, hno⟩
  · exact (aft_none fun q hq => by rw [← h.at']; exact hno q (by omega)).symm
  · exact (aft_some (by rw [← h.at']; exact hh) (by omega) fun q hq hi => by rw [← h.at']; exact hno q (by omega) hq).symm
end Mk
end Go.Proofs.YtpjimmdpcpcmoaaDoor
