/- Plain law of chapter 02: words of bits beside the document's row of truths. No program. -/
import Derived.Test.YtpjimmdpcpcmoaaDoorQMarksPure
namespace Go.Proofs.YtpjimmdpcpcmoaaDoor
namespace Mk
/-- A number let out. -/
def outm (ws : List Nat) (i : Nat) : List Nat := ws.set (i / 64) (ws.getD (i / 64) 0 &&& (18446744073709551615 - 2 ^ (i % 64)))
theorem not_bit (t j : Nat) (ht : t < 64) : (18446744073709551615 - 2 ^ t).testBit j = (decide (j < 64) && !decide (j = t)) := by
  have h : (18446744073709551615 : Nat) - 2 ^ t = 2 ^ 64 - (2 ^ t + 1) := by omega
  rw [h, Nat.testBit_two_pow_sub_succ (Nat.pow_lt_pow_right (by decide) ht), Nat.testBit_two_pow]
  congr 2
  apply decide_eq_decide.2
  omega
theorem has_outm {ws : List Nat} {i : Nat} (h : i / 64 < ws.length) (j : Nat) : has (outm ws i) j = (has ws j && !decide (j = i)) := by
  unfold has outm
  by_cases hk : i / 64 = j / 64
  · rw [List.getD_eq_getElem?_getD, hk, List.getElem?_set_self (by omega)]
    simp only [Option.getD_some, Nat.testBit_and, not_bit _ _ (Nat.mod_lt i (by omega : 64 > 0))]
    have : decide (j % 64 < 64) = true := by simp; omega
    rw [this, Bool.true_and]
    congr 2
    apply decide_eq_decide.2
    omega
  · rw [List.getD_eq_getElem?_getD, List.getElem?_set_ne hk, ← List.getD_eq_getElem?_getD]
    have : decide (j = i) = false := by simp; omega
    rw [this]
    simp
theorem outm_len (ws : List Nat) (i : Nat) : (outm ws i).length = ws.length := by simp [outm]
theorem outm_lt {ws : List Nat} (h : ∀ x ∈ ws, x < 18446744073709551616) (i : Nat) : ∀ x ∈ outm ws i, x < 18446744073709551616 := by
  intro x hx
  unfold outm at hx
  rcases List.mem_or_eq_of_mem_set hx with h1 | rfl
  · exact h x h1
  · refine Nat.lt_of_le_of_lt Nat.and_le_left ?_
    rw [List.getD_eq_getElem?_getD]
    cases hg : ws[i / 64]? with
    | none => simp
    | some y => exact h y (List.mem_of_getElem? hg)
/-- Words and truths are of one set. -/
structure Ag (ws : List Nat) (bs : List Bool) : Prop where
  at' : ∀ i, has ws i = bs.getD i false
variable {ws us : List Nat} {bs cs : List Bool}
theorem getD_out {i : Nat} (h : bs.length ≤ i) : bs.getD i false = false := by rw [List.getD_eq_getElem?_getD, List.getElem?_eq_none h]; rfl
theorem Ag.put (h : Ag ws bs) {i : Nat} (hi : i < bs.length) (hl : i / 64 < ws.length) : Ag (put ws i) (bs.set i true) := ⟨fun j => by
  rw [has_put hl, h.at' j, List.getD_eq_getElem?_getD, List.getD_eq_getElem?_getD]
  by_cases hj : i = j
  · subst hj; rw [List.getElem?_set_self hi]; simp
  · rw [List.getElem?_set_ne hj]
    have : decide (j = i) = false := by simp; omega
    rw [this, Bool.or_false]⟩
theorem Ag.out (h : Ag ws bs) {i : Nat} (hi : i < bs.length) (hl : i / 64 < ws.length) : Ag (outm ws i) (bs.set i false) := ⟨fun j => by
  rw [has_outm hl, h.at' j, List.getD_eq_getElem?_getD, List.getD_eq_getElem?_getD]
  by_cases hj : i = j
  · subst hj; rw [List.getElem?_set_self hi]; simp
  · rw [List.getElem?_set_ne hj]
    have : decide (j = i) = false := by simp; omega
    rw [this]; simp⟩
theorem ag_zero (c n : Nat) : Ag (List.replicate c 0) (List.replicate n false) := ⟨fun i => by
  have h1 : has (List.replicate c 0) i = false := by
    unfold has
    rw [List.getD_eq_getElem?_getD, List.getElem?_replicate]
    split <;> simp
  rw [h1, List.getD_eq_getElem?_getD, List.getElem?_replicate]
  split <;> rfl⟩
/-- What the calls answer, by the row of truths. -/
def hasB (bs : List Bool) (i : Int) : Bool := decide (0 ≤ i) && bs.getD i.toNat false
def inB (bs : List Bool) (i : Int) : Bool := decide (0 ≤ i) && decide (i < bs.length)
def puB (bs : List Bool) (i : Int) : List Bool := if inB bs i then bs.set i.toNat true else bs
def prB (bs : List Bool) (i : Int) : Bool := inB bs i && !bs.getD i.toNat false
def ouB (bs : List Bool) (i : Int) : List Bool := if inB bs i then bs.set i.toNat false else bs
theorem inB_nat (i : Nat) (hi : i < bs.length) : inB bs i = true := by simp [inB]; exact hi
theorem inB_out (i : Int) (h : i < 0 ∨ (bs.length : Int) ≤ i) : inB bs i = false := by simp [inB]; omega
theorem hasB_nat (i : Nat) : hasB bs i = bs.getD i false := by simp [hasB]
theorem hasB_out (i : Int) (h : i < 0 ∨ (bs.length : Int) ≤ i) : hasB bs i = false := by
  unfold hasB
  by_cases h0 : 0 ≤ i
  · rw [getD_out (by omega)]; simp
  · simp [h0]
theorem puB_nat (i : Nat) (hi : i < bs.length) : puB bs i = bs.set i true := by simp [puB, inB_nat i hi]
theorem puB_out (i : Int) (h : i < 0 ∨ (bs.length : Int) ≤ i) : puB bs i = bs := by simp [puB, inB_out i h]
theorem prB_nat (i : Nat) (hi : i < bs.length) : prB bs i = !bs.getD i false := by simp [prB, inB_nat i hi]
theorem prB_out (i : Int) (h : i < 0 ∨ (bs.length : Int) ≤ i) : prB bs i = false := by simp [prB, inB_out i h]
theorem ouB_nat (i : Nat) (hi : i < bs.length) : ouB bs i = bs.set i false := by simp [ouB, inB_nat i hi]
theorem ouB_out (i : Int) (h : i < 0 ∨ (bs.length : Int) ≤ i) : ouB bs i = bs := by simp [ouB, inB_out i h]
theorem set_same {i : Nat} {v : Bool} (h : i < bs.length) (hv : bs.getD i false = v) : bs.set i v = bs := by
  apply List.ext_getElem?
  intro j
  by_cases hj : i = j
  · subst hj
    rw [List.getElem?_set_self h, ← hv, List.getD_eq_getElem?_getD, List.getElem?_eq_getElem h]; rfl
  · rw [List.getElem?_set_ne hj]
/-- The least one above a number. -/
def aft (bs : List Bool) (i : Int) : Int := match (List.range bs.length).find? (fun (k : Nat) => bs.getD k false && decide (i < (k : Int))) with
  | some k => (k : Int)
  | none => -1
theorem aft_some {i : Int} {k : Nat} (h1 : bs.getD k false = true) (h2 : i < (k : Int)) (h3 : ∀ q : Nat, q < k → i < (q : Int) → bs.getD q false = false) : aft bs i = k := by
  have hk : k < bs.length := by
    apply Nat.lt_of_not_le
    intro h
    rw [getD_out h] at h1
    cases h1
  have : (List.range bs.length).find? (fun (k : Nat) => bs.getD k false && decide (i < (k : Int))) = some k := by
    rw [List.find?_range_eq_some]
    refine ⟨by rw [h1]; simpa using h2, by simpa using hk, fun q hq => ?_⟩
    by_cases hi : i < (q : Int)
    · rw [h3 q hq hi]; rfl
    · simp; omega
  unfold aft
  rw [this]
theorem aft_none {i : Int} (h : ∀ q : Nat, i < (q : Int) → bs.getD q false = false) : aft bs i = -1 := by
  have : (List.range bs.length).find? (fun (k : Nat) => bs.getD k false && decide (i < (k : Int))) = none := by
    rw [List.find?_range_eq_none]
    intro q _
    by_cases hi : i < (q : Int)
    · rw [h q hi]; rfl
    · simp; omega
  unfold aft
  rw [this]
theorem nx_aft (h : Ag ws bs) {i r : Int} {j : Nat} (hj : (j : Int) = max i (-1) + 1) (hn : Nx ws j r) : r = aft bs i := by
  rcases hn with ⟨rfl, hno⟩ | ⟨m, rfl, hm, _, hh, hno⟩
  · exact (aft_none fun q hq => by rw [← h.at']; exact hno q (by omega)).symm
  · exact (aft_some (by rw [← h.at']; exact hh) (by omega) fun q hq hi => by rw [← h.at']; exact hno q (by omega) hq).symm
end Mk
end Go.Proofs.YtpjimmdpcpcmoaaDoor
