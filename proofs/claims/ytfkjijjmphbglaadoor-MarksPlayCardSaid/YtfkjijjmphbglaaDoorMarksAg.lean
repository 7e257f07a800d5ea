/- Plain law of chapter 02: words of bits beside the document's row of truths. No program. -/
import Derived.Test.YtfkjijjmphbglaaDoorMarksPure
namespace Go.Proofs.YtfkjijjmphbglaaDoor
namespace Mk
/-- A number let out. -/
def outm (ws : List Nat) (i : Nat) : List Nat := ws.set (i / 64) (ws.getD (i / 64) 0 &&& (18446744073709551615 - 2 ^ (i % 64)))
theorem not_bit (t j : Nat) (ht : t < 64) : (18446744073709551615 - 2 ^ t).testBit j = (decide (j < 64) && !decide (j = t)) := by
  have h : (18446744073709551615 : Nat) - 2 ^ t = 2 ^ 64 - (2 ^ t + 1) := by omega
  rw [h, Nat.testBit_two_pow_sub_succ (Nat.pow_lt_pow_right (by decide) ht), Nat.testBit_two_pow]
  congr 2
  apply decide_eq_decide.2
  omega
theorem has_outm {ws : List Nat} {i : Nat} (h : i / 64 < ws.length) (j : Nat) : has (outm ws i) j = (has ws j && !decide (j = i)) := by
  unfold has outm
  by_cases hk : i / 64 = j / 64
  · rw [List.getD_eq_getElem?_getD, hk, List.getElem?_set_self (by omega)]
    simp only [Option.getD_some, Nat.testBit_and, not_bit _ _ (Nat.mod_lt i (by omega : 64 > 0))]
    have : decide (j % 64 < 64) = true := by simp; omega
    rw [this, Bool.true_and]
    congr 2
    apply decide_eq_decide.2
    omega
  · rw [List.getD_eq_getElem?_getD, List.getElem?_set_ne hk, ← List.getD_eq_getElem?_getD]
    have : decide (j = i) = false := by simp; omega
    rw [this]
    simp
theorem outm_len (ws : List Nat) (i : Nat) : (outm ws i).length = ws.length := by simp [outm]
theorem outm_lt {ws : List Nat} (h : ∀ x ∈ ws, x < 18446744073709551616) (i : Nat) : ∀ x ∈ outm ws i, x < 18446744073709551616 := by
  intro x hx
  unfold outm at hx
  rcases List.mem_or_eq_of_mem_set hx with h1 | rfl
  · exact h x h1
  · refine Nat.lt_of_le_of_lt Nat.and_le_left ?_
    rw [List.getD_eq_getElem?_getD]
    cases hg : ws[i / 64]? with
    | none => simp
    | some y => exact h y (List.mem_of_getElem? hg)
/-- All that are in, of a row of truths. -/
def tru (bs : List Bool) : List Nat := (List.range bs.length).filter fun i => bs.getD i false
/-- Words and truths are of one set. -/
structure Ag (ws : List Nat) (bs : List Bool) : Prop where
  at' : ∀ i, has ws i = bs.getD i false
variable {ws us : List Nat} {bs cs : List Bool}
theorem getD_out {i : Nat} (h : bs.length ≤ i) : bs.getD i false = false := by rw [List.getD_eq_getElem?_getD, List.getElem?_eq_none h]; rfl
theorem Ag.all (h : Ag ws bs) : all ws = tru bs := by
  rw [← filter_end (j := bs.length) (fun m hm => by rw [h.at', getD_out hm])]
  unfold tru
  exact List.filter_congr fun i _ => h.at' i
theorem Ag.put (h : Ag ws bs) {i : Nat} (hi : i < bs.length) (hl : i / 64 < ws.length) : Ag (put ws i) (bs.set i true) := ⟨fun j => by
  rw [has_put hl, h.at' j, List.getD_eq_getElem?_getD, List.getD_eq_getElem?_getD]
  by_cases hj : i = j
  · subst hj; rw [List.getElem?_set_self hi]; simp
  · rw [List.getElem?_set_ne hj]
    have : decide (j = i) = false := by simp; omega
    rw [this, Bool.or_false]⟩
theorem Ag.out (h : Ag ws bs) {i : Nat} (hi : i < bs.length) (hl : i / 64 < ws.length) : Ag (outm ws i) (bs.set i false) := ⟨fun j => by
  rw [has_outm hl, h.at' j, List.getD_eq_getElem?_getD, List.getD_eq_getElem?_getD]
  by_cases hj : i = j
  · subst hj; rw [List.getElem?_set_self hi]; simp
  · rw [List.getElem?_set_ne hj]
    have : decide (j = i) = false := by simp; omega
    rw [this]; simp⟩
theorem ag_zero (c n : Nat) : Ag (List.replicate c 0) (List.replicate n false) := ⟨fun i => by
  have h1 : has (List.replicate c 0) i = false := by
    unfold has
    rw [List.getD_eq_getElem?_getD, List.getElem?_replicate]
    split <;> simp
  rw [h1, List.getD_eq_getElem?_getD, List.getElem?_replicate]
  split <;> rfl⟩
theorem mem_tru (i : Nat) : i ∈ tru bs ↔ bs.getD i false = true := by
  unfold tru
  rw [List.mem_filter, List.mem_range]
  constructor
  · exact fun h => h.2
  · intro h
    refine ⟨?_, h⟩
    apply Nat.lt_of_not_le
    intro hle
    rw [getD_out hle] at h
    cases h
/-- What the calls answer, by the row of truths. -/
def hasB (bs : List Bool) (i : Int) : Bool := decide (0 ≤ i) && bs.getD i.toNat false
def inB (bs : List Bool) (i : Int) : Bool := decide (0 ≤ i) && decide (i < bs.length)
def puB (bs : List Bool) (i : Int) : List Bool := if inB bs i then bs.set i.toNat true else bs
def prB (bs : List Bool) (i : Int) : Bool := inB bs i && !bs.getD i.toNat false
def ouB (bs : List Bool) (i : Int) : List Bool := if inB bs i then bs.set i.toNat false else bs
theorem inB_nat (i : Nat) (hi : i < bs.length) : inB bs i = true := by simp [inB]; exact hi
theorem inB_out (i : Int) (h : i < 0 ∨ (bs.length : Int) ≤ i) : inB bs i = false := by simp [inB]; omega
theorem hasB_nat (i : Nat) : hasB bs i = bs.getD i false := by simp [hasB]
theorem hasB_out (i : Int) (h : i < 0 ∨ (bs.length : Int) ≤ i) : hasB bs i = false := by
  unfold hasB
  by_cases h0 : 0 ≤ i
  · rw [getD_out (by omega)]; simp
  · simp [h0]
theorem puB_nat (i : Nat) (hi : i < bs.length) : puB bs i = bs.set i true := by simp [puB, inB_nat i hi]
theorem puB_out (i : Int) (h : i < 0 ∨ (bs.length : Int) ≤ i) : puB bs i = bs := by simp [puB, inB_out i h]
theorem prB_nat (i : Nat) (hi : i < bs.length) : prB bs i = !bs.getD i false := by simp [prB, inB_nat i hi]
theorem prB_out (i : Int) (h : i < 0 ∨ (bs.length : Int) ≤ i) : prB bs i = false := by simp [prB, inB_out i h]
theorem ouB_nat (i : Nat) (hi : i < bs.length) : ouB bs i = bs.set i false := by simp [ouB, inB_nat i hi]
theorem ouB_out (i : Int) (h : i < 0 ∨ (bs.length : Int) ≤ i) : ouB bs i = bs := by simp [ouB, inB_out i h]
theorem puB_len (i : Int) : (puB bs i).length = bs.length := by unfold puB; split <;> simp
theorem ouB_len (i : Int) : (ouB bs i).length = bs.length := by unfold ouB; split <;> simp
theorem set_same {i : Nat} {v : Bool} (h : i < bs.length) (hv : bs.getD i false = v) : bs.set i v = bs := by
  apply List.ext_getElem?
  intro j
  by_cases hj : i = j
  · subst hj
    rw [List.getElem?_set_self h, ← hv, List.getD_eq_getElem?_getD, List.getElem?_eq_getElem h]; rfl
  · rw [List.getElem?_set_ne hj]
/-- A list of numbers put in, and whether one was new. -/
def po (s : List Bool × Bool) (i : Nat) : List Bool × Bool := (puB s.1 i, prB s.1 i || s.2)
def orB (bs : List Bool) (l : List Nat) : List Bool × Bool := l.foldl po (bs, false)
theorem orB_snoc (bs : List Bool) (l : List Nat) (i : Nat) : orB bs (l ++ [i]) = po (orB bs l) i := by simp [orB, List.foldl_append]
theorem orB_len (bs : List Bool) (l : List Nat) : (orB bs l).1.length = bs.length := by
  unfold orB
  have : ∀ (l : List Nat) (s : List Bool × Bool), (l.foldl po s).1.length = s.1.length := by
    intro l
    induction l with
    | nil => intro s; rfl
    | cons x l ih => intro s; rw [List.foldl_cons, ih]; exact puB_len _
  exact this l _
/-- The least one above a number. -/
def aft (bs : List Bool) (i : Int) : Int := match (List.range bs.length).find? (fun (k : Nat) => bs.getD k false && decide (i < (k : Int))) with
  | some k => (k : Int)
  | none => -1
theorem aft_some {i : Int} {k : Nat} (h1 : bs.getD k false = true) (h2 : i < (k : Int)) (h3 : ∀ q : Nat, q < k → i < (q : Int) → bs.getD q false = false) : aft bs i = k := by
  have hk : k < bs.length := by
    apply Nat.lt_of_not_le
    intro h
    rw [getD_out h] at h1
    cases h1
  have : (List.range bs.length).find? (fun (k : Nat) => bs.getD k false && decide (i < (k : Int))) = some k := by
    rw [List.find?_range_eq_some]
    refine ⟨by rw [h1]; simpa using h2, by simpa using hk, fun q hq => ?_⟩
    by_cases hi : i < (q : Int)
    · rw [h3 q hq hi]; rfl
    · simp; omega
  unfold aft
  rw [this]
theorem aft_none {i : Int} (h : ∀ q : Nat, i < (q : Int) → bs.getD q false = false) : aft bs i = -1 := by
  have : (List.range bs.length).find? (fun (k : Nat) => bs.getD k false && decide (i < (k : Int))) = none := by
    rw [List.find?_range_eq_none]
    intro q _
    by_cases hi : i < (q : Int)
    · rw [h q hi]; rfl
    · simp; omega
  unfold aft
  rw [this]
theorem nx_aft (h : Ag ws bs) {i r : Int} {j : Nat} (hj : (j : Int) = max i (-1) + 1) (hn : Nx ws j r) : r = aft bs i := by
  rcases hn with ⟨rfl, hno⟩ | ⟨m, rfl, hm, _, hh, hno⟩
  · exact (aft_none fun q hq => by rw [← h.at']; exact hno q (by omega)).symm
  · exact (aft_some (by rw [← h.at']; exact hh) (by omega) fun q hq hi => by rw [← h.at']; exact hno q (by omega) hq).symm
/-- A number in both. -/
def meetB (bs cs : List Bool) : Bool := (tru bs).any fun i => cs.getD i false
theorem meet_of {k : Nat} (h : Ag ws bs) (g : Ag us cs) (hw : ∀ x ∈ ws, x < 18446744073709551616) (hk : k < ws.length) (hu : k < us.length) (hne : ws[k] &&& us[k] ≠ 0) : meetB bs cs = true := by
  have hex : ∃ t, (ws[k] &&& us[k]).testBit t = true := Classical.byContradiction fun hn => hne (Nat.eq_of_testBit_eq fun t => by
    have : ¬ (ws[k] &&& us[k]).testBit t = true := fun e => hn ⟨t, e⟩
    rw [Nat.zero_testBit]; simpa using this)
  obtain ⟨t, ht⟩ := hex
  rw [Nat.testBit_and, Bool.and_eq_true] at ht
  have ht64 : t < 64 := by
    apply Nat.lt_of_not_le
    intro hle
    have := hw _ (List.getElem_mem hk)
    rw [Nat.testBit_lt_two_pow (Nat.lt_of_lt_of_le this (Nat.pow_le_pow_right (by decide) hle : 2 ^ 64 ≤ 2 ^ t))] at ht
    cases ht.1
  have e1 : (64 * k + t) / 64 = k := by omega
  have e2 : (64 * k + t) % 64 = t := by omega
  have h1 : has ws (64 * k + t) = true := by
    unfold has; rw [e1, e2, List.getD_eq_getElem?_getD, List.getElem?_eq_getElem hk]; exact ht.1
  have h2 : has us (64 * k + t) = true := by
    unfold has; rw [e1, e2, List.getD_eq_getElem?_getD, List.getElem?_eq_getElem hu]; exact ht.2
  rw [h.at'] at h1
  rw [g.at'] at h2
  exact List.any_eq_true.2 ⟨_, (mem_tru _).2 h1, h2⟩
theorem meet_no (h : Ag ws bs) (g : Ag us cs) (hno : ∀ k (hk : k < ws.length) (hu : k < us.length), ws[k] &&& us[k] = 0) : meetB bs cs = false := by
  apply Bool.eq_false_iff.2
  intro hm
  obtain ⟨i, hi, hc⟩ := List.any_eq_true.1 hm
  rw [mem_tru, ← h.at'] at hi
  rw [← g.at'] at hc
  have hkw : i / 64 < ws.length := by
    apply Nat.lt_of_not_le; intro hle; rw [has_out (by omega)] at hi; cases hi
  have hku : i / 64 < us.length := by
    apply Nat.lt_of_not_le; intro hle; rw [has_out (by omega)] at hc; cases hc
  have := hno _ hkw hku
  have hb := congrArg (fun x : Nat => x.testBit (i % 64)) this
  simp only [Nat.testBit_and, Nat.zero_testBit] at hb
  unfold has at hi hc
  rw [List.getD_eq_getElem?_getD, List.getElem?_eq_getElem hkw] at hi
  rw [List.getD_eq_getElem?_getD, List.getElem?_eq_getElem hku] at hc
  simp only [Option.getD_some] at hi hc
  rw [hi, hc] at hb
  cases hb
theorem tru_lt {i : Nat} (h : i ∈ tru bs) : i < bs.length := by
  unfold tru at h
  rw [List.mem_filter, List.mem_range] at h
  exact h.1
theorem tru_len (bs : List Bool) : (tru bs).length ≤ bs.length := by
  unfold tru
  refine Nat.le_trans (List.length_filter_le _ _) ?_
  rw [List.length_range]
  exact Nat.le_refl _
theorem tru_inj (h : bs.length = cs.length) (ht : tru bs = tru cs) : bs = cs := by
  apply List.ext_getElem?
  intro j
  have e : bs.getD j false = cs.getD j false := by
    have h1 := mem_tru (bs := bs) j
    have h2 := mem_tru (bs := cs) j
    rw [ht] at h1
    cases hb : bs.getD j false <;> cases hc : cs.getD j false <;> simp_all
  by_cases hj : j < bs.length
  · rw [List.getD_eq_getElem?_getD, List.getD_eq_getElem?_getD, List.getElem?_eq_getElem hj, List.getElem?_eq_getElem (by omega)] at e
    rw [List.getElem?_eq_getElem hj, List.getElem?_eq_getElem (by omega)]
    simpa using e
  · rw [List.getElem?_eq_none (by omega), List.getElem?_eq_none (by omega)]
end Mk
end Go.Proofs.YtfkjijjmphbglaaDoor
