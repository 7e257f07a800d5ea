import Derived.Test.YteekonojmpihlaaDoorQBitsPure
import Derived.Lib.TrailingZeros
/- Plain law of chapter 02: sets of small numbers as words of bits. No program. -/
namespace Go.Proofs.YteekonojmpihlaaDoor
namespace Mk
def has (ws : List Nat) (i : Nat) : Bool := (ws.getD (i / 64) 0).testBit (i % 64)
def put (ws : List Nat) (i : Nat) : List Nat := ws.set (i / 64) (ws.getD (i / 64) 0 ||| 2 ^ (i % 64))
theorem has_put {ws : List Nat} {i : Nat} (h : i / 64 < ws.length) (j : Nat) : has (put ws i) j = (has ws j || decide (j = i)) := by
  unfold has put
  by_cases hk : i / 64 = j / 64
  · rw [List.getD_eq_getElem?_getD, hk, List.getElem?_set_self (by omega)]
    simp only [Option.getD_some, Nat.testBit_or, Nat.testBit_two_pow]
    congr 1
    apply decide_eq_decide.2
    omega
  · rw [List.getD_eq_getElem?_getD, List.getElem?_set_ne hk, ← List.getD_eq_getElem?_getD]
    have : decide (j = i) = false := by simp; omega
    rw [this, Bool.or_false]
theorem put_len (ws : List Nat) (i : Nat) : (put ws i).length = ws.length := by simp [put]
theorem or_lt {a : Nat} (ha : a < 18446744073709551616) {k : Nat} (hk : k < 64) : a ||| 2 ^ k < 18446744073709551616 := by
  have h1 : 2 ^ k < 2 ^ 64 := Nat.pow_lt_pow_right (by decide) hk
  exact Nat.or_lt_two_pow (n := 64) ha h1
theorem put_lt {ws : List Nat} (h : ∀ x ∈ ws, x < 18446744073709551616) (i : Nat) : ∀ x ∈ put ws i, x < 18446744073709551616 := by
  intro x hx
  unfold put at hx
  rcases List.mem_or_eq_of_mem_set hx with h1 | rfl
  · exact h x h1
  · apply or_lt _ (by omega)
    rw [List.getD_eq_getElem?_getD]
    cases hg : ws[i / 64]? with
    | none => simp
    | some y => exact h y (List.mem_of_getElem? hg)
/-- A word's bits from s on. -/
theorem mask_bit (w s t : Nat) : (w / 2 ^ s * 2 ^ s).testBit t = (decide (s ≤ t) && w.testBit t) := by
  rw [Nat.testBit_mul_two_pow, Nat.testBit_div_two_pow]
  by_cases h : s ≤ t
  · rw [Nat.sub_add_cancel h]
  · simp [h]
theorem ctz_bits {V : Nat} (h0 : V ≠ 0) (hV : V < 18446744073709551616) : Lib.ctz 64 V < 64 ∧ V.testBit (Lib.ctz 64 V) = true ∧ ∀ t, t < Lib.ctz 64 V → V.testBit t = false := by
  obtain ⟨m, hm, hk⟩ := Lib.ctzFrom_spec 64 V (by omega) hV
  have e : Lib.ctz 64 V = Lib.ctzFrom 64 V := by simp [Lib.ctz, h0]
  rw [e]
  generalize Lib.ctzFrom 64 V = c at *
  refine ⟨hk, ?_, ?_⟩
  · rw [hm, Nat.mul_comm, Nat.testBit_mul_two_pow]
    simp
  · intro t ht
    rw [hm, Nat.mul_comm, Nat.testBit_mul_two_pow]
    have : ¬ c ≤ t := by omega
    simp [this]
/-- All numbers that are in. -/
def all (ws : List Nat) : List Nat := (List.range (64 * ws.length)).filter (has ws)
theorem filter_none {p : Nat → Bool} (j d : Nat) (h : ∀ q, j ≤ q → q < j + d → p q = false) : (List.range (j + d)).filter p = (List.range j).filter p := by
  induction d with
  | zero => rfl
  | succ d ih =>
    rw [← Nat.add_assoc, List.range_succ, List.filter_append, ih (fun q h1 h2 => h q h1 (by omega)), List.filter_cons, h (j + d) (by omega) (by omega)]
    simp
theorem filter_next {p : Nat → Bool} {j m : Nat} (hj : j ≤ m) (hm : p m = true) (h : ∀ q, j ≤ q → q < m → p q = false) : (List.range (m + 1)).filter p = (List.range j).filter p ++ [m] := by
  obtain ⟨d, rfl⟩ : ∃ d, m = j + d := ⟨m - j, by omega⟩
  rw [List.range_succ, List.filter_append, filter_none j d h, List.filter_cons, hm]
  simp
theorem all_lt {ws : List Nat} {x : Nat} (h : x ∈ all ws) : x < 64 * ws.length := by
  unfold all at h
  have := (List.mem_filter.1 h).1
  simpa using this
/-- How many are in. -/
def cnt (ws : List Nat) : Nat := (ws.map (Bt.pc 64)).sum
theorem cnt_all (ws : List Nat) : cnt ws = (all ws).length := by
  have key : ∀ k, k ≤ ws.length → ((ws.take k).map (Bt.pc 64)).sum = ((List.range (64 * k)).filter (has ws)).length := by
    intro k
    induction k with
    | zero => intro _; rfl
    | succ k ih =>
      intro hk
      have e : ws.take (k + 1) = ws.take k ++ [ws[k]'(by omega)] := (List.take_append_getElem (by omega)).symm
      have hx : ws.getD k 0 = ws[k]'(by omega) := by rw [List.getD_eq_getElem?_getD, List.getElem?_eq_getElem (by omega)]; rfl
      have e4 : Bt.pc 64 (ws[k]'(by omega)) = ((List.map (fun t => 64 * k + t) (List.range 64)).filter (has ws)).length := by
        rw [Bt.pc_filter, List.filter_map, List.length_map, ← hx]
        have : (List.range 64).filter (fun j => (ws.getD k 0).testBit j) = (List.range 64).filter (has ws ∘ fun t => 64 * k + t) := by
          apply List.filter_congr
          intro t ht
          have ht' : t < 64 := List.mem_range.1 ht
          have e1 : (64 * k + t) / 64 = k := by omega
          have e2 : (64 * k + t) % 64 = t := by omega
          simp only [Function.comp, has, e1, e2]
        rw [this]
      rw [e, List.map_append, List.sum_append, ih (by omega), show 64 * (k + 1) = 64 * k + 64 by omega, List.range_add, List.filter_append, List.length_append, ← e4]
      simp only [List.map_cons, List.map_nil, List.sum_cons, List.sum_nil, Nat.add_zero]
  have := key ws.length (Nat.le_refl _)
  rw [List.take_length] at this
  exact this
end Mk
end Go.Proofs.YteekonojmpihlaaDoor

/- Plain law of chapter 01: a set of bytes as four words. No program. -/
namespace Go.Proofs.YteekonojmpihlaaDoor
namespace St
open Mk
/-- What comes before place t of word i. -/
def El (ws : List Nat) (i t : Nat) : List Nat := (List.range (64 * i + t)).filter (has ws)
theorem el_next_word (ws : List Nat) (i : Nat) : El ws i 64 = El ws (i + 1) 0 := by
  unfold El
  rw [show 64 * i + 64 = 64 * (i + 1) + 0 by omega]
theorem has_word (ws : List Nat) (i t : Nat) (ht : t < 64) : has ws (64 * i + t) = (ws.getD i 0).testBit t := by
  unfold has
  rw [show (64 * i + t) / 64 = i by omega, show (64 * i + t) % 64 = t by omega]
theorem el_done {ws : List Nat} {i t : Nat} (ht : t ≤ 64) (h : ws.getD i 0 / 2 ^ t * 2 ^ t = 0) : El ws i t = El ws i 64 := by
  unfold El
  obtain ⟨d, hd⟩ : ∃ d, 64 = t + d := ⟨64 - t, by omega⟩
  rw [show 64 * i + 64 = (64 * i + t) + d by omega]
  refine (filter_none _ _ fun q h1 h2 => ?_).symm
  obtain ⟨s, rfl⟩ : ∃ s, q = 64 * i + s := ⟨q - 64 * i, by omega⟩
  rw [has_word _ _ _ (by omega)]
  have := mask_bit (ws.getD i 0) t s
  rw [h] at this
  have h5 : decide (t ≤ s) = true := by simp; omega
  rw [h5, Bool.true_and] at this
  rw [← this]
  simp
/-- The lowest bit of a word taken away. -/
theorem clear_low {x t v : Nat} (hv : x / 2 ^ t * 2 ^ t = v) (h0 : v ≠ 0) (hv64 : v < 18446744073709551616) : Lib.ctz 64 v < 64 ∧ t ≤ Lib.ctz 64 v ∧ x.testBit (Lib.ctz 64 v) = true ∧ (∀ s, t ≤ s → s < Lib.ctz 64 v → x.testBit s = false) ∧ v &&& (v - 1) = x / 2 ^ (Lib.ctz 64 v + 1) * 2 ^ (Lib.ctz 64 v + 1) := by
  obtain ⟨h1, h2, h3⟩ := ctz_bits h0 hv64
  obtain ⟨m, hm, _⟩ := Lib.ctzFrom_spec 64 v (by omega) hv64
  have e : Lib.ctz 64 v = Lib.ctzFrom 64 v := by simp [Lib.ctz, h0]
  rw [← e] at hm
  generalize Lib.ctz 64 v = c at *
  have hbit : ∀ s, v.testBit s = (decide (t ≤ s) && x.testBit s) := fun s => by rw [← hv]; exact mask_bit x t s
  rw [hbit] at h2
  simp only [Bool.and_eq_true, decide_eq_true_eq] at h2
  refine ⟨h1, h2.1, h2.2, fun s hs1 hs2 => ?_, ?_⟩
  · have := h3 s hs2
    rw [hbit] at this
    have h5 : decide (t ≤ s) = true := by simpa using hs1
    rwa [h5, Bool.true_and] at this
  · apply Nat.eq_of_testBit_eq
    intro j
    rw [Nat.testBit_and, mask_bit, hbit j]
    have hp : 0 < 2 ^ c := Nat.pow_pos (by decide)
    have hm1 : v - 1 = 2 ^ c * (2 * m) + (2 ^ c - 1) := by rw [hm, Nat.mul_add]; omega
    have hj : (v - 1).testBit j = if j < c then true else (2 * m).testBit (j - c) := by
      rw [hm1, Nat.testBit_two_pow_mul_add _ (by omega)]
      split
      · rename_i hjc
        rw [Nat.testBit_two_pow_sub_one]
        simpa using hjc
      · rfl
    rw [hj]
    by_cases hjc : j < c
    · rw [if_pos hjc, Bool.and_true]
      have h4 := h3 j hjc
      rw [hbit] at h4
      rw [h4]
      have : decide (c + 1 ≤ j) = false := by simp; omega
      rw [this, Bool.false_and]
    · rw [if_neg hjc]
      by_cases hje : j = c
      · subst hje
        simp
        intro h
        omega
      · have hv2 : v.testBit j = (2 * m + 1).testBit (j - c) := by
          rw [hm, Nat.mul_comm, Nat.testBit_mul_two_pow]
          have : decide (c ≤ j) = true := by simp; omega
          rw [this, Bool.true_and]
        obtain ⟨q, hq⟩ : ∃ q, j - c = q + 1 := ⟨j - c - 1, by omega⟩
        rw [hbit] at hv2
        rw [hq] at hv2 ⊢
        rw [Nat.testBit_succ] at hv2 ⊢
        rw [show (2 * m + 1) / 2 = m by omega] at hv2
        rw [show 2 * m / 2 = m by omega, ← hv2]
        have h6 : decide (t ≤ j) = true := by simp; omega
        have h7 : decide (c + 1 ≤ j) = true := by simp; omega
        rw [h6, h7]
        simp
theorem el_step {ws : List Nat} {i t v : Nat} (hv : ws.getD i 0 / 2 ^ t * 2 ^ t = v) (h0 : v ≠ 0) (hv64 : v < 18446744073709551616) : Lib.ctz 64 v < 64 ∧ El ws i (Lib.ctz 64 v + 1) = El ws i t ++ [64 * i + Lib.ctz 64 v] ∧ ws.getD i 0 / 2 ^ (Lib.ctz 64 v + 1) * 2 ^ (Lib.ctz 64 v + 1) = v &&& (v - 1) := by
  obtain ⟨h1, h2, h3, h4, h5⟩ := clear_low hv h0 hv64
  generalize Lib.ctz 64 v = c at *
  refine ⟨h1, ?_, h5.symm⟩
  unfold El
  rw [← Nat.add_assoc]
  refine filter_next (by omega) (by rw [has_word _ _ _ h1]; exact h3) fun q hq1 hq2 => ?_
  obtain ⟨s, rfl⟩ : ∃ s, q = 64 * i + s := ⟨q - 64 * i, by omega⟩
  rw [has_word _ _ _ (by omega)]
  exact h4 s (by omega) (by omega)
theorem and_lt {v : Nat} (h0 : v ≠ 0) : v &&& (v - 1) < v := Nat.lt_of_le_of_lt Nat.and_le_right (by omega)
theorem el_zero (ws : List Nat) : El ws 0 0 = [] := rfl
theorem el_all {ws : List Nat} (h : ws.length = 4) : El ws 4 0 = all ws := by
  unfold El all
  rw [h]
theorem el_prefix {ws : List Nat} (h : ws.length = 4) (i t : Nat) (hi : 64 * i + t ≤ 256) : El ws i t <+: all ws := by
  unfold El all
  rw [h]
  obtain ⟨m, hm⟩ : ∃ m, 64 * i + t = m := ⟨_, rfl⟩
  rw [hm] at hi ⊢
  obtain ⟨d, hd⟩ : ∃ d, 64 * 4 = m + d := ⟨256 - m, by omega⟩
  rw [hd, List.range_add, List.filter_append]
  exact List.prefix_append _ _
end St
end Go.Proofs.YteekonojmpihlaaDoor

/- Plain law of chapter 01: a set by its bytes. No program. -/
namespace Go.Proofs.YteekonojmpihlaaDoor
namespace St
open Mk
/-- Four words that hold the bytes f. -/
structure IsSet (rs : List Nat) (f : Nat → Bool) : Prop where
  len : rs.length = 4
  lt : ∀ x ∈ rs, x < 18446744073709551616
  at' : ∀ c, c < 256 → has rs c = f c
theorem four {ws : List Nat} (h : ws.length = 4) : ∃ a b c d, ws = [a, b, c, d] := by
  match ws, h with
  | [a, b, c, d], _ => exact ⟨a, b, c, d, rfl⟩
theorem word_eq {x y : Nat} (hx : x < 18446744073709551616) (hy : y < 18446744073709551616) (h : ∀ t, t < 64 → x.testBit t = y.testBit t) : x = y := by
  apply Nat.eq_of_testBit_eq
  intro t
  by_cases ht : t < 64
  · exact h t ht
  · have e : ∀ z, z < 18446744073709551616 → z.testBit t = false := fun z hz => Nat.testBit_lt_two_pow (Nat.lt_of_lt_of_le hz (Nat.pow_le_pow_right (n := 2) (by decide) (show 64 ≤ t by omega)))
    rw [e x hx, e y hy]
theorem IsSet.unique {rs ts : List Nat} {f : Nat → Bool} (h : IsSet rs f) (k : IsSet ts f) : rs = ts := by
  obtain ⟨a0, a1, a2, a3, rfl⟩ := four h.len
  obtain ⟨b0, b1, b2, b3, rfl⟩ := four k.len
  have hw : ∀ i, i < 4 → ([a0, a1, a2, a3] : List Nat).getD i 0 = [b0, b1, b2, b3].getD i 0 := by
    intro i hi
    refine word_eq ?_ ?_ fun t ht => ?_
    · rw [List.getD_eq_getElem?_getD, List.getElem?_eq_getElem (by simpa using hi)]
      exact h.lt _ (List.getElem_mem _)
    · rw [List.getD_eq_getElem?_getD, List.getElem?_eq_getElem (by simpa using hi)]
      exact k.lt _ (List.getElem_mem _)
    · rw [← has_word _ _ _ ht, ← has_word _ _ _ ht, h.at' _ (by omega), k.at' _ (by omega)]
  have e0 := hw 0 (by omega)
  have e1 := hw 1 (by omega)
  have e2 := hw 2 (by omega)
  have e3 := hw 3 (by omega)
  simp at e0 e1 e2 e3
  rw [e0, e1, e2, e3]
theorem isSet_self {ws : List Nat} (h : ws.length = 4) (hlt : ∀ x ∈ ws, x < 18446744073709551616) : IsSet ws (has ws) := ⟨h, hlt, fun _ _ => rfl⟩
/-- Four words, one by one. -/
theorem isSet_of {a0 a1 a2 a3 : Nat} {f : Nat → Bool} (hlt : ∀ x ∈ [a0, a1, a2, a3], x < 18446744073709551616) (h : ∀ i, i < 4 → ∀ t, t < 64 → ([a0, a1, a2, a3].getD i 0).testBit t = f (64 * i + t)) : IsSet [a0, a1, a2, a3] f := by
  refine ⟨rfl, hlt, fun c hc => ?_⟩
  have := h (c / 64) (by omega) (c % 64) (by omega)
  rw [show 64 * (c / 64) + c % 64 = c by omega] at this
  exact this
theorem or64 {a b : Nat} (ha : a < 18446744073709551616) (hb : b < 18446744073709551616) : a ||| b < 18446744073709551616 := Nat.or_lt_two_pow (n := 64) ha hb
/-- The word without another's bits. -/
def nt (x : Nat) : Nat := 18446744073709551615 ^^^ x
theorem nt_lt {x : Nat} (hx : x < 18446744073709551616) : nt x < 18446744073709551616 := Nat.xor_lt_two_pow (n := 64) (by decide) hx
theorem nt_bit (x t : Nat) (ht : t < 64) : (nt x).testBit t = !x.testBit t := by
  unfold nt
  rw [Nat.testBit_xor, show (18446744073709551615 : Nat) = 2 ^ 64 - 1 by rfl, Nat.testBit_two_pow_sub_one]
  have : decide (t < 64) = true := by simpa using ht
  rw [this]
  simp
end St
end Go.Proofs.YteekonojmpihlaaDoor

/- Plain law of chapter 01: the spans of a list of bytes. No program. -/
namespace Go.Proofs.YteekonojmpihlaaDoor
namespace St
/-- One more byte. -/
def step (acc : List (Nat × Nat)) (c : Nat) : List (Nat × Nat) :=
  match acc.getLast? with
  | some p => if p.2 + 1 = c then acc.dropLast ++ [(p.1, c)] else acc ++ [(c, c)]
  | none => [(c, c)]
def sps (l : List Nat) : List (Nat × Nat) := l.foldl step []
theorem step_nil (c : Nat) : step [] c = [(c, c)] := rfl
theorem step_hit (q : List (Nat × Nat)) (lo hi c : Nat) (h : hi + 1 = c) : step (q ++ [(lo, hi)]) c = q ++ [(lo, c)] := by simp [step, h]
theorem step_miss (q : List (Nat × Nat)) (lo hi c : Nat) (h : ¬ hi + 1 = c) : step (q ++ [(lo, hi)]) c = (q ++ [(lo, hi)]) ++ [(c, c)] := by simp [step, h]
theorem sps_snoc (l : List Nat) (c : Nat) : sps (l ++ [c]) = step (sps l) c := by simp [sps]
theorem cases_last (acc : List (Nat × Nat)) : acc = [] ∨ ∃ q lo hi, acc = q ++ [(lo, hi)] := by
  rcases List.eq_nil_or_concat acc with h | ⟨q, p, h⟩
  · exact .inl h
  · exact .inr ⟨q, p.1, p.2, by rw [h, List.concat_eq_append]⟩
theorem step_len (acc : List (Nat × Nat)) (c : Nat) : (step acc c).length ≤ acc.length + 1 := by
  rcases cases_last acc with rfl | ⟨q, lo, hi, rfl⟩
  · simp [step_nil]
  · by_cases h : hi + 1 = c
    · rw [step_hit _ _ _ _ h]; simp
    · rw [step_miss _ _ _ _ h]; simp
theorem sps_len (l : List Nat) : (sps l).length ≤ l.length := by
  have key : ∀ n, ∀ l : List Nat, l.length = n → (sps l).length ≤ l.length := by
    intro n
    induction n with
    | zero => intro l hl; rw [List.length_eq_zero_iff.1 hl]; simp [sps]
    | succ n ih =>
      intro l hl
      rcases List.eq_nil_or_concat l with h | ⟨q, c, h⟩
      · rw [h] at hl; simp at hl
      · subst h
        rw [List.concat_eq_append] at hl ⊢
        rw [sps_snoc]
        have := ih q (by simpa using hl)
        have := step_len (sps q) c
        simp
        omega
  exact key _ l rfl
/-- The spans hold bytes. -/
theorem sps_lt {l : List Nat} (h : ∀ x ∈ l, x < 256) : ∀ p ∈ sps l, p.1 < 256 ∧ p.2 < 256 := by
  have key : ∀ (l : List Nat) (acc : List (Nat × Nat)), (∀ x ∈ l, x < 256) → (∀ p ∈ acc, p.1 < 256 ∧ p.2 < 256) → ∀ p ∈ l.foldl step acc, p.1 < 256 ∧ p.2 < 256 := by
    intro l
    induction l with
    | nil => intro acc _ ha; simpa using ha
    | cons c l ih =>
      intro acc hl ha
      rw [List.foldl_cons]
      refine ih _ (fun x hx => hl x (by simp [hx])) fun p hp => ?_
      have hc := hl c (by simp)
      rcases cases_last acc with rfl | ⟨q, lo, hi, rfl⟩
      · simp [step_nil] at hp
        subst hp
        exact ⟨hc, hc⟩
      · by_cases hh : hi + 1 = c
        · rw [step_hit _ _ _ _ hh] at hp
          rcases List.mem_append.1 hp with h1 | h1
          · exact ha p (by simp [h1])
          · simp at h1
            subst h1
            exact ⟨(ha (lo, hi) (by simp)).1, hc⟩
        · rw [step_miss _ _ _ _ hh] at hp
          rcases List.mem_append.1 hp with h1 | h1
          · exact ha p h1
          · simp at h1
            subst h1
            exact ⟨hc, hc⟩
  exact key l [] h (by simp)
end St
end Go.Proofs.YteekonojmpihlaaDoor

/- Plain law of chapter 01: the ends of the spans, as the document lists them. No program. -/
namespace Go.Proofs.YteekonojmpihlaaDoor
namespace St
def flat (acc : List (Nat × Nat)) : List Nat := acc.flatMap fun p => [p.1, p.2]
theorem flat_snoc (q : List (Nat × Nat)) (lo hi : Nat) : flat (q ++ [(lo, hi)]) = flat q ++ [lo] ++ [hi] := by simp [flat]
theorem flat_len (q : List (Nat × Nat)) : (flat q).length = 2 * q.length := by
  unfold flat
  induction q with
  | nil => rfl
  | cons p q ih => rw [List.flatMap_cons, List.length_append, ih, List.length_cons, List.length_cons, List.length_cons, List.length_nil]; omega
theorem flat_at (q : List (Nat × Nat)) (i : Nat) (h : i < q.length) : (flat q)[2 * i]? = some q[i].1 ∧ (flat q)[2 * i + 1]? = some q[i].2 := by
  induction q generalizing i with
  | nil => simp at h
  | cons p q ih =>
    have e : flat (p :: q) = p.1 :: p.2 :: flat q := by simp [flat]
    rw [e]
    cases i with
    | zero => exact ⟨rfl, rfl⟩
    | succ i =>
      have := ih i (by simpa using h)
      rw [show 2 * (i + 1) = 2 * i + 1 + 1 by omega, show 2 * i + 1 + 1 + 1 = (2 * i + 1) + 1 + 1 by omega]
      simpa using this
/-- What a byte adds. -/
def atC (f : Nat → Bool) (c : Nat) : List Nat := if f c then (if c = 0 ∨ f (c - 1) = false then [c] else []) ++ (if c = 255 ∨ f (c + 1) = false then [c] else []) else []
def ends (f : Nat → Bool) : Nat → List Nat
  | 0 => []
  | c + 1 => ends f c ++ atC f c
def Q (f : Nat → Bool) (c : Nat) : List (Nat × Nat) := sps ((List.range c).filter f)
theorem Q_in {f : Nat → Bool} {c : Nat} (h : f c = true) : Q f (c + 1) = step (Q f c) c := by
  unfold Q
  rw [List.range_succ, List.filter_append, List.filter_cons_of_pos h, List.filter_nil, sps_snoc]
theorem Q_out {f : Nat → Bool} {c : Nat} (h : f c = false) : Q f (c + 1) = Q f c := by
  unfold Q
  rw [List.range_succ, List.filter_append, List.filter_cons_of_neg (by simp [h]), List.filter_nil, List.append_nil]
/-- Is a span open? -/
def opn (f : Nat → Bool) (c : Nat) : Bool := decide (1 ≤ c) && decide (c ≤ 255) && f (c - 1) && f c
structure Iv (f : Nat → Bool) (c : Nat) : Prop where
  hi : ∀ p ∈ Q f c, f p.2 = true ∧ p.2 < c
  last : 1 ≤ c → f (c - 1) = true → ∃ q lo, Q f c = q ++ [(lo, c - 1)]
  yes : opn f c = true → ∃ q lo, Q f c = q ++ [(lo, c - 1)] ∧ ends f c = flat q ++ [lo]
  no : opn f c = false → ends f c = flat (Q f c)
theorem Iv.mk' {f : Nat → Bool} {c : Nat} (a : ∀ p ∈ Q f c, f p.2 = true ∧ p.2 < c) (b : 1 ≤ c → f (c - 1) = true → ∃ q lo, Q f c = q ++ [(lo, c - 1)])
    (d : (opn f c = true → ∃ q lo, Q f c = q ++ [(lo, c - 1)] ∧ ends f c = flat q ++ [lo]) ∧ (opn f c = false → ends f c = flat (Q f c))) : Iv f c := ⟨a, b, d.1, d.2⟩
theorem iv_all (f : Nat → Bool) : ∀ c, c ≤ 256 → Iv f c := by
  intro c
  induction c with
  | zero => exact fun _ => ⟨by simp [Q, sps], by omega, by simp [opn], fun _ => rfl⟩
  | succ c ih =>
    intro hc
    have v := ih (by omega)
    cases hf : f c with
    | false =>
      have hq := Q_out hf
      have ho : opn f c = false := by simp [opn, hf]
      have hat : atC f c = [] := by simp [atC, hf]
      refine ⟨fun p hp => ?_, fun _ h => ?_, fun h => ?_, fun _ => ?_⟩
      · rw [hq] at hp
        have := v.hi p hp
        exact ⟨this.1, by omega⟩
      · rw [Nat.add_sub_cancel, hf] at h; cases h
      · simp [opn, hf] at h
      · rw [ends, hat, List.append_nil, v.no ho, hq]
    | true =>
      have hq := Q_in hf
      have hlast : ∃ q lo, step (Q f c) c = q ++ [(lo, c)] := by
        rcases cases_last (Q f c) with h | ⟨r, lo, hi, h⟩
        · rw [h]; exact ⟨[], c, rfl⟩
        · by_cases hh : hi + 1 = c
          · rw [h, step_hit _ _ _ _ hh]; exact ⟨r, lo, rfl⟩
          · rw [h, step_miss _ _ _ _ hh]; exact ⟨_, c, rfl⟩
      refine Iv.mk' (fun p hp => ?_) (fun _ _ => ?_) ?_
      · rw [hq] at hp
        rcases cases_last (Q f c) with h | ⟨r, lo, hi, h⟩
        · rw [h, step_nil] at hp
          simp at hp
          subst hp
          exact ⟨hf, Nat.lt_succ_self _⟩
        · have hm := v.hi
          rw [h] at hm
          by_cases hh : hi + 1 = c
          · rw [h, step_hit _ _ _ _ hh] at hp
            rcases List.mem_append.1 hp with h1 | h1
            · have := hm p (by simp [h1])
              exact ⟨this.1, by omega⟩
            · simp at h1; subst h1; exact ⟨hf, Nat.lt_succ_self _⟩
          · rw [h, step_miss _ _ _ _ hh] at hp
            rcases List.mem_append.1 hp with h1 | h1
            · have := hm p h1
              exact ⟨this.1, by omega⟩
            · simp at h1; subst h1; exact ⟨hf, Nat.lt_succ_self _⟩
      · rw [hq, Nat.add_sub_cancel]; exact hlast
      · -- the new state: q ++ [(lo, c)]; what came before the end of it
        have key : ∃ q lo, step (Q f c) c = q ++ [(lo, c)] ∧ ends f c ++ (if c = 0 ∨ f (c - 1) = false then [c] else []) = flat q ++ [lo] := by
          cases ho : opn f c with
          | true =>
            obtain ⟨q, lo, h1, h2⟩ := v.yes ho
            have hb : 1 ≤ c ∧ f (c - 1) = true := by simp [opn] at ho; exact ⟨ho.1.1.1, ho.1.2⟩
            refine ⟨q, lo, ?_, ?_⟩
            · rw [h1, step_hit _ _ _ _ (by omega)]
            · rw [if_neg (by rintro (h | h); omega; rw [hb.2] at h; cases h), List.append_nil, h2]
          | false =>
            have hcond : c = 0 ∨ f (c - 1) = false := by
              rcases Nat.eq_zero_or_pos c with h | h
              · exact .inl h
              · refine .inr ?_
                cases hp : f (c - 1) with
                | false => rfl
                | true =>
                  simp [opn, hp, hf] at ho
                  omega
            rw [if_pos hcond, v.no ho]
            rcases cases_last (Q f c) with h | ⟨r, lo, hi, h⟩
            · rw [h]; exact ⟨[], c, rfl, rfl⟩
            · have hm := v.hi (lo, hi) (by rw [h]; simp)
              have hne : ¬ hi + 1 = c := by
                rintro rfl
                rcases hcond with h0 | h0
                · omega
                · rw [Nat.add_sub_cancel] at h0
                  have := hm.1
                  simp only at this
                  rw [h0] at this
                  cases this
              refine ⟨r ++ [(lo, hi)], c, ?_, ?_⟩
              · rw [h, step_miss _ _ _ _ hne]
              · rw [h]
        obtain ⟨q, lo, h1, h2⟩ := key
        have hends : ends f (c + 1) = flat q ++ [lo] ++ (if c = 255 ∨ f (c + 1) = false then [c] else []) := by
          rw [ends, atC, if_pos hf, ← List.append_assoc, h2]
        constructor
        · intro ho
          refine ⟨q, lo, by rw [hq, h1, Nat.add_sub_cancel], ?_⟩
          have : c + 1 ≤ 255 ∧ f (c + 1) = true := by simp [opn] at ho; exact ⟨by omega, ho.2⟩
          rw [hends, if_neg (by rintro (h | h); omega; rw [this.2] at h; cases h), List.append_nil]
        · intro ho
          have hcond : c = 255 ∨ f (c + 1) = false := by
            by_cases h : c = 255
            · exact .inl h
            · refine .inr ?_
              cases hp : f (c + 1) with
              | false => rfl
              | true =>
                simp [opn, hp, hf] at ho
                omega
          rw [hends, if_pos hcond, hq, h1, flat_snoc]
theorem ends_all (f : Nat → Bool) : ends f 256 = flat (sps ((List.range 256).filter f)) := (iv_all f 256 (Nat.le_refl _)).no (by simp [opn])
theorem ends_len (f : Nat → Bool) (c : Nat) : (ends f c).length ≤ 2 * c := by
  induction c with
  | zero => simp [ends]
  | succ c ih =>
    have : (atC f c).length ≤ 2 := by
      unfold atC
      split
      · split <;> split <;> simp
      · simp
    rw [ends, List.length_append]
    omega
end St
end Go.Proofs.YteekonojmpihlaaDoor
