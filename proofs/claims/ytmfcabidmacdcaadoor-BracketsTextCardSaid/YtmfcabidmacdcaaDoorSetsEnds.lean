/- Plain law of chapter 01: the ends of the spans, as the document lists them. No program. -/
import Derived.Test.YtmfcabidmacdcaaDoorSetsSp
namespace Go.Proofs.YtmfcabidmacdcaaDoor
namespace St
def flat (acc : List (Nat × Nat)) : List Nat := acc.flatMap fun p => [p.1, p.2]
theorem flat_snoc (q : List (Nat × Nat)) (lo hi : Nat) : flat (q ++ [(lo, hi)]) = flat q ++ [lo] ++ [hi] := by simp [flat]
theorem flat_len (q : List (Nat × Nat)) : (flat q).length = 2 * q.length := by
  unfold flat
  induction q with
  | nil => rfl
  | cons p q ih => rw [List.flatMap_cons, List.length_append, ih, List.length_cons, List.length_cons, List.length_cons, List.length_nil]; omega
theorem flat_at (q : List (Nat × Nat)) (i : Nat) (h : i < q.length) : (flat q)[2 * i]? = some q[i].1 ∧ (flat q)[2 * i + 1]? = some q[i].2 := by
  induction q generalizing i with
  | nil => simp at h
  | cons p q ih =>
    have e : flat (p :: q) = p.1 :: p.2 :: flat q := by simp [flat]
    rw [e]
    cases i with
    | zero => exact ⟨rfl, rfl⟩
    | succ i =>
      have := ih i (by simpa using h)
      rw [show 2 * (i + 1) = 2 * i + 1 + 1 by omega, show 2 * i + 1 + 1 + 1 = (2 * i + 1) + 1 + 1 by omega]
      simpa using this
/-- What a byte adds. -/
def atC (f : Nat → Bool) (c : Nat) : List Nat := if f c then (if c = 0 ∨ f (c - 1) = false then [c] else []) ++ (if c = 255 ∨ f (c + 1) = false then [c] else []) else []
def ends (f : Nat → Bool) : Nat → List Nat
  | 0 => []
  | c + 1 => ends f c ++ atC f c
def Q (f : Nat → Bool) (c : Nat) : List (Nat × Nat) := sps ((List.range c).filter f)
theorem Q_in {f : Nat → Bool} {c : Nat} (h : f c = true) : Q f (c + 1) = step (Q f c) c := by
  unfold Q
  rw [List.range_succ, List.filter_append, List.filter_cons_of_pos h, List.filter_nil, sps_snoc]
theorem Q_out {f : Nat → Bool} {c : Nat} (h : f c = false) : Q f (c + 1) = Q f c := by
  unfold Q
  rw [List.range_succ, List.filter_append, List.filter_cons_of_neg (by simp [h]), List.filter_nil, List.append_nil]
/-- Is a span open? -/
def opn (f : Nat → Bool) (c : Nat) : Bool := decide (1 ≤ c) && decide (c ≤ 255) && f (c - 1) && f c
structure Iv (f : Nat → Bool) (c : Nat) : Prop where
  hi : ∀ p ∈ Q f c, f p.2 = true ∧ p.2 < c
  last : 1 ≤ c → f (c - 1) = true → ∃ q lo, Q f c = q ++ [(lo, c - 1)]
  yes : opn f c = true → ∃ q lo, Q f c = q ++ [(lo, c - 1)] ∧ ends f c = flat q ++ [lo]
  no : opn f c = false → ends f c = flat (Q f c)
theorem Iv.mk' {f : Nat → Bool} {c : Nat} (a : ∀ p ∈ Q f c, f p.2 = true ∧ p.2 < c) (b : 1 ≤ c → f (c - 1) = true → ∃ q lo, Q f c = q ++ [(lo, c - 1)])
    (d : (opn f c = true → ∃ q lo, Q f c = q ++ [(lo, c - 1)] ∧ ends f c = flat q ++ [lo]) ∧ (opn f c = false → ends f c = flat (Q f c))) : Iv f c := ⟨a, b, d.1, d.2⟩
theorem iv_all (f : Nat → Bool) : ∀ c, c ≤ 256 → Iv f c := by
  intro c
  induction c with
  | zero => exact fun _ => ⟨by simp [Q, sps], by omega, by simp [opn], fun _ => rfl⟩
  | succ c ih =>
    intro hc
    have v := ih (by omega)
    cases hf : f c with
    | false =>
      have hq := Q_out hf
      have ho : opn f c = false := by simp [opn, hf]
      have hat : atC f c = [] := by simp [atC, hf]
      refine ⟨fun p hp => ?_, fun _ h => ?_, fun h => ?_, fun _ => ?_⟩
      · rw [hq] at hp
        have := v.hi p hp
        exact ⟨this.1, by omega⟩
      · rw [Nat.add_sub_cancel, hf] at h; cases h
      · simp [opn, hf] at h
      · rw [ends, hat, List.append_nil, v.no ho, hq]
    | true =>
      have hq := Q_in hf
      have hlast : ∃ q lo, step (Q f c) c = q ++ [(lo, c)] := by
        rcases cases_last (Q f c) with h | ⟨r, lo, hi, h⟩
        · rw [h]; exact ⟨[], c, rfl⟩
        · by_cases hh : hi + 1 = c
          · rw [h, step_hit _ _ _ _ hh]; exact ⟨r, lo, rfl⟩
          · rw [h, step_miss _ _ _ _ hh]; exact ⟨_, c, rfl⟩
      refine Iv.mk' (fun p hp => ?_) (fun _ _ => ?_) ?_
      · rw [hq] at hp
        rcases cases_last (Q f c) with h | ⟨r, lo, hi, h⟩
        · rw [h, step_nil] at hp
          simp at hp
          subst hp
          exact ⟨hf, Nat.lt_succ_self _⟩
        · have hm := v.hi
          rw [h] at hm
          by_cases hh : hi + 1 = c
          · rw [h, step_hit _ _ _ _ hh] at hp
            rcases List.mem_append.1 hp with h1 | h1
            · have := hm p (by simp [h1])
              exact ⟨this.1, by omega⟩
            · simp at h1; subst h1; exact ⟨hf, Nat.lt_succ_self _⟩
          · rw [h, step_miss _ _ _ _ hh] at hp
            rcases List.mem_append.1 hp with h1 | h1
            · have := hm p h1
              exact ⟨this.1, by omega⟩
            · simp at h1; subst h1; exact ⟨hf, Nat.lt_succ_self _⟩
      · rw [hq, Nat.add_sub_cancel]; exact hlast
      · -- the new state: q ++ [(lo, c)]; what came before the end of it
        have key : ∃ q lo, step (Q f c) c = q ++ [(lo, c)] ∧ ends f c ++ (if c = 0 ∨ f (c - 1) = false then [c] else []) = flat q ++ [lo] := by
          cases ho : opn f c with
          | true =>
            obtain ⟨q, lo, h1, h2⟩ := v.yes ho
            have hb : 1 ≤ c ∧ f (c - 1) = true := by simp [opn] at ho; exact ⟨ho.1.1.1, ho.1.2⟩
            refine ⟨q, lo, ?_, ?_⟩
            · rw [h1, step_hit _ _ _ _ (by omega)]
            · rw [if_neg (by rintro (h | h); omega; rw [hb.2] at h; cases h), List.append_nil, h2]
          | false =>
            have hcond : c = 0 ∨ f (c - 1) = false := by
              rcases Nat.eq_zero_or_pos c with h | h
              · exact .inl h
              · refine .inr ?_
                cases hp : f (c - 1) with
                | false => rfl
                | true =>
                  simp [opn, hp, hf] at ho
                  omega
            rw [if_pos hcond, v.no ho]
            rcases cases_last (Q f c) with h | ⟨r, lo, hi, h⟩
            · rw [h]; exact ⟨[], c, rfl, rfl⟩
            · have hm := v.hi (lo, hi) (by rw [h]; simp)
              have hne : ¬ hi + 1 = c := by
                rintro rfl
                rcases hcond with h0 | h0
                · omega
                · rw [Nat.add_sub_cancel] at h0
                  have := hm.1
                  simp only at this
                  rw [h0] at this
                  cases this
              refine ⟨r ++ [(lo, hi)], c, ?_, ?_⟩
              · rw [h, step_miss _ _ _ _ hne]
              · rw [h]
        obtain ⟨q, lo, h1, h2⟩ := key
        have hends : ends f (c + 1) = flat q ++ [lo] ++ (if c = 255 ∨ f (c + 1) = false then [c] else []) := by
          rw [ends, atC, if_pos hf, ← List.append_assoc, h2]
        constructor
        · intro ho
          refine ⟨q, lo, by rw [hq, h1, Nat.add_sub_cancel], ?_⟩
          have : c + 1 ≤ 255 ∧ f (c + 1) = true := by simp [opn] at ho; exact ⟨by omega, ho.2⟩
          rw [hends, if_neg (by rintro (h | h); omega; rw [this.2] at h; cases h), List.append_nil]
        · intro ho
          have hcond : c = 255 ∨ f (c + 1) = false := by
            by_cases h : c = 255
            · exact .inl h
            · refine .inr ?_
              cases hp : f (c + 1) with
              | false => rfl
              | true =>
                simp [opn, hp, hf] at ho
                omega
          rw [hends, if_pos hcond, hq, h1, flat_snoc]
theorem ends_all (f : Nat → Bool) : ends f 256 = flat (sps ((List.range 256).filter f)) := (iv_all f 256 (Nat.le_refl _)).no (by simp [opn])
theorem ends_len (f : Nat → Bool) (c : Nat) : (ends f c).length ≤ 2 * c := by
  induction c with
  | zero => simp [ends]
  | succ c ih =>
    have : (atC f c).length ≤ 2 := by
      unfold atC
      split
      · split <;> split <;> simp
      · simp
    rw [ends, List.length_append]
    omega
theorem atC_congr {f g : Nat → Bool} {c : Nat} (hc : c < 256) (h : ∀ q, q < 256 → f q = g q) : atC f c = atC g c := by
  unfold atC
  rw [h c hc, h (c - 1) (by omega)]
  by_cases h5 : c = 255
  · rw [if_pos (.inl h5 : c = 255 ∨ f (c + 1) = false), if_pos (.inl h5 : c = 255 ∨ g (c + 1) = false)]
  · rw [h (c + 1) (by omega)]
end St
end Go.Proofs.YtmfcabidmacdcaaDoor
