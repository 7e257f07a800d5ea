/- Plain law of chapter 01: the spans of a list of bytes. No program. -/
import Derived.Test.YteekonojmpihlaaDoorQSetsPure
namespace Go.Proofs.YteekonojmpihlaaDoor
namespace St
/-- One more byte. -/
def step (acc : List (Nat × Nat)) (c : Nat) : List (Nat × Nat) :=
  match acc.getLast? with
  | some p => if p.2 + 1 = c then acc.dropLast ++ [(p.1, c)] else acc ++ [(c, c)]
  | none => [(c, c)]
def sps (l : List Nat) : List (Nat × Nat) := l.foldl step []
theorem step_nil (c : Nat) : step [] c = [(c, c)] := rfl
theorem step_hit (q : List (Nat × Nat)) (lo hi c : Nat) (h : hi + 1 = c) : step (q ++ [(lo, hi)]) c = q ++ [(lo, c)] := by simp [step, h]
theorem step_miss (q : List (Nat × Nat)) (lo hi c : Nat) (h : ¬ hi + 1 = c) : step (q ++ [(lo, hi)]) c = (q ++ [(lo, hi)]) ++ [(c, c)] := by simp [step, h]
theorem sps_snoc (l : List Nat) (c : Nat) : sps (l ++ [c]) = step (sps l) c := by simp [sps]
theorem cases_last (acc : List (Nat × Nat)) : acc = [] ∨ ∃ q lo hi, acc = q ++ [(lo, hi)] := by
  rcases List.eq_nil_or_concat acc with h | ⟨q, p, h⟩
  · exact .inl h
  · exact .inr ⟨q, p.1, p.2, by rw [h, List.concat_eq_append]⟩
theorem step_len (acc : List (Nat × Nat)) (c : Nat) : (step acc c).length ≤ acc.length + 1 := by
  rcases cases_last acc with rfl | ⟨q, lo, hi, rfl⟩
  · simp [step_nil]
  · by_cases h : hi + 1 = c
    · rw [step_hit _ _ _ _ h]; simp
    · rw [step_miss _ _ _ _ h]; simp
theorem sps_len (l : List Nat) : (sps l).length ≤ l.length := by
  have key : ∀ n, ∀ l : List Nat, l.length = n → (sps l).length ≤ l.length := by
    intro n
    induction n with
    | zero => intro l hl; rw [List.length_eq_zero_iff.1 hl]; simp [sps]
    | succ n ih =>
      intro l hl
      rcases List.eq_nil_or_concat l with h | ⟨q, c, h⟩
      · rw [h] at hl; simp at hl
      · subst h
        rw [List.concat_eq_append] at hl ⊢
        rw [sps_snoc]
        have := ih q (by simpa using hl)
        have := step_len (sps q) c
        simp
        omega
  exact key _ l rfl
/-- The spans hold bytes. -/
theorem sps_lt {l : List Nat} (h : ∀ x ∈ l, x < 256) : ∀ p ∈ sps l, p.1 < 256 ∧ p.2 < 256 := by
  have key : ∀ (l : List Nat) (acc : List (Nat × Nat)), (∀ x ∈ l, x < 256) → (∀ p ∈ acc, p.1 < 256 ∧ p.2 < 256) → ∀ p ∈ l.foldl step acc, p.1 < 256 ∧ p.2 < 256 := by
    intro l
    induction l with
    | nil => intro acc _ ha; simpa using ha
    | cons c l ih =>
      intro acc hl ha
      rw [List.foldl_cons]
      refine ih _ (fun x hx => hl x (by simp [hx])) fun p hp => ?_
      have hc := hl c (by simp)
      rcases cases_last acc with rfl | ⟨q, lo, hi, rfl⟩
      · simp [step_nil] at hp
        subst hp
        exact ⟨hc, hc⟩
      · by_cases hh : hi + 1 = c
        · rw [step_hit _ _ _ _ hh] at hp
          rcases List.mem_append.1 hp with h1 | h1
          · exact ha p (by simp [h1])
          · simp at h1
            subst h1
            exact ⟨(ha (lo, hi) (by simp)).1, hc⟩
        · rw [step_miss _ _ _ _ hh] at hp
          rcases List.mem_append.1 hp with h1 | h1
          · exact ha p h1
          · simp at h1
            subst h1
            exact ⟨hc, hc⟩
  exact key l [] h (by simp)
end St
end Go.Proofs.YteekonojmpihlaaDoor
