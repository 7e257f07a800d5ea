import Derived.Test.YteekonojmpihlaaDoorQSpellPure
import Derived.Test.YteekonojmpihlaaDoorQSetsEnds
/- Plain law of chapter 06: what a bracket reads as, and how a set is written. No program. -/
namespace Go.Proofs.YteekonojmpihlaaDoor
open Go Go.RowKit Kt Sp St
namespace Bk
theorem snoc_ind {α : Type} {P : List α → Prop} (h0 : P []) (h1 : ∀ l x, P l → P (l ++ [x])) (l : List α) : P l := by
  have h : ∀ r : List α, P r.reverse := by
    intro r
    induction r with
    | nil => exact h0
    | cons x r ih => rw [List.reverse_cons]; exact h1 _ x ih
  simpa using h l.reverse
def spn (lo hi q : Nat) : Bool := decide (lo ≤ q) && decide (q ≤ hi)
/-! How a set is written. -/
/-- What items hold. -/
def un (ps : List (Nat × Nat)) : Nat → Bool := fun q => ps.any fun p => spn p.1 p.2 q
/-! Spans. -/
theorem sps_or (l : List Nat) : (∀ p ∈ sps l, p.1 ≤ p.2) ∧ ∀ q, (un (sps l) q = true ↔ q ∈ l) := by
  induction l using snoc_ind with
  | h0 => simp [sps, un]
  | h1 l c ih =>
    obtain ⟨i1, i2⟩ := ih
    rw [sps_snoc]
    rcases cases_last (sps l) with h | ⟨t, lo, hi, h⟩
    · rw [h, step_nil]
      have hl : ∀ q, q ∉ l := by
        intro q hq
        have := (i2 q).2 hq
        rw [h] at this
        simp [un] at this
      refine ⟨by simp, fun q => ?_⟩
      have := hl q
      simp [un, spn, this]
      omega
    · have hlh := i1 (lo, hi) (by rw [h]; simp)
      simp only at hlh
      by_cases hc : hi + 1 = c
      · rw [h, step_hit _ _ _ _ hc]
        refine ⟨?_, fun q => ?_⟩
        · intro p hp
          rcases List.mem_append.1 hp with hp | hp
          · exact i1 p (by rw [h]; simp [hp])
          · simp at hp; subst hp; simp only; omega
        · have h2 := i2 q
          rw [h] at h2
          rw [List.mem_append, ← h2]
          simp only [un, List.any_append, List.any_cons, List.any_nil, Bool.or_eq_true, spn, Bool.and_eq_true, decide_eq_true_eq, List.mem_singleton]
          constructor
          · rintro (h3 | h3)
            · exact .inl (.inl h3)
            · rcases h3 with h3 | h3
              · by_cases hq : q ≤ hi
                · exact .inl (.inr (.inl ⟨h3.1, hq⟩))
                · exact .inr (by omega)
              · cases h3
          · rintro ((h3 | h3) | h3)
            · exact .inl h3
            · rcases h3 with h3 | h3
              · exact .inr (.inl ⟨h3.1, by omega⟩)
              · cases h3
            · exact .inr (.inl ⟨by omega, by omega⟩)
      · rw [h, step_miss _ _ _ _ hc, ← h]
        refine ⟨?_, fun q => ?_⟩
        · intro p hp
          rcases List.mem_append.1 hp with hp | hp
          · exact i1 p hp
          · simp at hp; subst hp; exact Nat.le_refl _
        · rw [List.mem_append, ← i2 q]
          simp only [un, List.any_append, List.any_cons, List.any_nil, Bool.or_eq_true, spn, Bool.and_eq_true, decide_eq_true_eq, List.mem_singleton]
          constructor
          · rintro (h3 | h3)
            · exact .inl h3
            · rcases h3 with h3 | h3
              · exact .inr (by omega)
              · cases h3
          · rintro (h3 | h3)
            · exact .inl h3
            · exact .inr (.inl ⟨by omega, by omega⟩)
def itx (p : Nat × Nat) : List UInt8 := if p.1 = p.2 then sp ins (UInt8.ofNat p.1) else if p.1 + 1 = p.2 then sp ins (UInt8.ofNat p.1) ++ sp ins (UInt8.ofNat p.2) else sp ins (UInt8.ofNat p.1) ++ 45 :: sp ins (UInt8.ofNat p.2)
/-- A set's list, and its text. -/
def ls (f : Nat → Bool) : List Nat := (List.range 256).filter f
def body (f : Nat → Bool) : List UInt8 := (sps (ls f)).flatMap itx
def neg (f : Nat → Bool) : Nat → Bool := fun q => !f q
def turned (f : Nat → Bool) : Bool := decide ((ls f).length = 0) || (decide (128 < (ls f).length) && !decide ((ls f).length = 256))
def btx (f : Nat → Bool) : List UInt8 := if turned f then 91 :: 94 :: (body (neg f) ++ [93]) else 91 :: (body f ++ [93])
theorem ls_mem (f : Nat → Bool) (q : Nat) : q ∈ ls f ↔ q < 256 ∧ f q = true := by simp [ls]
theorem ls_len (f : Nat → Bool) : (ls f).length ≤ 256 := by
  have := List.length_filter_le f (List.range 256)
  simpa [ls] using this
theorem body_len (f : Nat → Bool) : (body f).length ≤ 2304 := by
  have h1 : (sps (ls f)).length ≤ 256 := Nat.le_trans (sps_len _) (ls_len f)
  have h2 : ∀ ps : List (Nat × Nat), (ps.flatMap itx).length ≤ 9 * ps.length := by
    intro ps
    induction ps with
    | nil => simp
    | cons p r ih =>
      have hp : (itx p).length ≤ 9 := by
        have h1 := sp_len (UInt8.ofNat p.1)
        have h2 := sp_len (UInt8.ofNat p.2)
        unfold itx
        split
        · omega
        · split
          · simp; omega
          · simp; omega
      rw [List.flatMap_cons, List.length_append, List.length_cons]
      omega
  have := h2 (sps (ls f))
  unfold body
  omega
theorem btx_len (f : Nat → Bool) : (btx f).length ≤ 2400 ∧ 2 ≤ (btx f).length := by
  have h1 := body_len f
  have h2 := body_len (neg f)
  unfold btx
  split <;> simp <;> omega
/-! Brackets of one byte each. -/
end Bk
end Go.Proofs.YteekonojmpihlaaDoor
