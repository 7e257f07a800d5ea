/- dofferlaw01.SetsMix returns true. Condition: the table of TrailingZeros64 reads as laid. -/
import Derived.Test.YtmfcabidmacdcaaDoorSets9
import Derived.Test.YtmfcabidmacdcaaDoorSetsR3
namespace Go.Proofs.YtmfcabidmacdcaaDoor
open Go Go.RowKit Kt
namespace St
open Mk
theorem exists_set (f : Nat → Bool) : ∃ rs, IsSet rs f := by
  have key : ∀ n, n ≤ 256 → ∃ rs, IsSet rs (fun q => decide (q < n) && f q) := by
    intro n
    induction n with
    | zero => intro _; exact ⟨[0, 0, 0, 0], rfl, zero_set.lt, fun c hc => by rw [zero_set.at' c hc]; simp⟩
    | succ n ih =>
      intro hn
      obtain ⟨rs, hrs⟩ := ih (by omega)
      cases hf : f n with
      | false =>
        refine ⟨rs, hrs.len, hrs.lt, fun q hq => ?_⟩
        rw [hrs.at' q hq]
        by_cases hqn : q = n
        · subst hqn; rw [hf]; simp
        · congr 1; apply decide_eq_decide.2; omega
      | true =>
        have hp := put_set hrs n (by omega)
        refine ⟨put rs n, hp.len, hp.lt, fun q hq => ?_⟩
        rw [hp.at' q hq]
        by_cases hqn : q = n
        · subst hqn; rw [hf]; simp
        · have e1 : decide (n = q) = false := by simp; omega
          rw [e1, Bool.or_false]
          congr 1
          apply decide_eq_decide.2
          omega
  obtain ⟨rs, hrs⟩ := key 256 (Nat.le_refl _)
  exact ⟨rs, hrs.len, hrs.lt, fun q hq => by rw [hrs.at' q hq]; have : decide (q < 256) = true := by simpa using hq
                                             rw [this, Bool.true_and]⟩
theorem pin {P : Program} {F : FuncId} {args : Array Value} {W : World} {f g : Nat → Bool} {r : List Nat} (h : Calls P F args W fun e w' => ∃ rs, e = .returned (sv rs) ∧ IsSet rs f ∧ Below W.heap.size W w') (hr : IsSet r g) (hfg : ∀ c, c < 256 → f c = g c) : Calls P F args W fun e w' => e = .returned (sv r) ∧ Below W.heap.size W w' := by
  refine h.mono ?_
  rintro e w' ⟨rs, rfl, hrs, hb⟩
  have : IsSet rs g := ⟨hrs.len, hrs.lt, fun c hc => by rw [hrs.at' c hc, hfg c hc]⟩
  rw [this.unique hr]
  exact ⟨rfl, hb⟩

end St
end Go.Proofs.YtmfcabidmacdcaaDoor
