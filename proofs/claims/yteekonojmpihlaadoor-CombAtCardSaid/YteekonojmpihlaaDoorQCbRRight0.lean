/- Plain law of chapter 23: the document's test of a slot. -/
import Derived.Test.YteekonojmpihlaaDoorQCbRAt
namespace Go.Proofs.YteekonojmpihlaaDoor
namespace Kt
end Kt
open Go Go.RowKit Kt
namespace Cb
def rskip (c : Cs) (i : Nat) : Bool := decide (c.check.getD i 0 = -1) && (decide (c.next.getD i 0 = 0) && decide (i + 1 < c.check.length))
def rslot (c : Cs) (i : Nat) : Bool := rskip c i || (!outb (c.check.getD i 0) c.base.length && (!outb ((i : Int) - c.base.getD (c.check.getD i 0).toNat 0) c.wide && !outb (c.next.getD i 0) c.base.length))
theorem rslot_eq (c : Cs) (i : Nat) (_hi : i < c.check.length) : rslot c i = (slotOk c i && (decide (i + 1 < c.check.length) || decide (c.check.getD i 0 ≠ -1))) := by
  unfold rslot rskip slotOk
  by_cases h : c.check.getD i 0 = -1
  · rw [h]
    have : outb (-1) (c.base.length : Int) = true := by simp [outb]
    rw [this]
    simp
  · rw [if_neg h, decide_eq_false h, decide_eq_true h]
    simp
theorem all_rslot (c : Cs) : (List.range c.check.length).all (rslot c) = ((List.range c.check.length).all (slotOk c) && (decide (c.check.length = 0) || decide (c.check.getD (c.check.length - 1) 0 ≠ -1))) := by
  apply Bool.eq_iff_iff.2
  rw [all_range, Bool.and_eq_true, all_range]
  constructor
  · intro h
    have h2 : ∀ k, k < c.check.length → slotOk c k = true := fun k hk => by
      have := h k hk
      rw [rslot_eq c k hk, Bool.and_eq_true] at this
      exact this.1
    refine ⟨h2, ?_⟩
    by_cases hz : c.check.length = 0
    · simp [hz]
    · have := h (c.check.length - 1) (by omega)
      rw [rslot_eq c _ (by omega), Bool.and_eq_true] at this
      have h3 := this.2
      rw [decide_eq_false (by omega), Bool.false_or] at h3
      rw [h3]
      simp
  · rintro ⟨h1, h2⟩ k hk
    rw [rslot_eq c k hk, h1 k hk, Bool.true_and]
    by_cases hl : k + 1 < c.check.length
    · simp [hl]
    · have e : k = c.check.length - 1 := by omega
      rw [decide_eq_false (by omega), Bool.false_or] at h2
      rw [← e] at h2
      rw [h2]
      simp
end Cb
end Go.Proofs.YteekonojmpihlaaDoor
