import Derived.Test.YtoeeddfinmfnoaaDoorQSets4
import Derived.Deep.RegionHeld3
/- The walks of package sets: Minus, All, Has, Len, Empty, One. -/
namespace Go.Proofs.YtoeeddfinmfnoaaDoor
namespace Kt
end Kt
open Go Go.RowKit Kt
namespace St
open Mk
theorem zero_set : IsSet [0, 0, 0, 0] (fun _ => false) := by
  refine isSet_of (by intro x hx; simp at hx; subst hx; decide) fun i hi t ht => ?_
  have hi4 : i = 0 ∨ i = 1 ∨ i = 2 ∨ i = 3 := by omega
  rcases hi4 with rfl | rfl | rfl | rfl <;> simp
theorem store4 {w : World} {b T : Nat} {a0 a1 a2 a3 : Value} (h : w.heap[b]? = some (.cells #[a0, a1, a2, a3] T (0, 0))) (z0 z1 z2 z3 : Value) :
    ((((w.setCell ⟨b, 0, none⟩ z0).setCell ⟨b, 1, none⟩ z1).setCell ⟨b, 2, none⟩ z2).setCell ⟨b, 3, none⟩ z3).heap[b]? = some (.cells #[z0, z1, z2, z3] T (0, 0)) := by
  rw [block_setCell (block_setCell (block_setCell (block_setCell h z0) z1) z2) z3]
  rfl
theorem build_zero (w : World) : (Instr.build 24 #[]).run Tryd.prog w = .ok (sv [0, 0, 0, 0]) w := by kernel_rfl
theorem has_shift (x t : Nat) : (x / 2 ^ t) &&& 1 = if x.testBit t then 1 else 0 := by
  rw [Nat.and_one_is_mod]
  have h : (x / 2 ^ t).testBit 0 = x.testBit (0 + t) := Nat.testBit_div_two_pow x 0
  rw [Nat.testBit_zero, Nat.zero_add] at h
  rw [← h]
  by_cases hm : x / 2 ^ t % 2 = 1
  · simp [hm]
  · have : x / 2 ^ t % 2 = 0 := by omega
    simp [this]
end St
end Go.Proofs.YtoeeddfinmfnoaaDoor
