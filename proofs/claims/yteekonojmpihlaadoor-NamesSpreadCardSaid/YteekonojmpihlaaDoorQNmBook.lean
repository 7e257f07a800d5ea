import Derived.Test.YteekonojmpihlaaDoorQNmFind
import Derived.Shelf.SlMaps.Clone
import Derived.Deep.RegionHeld3
/- Package names: New, All, Copy; slices.Clone over texts, maps.Clone over nodes (the shelf's structure laid at the seat). -/
namespace Go.Proofs.YteekonojmpihlaaDoor
namespace Kt
end Kt
namespace St
end St
namespace Sp
end Sp
namespace Bk
end Bk
namespace Tr
end Tr
open Go Go.RowKit Go.Shelf Kt St Sp Bk Tr
namespace Bo
set_option maxRecDepth 100000 in
theorem new_c (X : List Nat) (w : World) : Calls Tryd.prog 32 #[] w fun e w' => ∃ p L, e = .returned (.pointer (some ⟨p, 0, none⟩)) ∧ BK w' p L X [] ∧ (∀ b ∈ L, w.heap.size ≤ b) ∧ Below w.heap.size w w' := by
  have z1 : (w.alloc (.map #[] 0)).heap.size = w.heap.size + 1 := by simp
  have hbk : BK ((w.alloc (.map #[] 0)).alloc (.cells #[.slice none 0 0, .map (some w.heap.size)] 109 (0, 0))) (w.heap.size + 1) [w.heap.size + 1, w.heap.size] X [] := by
    have hl := World.alloc_heap_new (w.alloc (.map #[] 0)) (.cells #[.slice none 0 0, .map (some w.heap.size)] 109 (0, 0))
    rw [z1] at hl
    refine ⟨none, 0, w.heap.size, 0, [], ⟨hl, World.ownsRow_nil _ _ _ _, (MapG.made w Tryd.prog 9 nil0).below ((Below.refl _ _).alloc (Nat.le_refl _) _), rfl, by omega, by simp [Value.ownBlock], by decide, by simp⟩, rfl, (by intro q hq; cases hq), rfl⟩
  have hB : Below w.heap.size w ((w.alloc (.map #[] 0)).alloc (.cells #[.slice none 0 0, .map (some w.heap.size)] 109 (0, 0))) := ((Below.refl _ w).alloc (Nat.le_refl _) _).alloc (by simp) _
  have H := Lib.hid (And.intro hbk hB)
  clear hbk hB z1
  have hmm := @run_makeMap Tryd.prog
  go_enter Tryd.func32, Tryd.ntmps32
  go_wp2
  go_ret
  exact ⟨_, _, rfl, H.out.1, by simp, H.out.2⟩
end Bo
end Go.Proofs.YteekonojmpihlaaDoor
