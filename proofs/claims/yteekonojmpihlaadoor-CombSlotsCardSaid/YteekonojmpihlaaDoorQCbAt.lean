/- Package comb: out, at. -/
import Derived.Test.YteekonojmpihlaaDoorQCbPure
import Derived.Test.YteekonojmpihlaaDoorRows
import Derived.BigQuiet
namespace Go.Proofs.YteekonojmpihlaaDoor
namespace Kt
end Kt
open Go Go.RowKit Kt
namespace Cb
theorem out_c (n b : Int) (w : World) : Calls Tryd.prog 80 #[.int .i64 n, .int .i64 b] w fun e w' => e = .returned (.bool (outb n b)) ∧ w = w' := by
  by_cases h : n < 0
  · have hr : outb n b = true := by simp [outb, h]
    rw [hr]
    go_enter Tryd.func80, Tryd.ntmps80
    go_wp2
    go_ret
    exact ⟨rfl, rfl⟩
  · by_cases h2 : b ≤ n
    · have hr : outb n b = true := by simp [outb, h2]
      rw [hr]
      go_enter Tryd.func80, Tryd.ntmps80
      go_wp2
      go_ret
      exact ⟨rfl, rfl⟩
    · have hr : outb n b = false := by simp [outb]; omega
      rw [hr]
      go_enter Tryd.func80, Tryd.ntmps80
      go_wp2
      go_ret
      exact ⟨rfl, rfl⟩
/-- A comb in a box. -/
theorem box5 {W : World} {b T : Nat} {v0 v1 v2 v3 v4 : Value} (h : W.heap[b]? = some (.cells #[v0, v1, v2, v3, v4] T (0, 0))) : W.cell? ⟨b, 0, none⟩ = some v0 ∧ W.cell? ⟨b, 1, none⟩ = some v1 ∧ W.cell? ⟨b, 2, none⟩ = some v2 ∧ W.cell? ⟨b, 3, none⟩ = some v3 ∧ W.cell? ⟨b, 4, none⟩ = some v4 :=
  ⟨cell_block h 0, cell_block h 1, cell_block h 2, cell_block h 3, cell_block h 4⟩
theorem rd_i64 {W : World} {a : Option Addr} {l : List Int} (h : Rd W a (i64s l)) (i : Nat) (hi : i < l.length) : ∃ b off, a = some ⟨b, off, none⟩ ∧ W.cell? ⟨b, off + i, none⟩ = some (.int .i64 (l.getD i 0)) := by
  obtain ⟨b, off, h1, h2⟩ := h.i64 i hi
  refine ⟨b, off, h1, ?_⟩
  rw [h2, List.getD_eq_getElem?_getD, List.getElem?_eq_getElem hi]
  rfl
end Cb
end Go.Proofs.YteekonojmpihlaaDoor
