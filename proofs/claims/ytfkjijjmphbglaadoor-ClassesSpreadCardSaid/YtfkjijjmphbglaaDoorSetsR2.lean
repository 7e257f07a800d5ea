/- The document's sets: dofferref01.Span, Both. -/
import Derived.Test.YtfkjijjmphbglaaDoorSetsR
namespace Go.Proofs.YtfkjijjmphbglaaDoor
open Go Go.RowKit Kt
namespace St
open Mk
theorem elBool : Kt.El Tryd.prog 67 4 (.bool false) 1 1 := ⟨Tryd.underlying67, info_parts (by kernel_rfl), rfl, by decide⟩
def mkl (f : Nat → Bool) : List Bool := (List.range 256).map f
theorem mkl_len (f : Nat → Bool) : (mkl f).length = 256 := by simp [mkl]
theorem mkl_get (f : Nat → Bool) (q : Nat) (hq : q < 256) : (mkl f).getD q false = f q := by
  rw [List.getD_eq_getElem?_getD]
  simp [mkl, hq]
theorem mkl_set (f g : Nat → Bool) (c : Nat) (v : Bool) (hv : g c = v) (h : ∀ q, q < 256 → q ≠ c → g q = f q) : (bools (mkl f)).set c (.bool v) = bools (mkl g) := by
  unfold bools
  rw [← List.map_set]
  congr 1
  apply List.ext_getElem
  · simp [mkl]
  · intro i h1 h2
    rw [List.getElem_set]
    have hi : i < 256 := by simpa [mkl] using h2
    by_cases hic : c = i
    · subst hic
      rw [if_pos rfl, ← hv]
      simp [mkl]
    · rw [if_neg hic]
      simp only [mkl, List.getElem_map, List.getElem_range]
      exact (h i hi (fun e => hic e.symm)).symm
theorem mkl_congr {f g : Nat → Bool} (h : ∀ q, q < 256 → f q = g q) : mkl f = mkl g := by
  apply List.map_congr_left
  intro q hq
  exact h q (by simpa using hq)
theorem zerosN (N : Nat) : (madeCells (Value.bool false).cells N).toList = bools ((List.range N).map fun _ => false) := by
  have e : (Value.bool false).cells = #[.bool false] := rfl
  rw [e, toList_madeCells_one]
  unfold bools
  rw [List.map_map]
  apply List.ext_getElem
  · simp
  · intro i h1 h2
    simp
theorem zeros256 : (madeCells (Value.bool false).cells (256 * 1)).toList = bools (mkl fun _ => false) := zerosN 256
/-- The loop of Span. -/
def RsR (w : World) (lo hi : Nat) (i : Value) (W : World) : Prop := ∃ c : Nat, lo ≤ c ∧ c ≤ 256 ∧ (c ≤ hi + 1 ∨ c = lo) ∧ i = .int .i64 (c : Int) ∧
  W.ownsRow (w.heap.size + 1) 4 1 (.slice (some ⟨w.heap.size + 1, 0, none⟩) 256 256) 256 (bools (mkl fun q => decide (lo ≤ q) && decide (q < c))) ∧
  W.heap[w.heap.size]? = some (.cells #[.int .u64 0, .int .u64 0, .int .u64 0, .int .u64 0] 55 (0, 0)) ∧ Below w.heap.size w W

end St
end Go.Proofs.YtfkjijjmphbglaaDoor
