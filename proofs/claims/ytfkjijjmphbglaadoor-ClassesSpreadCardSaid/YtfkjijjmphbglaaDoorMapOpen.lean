/- A Map that came in, opened; rows of ints that came in. -/
import Derived.Test.YtfkjijjmphbglaaDoorDfaOpen
import Derived.Test.YtfkjijjmphbglaaDoorClsMap
import Derived.Test.YtfkjijjmphbglaaDoorIRows
namespace Go.Proofs.YtfkjijjmphbglaaDoor
open Go Go.RowKit Go.ChangeShapes Go.WideShapes Kt
namespace Cl
open Sb
theorem arr_cells : Tryd.prog.cellsOf 28 = 256 := by kernel_rfl
theorem map_cells : Tryd.prog.cellsOf 30 = 257 := by kernel_rfl
section
variable {H : Type} {enc : TypeId × Value → H} {w : World} {base : Nat} {spare : Nat → Bool} {held : Bool}
set_option maxRecDepth 100000 in
theorem open_map {r : Reach} {b0 : Nat} {v : Value} {d : DataW H} {p : List MemPlace} (hv : Value.okWide Tryd.prog w r b0 30 v) (h : DataW.Trod enc Tryd.prog w base spare held 30 v d p) :
    ∃ (C : List Int) (many : Int), v = .agg (i64s (C ++ [many])).toArray ∧ C.length = 256 := by
  obtain ⟨cs, rfl, hsz⟩ := okWide_struct Tryd.underlying30 hv
  rw [map_cells] at hsz
  obtain ⟨fuel, hf⟩ := h
  obtain ⟨y0, y1, n, _, hl, h0, h1⟩ := trod_struct2 Tryd.underlying30 hf
  simp only [Value.cells, arr_cells] at h0 h1
  obtain ⟨C, hC, hC2, _⟩ := open_ints Tryd.underlying28 arr_cells h0
  have he : Tryd.prog.cellsOf 3 = 1 := by kernel_rfl
  simp only [he] at h1
  obtain ⟨k, e1, _, _⟩ := DataW.trod_int Tryd.underlying3 h1
  refine ⟨C, k, ?_, hC2⟩
  have h3 : cs.toList = i64s (C ++ [k]) := by
    rw [i64s_append, ← hC]
    have e2 : i64s [k] = [Value.int .i64 k] := rfl
    rw [e2, ← e1]
    have h4 : (cs.toList.drop 256).length = 1 := by simp [hsz]
    have h5 : (cs.toList.drop 256).take 1 = cs.toList.drop 256 := List.take_of_length_le (by omega)
    rw [h5]
    simp
  congr 1
  apply Array.toList_inj.1
  simpa using h3
end
end Cl
end Go.Proofs.YtfkjijjmphbglaaDoor
