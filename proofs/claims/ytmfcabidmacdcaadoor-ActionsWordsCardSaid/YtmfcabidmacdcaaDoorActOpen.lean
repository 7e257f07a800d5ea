/- An action that came in, opened. -/
import Derived.Test.YtmfcabidmacdcaaDoorRows
import Derived.Test.YtmfcabidmacdcaaDoorLib
import Derived.ChangeMaps5
import Derived.ChangeArms
namespace Go.Proofs.YtmfcabidmacdcaaDoor
open Go Go.RowKit Go.ChangeShapes Go.WideShapes Kt
namespace Ac
theorem act_cells : Tryd.prog.cellsOf 48 = 2 := by kernel_rfl
theorem str_cells : Tryd.prog.cellsOf 9 = 1 := by kernel_rfl
set_option maxRecDepth 100000 in
theorem open_action {H : Type} {enc : TypeId × Value → H} {w : World} {base : Nat} {spare : Nat → Bool} {held : Bool} {r : Reach} {b0 : Nat} {v : Value} {d : DataW H} {p : List MemPlace} (hv : Value.okWide Tryd.prog w r b0 48 v) (h : DataW.Trod enc Tryd.prog w base spare held 48 v d p) :
    ∃ e b : List UInt8, v = .agg #[.string (Str e), .string (Str b)] := by
  obtain ⟨cs, rfl, hsz⟩ := okWide_struct Tryd.underlying48 hv
  rw [act_cells] at hsz
  obtain ⟨fuel, hf⟩ := h
  obtain ⟨y0, y1, n, _, hl, h0, h1⟩ := trod_struct2 Tryd.underlying48 hf
  simp only [Value.cells, str_cells] at h0 h1
  obtain ⟨s0, e0, _, _⟩ := DataW.trod_string Tryd.underlying9 h0
  obtain ⟨s1, e1, _, _⟩ := DataW.trod_string Tryd.underlying9 h1
  obtain ⟨c0, c1, hcs⟩ : ∃ c0 c1, cs.toList = [c0, c1] := by
    match hl : cs.toList, (show cs.toList.length = 2 by simpa using hsz) with
    | [a, b], _ => exact ⟨a, b, rfl⟩
  rw [hcs] at e0 e1
  simp at e0 e1
  refine ⟨s0.data.toList, s1.data.toList, ?_⟩
  congr 1
  apply Array.toList_inj.1
  rw [hcs, e0, e1]
  rfl
end Ac
end Go.Proofs.YtmfcabidmacdcaaDoor
