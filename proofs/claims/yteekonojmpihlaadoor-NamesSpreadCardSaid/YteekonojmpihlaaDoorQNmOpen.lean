import Derived.Test.YteekonojmpihlaaDoorQTreeOpen
import Derived.Test.YteekonojmpihlaaDoorQNmFind
/- An argument of the type []dofferlaw11.Def: names and trees. -/
namespace Go.Proofs.YteekonojmpihlaaDoor
namespace Kt
end Kt
namespace St
end St
namespace Sp
end Sp
namespace Bk
end Bk
namespace Tr
end Tr
open Go Go.RowKit Kt St Sp Bk Tr
namespace Bo
theorem def_cellsOf : Tryd.prog.cellsOf 104 = 10 := by kernel_rfl
set_option maxRecDepth 100000 in
theorem open_def {H : Type} {enc : TypeId × Value → H} {w : World} {base : Nat} {spare : Nat → Bool} {held : Bool} (fuel : Nat) (cs : List Value) (y : DataW H × List MemPlace) (hy : DataW.trod enc Tryd.prog w base spare held fuel 104 cs = some y) :
    ∃ z : List UInt8 × Nd, cs = dcells z ∧ (dcells z).length = 10 ∧ (Is w.heap.size w z.2 ∧ tl z.2 ∧ z.1.length ≤ 9223372036854775807) := by
  have cn : Tryd.prog.cellsOf 37 = 9 := nd_cellsOf
  have ct : Tryd.prog.cellsOf 9 = 1 := by kernel_rfl
  obtain ⟨xs, n, hn, _, hl, hxl, hf⟩ := DataW.trod_struct Tryd.underlying104 hy
  rw [def_cellsOf] at hl
  match cs, hl, xs, hxl with
  | [u0, u1, u2, u3, u4, u5, u6, u7, u8, u9], _, [y0, y1], _ =>
    have h0 : DataW.trod enc Tryd.prog w base spare held n 9 [u0] = some y0 := by
      have h : DataW.trod enc Tryd.prog w base spare held n 9 (List.take (Tryd.prog.cellsOf 9) (List.drop 0 [u0, u1, u2, u3, u4, u5, u6, u7, u8, u9])) = some y0 := hf 0 _ rfl
      rw [ct] at h
      exact h
    have h1 : DataW.trod enc Tryd.prog w base spare held n 37 [u1, u2, u3, u4, u5, u6, u7, u8, u9] = some y1 := by
      have h : DataW.trod enc Tryd.prog w base spare held n 37 (List.take (Tryd.prog.cellsOf 37) (List.drop 1 [u0, u1, u2, u3, u4, u5, u6, u7, u8, u9])) = some y1 := hf 1 _ rfl
      rw [cn] at h
      exact h
    clear hf hy
    obtain ⟨t, e0, _, lt⟩ := DataW.trod_string Tryd.underlying9 h0
    obtain ⟨z, e1, hz9, hI, _, htl⟩ := open_nd n _ _ h1
    simp only [List.cons.injEq, and_true] at e0
    subst e0
    refine ⟨(t.data.toList, z), ?_, by simp [dcells, hz9], hI, htl, ?_⟩
    · rw [dcells, ← e1]
      rfl
    · have h1 : t.size ≤ 9223372036854775807 := lt
      have h2 : t.size = t.data.toList.length := (Array.length_toList (xs := t.data)).symm
      simp only
      omega
theorem open_defs {H : Type} {enc : TypeId × Value → H} {w : World} {base : Nat} {spare : Nat → Bool} {held : Bool} {fuel : Nat} {v : Value} {x : DataW H × List MemPlace} (h : DataW.trod enc Tryd.prog w base spare held fuel 22 [v] = some x) :
    ∃ a cap, ∃ l : Bks, v = .slice a l.length cap ∧ l.length ≤ cap ∧ cap ≤ maxLen ∧ (a = none → cap = 0) ∧ Rd w a (l.flatMap dcells) ∧ ∀ z ∈ l, (dcells z).length = 10 ∧ (Is w.heap.size w z.2 ∧ tl z.2 ∧ z.1.length ≤ 9223372036854775807) :=
  open_structs (α := List UInt8 × Nd) dcells (fun z => Is w.heap.size w z.2 ∧ tl z.2 ∧ z.1.length ≤ 9223372036854775807) Tryd.underlying22 def_cellsOf (by omega) (fun n cs y hy => open_def n cs y hy) h
end Bo
end Go.Proofs.YteekonojmpihlaaDoor
