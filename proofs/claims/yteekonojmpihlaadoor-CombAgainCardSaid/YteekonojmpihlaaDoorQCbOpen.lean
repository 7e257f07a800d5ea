/- A comb that came in, opened. -/
import Derived.Test.YteekonojmpihlaaDoorQCbAt2
import Derived.Test.YteekonojmpihlaaDoorRows
import Derived.Lib.SmallJoins
import Derived.ChangeArms
namespace Go.Proofs.YteekonojmpihlaaDoor
namespace Kt
end Kt
open Go Go.RowKit Go.ChangeShapes Go.WideShapes Kt
namespace Cb
theorem comb_cells : Tryd.prog.cellsOf 71 = 5 := by kernel_rfl
section
variable {H : Type} {enc : TypeId × Value → H} {w : World} {base : Nat} {spare : Nat → Bool} {held : Bool}
set_option maxRecDepth 100000 in
theorem open_comb {r : Reach} {b0 : Nat} {v : Value} {d : DataW H} {p : List MemPlace} (hv : Value.okWide Tryd.prog w r b0 71 v) (h : DataW.Trod enc Tryd.prog w base spare held 71 v d p) :
    ∃ c : Cs, v = cv c ∧ Is w c ∧ c.base.length ≤ 9223372036854775807 ∧ c.dflt.length ≤ 9223372036854775807 ∧ c.next.length ≤ 9223372036854775807 ∧ c.check.length ≤ 9223372036854775807 := by
  obtain ⟨cs, rfl, hsz⟩ := okWide_struct Tryd.underlying71 hv
  rw [comb_cells] at hsz
  obtain ⟨fuel, hf⟩ := h
  obtain ⟨xs, n, hn, _, hl, hxl, hf⟩ := DataW.trod_struct Tryd.underlying71 hf
  have cn : Tryd.prog.cellsOf 69 = 1 := by kernel_rfl
  have ct : Tryd.prog.cellsOf 3 = 1 := by kernel_rfl
  obtain ⟨l, rfl⟩ : ∃ l : List Value, cs = l.toArray := ⟨cs.toList, by simp⟩
  simp only [Value.cells, List.size_toArray] at hl hsz hf
  match l, hsz, xs, hxl with
  | [u0, u1, u2, u3, u4], _, [y0, y1, y2, y3, y4], _ =>
    have h0 : DataW.trod enc Tryd.prog w base spare held n 3 [u0] = some y0 := by
      have h : DataW.trod enc Tryd.prog w base spare held n 3 (List.take (Tryd.prog.cellsOf 3) (List.drop 0 [u0, u1, u2, u3, u4])) = some y0 := hf 0 _ rfl
      rw [ct] at h
      exact h
    have h1 : DataW.trod enc Tryd.prog w base spare held n 69 [u1] = some y1 := by
      have h : DataW.trod enc Tryd.prog w base spare held n 69 (List.take (Tryd.prog.cellsOf 69) (List.drop 1 [u0, u1, u2, u3, u4])) = some y1 := hf 1 _ rfl
      rw [cn] at h
      exact h
    have h2 : DataW.trod enc Tryd.prog w base spare held n 69 [u2] = some y2 := by
      have h : DataW.trod enc Tryd.prog w base spare held n 69 (List.take (Tryd.prog.cellsOf 69) (List.drop 2 [u0, u1, u2, u3, u4])) = some y2 := hf 2 _ rfl
      rw [cn] at h
      exact h
    have h3 : DataW.trod enc Tryd.prog w base spare held n 69 [u3] = some y3 := by
      have h : DataW.trod enc Tryd.prog w base spare held n 69 (List.take (Tryd.prog.cellsOf 69) (List.drop 3 [u0, u1, u2, u3, u4])) = some y3 := hf 3 _ rfl
      rw [cn] at h
      exact h
    have h4 : DataW.trod enc Tryd.prog w base spare held n 69 [u4] = some y4 := by
      have h : DataW.trod enc Tryd.prog w base spare held n 69 (List.take (Tryd.prog.cellsOf 69) (List.drop 4 [u0, u1, u2, u3, u4])) = some y4 := hf 4 _ rfl
      rw [cn] at h
      exact h
    clear hf
    obtain ⟨k, e1, _, _⟩ := DataW.trod_int Tryd.underlying3 h0
    obtain ⟨a1, c1, l1, e2, p1, q1, _, r1, _⟩ := open_i64s Tryd.underlying69 Tryd.underlying3 (by kernel_rfl) h1
    obtain ⟨a2, c2, l2, e3, p2, q2, _, r2, _⟩ := open_i64s Tryd.underlying69 Tryd.underlying3 (by kernel_rfl) h2
    obtain ⟨a3, c3, l3, e4, p3, q3, _, r3, _⟩ := open_i64s Tryd.underlying69 Tryd.underlying3 (by kernel_rfl) h3
    obtain ⟨a4, c4, l4, e5, p4, q4, _, r4, _⟩ := open_i64s Tryd.underlying69 Tryd.underlying3 (by kernel_rfl) h4
    unfold maxLen at q1 q2 q3 q4
    simp only [List.cons.injEq, and_true] at e1
    subst e1 e2 e3 e4 e5
    exact ⟨⟨k, a1, l1, c1, a2, l2, c2, a3, l3, c3, a4, l4, c4⟩, rfl, ⟨r1, r2, r3, r4⟩, by simp only; omega, by simp only; omega, by simp only; omega, by simp only; omega⟩
end
end Cb
end Go.Proofs.YteekonojmpihlaaDoor
