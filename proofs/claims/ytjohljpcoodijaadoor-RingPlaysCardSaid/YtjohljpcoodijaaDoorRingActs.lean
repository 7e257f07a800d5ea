/- The acts of the ring's laws, opened. -/
import Derived.Test.YtjohljpcoodijaaDoorRingAl
namespace Go.Proofs.YtjohljpcoodijaaDoor
open Go Go.RowKit Go.ChangeShapes Go.WideShapes Kt
namespace RgA
def c2 (x : Int × Int) : List Value := [.int .i64 x.1, .int .i64 x.2]
set_option maxRecDepth 100000 in
theorem open_acts {H : Type} {enc : TypeId × Value → H} {w : World} {fuel : Nat} {v : Value} {x : DataW H × List MemPlace} (h : DataW.trod enc Tryd.prog w 0 (fun _ => true) true fuel 45 [v] = some x) :
    ∃ a cap, ∃ l : List (Int × Int), v = .slice a l.length cap ∧ l.length ≤ cap ∧ cap ≤ maxLen ∧ (a = none → cap = 0) ∧ Rd w a (l.flatMap c2) ∧ ∀ z ∈ l, (Lit.int .i64 z.1).wf = true ∧ (Lit.int .i64 z.2).wf = true := by
  obtain ⟨a, cap, l, h1, h2, h3, h4, h5, h6⟩ := open_structs (sz := 2) (α := Int × Int) c2 (fun z => (Lit.int .i64 z.1).wf = true ∧ (Lit.int .i64 z.2).wf = true) Tryd.underlying45 (by kernel_rfl) (by omega) (fun n cs y hy => by
    obtain ⟨y0, y1, m, _, hl, t0, t1⟩ := trod_struct2 Tryd.underlying50 hy
    rw [show Tryd.prog.cellsOf 50 = 2 from by kernel_rfl] at hl
    have c3 : Tryd.prog.cellsOf 3 = 1 := by kernel_rfl
    match cs, hl with
    | [u0, u1], _ =>
      obtain ⟨k0, e0, _, w0⟩ := DataW.trod_int Tryd.underlying3 t0
      obtain ⟨k1, e1, _, w1⟩ := DataW.trod_int Tryd.underlying3 t1
      simp only [c3] at e0 e1
      simp at e0 e1
      subst e0 e1
      exact ⟨(k0, k1), rfl, rfl, w0, w1⟩) h
  exact ⟨a, cap, l, h1, h2, h3, h4, h5, fun z hz => (h6 z hz).2⟩
end RgA
end Go.Proofs.YtjohljpcoodijaaDoor
