/- Lists of dofferlaw30.Act that came in, opened. -/
import Derived.Test.YtpjimmdpcpcmoaaDoorQPoolKp
import Derived.ChangeShapes
import Derived.WideShapes
namespace Go.Proofs.YtpjimmdpcpcmoaaDoor
open Go Go.RowKit Go.ChangeShapes Go.WideShapes Kt
namespace Po
theorem trod_struct5 {H : Type} {enc : TypeId × Value → H} {P : Program} {w : World} {base : Nat} {spare : Nat → Bool} {held : Bool} {t : TypeId} {f0 f1 f2 f3 f4 : Field} {fuel : Nat} {cs : List Value} {x : DataW H × List MemPlace} (ht : P.underlying t = some (.struct #[f0, f1, f2, f3, f4])) (h : DataW.trod enc P w base spare held fuel t cs = some x) :
    ∃ y0 y1 y2 y3 y4 n, cs.length = P.cellsOf t ∧ DataW.trod enc P w base spare held n f0.type ((cs.drop f0.offset).take (P.cellsOf f0.type)) = some y0 ∧ DataW.trod enc P w base spare held n f1.type ((cs.drop f1.offset).take (P.cellsOf f1.type)) = some y1 ∧
      DataW.trod enc P w base spare held n f2.type ((cs.drop f2.offset).take (P.cellsOf f2.type)) = some y2 ∧ DataW.trod enc P w base spare held n f3.type ((cs.drop f3.offset).take (P.cellsOf f3.type)) = some y3 ∧ DataW.trod enc P w base spare held n f4.type ((cs.drop f4.offset).take (P.cellsOf f4.type)) = some y4 := by
  obtain ⟨xs, n, _, rfl, hl, hlen, hf⟩ := DataW.trod_struct ht h
  match xs, hlen with
  | [y0, y1, y2, y3, y4], _ => exact ⟨y0, y1, y2, y3, y4, n, hl, by simpa using hf 0 f0 rfl, by simpa using hf 1 f1 rfl, by simpa using hf 2 f2 rfl, by simpa using hf 3 f3 rfl, by simpa using hf 4 f4 rfl⟩
theorem wf_u8 {k : Int} (h : (Lit.int .u8 k).wf = true) : ∃ c : UInt8, k = (c.toNat : Int) := by
  simp [Lit.wf, IntKind.min, IntKind.max, IntKind.signed, IntKind.bits] at h
  refine ⟨UInt8.ofNat k.toNat, ?_⟩
  simp
  omega
set_option maxRecDepth 100000 in
theorem open_acts30 {H : Type} {enc : TypeId × Value → H} {w : World} {fuel : Nat} {v : Value} {x : DataW H × List MemPlace} (h : DataW.trod enc Tryd.prog w 0 (fun _ => true) true fuel 22 [v] = some x) :
    ∃ a cap, ∃ l : List AcT, v = .slice a l.length cap ∧ l.length ≤ cap ∧ cap ≤ maxLen ∧ (a = none → cap = 0) ∧ Rd w a (l.flatMap ac5) ∧ ∀ z ∈ l, (Lit.int .i64 z.n).wf = true ∧ (Lit.int .i64 z.m).wf = true := by
  obtain ⟨a, cap, l, h1, h2, h3, h4, h5, h6⟩ := open_structs (sz := 5) (α := AcT) ac5 (fun z => (Lit.int .i64 z.n).wf = true ∧ (Lit.int .i64 z.m).wf = true) Tryd.underlying22 (by kernel_rfl) (by omega) (fun n cs y hy => by
    obtain ⟨y0, y1, y2, y3, y4, m, hl, t0, t1, t2, t3, t4⟩ := trod_struct5 Tryd.underlying32 hy
    rw [show Tryd.prog.cellsOf 32 = 5 from by kernel_rfl] at hl
    have ci : Tryd.prog.cellsOf 3 = 1 := by kernel_rfl
    have cb : Tryd.prog.cellsOf 5 = 1 := by kernel_rfl
    match cs, hl with
    | [u0, u1, u2, u3, u4], _ =>
      obtain ⟨k0, e0, wa0, wb0⟩ := DataW.trod_int Tryd.underlying3 t0
      obtain ⟨k1, e1, wa1, wb1⟩ := DataW.trod_int Tryd.underlying3 t1
      obtain ⟨k2, e2, wa2, wb2⟩ := DataW.trod_int Tryd.underlying3 t2
      obtain ⟨k3, e3, wa3, wb3⟩ := DataW.trod_int Tryd.underlying3 t3
      obtain ⟨k4, e4, wa4, wb4⟩ := DataW.trod_int Tryd.underlying5 t4
      obtain ⟨c, rfl⟩ := wf_u8 (by first | exact wa4 | exact wb4)
      simp only [ci, cb] at e0 e1 e2 e3 e4
      simp at e0 e1 e2 e3 e4
      subst e0 e1 e2 e3 e4
      exact ⟨⟨k0, k1, k2, k3, c⟩, rfl, rfl, by first | exact wa1 | exact wb1, by first | exact wa2 | exact wb2⟩) h
  exact ⟨a, cap, l, h1, h2, h3, h4, h5, fun z hz => (h6 z hz).2⟩
end Po
end Go.Proofs.YtpjimmdpcpcmoaaDoor
