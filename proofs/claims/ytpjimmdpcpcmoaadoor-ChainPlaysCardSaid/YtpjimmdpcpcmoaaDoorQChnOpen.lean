import Derived.Test.YtpjimmdpcpcmoaaDoorQChnLong
import Derived.Lib.SmallJoins
import Derived.ChangeShapes
import Derived.WideShapes
/- Arguments of chapter 31, opened. -/
namespace Go.Proofs.YtpjimmdpcpcmoaaDoor
open Go Go.RowKit Go.ChangeShapes Go.WideShapes Kt
namespace Ch
theorem trod_struct4 {H : Type} {enc : TypeId × Value → H} {P : Program} {w : World} {base : Nat} {spare : Nat → Bool} {held : Bool} {t : TypeId} {f0 f1 f2 f3 : Field} {fuel : Nat} {cs : List Value} {x : DataW H × List MemPlace} (ht : P.underlying t = some (.struct #[f0, f1, f2, f3])) (h : DataW.trod enc P w base spare held fuel t cs = some x) :
    ∃ y0 y1 y2 y3 n, cs.length = P.cellsOf t ∧ DataW.trod enc P w base spare held n f0.type ((cs.drop f0.offset).take (P.cellsOf f0.type)) = some y0 ∧ DataW.trod enc P w base spare held n f1.type ((cs.drop f1.offset).take (P.cellsOf f1.type)) = some y1 ∧
      DataW.trod enc P w base spare held n f2.type ((cs.drop f2.offset).take (P.cellsOf f2.type)) = some y2 ∧ DataW.trod enc P w base spare held n f3.type ((cs.drop f3.offset).take (P.cellsOf f3.type)) = some y3 := by
  obtain ⟨xs, n, _, rfl, hl, hlen, hf⟩ := DataW.trod_struct ht h
  match xs, hlen with
  | [y0, y1, y2, y3], _ => exact ⟨y0, y1, y2, y3, n, hl, by simpa using hf 0 f0 rfl, by simpa using hf 1 f1 rfl, by simpa using hf 2 f2 rfl, by simpa using hf 3 f3 rfl⟩
set_option maxRecDepth 100000 in
theorem open_sizes {H : Type} {enc : TypeId × Value → H} {w : World} {base : Nat} {spare : Nat → Bool} {held : Bool} {r : Reach} {b0 : Nat} {v : Value} {d : DataW H} {p : List MemPlace} (hv : Value.okWide Tryd.prog w r b0 65 v) (h : DataW.Trod enc Tryd.prog w base spare held 65 v d p) :
    ∃ z0 z1 z2 z3 : Int, v = .agg #[.int .i64 z0, .int .i64 z1, .int .i64 z2, .int .i64 z3] := by
  obtain ⟨v0, v1, v2, v3, y0, y1, y2, y3, n, rfl, _, _, h0, h1, h2, h3⟩ := Joins.open_agg4 Tryd.underlying65 (by kernel_rfl) (by kernel_rfl) hv h
  obtain ⟨k0, e0, _⟩ := DataW.trod_int Tryd.underlying3 h0
  obtain ⟨k1, e1, _⟩ := DataW.trod_int Tryd.underlying3 h1
  obtain ⟨k2, e2, _⟩ := DataW.trod_int Tryd.underlying3 h2
  obtain ⟨k3, e3, _⟩ := DataW.trod_int Tryd.underlying3 h3
  simp only [List.cons.injEq, and_true] at e0 e1 e2 e3
  subst e0 e1 e2 e3
  exact ⟨k0, k1, k2, k3, rfl⟩
set_option maxRecDepth 100000 in
theorem open_acts31 {H : Type} {enc : TypeId × Value → H} {w : World} {fuel : Nat} {v : Value} {x : DataW H × List MemPlace} (h : DataW.trod enc Tryd.prog w 0 (fun _ => true) true fuel 66 [v] = some x) :
    ∃ a cap, ∃ l : List AcC, v = .slice a l.length cap ∧ l.length ≤ cap ∧ cap ≤ maxLen ∧ (a = none → cap = 0) ∧ Rd w a (l.flatMap ac4) ∧ ∀ z ∈ l, z.ok w := by
  obtain ⟨a, cap, l, h1, h2, h3, h4, h5, h6⟩ := open_structs (sz := 4) (α := AcC) ac4 (fun z => z.ok w) Tryd.underlying66 (by kernel_rfl) (by omega) (fun n cs y hy => by
    obtain ⟨y0, y1, y2, y3, m, hl, t0, t1, t2, t3⟩ := trod_struct4 Tryd.underlying72 hy
    rw [show Tryd.prog.cellsOf 72 = 4 from by kernel_rfl] at hl
    have ci : Tryd.prog.cellsOf 3 = 1 := by kernel_rfl
    have cb : Tryd.prog.cellsOf 54 = 1 := by kernel_rfl
    have cw : Tryd.prog.cellsOf 4 = 1 := by kernel_rfl
    match cs, hl with
    | [u0, u1, u2, u3], _ =>
      obtain ⟨k0, e0, wa0, wb0⟩ := DataW.trod_int Tryd.underlying3 t0
      obtain ⟨k1, e1, wa1, wb1⟩ := DataW.trod_int Tryd.underlying3 t1
      obtain ⟨k3, e3, _⟩ := DataW.trod_bool Tryd.underlying4 t3
      have t2' : DataW.trod enc Tryd.prog w 0 (fun _ => true) true m 54 [u2] = some y2 := by
        have := t2
        simp only [cb] at this
        simpa using this
      obtain ⟨b, cp, bs, rfl, g1, g2, g3, g4⟩ := open_u8s Tryd.underlying54 Tryd.underlying5 (by kernel_rfl) t2'
      simp only [ci, cw] at e0 e1 e3
      simp at e0 e1 e3
      subst e0 e1 e3
      exact ⟨⟨k0, k1, b, bs, cp, k3⟩, rfl, rfl, g4, g3, g1, g2, by first | exact wa1 | exact wb1, by first | exact wa0 | exact wb0⟩) h
  exact ⟨a, cap, l, h1, h2, h3, h4, h5, fun z hz => (h6 z hz).2⟩
end Ch
end Go.Proofs.YtpjimmdpcpcmoaaDoor
