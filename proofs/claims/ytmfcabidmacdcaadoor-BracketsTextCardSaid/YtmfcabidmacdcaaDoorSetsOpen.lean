/- A set that came in. -/
import Derived.Test.YtmfcabidmacdcaaDoorSets1
import Derived.Laws.IdiomArrays
import Derived.OpenShut
namespace Go.Proofs.YtmfcabidmacdcaaDoor
open Go Go.RowKit Kt
namespace St
open Mk
theorem wf_u64 {n : Int} (h : (Lit.int .u64 n).wf = true) : ∃ c : Nat, n = (c : Int) ∧ c < 18446744073709551616 := by
  have h1 : 0 ≤ n ∧ n ≤ 18446744073709551615 := bounds_u64 h
  exact ⟨n.toNat, by omega, by omega⟩
set_option maxRecDepth 100000 in
theorem open_set {H : Type} {enc : TypeId × Value → H} {W : World} {r : Reach} {b0 base : Nat} {spare : Nat → Bool} {held : Bool} {v : Value} {d : DataW H} {ps : List MemPlace} (hval : Value.okWide Tryd.prog W r b0 25 v)
    (h : DataW.Trod enc Tryd.prog W base spare held 25 v d ps) : ∃ ws, v = sv ws ∧ IsSet ws (has ws) := by
  have hc : Tryd.prog.cellsOf 25 = 4 := by kernel_rfl
  have hce : Tryd.prog.cellsOf 23 = 1 := by kernel_rfl
  simp only [Value.okWide, Tryd.underlying25] at hval
  obtain ⟨cs, rfl, hsz, _⟩ := hval
  rw [hc] at hsz
  obtain ⟨c0, c1, c2, c3, hcs⟩ : ∃ c0 c1 c2 c3, cs.toList = [c0, c1, c2, c3] := by
    match hl : cs.toList, (show cs.toList.length = 4 by simpa using hsz) with
    | [a, b, c, d], _ => exact ⟨a, b, c, d, rfl⟩
  obtain ⟨fuel, hf⟩ := h
  have hf' : DataW.trod enc Tryd.prog W base spare held fuel 25 [c0, c1, c2, c3] = some (d, ps) := by
    rw [← hcs]
    exact hf
  obtain ⟨y0, y1, y2, y3, m, _, h0, h1, h2, h3⟩ := Go.ChangeShapes.trod_array4 Tryd.underlying25 hce hf'
  obtain ⟨n0, e0, _, k0⟩ := DataW.trod_int Tryd.underlying23 h0
  obtain ⟨n1, e1, _, k1⟩ := DataW.trod_int Tryd.underlying23 h1
  obtain ⟨n2, e2, _, k2⟩ := DataW.trod_int Tryd.underlying23 h2
  obtain ⟨n3, e3, _, k3⟩ := DataW.trod_int Tryd.underlying23 h3
  simp at e0 e1 e2 e3
  obtain ⟨z0, rfl, l0⟩ := wf_u64 k0
  obtain ⟨z1, rfl, l1⟩ := wf_u64 k1
  obtain ⟨z2, rfl, l2⟩ := wf_u64 k2
  obtain ⟨z3, rfl, l3⟩ := wf_u64 k3
  refine ⟨[z0, z1, z2, z3], ?_, isSet_self rfl (by intro x hx; simp at hx; omega)⟩
  subst e0 e1 e2 e3
  unfold sv
  congr 1
  apply Array.toList_inj.1
  rw [hcs]
  rfl
end St
end Go.Proofs.YtmfcabidmacdcaaDoor
