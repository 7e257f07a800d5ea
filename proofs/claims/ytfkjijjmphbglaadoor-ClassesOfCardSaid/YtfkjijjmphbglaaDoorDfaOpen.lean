/- A DFA that came in, opened. -/
import Derived.Test.YtfkjijjmphbglaaDoorSub
import Derived.Lib.SmallJoins
namespace Go.Proofs.YtfkjijjmphbglaaDoor
open Go Go.RowKit Go.ChangeShapes Go.WideShapes Kt
namespace Sb
section
variable {H : Type} {enc : TypeId × Value → H} {w : World} {base : Nat} {spare : Nat → Bool} {held : Bool}
/-- An array of n ints. -/
theorem open_ints {t n : Nat} (ht : Tryd.prog.underlying t = some (.array n 3)) (hc : Tryd.prog.cellsOf t = n) {fuel : Nat} {cs : List Value} {y : DataW H × List MemPlace} (h : DataW.trod enc Tryd.prog w base spare held fuel t cs = some y) :
    ∃ z : List Int, cs = i64s z ∧ z.length = n ∧ ∀ x ∈ z, (Lit.int .i64 x).wf = true := by
  obtain ⟨xs, m, _, _, hl, hx, hi⟩ := DataW.trod_array ht h
  rw [hc] at hl
  have he : Tryd.prog.cellsOf 3 = 1 := by kernel_rfl
  obtain ⟨g, hg⟩ := Deep.choose_lt (n := n) (p := fun i (z : Int) => cs[i]? = some (.int .i64 z) ∧ (Lit.int .i64 z).wf = true) (fun i hin => by
    have hi := hi i hin
    rw [he, Nat.mul_one, List.getElem?_eq_getElem (by omega)] at hi
    obtain ⟨k, e1, _, wk⟩ := DataW.trod_int Tryd.underlying3 hi
    refine ⟨k, ?_, wk⟩
    have : (cs.drop i)[0]? = some (.int .i64 k) := by
      have h2 : ((cs.drop i).take 1)[0]? = some (.int .i64 k) := by rw [e1]; rfl
      rw [List.getElem?_take] at h2
      simpa using h2
    simpa using this)
  refine ⟨(List.range n).map g, ?_, by simp, ?_⟩
  · apply List.ext_getElem?
    intro i
    by_cases hin : i < n
    · rw [(hg i hin).1]
      simp [i64s, hin]
    · rw [List.getElem?_eq_none (by omega), List.getElem?_eq_none (by simp [i64s]; omega)]
  · intro x hx
    obtain ⟨i, hi, rfl⟩ := List.mem_map.1 hx
    exact (hg i (by simpa using hi)).2
theorem row_cells : Tryd.prog.cellsOf 35 = 256 := by kernel_rfl
theorem dfa_cells : Tryd.prog.cellsOf 25 = 3 := by kernel_rfl
set_option maxRecDepth 100000 in
/-- A DFA. -/
theorem open_dfa {r : Reach} {b0 : Nat} {v : Value} {d : DataW H} {p : List MemPlace} (hv : Value.okWide Tryd.prog w r b0 25 v) (h : DataW.Trod enc Tryd.prog w base spare held 25 v d p) :
    ∃ (ra ua ea : Option Addr) (rc uc ec : Nat) (rows : List (List Int)) (rule entry : List Int), v = .agg #[.slice ra rows.length rc, .slice ua rule.length uc, .slice ea entry.length ec] ∧ Df w ra ua ea rows rule entry ∧
      rows.length ≤ 9223372036854775807 ∧ rule.length ≤ 9223372036854775807 ∧ entry.length ≤ 9223372036854775807 ∧ (ra = none → rc = 0) ∧ (ua = none → uc = 0) ∧ (ea = none → ec = 0) := by
  obtain ⟨v0, v1, v2, y0, y1, y2, n, rfl, _, _, h0, h1, h2⟩ := Joins.open_agg3 Tryd.underlying25 (by kernel_rfl) dfa_cells hv h
  obtain ⟨ra, rc, rows, rfl, a1, a2, a5, a3, a4⟩ := open_structs (α := List Int) (sz := 256) i64s (fun z => z.length = 256) Tryd.underlying22 row_cells (by omega) (fun n cs y hy => by
    obtain ⟨z, rfl, hz, _⟩ := open_ints Tryd.underlying35 row_cells hy
    exact ⟨z, rfl, by rw [i64s_length]; exact hz, hz⟩) h0
  obtain ⟨ua, uc, rule, rfl, b1, b2, b5, b3, _⟩ := open_i64s Tryd.underlying23 Tryd.underlying3 (by kernel_rfl) h1
  obtain ⟨ea, ec, entry, rfl, c1, c2, c5, c3, _⟩ := open_i64s Tryd.underlying23 Tryd.underlying3 (by kernel_rfl) h2
  unfold maxLen at a2 b2 c2
  exact ⟨ra, ua, ea, rc, uc, ec, rows, rule, entry, rfl, ⟨fun r hr => (a4 r hr).2, a3, b3, c3⟩, by omega, by omega, by omega, a5, b5, c5⟩
end
end Sb
end Go.Proofs.YtfkjijjmphbglaaDoor
