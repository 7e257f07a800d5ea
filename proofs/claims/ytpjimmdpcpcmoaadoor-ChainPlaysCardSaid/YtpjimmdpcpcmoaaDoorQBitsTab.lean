import Derived.Test.YtpjimmdpcpcmoaaDoorQBits
import Derived.Lib.LaidTab
/- From a row's condition: the table of TrailingZeros64. -/
namespace Go.Proofs.YtpjimmdpcpcmoaaDoor
open Go Go.RowKit Kt
namespace Bt
theorem tab_mem {P : Program} {W : World} {name : String} {k : IntKind} {zs : List Int} {g : Nat} {t e : TypeId} {n : Nat}
    (hg : P.globalNamed name = some g) (hty : (P.globals[g]?).map (·.type) = some t) (ht : P.underlying t = some (.array n e)) (he : P.underlying e = some (.int k)) (hce : P.cellsOf e = 1) (hct : P.cellsOf t = n) :
    ∀ {L : List (String × DataW Unit)} {ps : List MemPlace}, DataW.LaidVars P W L ps → (name, Lib.tabData k zs) ∈ L → Lib.TabIs P W name k zs
  | [], _, _, h => by cases h
  | (m, d) :: L, ps, hL, hm => by
    obtain ⟨g', t', cs, fuel, p, q, hg', ht', hv, hd, hL', rfl⟩ := hL
    rcases List.mem_cons.1 hm with h | h
    · simp only [Prod.mk.injEq] at h
      obtain ⟨rfl, rfl⟩ := h
      obtain rfl := Option.some.inj (hg.symm.trans hg')
      obtain rfl := Option.some.inj (hty.symm.trans ht')
      have := Lib.cells_of_tab ht he hce hct hd
      unfold Lib.TabIs
      rw [hv, ← this]
    · exact tab_mem hg hty ht he hce hct hL' h
def zs : List Int := Lib.deBruijn64tab.map fun (n : Nat) => (n : Int)
theorem tab_met {W : World} {L : List (String × DataW Unit)} (hL : laidMetH Tryd.prog L W) (hpl : (L.filter fun x => x.2.handleName?.isSome).isEmpty = true) (i : Nat) (hi : L[i]? = some ("math/bits.deBruijn64tab", Lib.tabData .u8 zs)) : Tab W := by
  have hL' : laidMet Tryd.prog L W := by
    unfold laidMetH at hL
    rw [List.isEmpty_iff.1 hpl] at hL
    exact hL
  obtain ⟨ps, h1, _, _⟩ := hL'
  have h2 : Lib.TabIs Tryd.prog W "math/bits.deBruijn64tab" .u8 zs := tab_mem (g := 18) (t := 138) (by kernel_rfl) (by kernel_rfl) Tryd.underlying138 Tryd.underlying5 (by kernel_rfl) (by kernel_rfl) h1 (List.mem_of_getElem? hi)
  intro j hj
  have h3 := World.var?_cell (P := Tryd.prog) (g := 18) (by kernel_rfl) h2 j
  rw [h3]
  simp [zs, List.getElem?_eq_getElem hj, List.getD_eq_getElem?_getD]
end Bt
end Go.Proofs.YtpjimmdpcpcmoaaDoor
