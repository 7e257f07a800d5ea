/- classes.Matrix at a DFA that is not right. -/
import Derived.Test.YtfkjijjmphbglaaDoorClsOf1
namespace Go.Proofs.YtfkjijjmphbglaaDoor
open Go Go.RowKit Kt
namespace Cl
open Sb
set_option maxHeartbeats 4000000 in
set_option maxRecDepth 100000 in
theorem cmat_no (ra ua ea : Option Addr) (rn rc un uc en ec : Nat) (rows : List (List Int)) (rule entry : List Int) (hrn : rows.length = rn) (hun : rule.length = un) (hen : entry.length = en) (h1 : rn ≤ 9223372036854775807) (h2 : un ≤ 9223372036854775807) (h3 : en ≤ 9223372036854775807) (hG : ¬ Sb.Good rows rule entry) (w : World) (h : Df w ra ua ea rows rule entry) (X : Value) (hX : w.cell? ⟨0, 0, none⟩ = some X) :
    Calls Tryd.prog 19 #[.agg #[.slice ra rn rc, .slice ua un uc, .slice ea en ec]] w fun e w' => e = .returned (.tuple #[.slice none 0 0, X]) ∧ Below w.heap.size w w' := by
  have hD0 := heap_alloc_new w (.cells #[.slice ra rn rc, .slice ua un uc, .slice ea en ec] 25)
  have hB0 := (Below.refl w.heap.size w).alloc (Nat.le_refl _) (.cells #[.slice ra rn rc, .slice ua un uc, .slice ea en ec] 25)
  have hrg := right_c ra ua ea rn rc un uc en ec rows rule entry hrn hun hen h1 h2 h3 _ (h.below hB0)
  have hsk : ∀ W, Below w.heap.size w W → W.cell? ⟨0, 0, none⟩ = some X := fun W hb => (hb.cell (p := ⟨0, 0, none⟩) (lt_of_cell hX)).trans hX
  have HR := Lib.hid hrg
  have HG := Lib.hid hG
  have SK := Lib.hid hsk
  have HB0 := Lib.hid hB0
  clear h hrn hG hrg hD0 hB0 hun hen hX hsk
  go_enter Tryd.func19, Tryd.ntmps19
  go_wp2_with fail
  refine HR.out.mono ?_
  rintro e w2 ⟨⟨v, rfl, hv⟩, hb2⟩
  have hvf : v = false := by
    cases v with
    | false => rfl
    | true => exact absurd (hv.1 rfl) HG.out
  subst hvf
  have hB2 := HB0.out.trans (hb2.mono HB0.out.size)
  have hg := SK.out _ hB2
  have HB2 := Lib.hid hB2
  clear hv hb2 hB2 HR HB0
  go_wp2
  go_quiet (fail)
  go_wp2
  go_ret2
  exact ⟨rfl, below_drewN HB2.out _⟩
end Cl
end Go.Proofs.YtfkjijjmphbglaaDoor
