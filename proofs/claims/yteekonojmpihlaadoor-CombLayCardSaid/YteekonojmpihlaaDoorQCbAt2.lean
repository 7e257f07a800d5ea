/- Package comb: At, Same. dofferref23: At, Same. -/
import Derived.Test.YteekonojmpihlaaDoorQCbRight
import Derived.Test.YteekonojmpihlaaDoorQMod
import Derived.Test.YteekonojmpihlaaDoorRows
import Derived.Test.YteekonojmpihlaaDoorQSame
namespace Go.Proofs.YteekonojmpihlaaDoor
namespace Kt
end Kt
open Go Go.RowKit Kt
namespace Cb
/-- What a right comb's numbers are. -/
structure Good (c : Cs) : Prop where
  many : 1 ≤ c.base.length ∧ c.base.length ≤ 200
  dflt : c.dflt.length = c.base.length
  wide : 1 ≤ c.wide ∧ c.wide ≤ 256
  next : c.next.length = c.check.length
  slots : c.check.length ≤ 65536
  bases : ∀ r, r < c.base.length → 0 ≤ c.base.getD r 0 ∧ c.base.getD r 0 < 65536
  dflts : ∀ r, r < c.base.length → 0 ≤ c.dflt.getD r 0 ∧ c.dflt.getD r 0 < c.base.length
theorem good_of {c : Cs} (h : rightC c = true) : Good c := by
  unfold rightC at h
  simp only [Bool.and_eq_true, decide_eq_true_eq] at h
  obtain ⟨⟨⟨⟨⟨⟨⟨h1, h2⟩, h3⟩, h4⟩, h5⟩, h6⟩, h7⟩, h8, h9, h10⟩ := h
  have hb := (all_range _ _).1 h8
  refine ⟨⟨h1, h2⟩, h3, ⟨h4, h5⟩, h6, by omega, fun r hr => ?_, fun r hr => ?_⟩ <;>
  · have h := hb r hr
    unfold baseOk at h
    simp only [outb, Bool.and_eq_true, Bool.not_eq_true', Bool.or_eq_false_iff, decide_eq_false_iff_not] at h
    omega
end Cb
end Go.Proofs.YteekonojmpihlaaDoor
