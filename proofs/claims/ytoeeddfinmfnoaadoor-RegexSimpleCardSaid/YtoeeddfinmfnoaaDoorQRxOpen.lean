import Derived.Test.YtoeeddfinmfnoaaDoorQRxAlive
import Derived.Test.YtoeeddfinmfnoaaDoorQRxPure
import Derived.Test.YtoeeddfinmfnoaaDoorQTreeSm
import Derived.Test.YtoeeddfinmfnoaaDoorQRxOd
/- The law RegexOpen's walk. Condition: the sentinels read as laid. -/
namespace Go.Proofs.YtoeeddfinmfnoaaDoor
namespace Kt
end Kt
namespace Sp
end Sp
namespace St
end St
namespace Bk
end Bk
namespace Bo
end Bo
namespace Tr
end Tr
open Go Go.RowKit Kt Sp St Bk Bo Tr
namespace Rx
/-- A right tree's texts are short. -/
theorem rgt_tl {n : Nd} (h : Tr.rgt n = true) : ∀ x ∈ Tr.walk n, x.1.text.length ≤ 50 := by
  intro x hx
  unfold Tr.rgt at h
  simp only [Bool.and_eq_true, List.all_eq_true] at h
  have h1 := (h.2 x hx).2
  unfold Tr.one Tr.bare at h1
  simp only [Bool.and_eq_true, Bool.or_eq_true, decide_eq_true_eq] at h1
  rcases h1.1.2 with h2 | h2
  · rw [h2]; simp
  · have h3 := h1.2
    rw [if_neg (by omega), if_neg (by omega), if_neg (by omega), if_neg (by omega)] at h3
    simp only [Bool.and_eq_true] at h3
    have := Ac.nm_len h3.2
    omega
theorem rgt_tl63 {n : Nd} (h : Tr.rgt n = true) : ∀ x ∈ Tr.walk n, x.1.text.length ≤ 9223372036854775807 := fun x hx => by have := rgt_tl h x hx; omega
end Rx
end Go.Proofs.YtoeeddfinmfnoaaDoor
