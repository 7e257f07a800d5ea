import Derived.Test.YtoeeddfinmfnoaaDoorQTreeBnd
import Derived.Test.YtoeeddfinmfnoaaDoorQTreeRight
import Derived.Test.YtoeeddfinmfnoaaDoorQTreeRw
import Derived.Test.YtoeeddfinmfnoaaDoorQSets7
/- tree.same, slices.EqualFunc over nodes, tree.Same. -/
namespace Go.Proofs.YtoeeddfinmfnoaaDoor
namespace Kt
end Kt
namespace St
end St
namespace Sp
end Sp
namespace Bk
end Bk
open Go Go.RowKit Kt St Sp Bk
namespace Tr
mutual
/-- Are two trees the same? -/
def sm : Nd → Nd → Bool
  | .mk k s mn mx t _ _ ks, .mk k' s' mn' mx' t' _ _ ks' => (decide (k = k') && decide (s = s') && decide (mn = mn') && decide (mx = mx') && decide (t = t')) && sms ks ks'
def sms : List Nd → List Nd → Bool
  | [], [] => true
  | n :: r, m :: q => sm n m && sms r q
  | [], _ :: _ => false
  | _ :: _, [] => false
end
mutual
theorem sm_iff : ∀ (a b : Nd), sm a b = true ↔ er a = er b
  | .mk k s mn mx t a c ks, .mk k' s' mn' mx' t' a' c' ks' => by
    simp only [sm, er, Bool.and_eq_true, decide_eq_true_eq, Nd.mk.injEq, sms_iff ks ks', true_and]
    constructor
    · rintro ⟨⟨⟨⟨⟨h1, h2⟩, h3⟩, h4⟩, h5⟩, h6⟩
      exact ⟨h1, h2, h3, h4, h5, h6⟩
    · rintro ⟨h1, h2, h3, h4, h5, h6⟩
      exact ⟨⟨⟨⟨⟨h1, h2⟩, h3⟩, h4⟩, h5⟩, h6⟩
theorem sms_iff : ∀ (a b : List Nd), sms a b = true ↔ ers a = ers b
  | [], [] => by simp [sms, ers]
  | n :: r, m :: q => by simp only [sms, ers, Bool.and_eq_true, List.cons.injEq, sm_iff n m, sms_iff r q]
  | [], _ :: _ => by simp [sms, ers]
  | _ :: _, [] => by simp [sms, ers]
end
end Tr
end Go.Proofs.YtoeeddfinmfnoaaDoor
