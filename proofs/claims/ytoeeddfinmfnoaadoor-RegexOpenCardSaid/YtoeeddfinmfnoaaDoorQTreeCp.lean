import Derived.Test.YtoeeddfinmfnoaaDoorQTreeBnd
import Derived.Test.YtoeeddfinmfnoaaDoorQApp
import Derived.Test.YtoeeddfinmfnoaaDoorQTreeRight
import Derived.Test.YtoeeddfinmfnoaaDoorQTreeTx
import Derived.Laws.OwnMore
import Derived.Deep.RegionHeld3
/- slices.Clone over nodes, tree.copied, tree.Copy. -/
namespace Go.Proofs.YtoeeddfinmfnoaaDoor
namespace Kt
end Kt
namespace St
end St
namespace Sp
end Sp
namespace Bk
end Bk
open Go Go.RowKit Kt St Sp Bk
namespace Tr
theorem nv_explicit {m : Nd} {v0 v1 v2 v3 : Nat} (hvs : m.set = [v0, v1, v2, v3]) : ∃ (k' mn' mx' : Int) (a' : Option Addr) (nl' c' : Nat) (t' : List UInt8), nv m = .agg #[.int .i64 k', .int .u64 (v0 : Int), .int .u64 (v1 : Int), .int .u64 (v2 : Int), .int .u64 (v3 : Int), .slice a' nl' c', .int .i64 mn', .int .i64 mx', .string (Str t')] ∧ cells m = [.int .i64 k', .int .u64 (v0 : Int), .int .u64 (v1 : Int), .int .u64 (v2 : Int), .int .u64 (v3 : Int), .slice a' nl' c', .int .i64 mn', .int .i64 mx', .string (Str t')] := by
  obtain ⟨k', s', mn', mx', t', a', c', ks'⟩ := m
  simp only [Nd.set] at hvs
  subst hvs
  exact ⟨k', mn', mx', a', ks'.length, c', t', rfl, rfl⟩
end Tr
end Go.Proofs.YtoeeddfinmfnoaaDoor
