import Derived.Test.YtoeeddfinmfnoaaDoorQTreePure
import Derived.Laws.Rows
import Derived.Test.YtoeeddfinmfnoaaDoorProg
/- A result that lies in a bool cell. -/
namespace Go.Proofs.YtoeeddfinmfnoaaDoor
open Go Go.RowKit
namespace Tr
theorem results_bool {fn : Func} {p : Tmp} (h : fn.results = #[.cell p 4]) (tmps : Array Value) (w : World) (g : Nat) (v : Bool) (hp : tmps.getD p undef = .pointer (some ⟨g, 0, none⟩)) (hc : w.cell? ⟨g, 0, none⟩ = some (.bool v)) :
    (results fn tmps).run Tryd.prog w = .ok (.bool v) w := by
  have hp' : tmps[p]?.getD undef = .pointer (some ⟨g, 0, none⟩) := by simpa using hp
  have u := Tryd.underlying4
  simp [results, h, hp', asAddr, loadVar, go_sem, u, hc]
end Tr
end Go.Proofs.YtoeeddfinmfnoaaDoor
