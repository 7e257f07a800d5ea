import Derived.Test.YtoeeddfinmfnoaaDoorRows
import Derived.Test.YtoeeddfinmfnoaaDoorQTreePure
import Derived.LaidEql
import Derived.Stop.Asserts
import Derived.RowKitTokens
/- errors.Is at sentinels of errors.New's make, and doffernum.Num over all listed errors: the number of a sentinel, 0 of nil. Condition: the listed variables hold pointers of their own. -/
namespace Go.Proofs.YtoeeddfinmfnoaaDoor
namespace Kt
end Kt
open Go Go.RowKit Go.Extern.Stop Go.Stop Go.Extern Kt
namespace Er

def ev (A : Nat → Addr) (g : Nat) : Value := .iface 204 (.pointer (some (A g)))
theorem star : "*" ++ "errors.errorString" = "*errors.errorString" := by decide
/-- The listed errors, in the order of their numbers. -/
def egs : List Nat := [3, 4, 5, 0, 6, 7, 1, 8, 2, 9, 10, 11, 12, 13, 14, 15, 16, 17]
/-- From a row's condition: the sentinels that it lists. -/
theorem row_es (u : TypeId) (h : Tryd.prog.typeName? 3 u = some "*errors.errorString") : u = 204 :=
  typeName_ptr_named (nm := "errors.errorString") (by rw [star]; kernel_rfl) (by kernel_rfl) (by decide) u (by rw [star]; exact h)
theorem sent_met {W : World} {L : List (String × DataW Unit)} {S : List Nat} (hL : laidMetH Tryd.prog L W) (hpl : (L.filter fun x => x.2.handleName?.isSome).isEmpty = true)
    (hty : (L.all fun x => !isSent "*errors.errorString" x.2 || (match Tryd.prog.globalNamed x.1 with | some g => (Tryd.prog.globals[g]?).map (·.type) == some 40 | none => true)) = true)
    (hS : (S.all fun g => L.any fun x => isSent "*errors.errorString" x.2 && Tryd.prog.globalNamed x.1 == some g) = true) : ∃ A, Sent 204 W A S := by
  have hL' : laidMet Tryd.prog L W := by
    unfold laidMetH at hL
    rw [List.isEmpty_iff.1 hpl] at hL
    exact hL
  exact sent_of Tryd.underlying40 row_es Tryd.underlying204 Tryd.underlying227 rfl rfl Tryd.underlying9 (by kernel_rfl) (by kernel_rfl) hL' hty hS
end Er
end Go.Proofs.YtoeeddfinmfnoaaDoor

/- Errors by their numbers. Condition: the sentinels read as laid. -/
namespace Go.Proofs.YtoeeddfinmfnoaaDoor
open Go Go.RowKit Kt
namespace Bo
/-- An error by its number. -/
def ee (A : Nat → Addr) (n : Int) : Value := if n = 0 then .nilIface else Er.ev A (Er.egs.getD (n.toNat - 1) 0)
end Bo
end Go.Proofs.YtoeeddfinmfnoaaDoor
