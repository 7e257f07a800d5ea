/- From a row's condition to what the walks ask of the table crc.steps. -/
import Derived.Test.YtjohljpcoodijaaDoorCrcWalk
import Derived.Lib.LaidTab
namespace Go.Proofs.YtjohljpcoodijaaDoor
open Go Go.RowKit Go.ChangeShapes Go.WideShapes Kt

def tabI : List Int := [0, 498536548, 997073096, 651767980, 1994146192, 1802195444, 1303535960, 1342533948, 3988292384, 4027552580, 3604390888, 3412177804, 2607071920, 2262029012, 2685067896, 3183342108]
theorem tabI_at : ∀ i : Nat, i < 16 → tabI.getD i 0 = ((Crc.tab.getD i 0).toNat : Int) := by decide
/-- From the row's condition to what the walk asks of the table. -/
theorem tb_of_laid {W : World} {L : List (String × DataW Unit)} (hL : laidMetH Tryd.prog L W) (hpl : (L.filter fun x => x.2.handleName?.isSome).isEmpty = true)
    (hin : (L.filter fun x => x.1 == "doffer/crc.steps") = [("doffer/crc.steps", Lib.tabData .u32 tabI)]) : Crc.Tb W := by
  have hL' : laidMet Tryd.prog L W := by
    unfold laidMetH at hL
    rw [List.isEmpty_iff.1 hpl] at hL
    exact hL
  have hM := laidMet_filter (fun x => x.1 == "doffer/crc.steps") hL'
  rw [hin] at hM
  have gN : Tryd.prog.globalNamed "doffer/crc.steps" = some 0 := by kernel_rfl
  have hT : Lib.TabIs Tryd.prog W "doffer/crc.steps" .u32 tabI :=
    Lib.tabIs_of_head (rest := []) gN (show (Tryd.prog.globals[0]?).map (·.type) = some 113 by kernel_rfl) Tryd.underlying113 Tryd.underlying27 (by kernel_rfl) (by kernel_rfl) hM
  intro x
  rw [hT.cell gN _ (U32.lo4_lt x), tabI_at _ (U32.lo4_lt x)]
  rfl
end Go.Proofs.YtjohljpcoodijaaDoor
