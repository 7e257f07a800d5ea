/-
  DERIVED. GIVEN WITH THE SEED: THE CARDS: each row of YtfkjijjmphbglaaDoorRows.lean that lists a variable, with what it lists TIED to the program's text (the seventh form; the later family's looks); each row that meets fmt, with fmt's text TOLD by the authors' own Lean function (tested against real Go, not proved from fmt's source: count such statements apart). THE CARD IS WHAT COUNTS. Prove the row's statement (the work); the ties are given (YtfkjijjmphbglaaDoorTie.lean); close each card by the builder's one call (the guide's Derived/Test/ToyasCard.lean, 'card_holds'). Laid BY PROGRAM, IN A SANDBOX (cutbox-door.mjs). By AI agents, Wed Nov 11 2026. No macro, syntax, notation, axiom, sorry.
-/
import Derived.Test.YtfkjijjmphbglaaDoorRows
import GoSem.ClaimSeven
namespace Go.Proofs.YtfkjijjmphbglaaDoor
namespace Rows

/-- THE TIED CARD OF 'dofferlaw22.ClassesFewest'. -/
def classesFewestCard : Claim7 := { stood := { row := classesFewestRow, standIns := [], harness := (true, "ab704fe42bc6f1e7da3519bff4df849bf91c5828304044b679b42cf64ca32ff0"), looks := true }, kinds := [], alts := [], laidByText := true, laidKinds := [.sentinel], laidTests := true, laidLooks := .later }
def ClassesFewestCardSaid : Prop := Claim7.holds Tryd.pinned (.plain (OpenSpec.ofChange classesFewestSpec)) classesFewestCard

/-- THE TIED CARD OF 'dofferlaw22.ClassesOf'. -/
def classesOfCard : Claim7 := { stood := { row := classesOfRow, standIns := [], harness := (true, "ab704fe42bc6f1e7da3519bff4df849bf91c5828304044b679b42cf64ca32ff0"), looks := true }, kinds := [], alts := [], laidByText := true, laidKinds := [.sentinel, .sentinel, .sentinel, .sentinel, .sentinel, .sentinel, .sentinel, .sentinel, .sentinel, .sentinel, .sentinel, .sentinel, .sentinel, .sentinel, .sentinel, .sentinel, .sentinel, .sentinel], laidTests := true, laidLooks := .later }
def ClassesOfCardSaid : Prop := Claim7.holds Tryd.pinned (.plain (OpenSpec.ofChange classesOfSpec)) classesOfCard

/-- THE TIED CARD OF 'dofferlaw22.ClassesSpread'. -/
def classesSpreadCard : Claim7 := { stood := { row := classesSpreadRow, standIns := [], harness := (true, "ab704fe42bc6f1e7da3519bff4df849bf91c5828304044b679b42cf64ca32ff0"), looks := true }, kinds := [], alts := [], laidByText := true, laidKinds := [.sentinel, .sentinel, .sentinel, .sentinel, .sentinel, .sentinel, .sentinel, .sentinel, .sentinel, .sentinel, .sentinel, .sentinel, .sentinel, .sentinel, .sentinel, .sentinel, .sentinel, .sentinel], laidTests := true, laidLooks := .later }
def ClassesSpreadCardSaid : Prop := Claim7.holds Tryd.pinned (.plain (OpenSpec.ofChange classesSpreadSpec)) classesSpreadCard

/-- THE TIED CARD OF 'dofferlaw22.ClassesParts'. -/
def classesPartsCard : Claim7 := { stood := { row := classesPartsRow, standIns := [], harness := (true, "ab704fe42bc6f1e7da3519bff4df849bf91c5828304044b679b42cf64ca32ff0"), looks := true }, kinds := [], alts := [], laidByText := true, laidKinds := [.data, .sentinel], laidTests := true, laidLooks := .later }
def ClassesPartsCardSaid : Prop := Claim7.holds Tryd.pinned (.plain (OpenSpec.ofChange classesPartsSpec)) classesPartsCard

/-- THE TIED CARD OF 'dofferlaw02.MarksPlay'. -/
def marksPlayCard : Claim7 := { stood := { row := marksPlayRow, standIns := [], harness := (true, "ab704fe42bc6f1e7da3519bff4df849bf91c5828304044b679b42cf64ca32ff0"), looks := true }, kinds := [], alts := [], laidByText := true, laidKinds := [.data, .sentinel], laidTests := true, laidLooks := .later }
def MarksPlayCardSaid : Prop := Claim7.holds Tryd.pinned (.plain (OpenSpec.ofChange marksPlaySpec)) marksPlayCard

/-- THE TIED CARD OF 'dofferlaw11.NamesBook'. -/
def namesBookCard : Claim7 := { stood := { row := namesBookRow, standIns := [], harness := (true, "ab704fe42bc6f1e7da3519bff4df849bf91c5828304044b679b42cf64ca32ff0"), looks := true }, kinds := [], alts := [], laidByText := true, laidKinds := [.sentinel, .sentinel, .sentinel, .sentinel, .sentinel, .sentinel, .sentinel, .sentinel, .sentinel, .sentinel, .sentinel, .sentinel, .sentinel, .sentinel, .sentinel, .sentinel, .sentinel, .sentinel], laidTests := true, laidLooks := .later }
def NamesBookCardSaid : Prop := Claim7.holds Tryd.pinned (.plain (OpenSpec.ofChange namesBookSpec)) namesBookCard

/-- THE TIED CARD OF 'dofferlaw11.NamesSpread'. -/
def namesSpreadCard : Claim7 := { stood := { row := namesSpreadRow, standIns := [], harness := (true, "ab704fe42bc6f1e7da3519bff4df849bf91c5828304044b679b42cf64ca32ff0"), looks := true }, kinds := [], alts := [], laidByText := true, laidKinds := [.sentinel, .sentinel, .sentinel, .sentinel, .sentinel, .sentinel, .sentinel, .sentinel, .sentinel, .sentinel, .sentinel, .sentinel, .sentinel, .sentinel, .sentinel, .sentinel, .sentinel, .sentinel], laidTests := true, laidLooks := .later }
def NamesSpreadCardSaid : Prop := Claim7.holds Tryd.pinned (.plain (OpenSpec.ofChange namesSpreadSpec)) namesSpreadCard

/-- THE TIED CARD OF 'dofferlaw11.NamesAgain'. -/
def namesAgainCard : Claim7 := { stood := { row := namesAgainRow, standIns := [], harness := (true, "ab704fe42bc6f1e7da3519bff4df849bf91c5828304044b679b42cf64ca32ff0"), looks := true }, kinds := [], alts := [], laidByText := true, laidKinds := [.sentinel, .sentinel, .sentinel, .sentinel, .sentinel, .sentinel, .sentinel, .sentinel, .sentinel, .sentinel, .sentinel, .sentinel, .sentinel, .sentinel, .sentinel, .sentinel, .sentinel, .sentinel], laidTests := true, laidLooks := .later }
def NamesAgainCardSaid : Prop := Claim7.holds Tryd.pinned (.plain (OpenSpec.ofChange namesAgainSpec)) namesAgainCard

/-- THE TIED CARD OF 'dofferlaw23.CombSlots'. -/
def combSlotsCard : Claim7 := { stood := { row := combSlotsRow, standIns := [], harness := (true, "ab704fe42bc6f1e7da3519bff4df849bf91c5828304044b679b42cf64ca32ff0"), looks := true }, kinds := [], alts := [], laidByText := true, laidKinds := [.sentinel], laidTests := true, laidLooks := .later }
def CombSlotsCardSaid : Prop := Claim7.holds Tryd.pinned (.plain (OpenSpec.ofChange combSlotsSpec)) combSlotsCard

/-- THE TIED CARD OF 'dofferlaw23.CombAgain'. -/
def combAgainCard : Claim7 := { stood := { row := combAgainRow, standIns := [], harness := (true, "ab704fe42bc6f1e7da3519bff4df849bf91c5828304044b679b42cf64ca32ff0"), looks := true }, kinds := [], alts := [], laidByText := true, laidKinds := [.sentinel], laidTests := true, laidLooks := .later }
def CombAgainCardSaid : Prop := Claim7.holds Tryd.pinned (.plain (OpenSpec.ofChange combAgainSpec)) combAgainCard

/-- THE TIED CARD OF 'dofferlaw23.CombLay'. -/
def combLayCard : Claim7 := { stood := { row := combLayRow, standIns := [], harness := (true, "ab704fe42bc6f1e7da3519bff4df849bf91c5828304044b679b42cf64ca32ff0"), looks := true }, kinds := [], alts := [], laidByText := true, laidKinds := [.sentinel, .sentinel, .sentinel, .sentinel, .sentinel, .sentinel, .sentinel, .sentinel, .sentinel, .sentinel, .sentinel, .sentinel, .sentinel, .sentinel, .sentinel, .sentinel, .sentinel, .sentinel], laidTests := true, laidLooks := .later }
def CombLayCardSaid : Prop := Claim7.holds Tryd.pinned (.plain (OpenSpec.ofChange combLaySpec)) combLayCard

/-- THE TIED CARD OF 'dofferlaw23.CombAt'. -/
def combAtCard : Claim7 := { stood := { row := combAtRow, standIns := [], harness := (true, "ab704fe42bc6f1e7da3519bff4df849bf91c5828304044b679b42cf64ca32ff0"), looks := true }, kinds := [], alts := [], laidByText := true, laidKinds := [.sentinel, .sentinel, .sentinel, .sentinel, .sentinel, .sentinel, .sentinel, .sentinel, .sentinel, .sentinel, .sentinel, .sentinel, .sentinel, .sentinel, .sentinel, .sentinel, .sentinel, .sentinel], laidTests := true, laidLooks := .later }
def CombAtCardSaid : Prop := Claim7.holds Tryd.pinned (.plain (OpenSpec.ofChange combAtSpec)) combAtCard

/-- THE SECOND FORM's CARD OF 'dofferlaw22.ClassesFewest'. -/
def classesFewestUptoCard : Claim7 := { stood := { row := classesFewestUptoRow, standIns := [], harness := (true, "ab704fe42bc6f1e7da3519bff4df849bf91c5828304044b679b42cf64ca32ff0"), looks := true }, kinds := [], alts := [], laidByText := true, laidKinds := [.sentinel], laidTests := true, laidLooks := .later }
def ClassesFewestUptoCardSaid : Prop := Claim7.holds Tryd.pinned (.plain (OpenSpec.upto classesFewestSpec)) classesFewestUptoCard

/-- THE SECOND FORM's CARD OF 'dofferlaw22.ClassesOf'. -/
def classesOfUptoCard : Claim7 := { stood := { row := classesOfUptoRow, standIns := [], harness := (true, "ab704fe42bc6f1e7da3519bff4df849bf91c5828304044b679b42cf64ca32ff0"), looks := true }, kinds := [], alts := [], laidByText := true, laidKinds := [.sentinel, .sentinel, .sentinel, .sentinel, .sentinel, .sentinel, .sentinel, .sentinel, .sentinel, .sentinel, .sentinel, .sentinel, .sentinel, .sentinel, .sentinel, .sentinel, .sentinel, .sentinel], laidTests := true, laidLooks := .later }
def ClassesOfUptoCardSaid : Prop := Claim7.holds Tryd.pinned (.plain (OpenSpec.upto classesOfSpec)) classesOfUptoCard

/-- THE SECOND FORM's CARD OF 'dofferlaw22.ClassesSpread'. -/
def classesSpreadUptoCard : Claim7 := { stood := { row := classesSpreadUptoRow, standIns := [], harness := (true, "ab704fe42bc6f1e7da3519bff4df849bf91c5828304044b679b42cf64ca32ff0"), looks := true }, kinds := [], alts := [], laidByText := true, laidKinds := [.sentinel, .sentinel, .sentinel, .sentinel, .sentinel, .sentinel, .sentinel, .sentinel, .sentinel, .sentinel, .sentinel, .sentinel, .sentinel, .sentinel, .sentinel, .sentinel, .sentinel, .sentinel], laidTests := true, laidLooks := .later }
def ClassesSpreadUptoCardSaid : Prop := Claim7.holds Tryd.pinned (.plain (OpenSpec.upto classesSpreadSpec)) classesSpreadUptoCard

/-- THE SECOND FORM's CARD OF 'dofferlaw22.ClassesParts'. -/
def classesPartsUptoCard : Claim7 := { stood := { row := classesPartsUptoRow, standIns := [], harness := (true, "ab704fe42bc6f1e7da3519bff4df849bf91c5828304044b679b42cf64ca32ff0"), looks := true }, kinds := [], alts := [], laidByText := true, laidKinds := [.data, .sentinel], laidTests := true, laidLooks := .later }
def ClassesPartsUptoCardSaid : Prop := Claim7.holds Tryd.pinned (.plain (OpenSpec.upto classesPartsSpec)) classesPartsUptoCard

/-- THE SECOND FORM's CARD OF 'dofferlaw02.MarksPlay'. -/
def marksPlayUptoCard : Claim7 := { stood := { row := marksPlayUptoRow, standIns := [], harness := (true, "ab704fe42bc6f1e7da3519bff4df849bf91c5828304044b679b42cf64ca32ff0"), looks := true }, kinds := [], alts := [], laidByText := true, laidKinds := [.data, .sentinel], laidTests := true, laidLooks := .later }
def MarksPlayUptoCardSaid : Prop := Claim7.holds Tryd.pinned (.plain (OpenSpec.upto marksPlaySpec)) marksPlayUptoCard

/-- THE SECOND FORM's CARD OF 'dofferlaw11.NamesBook'. -/
def namesBookUptoCard : Claim7 := { stood := { row := namesBookUptoRow, standIns := [], harness := (true, "ab704fe42bc6f1e7da3519bff4df849bf91c5828304044b679b42cf64ca32ff0"), looks := true }, kinds := [], alts := [], laidByText := true, laidKinds := [.sentinel, .sentinel, .sentinel, .sentinel, .sentinel, .sentinel, .sentinel, .sentinel, .sentinel, .sentinel, .sentinel, .sentinel, .sentinel, .sentinel, .sentinel, .sentinel, .sentinel, .sentinel], laidTests := true, laidLooks := .later }
def NamesBookUptoCardSaid : Prop := Claim7.holds Tryd.pinned (.plain (OpenSpec.upto namesBookSpec)) namesBookUptoCard

/-- THE SECOND FORM's CARD OF 'dofferlaw11.NamesSpread'. -/
def namesSpreadUptoCard : Claim7 := { stood := { row := namesSpreadUptoRow, standIns := [], harness := (true, "ab704fe42bc6f1e7da3519bff4df849bf91c5828304044b679b42cf64ca32ff0"), looks := true }, kinds := [], alts := [], laidByText := true, laidKinds := [.sentinel, .sentinel, .sentinel, .sentinel, .sentinel, .sentinel, .sentinel, .sentinel, .sentinel, .sentinel, .sentinel, .sentinel, .sentinel, .sentinel, .sentinel, .sentinel, .sentinel, .sentinel], laidTests := true, laidLooks := .later }
def NamesSpreadUptoCardSaid : Prop := Claim7.holds Tryd.pinned (.plain (OpenSpec.upto namesSpreadSpec)) namesSpreadUptoCard

/-- THE SECOND FORM's CARD OF 'dofferlaw11.NamesAgain'. -/
def namesAgainUptoCard : Claim7 := { stood := { row := namesAgainUptoRow, standIns := [], harness := (true, "ab704fe42bc6f1e7da3519bff4df849bf91c5828304044b679b42cf64ca32ff0"), looks := true }, kinds := [], alts := [], laidByText := true, laidKinds := [.sentinel, .sentinel, .sentinel, .sentinel, .sentinel, .sentinel, .sentinel, .sentinel, .sentinel, .sentinel, .sentinel, .sentinel, .sentinel, .sentinel, .sentinel, .sentinel, .sentinel, .sentinel], laidTests := true, laidLooks := .later }
def NamesAgainUptoCardSaid : Prop := Claim7.holds Tryd.pinned (.plain (OpenSpec.upto namesAgainSpec)) namesAgainUptoCard

/-- THE SECOND FORM's CARD OF 'dofferlaw23.CombSlots'. -/
def combSlotsUptoCard : Claim7 := { stood := { row := combSlotsUptoRow, standIns := [], harness := (true, "ab704fe42bc6f1e7da3519bff4df849bf91c5828304044b679b42cf64ca32ff0"), looks := true }, kinds := [], alts := [], laidByText := true, laidKinds := [.sentinel], laidTests := true, laidLooks := .later }
def CombSlotsUptoCardSaid : Prop := Claim7.holds Tryd.pinned (.plain (OpenSpec.upto combSlotsSpec)) combSlotsUptoCard

/-- THE SECOND FORM's CARD OF 'dofferlaw23.CombAgain'. -/
def combAgainUptoCard : Claim7 := { stood := { row := combAgainUptoRow, standIns := [], harness := (true, "ab704fe42bc6f1e7da3519bff4df849bf91c5828304044b679b42cf64ca32ff0"), looks := true }, kinds := [], alts := [], laidByText := true, laidKinds := [.sentinel], laidTests := true, laidLooks := .later }
def CombAgainUptoCardSaid : Prop := Claim7.holds Tryd.pinned (.plain (OpenSpec.upto combAgainSpec)) combAgainUptoCard

/-- THE SECOND FORM's CARD OF 'dofferlaw23.CombLay'. -/
def combLayUptoCard : Claim7 := { stood := { row := combLayUptoRow, standIns := [], harness := (true, "ab704fe42bc6f1e7da3519bff4df849bf91c5828304044b679b42cf64ca32ff0"), looks := true }, kinds := [], alts := [], laidByText := true, laidKinds := [.sentinel, .sentinel, .sentinel, .sentinel, .sentinel, .sentinel, .sentinel, .sentinel, .sentinel, .sentinel, .sentinel, .sentinel, .sentinel, .sentinel, .sentinel, .sentinel, .sentinel, .sentinel], laidTests := true, laidLooks := .later }
def CombLayUptoCardSaid : Prop := Claim7.holds Tryd.pinned (.plain (OpenSpec.upto combLaySpec)) combLayUptoCard

/-- THE SECOND FORM's CARD OF 'dofferlaw23.CombAt'. -/
def combAtUptoCard : Claim7 := { stood := { row := combAtUptoRow, standIns := [], harness := (true, "ab704fe42bc6f1e7da3519bff4df849bf91c5828304044b679b42cf64ca32ff0"), looks := true }, kinds := [], alts := [], laidByText := true, laidKinds := [.sentinel, .sentinel, .sentinel, .sentinel, .sentinel, .sentinel, .sentinel, .sentinel, .sentinel, .sentinel, .sentinel, .sentinel, .sentinel, .sentinel, .sentinel, .sentinel, .sentinel, .sentinel], laidTests := true, laidLooks := .later }
def CombAtUptoCardSaid : Prop := Claim7.holds Tryd.pinned (.plain (OpenSpec.upto combAtSpec)) combAtUptoCard
end Rows
end Go.Proofs.YtfkjijjmphbglaaDoor
