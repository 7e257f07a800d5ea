/-
  DERIVED. GIVEN WITH THE SEED: THE CARDS: each row of YtbdpafdpkgeibaaDoorRows.lean that lists a variable, with what it lists TIED to the program's text (the seventh form; the later family's looks); each row that meets fmt, with fmt's text TOLD by the authors' own Lean function (tested against real Go, not proved from fmt's source: count such statements apart). THE CARD IS WHAT COUNTS. Prove the row's statement (the work); the ties are given (YtbdpafdpkgeibaaDoorTie.lean); close each card by the builder's one call (the guide's Derived/Test/ToyasCard.lean, 'card_holds'). Laid BY PROGRAM, IN A SANDBOX (cutbox-door.mjs). By AI agents, Wed Nov 11 2026. No macro, syntax, notation, axiom, sorry.
-/
import Derived.Test.YtbdpafdpkgeibaaDoorRows
import GoSem.ClaimSeven
namespace Go.Proofs.YtbdpafdpkgeibaaDoor
namespace Rows

/-- THE TIED CARD OF 'dofferlaw22.ClassesFewest'. -/
def classesFewestCard : Claim7 := { stood := { row := classesFewestRow, standIns := [], harness := (true, "b1842404f3e385bd52b6812d6b997905cf034ba078f3cb55289059c72c409cee"), looks := true }, kinds := [], alts := [], laidByText := true, laidKinds := [.sentinel], laidTests := true, laidLooks := .later }
def ClassesFewestCardSaid : Prop := Claim7.holds Tryd.pinned (.plain (OpenSpec.ofChange classesFewestSpec)) classesFewestCard

/-- THE TIED CARD OF 'dofferlaw05.SpellWrites'. -/
def spellWritesCard : Claim7 := { stood := { row := spellWritesRow, standIns := [], harness := (true, "b1842404f3e385bd52b6812d6b997905cf034ba078f3cb55289059c72c409cee"), looks := true }, kinds := [], alts := [], laidByText := true, laidKinds := [.sentinel, .sentinel], laidTests := true, laidLooks := .later }
def SpellWritesCardSaid : Prop := Claim7.holds Tryd.pinned (.plain (OpenSpec.ofChange spellWritesSpec)) spellWritesCard

/-- THE TIED CARD OF 'dofferlaw05.SpellReads'. -/
def spellReadsCard : Claim7 := { stood := { row := spellReadsRow, standIns := [], harness := (true, "b1842404f3e385bd52b6812d6b997905cf034ba078f3cb55289059c72c409cee"), looks := true }, kinds := [], alts := [], laidByText := true, laidKinds := [.sentinel, .sentinel, .sentinel, .sentinel, .sentinel, .sentinel, .sentinel, .sentinel, .sentinel, .sentinel, .sentinel, .sentinel, .sentinel, .sentinel, .sentinel, .sentinel, .sentinel, .sentinel], laidTests := true, laidLooks := .later }
def SpellReadsCardSaid : Prop := Claim7.holds Tryd.pinned (.plain (OpenSpec.ofChange spellReadsSpec)) spellReadsCard

/-- THE TIED CARD OF 'dofferlaw05.SpellOne'. -/
def spellOneCard : Claim7 := { stood := { row := spellOneRow, standIns := [], harness := (true, "b1842404f3e385bd52b6812d6b997905cf034ba078f3cb55289059c72c409cee"), looks := true }, kinds := [], alts := [], laidByText := true, laidKinds := [.sentinel, .sentinel], laidTests := true, laidLooks := .later }
def SpellOneCardSaid : Prop := Claim7.holds Tryd.pinned (.plain (OpenSpec.ofChange spellOneSpec)) spellOneCard

/-- THE TIED CARD OF 'dofferlaw01.SetsMake'. -/
def setsMakeCard : Claim7 := { stood := { row := setsMakeRow, standIns := [], harness := (true, "b1842404f3e385bd52b6812d6b997905cf034ba078f3cb55289059c72c409cee"), looks := true }, kinds := [], alts := [], laidByText := true, laidKinds := [.data], laidTests := true, laidLooks := .later }
def SetsMakeCardSaid : Prop := Claim7.holds Tryd.pinned (.plain (OpenSpec.ofChange setsMakeSpec)) setsMakeCard

/-- THE TIED CARD OF 'dofferlaw01.SetsMix'. -/
def setsMixCard : Claim7 := { stood := { row := setsMixRow, standIns := [], harness := (true, "b1842404f3e385bd52b6812d6b997905cf034ba078f3cb55289059c72c409cee"), looks := true }, kinds := [], alts := [], laidByText := true, laidKinds := [.data], laidTests := true, laidLooks := .later }
def SetsMixCardSaid : Prop := Claim7.holds Tryd.pinned (.plain (OpenSpec.ofChange setsMixSpec)) setsMixCard

/-- THE TIED CARD OF 'dofferlaw01.SetsTell'. -/
def setsTellCard : Claim7 := { stood := { row := setsTellRow, standIns := [], harness := (true, "b1842404f3e385bd52b6812d6b997905cf034ba078f3cb55289059c72c409cee"), looks := true }, kinds := [], alts := [], laidByText := true, laidKinds := [.data], laidTests := true, laidLooks := .later }
def SetsTellCardSaid : Prop := Claim7.holds Tryd.pinned (.plain (OpenSpec.ofChange setsTellSpec)) setsTellCard

/-- THE TIED CARD OF 'dofferlaw01.SetsLaws'. -/
def setsLawsCard : Claim7 := { stood := { row := setsLawsRow, standIns := [], harness := (true, "b1842404f3e385bd52b6812d6b997905cf034ba078f3cb55289059c72c409cee"), looks := true }, kinds := [], alts := [], laidByText := true, laidKinds := [.data], laidTests := true, laidLooks := .later }
def SetsLawsCardSaid : Prop := Claim7.holds Tryd.pinned (.plain (OpenSpec.ofChange setsLawsSpec)) setsLawsCard

/-- THE TIED CARD OF 'dofferlaw02.MarksKeys'. -/
def marksKeysCard : Claim7 := { stood := { row := marksKeysRow, standIns := [], harness := (true, "b1842404f3e385bd52b6812d6b997905cf034ba078f3cb55289059c72c409cee"), looks := true }, kinds := [], alts := [], laidByText := true, laidKinds := [.data, .sentinel], laidTests := true, laidLooks := .later }
def MarksKeysCardSaid : Prop := Claim7.holds Tryd.pinned (.plain (OpenSpec.ofChange marksKeysSpec)) marksKeysCard

/-- THE TIED CARD OF 'dofferlaw22.ClassesOf'. -/
def classesOfCard : Claim7 := { stood := { row := classesOfRow, standIns := [], harness := (true, "b1842404f3e385bd52b6812d6b997905cf034ba078f3cb55289059c72c409cee"), looks := true }, kinds := [], alts := [], laidByText := true, laidKinds := [.sentinel, .sentinel, .sentinel, .sentinel, .sentinel, .sentinel, .sentinel, .sentinel, .sentinel, .sentinel, .sentinel, .sentinel, .sentinel, .sentinel, .sentinel, .sentinel, .sentinel, .sentinel], laidTests := true, laidLooks := .later }
def ClassesOfCardSaid : Prop := Claim7.holds Tryd.pinned (.plain (OpenSpec.ofChange classesOfSpec)) classesOfCard

/-- THE TIED CARD OF 'dofferlaw22.ClassesSpread'. -/
def classesSpreadCard : Claim7 := { stood := { row := classesSpreadRow, standIns := [], harness := (true, "b1842404f3e385bd52b6812d6b997905cf034ba078f3cb55289059c72c409cee"), looks := true }, kinds := [], alts := [], laidByText := true, laidKinds := [.sentinel, .sentinel, .sentinel, .sentinel, .sentinel, .sentinel, .sentinel, .sentinel, .sentinel, .sentinel, .sentinel, .sentinel, .sentinel, .sentinel, .sentinel, .sentinel, .sentinel, .sentinel], laidTests := true, laidLooks := .later }
def ClassesSpreadCardSaid : Prop := Claim7.holds Tryd.pinned (.plain (OpenSpec.ofChange classesSpreadSpec)) classesSpreadCard

/-- THE TIED CARD OF 'dofferlaw22.ClassesParts'. -/
def classesPartsCard : Claim7 := { stood := { row := classesPartsRow, standIns := [], harness := (true, "b1842404f3e385bd52b6812d6b997905cf034ba078f3cb55289059c72c409cee"), looks := true }, kinds := [], alts := [], laidByText := true, laidKinds := [.data, .sentinel], laidTests := true, laidLooks := .later }
def ClassesPartsCardSaid : Prop := Claim7.holds Tryd.pinned (.plain (OpenSpec.ofChange classesPartsSpec)) classesPartsCard

/-- THE SECOND FORM's CARD OF 'dofferlaw22.ClassesFewest'. -/
def classesFewestUptoCard : Claim7 := { stood := { row := classesFewestUptoRow, standIns := [], harness := (true, "b1842404f3e385bd52b6812d6b997905cf034ba078f3cb55289059c72c409cee"), looks := true }, kinds := [], alts := [], laidByText := true, laidKinds := [.sentinel], laidTests := true, laidLooks := .later }
def ClassesFewestUptoCardSaid : Prop := Claim7.holds Tryd.pinned (.plain (OpenSpec.upto classesFewestSpec)) classesFewestUptoCard

/-- THE SECOND FORM's CARD OF 'dofferlaw05.SpellWrites'. -/
def spellWritesUptoCard : Claim7 := { stood := { row := spellWritesUptoRow, standIns := [], harness := (true, "b1842404f3e385bd52b6812d6b997905cf034ba078f3cb55289059c72c409cee"), looks := true }, kinds := [], alts := [], laidByText := true, laidKinds := [.sentinel, .sentinel], laidTests := true, laidLooks := .later }
def SpellWritesUptoCardSaid : Prop := Claim7.holds Tryd.pinned (.plain (OpenSpec.upto spellWritesSpec)) spellWritesUptoCard

/-- THE SECOND FORM's CARD OF 'dofferlaw05.SpellReads'. -/
def spellReadsUptoCard : Claim7 := { stood := { row := spellReadsUptoRow, standIns := [], harness := (true, "b1842404f3e385bd52b6812d6b997905cf034ba078f3cb55289059c72c409cee"), looks := true }, kinds := [], alts := [], laidByText := true, laidKinds := [.sentinel, .sentinel, .sentinel, .sentinel, .sentinel, .sentinel, .sentinel, .sentinel, .sentinel, .sentinel, .sentinel, .sentinel, .sentinel, .sentinel, .sentinel, .sentinel, .sentinel, .sentinel], laidTests := true, laidLooks := .later }
def SpellReadsUptoCardSaid : Prop := Claim7.holds Tryd.pinned (.plain (OpenSpec.upto spellReadsSpec)) spellReadsUptoCard

/-- THE SECOND FORM's CARD OF 'dofferlaw05.SpellOne'. -/
def spellOneUptoCard : Claim7 := { stood := { row := spellOneUptoRow, standIns := [], harness := (true, "b1842404f3e385bd52b6812d6b997905cf034ba078f3cb55289059c72c409cee"), looks := true }, kinds := [], alts := [], laidByText := true, laidKinds := [.sentinel, .sentinel], laidTests := true, laidLooks := .later }
def SpellOneUptoCardSaid : Prop := Claim7.holds Tryd.pinned (.plain (OpenSpec.upto spellOneSpec)) spellOneUptoCard

/-- THE SECOND FORM's CARD OF 'dofferlaw01.SetsMake'. -/
def setsMakeUptoCard : Claim7 := { stood := { row := setsMakeUptoRow, standIns := [], harness := (true, "b1842404f3e385bd52b6812d6b997905cf034ba078f3cb55289059c72c409cee"), looks := true }, kinds := [], alts := [], laidByText := true, laidKinds := [.data], laidTests := true, laidLooks := .later }
def SetsMakeUptoCardSaid : Prop := Claim7.holds Tryd.pinned (.plain (OpenSpec.upto setsMakeSpec)) setsMakeUptoCard

/-- THE SECOND FORM's CARD OF 'dofferlaw01.SetsMix'. -/
def setsMixUptoCard : Claim7 := { stood := { row := setsMixUptoRow, standIns := [], harness := (true, "b1842404f3e385bd52b6812d6b997905cf034ba078f3cb55289059c72c409cee"), looks := true }, kinds := [], alts := [], laidByText := true, laidKinds := [.data], laidTests := true, laidLooks := .later }
def SetsMixUptoCardSaid : Prop := Claim7.holds Tryd.pinned (.plain (OpenSpec.upto setsMixSpec)) setsMixUptoCard

/-- THE SECOND FORM's CARD OF 'dofferlaw01.SetsTell'. -/
def setsTellUptoCard : Claim7 := { stood := { row := setsTellUptoRow, standIns := [], harness := (true, "b1842404f3e385bd52b6812d6b997905cf034ba078f3cb55289059c72c409cee"), looks := true }, kinds := [], alts := [], laidByText := true, laidKinds := [.data], laidTests := true, laidLooks := .later }
def SetsTellUptoCardSaid : Prop := Claim7.holds Tryd.pinned (.plain (OpenSpec.upto setsTellSpec)) setsTellUptoCard

/-- THE SECOND FORM's CARD OF 'dofferlaw01.SetsLaws'. -/
def setsLawsUptoCard : Claim7 := { stood := { row := setsLawsUptoRow, standIns := [], harness := (true, "b1842404f3e385bd52b6812d6b997905cf034ba078f3cb55289059c72c409cee"), looks := true }, kinds := [], alts := [], laidByText := true, laidKinds := [.data], laidTests := true, laidLooks := .later }
def SetsLawsUptoCardSaid : Prop := Claim7.holds Tryd.pinned (.plain (OpenSpec.upto setsLawsSpec)) setsLawsUptoCard

/-- THE SECOND FORM's CARD OF 'dofferlaw02.MarksKeys'. -/
def marksKeysUptoCard : Claim7 := { stood := { row := marksKeysUptoRow, standIns := [], harness := (true, "b1842404f3e385bd52b6812d6b997905cf034ba078f3cb55289059c72c409cee"), looks := true }, kinds := [], alts := [], laidByText := true, laidKinds := [.data, .sentinel], laidTests := true, laidLooks := .later }
def MarksKeysUptoCardSaid : Prop := Claim7.holds Tryd.pinned (.plain (OpenSpec.upto marksKeysSpec)) marksKeysUptoCard

/-- THE SECOND FORM's CARD OF 'dofferlaw22.ClassesOf'. -/
def classesOfUptoCard : Claim7 := { stood := { row := classesOfUptoRow, standIns := [], harness := (true, "b1842404f3e385bd52b6812d6b997905cf034ba078f3cb55289059c72c409cee"), looks := true }, kinds := [], alts := [], laidByText := true, laidKinds := [.sentinel, .sentinel, .sentinel, .sentinel, .sentinel, .sentinel, .sentinel, .sentinel, .sentinel, .sentinel, .sentinel, .sentinel, .sentinel, .sentinel, .sentinel, .sentinel, .sentinel, .sentinel], laidTests := true, laidLooks := .later }
def ClassesOfUptoCardSaid : Prop := Claim7.holds Tryd.pinned (.plain (OpenSpec.upto classesOfSpec)) classesOfUptoCard

/-- THE SECOND FORM's CARD OF 'dofferlaw22.ClassesSpread'. -/
def classesSpreadUptoCard : Claim7 := { stood := { row := classesSpreadUptoRow, standIns := [], harness := (true, "b1842404f3e385bd52b6812d6b997905cf034ba078f3cb55289059c72c409cee"), looks := true }, kinds := [], alts := [], laidByText := true, laidKinds := [.sentinel, .sentinel, .sentinel, .sentinel, .sentinel, .sentinel, .sentinel, .sentinel, .sentinel, .sentinel, .sentinel, .sentinel, .sentinel, .sentinel, .sentinel, .sentinel, .sentinel, .sentinel], laidTests := true, laidLooks := .later }
def ClassesSpreadUptoCardSaid : Prop := Claim7.holds Tryd.pinned (.plain (OpenSpec.upto classesSpreadSpec)) classesSpreadUptoCard

/-- THE SECOND FORM's CARD OF 'dofferlaw22.ClassesParts'. -/
def classesPartsUptoCard : Claim7 := { stood := { row := classesPartsUptoRow, standIns := [], harness := (true, "b1842404f3e385bd52b6812d6b997905cf034ba078f3cb55289059c72c409cee"), looks := true }, kinds := [], alts := [], laidByText := true, laidKinds := [.data, .sentinel], laidTests := true, laidLooks := .later }
def ClassesPartsUptoCardSaid : Prop := Claim7.holds Tryd.pinned (.plain (OpenSpec.upto classesPartsSpec)) classesPartsUptoCard
end Rows
end Go.Proofs.YtbdpafdpkgeibaaDoor
