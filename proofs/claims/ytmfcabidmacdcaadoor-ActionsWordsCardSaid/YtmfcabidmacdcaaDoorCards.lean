/-
  DERIVED. GIVEN WITH THE SEED: THE CARDS: each row of YtmfcabidmacdcaaDoorRows.lean that lists a variable, with what it lists TIED to the program's text (the seventh form; the later family's looks); each row that meets fmt, with fmt's text TOLD by the authors' own Lean function (tested against real Go, not proved from fmt's source: count such statements apart). THE CARD IS WHAT COUNTS. Prove the row's statement (the work); the ties are given (YtmfcabidmacdcaaDoorTie.lean); close each card by the builder's one call (the guide's Derived/Test/ToyasCard.lean, 'card_holds'). Laid BY PROGRAM, IN A SANDBOX (cutbox-door.mjs). By AI agents, Wed Nov 11 2026. No macro, syntax, notation, axiom, sorry.
-/
import Derived.Test.YtmfcabidmacdcaaDoorRows
import GoSem.ClaimSeven
namespace Go.Proofs.YtmfcabidmacdcaaDoor
namespace Rows

/-- THE TIED CARD OF 'dofferlaw06.BracketsRead'. -/
def bracketsReadCard : Claim7 := { stood := { row := bracketsReadRow, standIns := [], harness := (true, "6e4f9e9e66f301a89a75f9fb1fde58e6165823fe24fa75d1056097dc3799fbb3"), looks := true }, kinds := [], alts := [], laidByText := true, laidKinds := [.sentinel, .sentinel, .sentinel, .sentinel, .sentinel, .sentinel, .sentinel, .sentinel, .sentinel, .sentinel, .sentinel, .sentinel, .sentinel, .sentinel, .sentinel, .sentinel, .sentinel, .sentinel], laidTests := true, laidLooks := .later }
def BracketsReadCardSaid : Prop := Claim7.holds Tryd.pinned (.plain (OpenSpec.ofChange bracketsReadSpec)) bracketsReadCard

/-- THE TIED CARD OF 'dofferlaw06.BracketsText'. -/
def bracketsTextCard : Claim7 := { stood := { row := bracketsTextRow, standIns := [], harness := (true, "6e4f9e9e66f301a89a75f9fb1fde58e6165823fe24fa75d1056097dc3799fbb3"), looks := true }, kinds := [], alts := [], laidByText := true, laidKinds := [.data, .sentinel, .sentinel, .sentinel], laidTests := true, laidLooks := .later }
def BracketsTextCardSaid : Prop := Claim7.holds Tryd.pinned (.plain (OpenSpec.ofChange bracketsTextSpec)) bracketsTextCard

/-- THE TIED CARD OF 'dofferlaw06.BracketsItems'. -/
def bracketsItemsCard : Claim7 := { stood := { row := bracketsItemsRow, standIns := [], harness := (true, "6e4f9e9e66f301a89a75f9fb1fde58e6165823fe24fa75d1056097dc3799fbb3"), looks := true }, kinds := [], alts := [], laidByText := true, laidKinds := [.data, .sentinel, .sentinel, .sentinel], laidTests := true, laidLooks := .later }
def BracketsItemsCardSaid : Prop := Claim7.holds Tryd.pinned (.plain (OpenSpec.ofChange bracketsItemsSpec)) bracketsItemsCard

/-- THE TIED CARD OF 'dofferlaw12.ActionsWords'. -/
def actionsWordsCard : Claim7 := { stood := { row := actionsWordsRow, standIns := [], harness := (true, "6e4f9e9e66f301a89a75f9fb1fde58e6165823fe24fa75d1056097dc3799fbb3"), looks := true }, kinds := [], alts := [], laidByText := true, laidKinds := [.data, .sentinel, .sentinel, .sentinel, .sentinel, .pinned], laidTests := true, laidLooks := .later }
def ActionsWordsCardSaid : Prop := Claim7.holds Tryd.pinned (.plain (OpenSpec.ofChange actionsWordsSpec)) actionsWordsCard

/-- THE TIED CARD OF 'dofferlaw12.ActionsText'. -/
def actionsTextCard : Claim7 := { stood := { row := actionsTextRow, standIns := [], harness := (true, "6e4f9e9e66f301a89a75f9fb1fde58e6165823fe24fa75d1056097dc3799fbb3"), looks := true }, kinds := [], alts := [], laidByText := true, laidKinds := [.data, .sentinel, .sentinel, .sentinel, .sentinel, .sentinel, .sentinel, .sentinel, .sentinel, .sentinel, .sentinel, .sentinel, .sentinel, .sentinel, .sentinel, .sentinel, .sentinel, .sentinel, .sentinel, .pinned], laidTests := true, laidLooks := .later }
def ActionsTextCardSaid : Prop := Claim7.holds Tryd.pinned (.plain (OpenSpec.ofChange actionsTextSpec)) actionsTextCard

/-- THE TIED CARD OF 'dofferlaw12.ActionsParse'. -/
def actionsParseCard : Claim7 := { stood := { row := actionsParseRow, standIns := [], harness := (true, "6e4f9e9e66f301a89a75f9fb1fde58e6165823fe24fa75d1056097dc3799fbb3"), looks := true }, kinds := [], alts := [], laidByText := true, laidKinds := [.data, .sentinel, .sentinel, .sentinel, .sentinel, .sentinel, .sentinel, .sentinel, .sentinel, .sentinel, .sentinel, .sentinel, .sentinel, .sentinel, .sentinel, .sentinel, .sentinel, .sentinel, .sentinel, .pinned], laidTests := true, laidLooks := .later }
def ActionsParseCardSaid : Prop := Claim7.holds Tryd.pinned (.plain (OpenSpec.ofChange actionsParseSpec)) actionsParseCard

/-- THE TIED CARD OF 'dofferlaw25.CodedDecode'. -/
def codedDecodeCard : Claim7 := { stood := { row := codedDecodeRow, standIns := [], harness := (true, "6e4f9e9e66f301a89a75f9fb1fde58e6165823fe24fa75d1056097dc3799fbb3"), looks := true }, kinds := [], alts := [], laidByText := true, laidKinds := [.sentinel, .sentinel, .sentinel, .sentinel, .sentinel, .sentinel, .sentinel, .sentinel, .sentinel, .sentinel, .sentinel, .sentinel, .sentinel, .sentinel, .sentinel, .sentinel, .sentinel, .sentinel, .data], laidTests := true, laidLooks := .later }
def CodedDecodeCardSaid : Prop := Claim7.holds Tryd.pinned (.plain (OpenSpec.ofChange codedDecodeSpec)) codedDecodeCard

/-- THE TIED CARD OF 'dofferlaw25.CodedTurned'. -/
def codedTurnedCard : Claim7 := { stood := { row := codedTurnedRow, standIns := [], harness := (true, "6e4f9e9e66f301a89a75f9fb1fde58e6165823fe24fa75d1056097dc3799fbb3"), looks := true }, kinds := [], alts := [], laidByText := true, laidKinds := [.sentinel, .sentinel, .sentinel, .sentinel, .sentinel, .sentinel, .sentinel, .sentinel, .sentinel, .sentinel, .sentinel, .sentinel, .sentinel, .sentinel, .sentinel, .sentinel, .sentinel, .sentinel, .data], laidTests := true, laidLooks := .later }
def CodedTurnedCardSaid : Prop := Claim7.holds Tryd.pinned (.plain (OpenSpec.ofChange codedTurnedSpec)) codedTurnedCard

/-- THE TIED CARD OF 'dofferlaw25.CodedTables'. -/
def codedTablesCard : Claim7 := { stood := { row := codedTablesRow, standIns := [], harness := (true, "6e4f9e9e66f301a89a75f9fb1fde58e6165823fe24fa75d1056097dc3799fbb3"), looks := true }, kinds := [], alts := [], laidByText := true, laidKinds := [.sentinel, .sentinel, .sentinel, .sentinel, .sentinel, .sentinel, .sentinel, .sentinel, .sentinel, .sentinel, .sentinel, .sentinel, .sentinel, .sentinel, .sentinel, .sentinel, .sentinel, .sentinel, .data], laidTests := true, laidLooks := .later }
def CodedTablesCardSaid : Prop := Claim7.holds Tryd.pinned (.plain (OpenSpec.ofChange codedTablesSpec)) codedTablesCard

/-- THE SECOND FORM's CARD OF 'dofferlaw06.BracketsRead'. -/
def bracketsReadUptoCard : Claim7 := { stood := { row := bracketsReadUptoRow, standIns := [], harness := (true, "6e4f9e9e66f301a89a75f9fb1fde58e6165823fe24fa75d1056097dc3799fbb3"), looks := true }, kinds := [], alts := [], laidByText := true, laidKinds := [.sentinel, .sentinel, .sentinel, .sentinel, .sentinel, .sentinel, .sentinel, .sentinel, .sentinel, .sentinel, .sentinel, .sentinel, .sentinel, .sentinel, .sentinel, .sentinel, .sentinel, .sentinel], laidTests := true, laidLooks := .later }
def BracketsReadUptoCardSaid : Prop := Claim7.holds Tryd.pinned (.plain (OpenSpec.upto bracketsReadSpec)) bracketsReadUptoCard

/-- THE SECOND FORM's CARD OF 'dofferlaw06.BracketsText'. -/
def bracketsTextUptoCard : Claim7 := { stood := { row := bracketsTextUptoRow, standIns := [], harness := (true, "6e4f9e9e66f301a89a75f9fb1fde58e6165823fe24fa75d1056097dc3799fbb3"), looks := true }, kinds := [], alts := [], laidByText := true, laidKinds := [.data, .sentinel, .sentinel, .sentinel], laidTests := true, laidLooks := .later }
def BracketsTextUptoCardSaid : Prop := Claim7.holds Tryd.pinned (.plain (OpenSpec.upto bracketsTextSpec)) bracketsTextUptoCard

/-- THE SECOND FORM's CARD OF 'dofferlaw06.BracketsItems'. -/
def bracketsItemsUptoCard : Claim7 := { stood := { row := bracketsItemsUptoRow, standIns := [], harness := (true, "6e4f9e9e66f301a89a75f9fb1fde58e6165823fe24fa75d1056097dc3799fbb3"), looks := true }, kinds := [], alts := [], laidByText := true, laidKinds := [.data, .sentinel, .sentinel, .sentinel], laidTests := true, laidLooks := .later }
def BracketsItemsUptoCardSaid : Prop := Claim7.holds Tryd.pinned (.plain (OpenSpec.upto bracketsItemsSpec)) bracketsItemsUptoCard

/-- THE SECOND FORM's CARD OF 'dofferlaw12.ActionsWords'. -/
def actionsWordsUptoCard : Claim7 := { stood := { row := actionsWordsUptoRow, standIns := [], harness := (true, "6e4f9e9e66f301a89a75f9fb1fde58e6165823fe24fa75d1056097dc3799fbb3"), looks := true }, kinds := [], alts := [], laidByText := true, laidKinds := [.data, .sentinel, .sentinel, .sentinel, .sentinel, .pinned], laidTests := true, laidLooks := .later }
def ActionsWordsUptoCardSaid : Prop := Claim7.holds Tryd.pinned (.plain (OpenSpec.upto actionsWordsSpec)) actionsWordsUptoCard

/-- THE SECOND FORM's CARD OF 'dofferlaw12.ActionsText'. -/
def actionsTextUptoCard : Claim7 := { stood := { row := actionsTextUptoRow, standIns := [], harness := (true, "6e4f9e9e66f301a89a75f9fb1fde58e6165823fe24fa75d1056097dc3799fbb3"), looks := true }, kinds := [], alts := [], laidByText := true, laidKinds := [.data, .sentinel, .sentinel, .sentinel, .sentinel, .sentinel, .sentinel, .sentinel, .sentinel, .sentinel, .sentinel, .sentinel, .sentinel, .sentinel, .sentinel, .sentinel, .sentinel, .sentinel, .sentinel, .pinned], laidTests := true, laidLooks := .later }
def ActionsTextUptoCardSaid : Prop := Claim7.holds Tryd.pinned (.plain (OpenSpec.upto actionsTextSpec)) actionsTextUptoCard

/-- THE SECOND FORM's CARD OF 'dofferlaw12.ActionsParse'. -/
def actionsParseUptoCard : Claim7 := { stood := { row := actionsParseUptoRow, standIns := [], harness := (true, "6e4f9e9e66f301a89a75f9fb1fde58e6165823fe24fa75d1056097dc3799fbb3"), looks := true }, kinds := [], alts := [], laidByText := true, laidKinds := [.data, .sentinel, .sentinel, .sentinel, .sentinel, .sentinel, .sentinel, .sentinel, .sentinel, .sentinel, .sentinel, .sentinel, .sentinel, .sentinel, .sentinel, .sentinel, .sentinel, .sentinel, .sentinel, .pinned], laidTests := true, laidLooks := .later }
def ActionsParseUptoCardSaid : Prop := Claim7.holds Tryd.pinned (.plain (OpenSpec.upto actionsParseSpec)) actionsParseUptoCard

/-- THE SECOND FORM's CARD OF 'dofferlaw25.CodedDecode'. -/
def codedDecodeUptoCard : Claim7 := { stood := { row := codedDecodeUptoRow, standIns := [], harness := (true, "6e4f9e9e66f301a89a75f9fb1fde58e6165823fe24fa75d1056097dc3799fbb3"), looks := true }, kinds := [], alts := [], laidByText := true, laidKinds := [.sentinel, .sentinel, .sentinel, .sentinel, .sentinel, .sentinel, .sentinel, .sentinel, .sentinel, .sentinel, .sentinel, .sentinel, .sentinel, .sentinel, .sentinel, .sentinel, .sentinel, .sentinel, .data], laidTests := true, laidLooks := .later }
def CodedDecodeUptoCardSaid : Prop := Claim7.holds Tryd.pinned (.plain (OpenSpec.upto codedDecodeSpec)) codedDecodeUptoCard

/-- THE SECOND FORM's CARD OF 'dofferlaw25.CodedTurned'. -/
def codedTurnedUptoCard : Claim7 := { stood := { row := codedTurnedUptoRow, standIns := [], harness := (true, "6e4f9e9e66f301a89a75f9fb1fde58e6165823fe24fa75d1056097dc3799fbb3"), looks := true }, kinds := [], alts := [], laidByText := true, laidKinds := [.sentinel, .sentinel, .sentinel, .sentinel, .sentinel, .sentinel, .sentinel, .sentinel, .sentinel, .sentinel, .sentinel, .sentinel, .sentinel, .sentinel, .sentinel, .sentinel, .sentinel, .sentinel, .data], laidTests := true, laidLooks := .later }
def CodedTurnedUptoCardSaid : Prop := Claim7.holds Tryd.pinned (.plain (OpenSpec.upto codedTurnedSpec)) codedTurnedUptoCard

/-- THE SECOND FORM's CARD OF 'dofferlaw25.CodedTables'. -/
def codedTablesUptoCard : Claim7 := { stood := { row := codedTablesUptoRow, standIns := [], harness := (true, "6e4f9e9e66f301a89a75f9fb1fde58e6165823fe24fa75d1056097dc3799fbb3"), looks := true }, kinds := [], alts := [], laidByText := true, laidKinds := [.sentinel, .sentinel, .sentinel, .sentinel, .sentinel, .sentinel, .sentinel, .sentinel, .sentinel, .sentinel, .sentinel, .sentinel, .sentinel, .sentinel, .sentinel, .sentinel, .sentinel, .sentinel, .data], laidTests := true, laidLooks := .later }
def CodedTablesUptoCardSaid : Prop := Claim7.holds Tryd.pinned (.plain (OpenSpec.upto codedTablesSpec)) codedTablesUptoCard
end Rows
end Go.Proofs.YtmfcabidmacdcaaDoor
