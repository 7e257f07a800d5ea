/-
  DERIVED. GIVEN WITH THE SEED: THE CARDS: each row of YtjohljpcoodijaaDoorRows.lean that lists a variable, with what it lists TIED to the program's text (the seventh form; the later family's looks); each row that meets fmt, with fmt's text TOLD by the authors' own Lean function (tested against real Go, not proved from fmt's source: count such statements apart). THE CARD IS WHAT COUNTS. Prove the row's statement (the work); the ties are given (YtjohljpcoodijaaDoorTie.lean); close each card by the builder's one call (the guide's Derived/Test/ToyasCard.lean, 'card_holds'). Laid BY PROGRAM, IN A SANDBOX (cutbox-door.mjs). By AI agents, Wed Nov 11 2026. No macro, syntax, notation, axiom, sorry.
-/
import Derived.Test.YtjohljpcoodijaaDoorRows
import GoSem.ClaimSeven
namespace Go.Proofs.YtjohljpcoodijaaDoor
namespace Rows

/-- THE TIED CARD OF 'dofferlaw03.CrcSum'. -/
def crcSumCard : Claim7 := { stood := { row := crcSumRow, standIns := [], harness := (true, "656afff9ce43f2cc5963a16e19fd7e5bae872843a09e5d7e703945ee476c845a"), looks := true }, kinds := [], alts := [], laidByText := true, laidKinds := [.data], laidTests := true, laidLooks := .later }
def CrcSumCardSaid : Prop := Claim7.holds Tryd.pinned (.plain (OpenSpec.ofChange crcSumSpec)) crcSumCard

/-- THE TIED CARD OF 'dofferlaw33.RobinFair'. -/
def robinFairCard : Claim7 := { stood := { row := robinFairRow, standIns := [], harness := (true, "656afff9ce43f2cc5963a16e19fd7e5bae872843a09e5d7e703945ee476c845a"), looks := true }, kinds := [], alts := [], laidByText := true, laidKinds := [.sentinel, .sentinel, .sentinel], laidTests := true, laidLooks := .later }
def RobinFairCardSaid : Prop := Claim7.holds Tryd.pinned (.plain (OpenSpec.ofChange robinFairSpec)) robinFairCard

/-- THE TIED CARD OF 'dofferlaw29.RingKeeps'. -/
def ringKeepsCard : Claim7 := { stood := { row := ringKeepsRow, standIns := [], harness := (true, "656afff9ce43f2cc5963a16e19fd7e5bae872843a09e5d7e703945ee476c845a"), looks := true }, kinds := [], alts := [], laidByText := true, laidKinds := [.sentinel, .sentinel, .sentinel, .sentinel, .sentinel, .sentinel, .sentinel, .sentinel, .sentinel, .sentinel, .sentinel, .sentinel, .sentinel, .sentinel, .sentinel, .sentinel, .sentinel, .sentinel], laidTests := true, laidLooks := .later }
def RingKeepsCardSaid : Prop := Claim7.holds Tryd.pinned (.plain (OpenSpec.ofChange ringKeepsSpec)) ringKeepsCard

/-- THE TIED CARD OF 'dofferlaw29.RingTypes'. -/
def ringTypesCard : Claim7 := { stood := { row := ringTypesRow, standIns := [], harness := (true, "656afff9ce43f2cc5963a16e19fd7e5bae872843a09e5d7e703945ee476c845a"), looks := true }, kinds := [], alts := [], laidByText := true, laidKinds := [.sentinel, .sentinel, .sentinel, .sentinel, .sentinel, .sentinel, .sentinel, .sentinel, .sentinel, .sentinel, .sentinel, .sentinel, .sentinel, .sentinel, .sentinel, .sentinel, .sentinel, .sentinel], laidTests := true, laidLooks := .later }
def RingTypesCardSaid : Prop := Claim7.holds Tryd.pinned (.plain (OpenSpec.ofChange ringTypesSpec)) ringTypesCard

/-- THE TIED CARD OF 'dofferlaw04.PackOne'. -/
def packOneCard : Claim7 := { stood := { row := packOneRow, standIns := [], harness := (true, "656afff9ce43f2cc5963a16e19fd7e5bae872843a09e5d7e703945ee476c845a"), looks := true }, kinds := [], alts := [], laidByText := true, laidKinds := [.sentinel, .sentinel, .sentinel], laidTests := true, laidLooks := .later }
def PackOneCardSaid : Prop := Claim7.holds Tryd.pinned (.plain (OpenSpec.ofChange packOneSpec)) packOneCard

/-- THE TIED CARD OF 'dofferlaw29.RingPlays'. -/
def ringPlaysCard : Claim7 := { stood := { row := ringPlaysRow, standIns := [], harness := (true, "656afff9ce43f2cc5963a16e19fd7e5bae872843a09e5d7e703945ee476c845a"), looks := true }, kinds := [], alts := [], laidByText := true, laidKinds := [.sentinel, .sentinel, .sentinel, .sentinel, .sentinel, .sentinel, .sentinel, .sentinel, .sentinel, .sentinel, .sentinel, .sentinel, .sentinel, .sentinel, .sentinel, .sentinel, .sentinel, .sentinel], laidTests := true, laidLooks := .later }
def RingPlaysCardSaid : Prop := Claim7.holds Tryd.pinned (.plain (OpenSpec.ofChange ringPlaysSpec)) ringPlaysCard

/-- THE TIED CARD OF 'dofferlaw33.RobinLeaves'. -/
def robinLeavesCard : Claim7 := { stood := { row := robinLeavesRow, standIns := [], harness := (true, "656afff9ce43f2cc5963a16e19fd7e5bae872843a09e5d7e703945ee476c845a"), looks := true }, kinds := [], alts := [], laidByText := true, laidKinds := [.sentinel, .sentinel, .sentinel], laidTests := true, laidLooks := .later }
def RobinLeavesCardSaid : Prop := Claim7.holds Tryd.pinned (.plain (OpenSpec.ofChange robinLeavesSpec)) robinLeavesCard

/-- THE TIED CARD OF 'dofferlaw33.RobinTurns'. -/
def robinTurnsCard : Claim7 := { stood := { row := robinTurnsRow, standIns := [], harness := (true, "656afff9ce43f2cc5963a16e19fd7e5bae872843a09e5d7e703945ee476c845a"), looks := true }, kinds := [], alts := [], laidByText := true, laidKinds := [.sentinel, .sentinel, .sentinel, .sentinel, .sentinel, .sentinel, .sentinel, .sentinel, .sentinel, .sentinel, .sentinel, .sentinel, .sentinel, .sentinel, .sentinel, .sentinel, .sentinel, .sentinel], laidTests := true, laidLooks := .later }
def RobinTurnsCardSaid : Prop := Claim7.holds Tryd.pinned (.plain (OpenSpec.ofChange robinTurnsSpec)) robinTurnsCard

/-- THE TIED CARD OF 'dofferlaw03.CrcFrames'. -/
def crcFramesCard : Claim7 := { stood := { row := crcFramesRow, standIns := [], harness := (true, "656afff9ce43f2cc5963a16e19fd7e5bae872843a09e5d7e703945ee476c845a"), looks := true }, kinds := [], alts := [], laidByText := true, laidKinds := [.sentinel, .sentinel, .sentinel, .sentinel, .sentinel, .sentinel, .sentinel, .sentinel, .sentinel, .sentinel, .sentinel, .sentinel, .sentinel, .sentinel, .sentinel, .sentinel, .sentinel, .sentinel, .data], laidTests := true, laidLooks := .later }
def CrcFramesCardSaid : Prop := Claim7.holds Tryd.pinned (.plain (OpenSpec.ofChange crcFramesSpec)) crcFramesCard

/-- THE TIED CARD OF 'dofferlaw03.CrcTurned'. -/
def crcTurnedCard : Claim7 := { stood := { row := crcTurnedRow, standIns := [], harness := (true, "656afff9ce43f2cc5963a16e19fd7e5bae872843a09e5d7e703945ee476c845a"), looks := true }, kinds := [], alts := [], laidByText := true, laidKinds := [.sentinel, .sentinel, .sentinel, .sentinel, .sentinel, .sentinel, .sentinel, .sentinel, .sentinel, .sentinel, .sentinel, .sentinel, .sentinel, .sentinel, .sentinel, .sentinel, .sentinel, .sentinel, .data], laidTests := true, laidLooks := .later }
def CrcTurnedCardSaid : Prop := Claim7.holds Tryd.pinned (.plain (OpenSpec.ofChange crcTurnedSpec)) crcTurnedCard

/-- THE TIED CARD OF 'dofferlaw33.RobinPlays'. -/
def robinPlaysCard : Claim7 := { stood := { row := robinPlaysRow, standIns := [], harness := (true, "656afff9ce43f2cc5963a16e19fd7e5bae872843a09e5d7e703945ee476c845a"), looks := true }, kinds := [], alts := [], laidByText := true, laidKinds := [.sentinel, .sentinel, .sentinel, .sentinel, .sentinel, .sentinel, .sentinel, .sentinel, .sentinel, .sentinel, .sentinel, .sentinel, .sentinel, .sentinel, .sentinel, .sentinel, .sentinel, .sentinel], laidTests := true, laidLooks := .later }
def RobinPlaysCardSaid : Prop := Claim7.holds Tryd.pinned (.plain (OpenSpec.ofChange robinPlaysSpec)) robinPlaysCard

/-- THE TIED CARD OF 'dofferlaw04.PackWrites'. -/
def packWritesCard : Claim7 := { stood := { row := packWritesRow, standIns := [], harness := (true, "656afff9ce43f2cc5963a16e19fd7e5bae872843a09e5d7e703945ee476c845a"), looks := true }, kinds := [], alts := [], laidByText := true, laidKinds := [.sentinel, .sentinel, .sentinel, .sentinel, .sentinel, .sentinel, .sentinel, .sentinel, .sentinel, .sentinel, .sentinel, .sentinel, .sentinel, .sentinel, .sentinel, .sentinel, .sentinel, .sentinel], laidTests := true, laidLooks := .later }
def PackWritesCardSaid : Prop := Claim7.holds Tryd.pinned (.plain (OpenSpec.ofChange packWritesSpec)) packWritesCard

/-- THE SECOND FORM's CARD OF 'dofferlaw03.CrcSum'. -/
def crcSumUptoCard : Claim7 := { stood := { row := crcSumUptoRow, standIns := [], harness := (true, "656afff9ce43f2cc5963a16e19fd7e5bae872843a09e5d7e703945ee476c845a"), looks := true }, kinds := [], alts := [], laidByText := true, laidKinds := [.data], laidTests := true, laidLooks := .later }
def CrcSumUptoCardSaid : Prop := Claim7.holds Tryd.pinned (.plain (OpenSpec.upto crcSumSpec)) crcSumUptoCard

/-- THE SECOND FORM's CARD OF 'dofferlaw33.RobinFair'. -/
def robinFairUptoCard : Claim7 := { stood := { row := robinFairUptoRow, standIns := [], harness := (true, "656afff9ce43f2cc5963a16e19fd7e5bae872843a09e5d7e703945ee476c845a"), looks := true }, kinds := [], alts := [], laidByText := true, laidKinds := [.sentinel, .sentinel, .sentinel], laidTests := true, laidLooks := .later }
def RobinFairUptoCardSaid : Prop := Claim7.holds Tryd.pinned (.plain (OpenSpec.upto robinFairSpec)) robinFairUptoCard

/-- THE SECOND FORM's CARD OF 'dofferlaw29.RingKeeps'. -/
def ringKeepsUptoCard : Claim7 := { stood := { row := ringKeepsUptoRow, standIns := [], harness := (true, "656afff9ce43f2cc5963a16e19fd7e5bae872843a09e5d7e703945ee476c845a"), looks := true }, kinds := [], alts := [], laidByText := true, laidKinds := [.sentinel, .sentinel, .sentinel, .sentinel, .sentinel, .sentinel, .sentinel, .sentinel, .sentinel, .sentinel, .sentinel, .sentinel, .sentinel, .sentinel, .sentinel, .sentinel, .sentinel, .sentinel], laidTests := true, laidLooks := .later }
def RingKeepsUptoCardSaid : Prop := Claim7.holds Tryd.pinned (.plain (OpenSpec.upto ringKeepsSpec)) ringKeepsUptoCard

/-- THE SECOND FORM's CARD OF 'dofferlaw29.RingTypes'. -/
def ringTypesUptoCard : Claim7 := { stood := { row := ringTypesUptoRow, standIns := [], harness := (true, "656afff9ce43f2cc5963a16e19fd7e5bae872843a09e5d7e703945ee476c845a"), looks := true }, kinds := [], alts := [], laidByText := true, laidKinds := [.sentinel, .sentinel, .sentinel, .sentinel, .sentinel, .sentinel, .sentinel, .sentinel, .sentinel, .sentinel, .sentinel, .sentinel, .sentinel, .sentinel, .sentinel, .sentinel, .sentinel, .sentinel], laidTests := true, laidLooks := .later }
def RingTypesUptoCardSaid : Prop := Claim7.holds Tryd.pinned (.plain (OpenSpec.upto ringTypesSpec)) ringTypesUptoCard

/-- THE SECOND FORM's CARD OF 'dofferlaw04.PackOne'. -/
def packOneUptoCard : Claim7 := { stood := { row := packOneUptoRow, standIns := [], harness := (true, "656afff9ce43f2cc5963a16e19fd7e5bae872843a09e5d7e703945ee476c845a"), looks := true }, kinds := [], alts := [], laidByText := true, laidKinds := [.sentinel, .sentinel, .sentinel], laidTests := true, laidLooks := .later }
def PackOneUptoCardSaid : Prop := Claim7.holds Tryd.pinned (.plain (OpenSpec.upto packOneSpec)) packOneUptoCard

/-- THE SECOND FORM's CARD OF 'dofferlaw29.RingPlays'. -/
def ringPlaysUptoCard : Claim7 := { stood := { row := ringPlaysUptoRow, standIns := [], harness := (true, "656afff9ce43f2cc5963a16e19fd7e5bae872843a09e5d7e703945ee476c845a"), looks := true }, kinds := [], alts := [], laidByText := true, laidKinds := [.sentinel, .sentinel, .sentinel, .sentinel, .sentinel, .sentinel, .sentinel, .sentinel, .sentinel, .sentinel, .sentinel, .sentinel, .sentinel, .sentinel, .sentinel, .sentinel, .sentinel, .sentinel], laidTests := true, laidLooks := .later }
def RingPlaysUptoCardSaid : Prop := Claim7.holds Tryd.pinned (.plain (OpenSpec.upto ringPlaysSpec)) ringPlaysUptoCard

/-- THE SECOND FORM's CARD OF 'dofferlaw33.RobinLeaves'. -/
def robinLeavesUptoCard : Claim7 := { stood := { row := robinLeavesUptoRow, standIns := [], harness := (true, "656afff9ce43f2cc5963a16e19fd7e5bae872843a09e5d7e703945ee476c845a"), looks := true }, kinds := [], alts := [], laidByText := true, laidKinds := [.sentinel, .sentinel, .sentinel], laidTests := true, laidLooks := .later }
def RobinLeavesUptoCardSaid : Prop := Claim7.holds Tryd.pinned (.plain (OpenSpec.upto robinLeavesSpec)) robinLeavesUptoCard

/-- THE SECOND FORM's CARD OF 'dofferlaw33.RobinTurns'. -/
def robinTurnsUptoCard : Claim7 := { stood := { row := robinTurnsUptoRow, standIns := [], harness := (true, "656afff9ce43f2cc5963a16e19fd7e5bae872843a09e5d7e703945ee476c845a"), looks := true }, kinds := [], alts := [], laidByText := true, laidKinds := [.sentinel, .sentinel, .sentinel, .sentinel, .sentinel, .sentinel, .sentinel, .sentinel, .sentinel, .sentinel, .sentinel, .sentinel, .sentinel, .sentinel, .sentinel, .sentinel, .sentinel, .sentinel], laidTests := true, laidLooks := .later }
def RobinTurnsUptoCardSaid : Prop := Claim7.holds Tryd.pinned (.plain (OpenSpec.upto robinTurnsSpec)) robinTurnsUptoCard

/-- THE SECOND FORM's CARD OF 'dofferlaw03.CrcFrames'. -/
def crcFramesUptoCard : Claim7 := { stood := { row := crcFramesUptoRow, standIns := [], harness := (true, "656afff9ce43f2cc5963a16e19fd7e5bae872843a09e5d7e703945ee476c845a"), looks := true }, kinds := [], alts := [], laidByText := true, laidKinds := [.sentinel, .sentinel, .sentinel, .sentinel, .sentinel, .sentinel, .sentinel, .sentinel, .sentinel, .sentinel, .sentinel, .sentinel, .sentinel, .sentinel, .sentinel, .sentinel, .sentinel, .sentinel, .data], laidTests := true, laidLooks := .later }
def CrcFramesUptoCardSaid : Prop := Claim7.holds Tryd.pinned (.plain (OpenSpec.upto crcFramesSpec)) crcFramesUptoCard

/-- THE SECOND FORM's CARD OF 'dofferlaw03.CrcTurned'. -/
def crcTurnedUptoCard : Claim7 := { stood := { row := crcTurnedUptoRow, standIns := [], harness := (true, "656afff9ce43f2cc5963a16e19fd7e5bae872843a09e5d7e703945ee476c845a"), looks := true }, kinds := [], alts := [], laidByText := true, laidKinds := [.sentinel, .sentinel, .sentinel, .sentinel, .sentinel, .sentinel, .sentinel, .sentinel, .sentinel, .sentinel, .sentinel, .sentinel, .sentinel, .sentinel, .sentinel, .sentinel, .sentinel, .sentinel, .data], laidTests := true, laidLooks := .later }
def CrcTurnedUptoCardSaid : Prop := Claim7.holds Tryd.pinned (.plain (OpenSpec.upto crcTurnedSpec)) crcTurnedUptoCard

/-- THE SECOND FORM's CARD OF 'dofferlaw33.RobinPlays'. -/
def robinPlaysUptoCard : Claim7 := { stood := { row := robinPlaysUptoRow, standIns := [], harness := (true, "656afff9ce43f2cc5963a16e19fd7e5bae872843a09e5d7e703945ee476c845a"), looks := true }, kinds := [], alts := [], laidByText := true, laidKinds := [.sentinel, .sentinel, .sentinel, .sentinel, .sentinel, .sentinel, .sentinel, .sentinel, .sentinel, .sentinel, .sentinel, .sentinel, .sentinel, .sentinel, .sentinel, .sentinel, .sentinel, .sentinel], laidTests := true, laidLooks := .later }
def RobinPlaysUptoCardSaid : Prop := Claim7.holds Tryd.pinned (.plain (OpenSpec.upto robinPlaysSpec)) robinPlaysUptoCard

/-- THE SECOND FORM's CARD OF 'dofferlaw04.PackWrites'. -/
def packWritesUptoCard : Claim7 := { stood := { row := packWritesUptoRow, standIns := [], harness := (true, "656afff9ce43f2cc5963a16e19fd7e5bae872843a09e5d7e703945ee476c845a"), looks := true }, kinds := [], alts := [], laidByText := true, laidKinds := [.sentinel, .sentinel, .sentinel, .sentinel, .sentinel, .sentinel, .sentinel, .sentinel, .sentinel, .sentinel, .sentinel, .sentinel, .sentinel, .sentinel, .sentinel, .sentinel, .sentinel, .sentinel], laidTests := true, laidLooks := .later }
def PackWritesUptoCardSaid : Prop := Claim7.holds Tryd.pinned (.plain (OpenSpec.upto packWritesSpec)) packWritesUptoCard
end Rows
end Go.Proofs.YtjohljpcoodijaaDoor
