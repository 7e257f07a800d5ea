/-
  DERIVED. GIVEN WITH THE SEED: THE CARDS: each row of YteekonojmpihlaaDoorRows.lean that lists a variable, with what it lists TIED to the program's text (the seventh form; the later family's looks); each row that meets fmt, with fmt's text TOLD by the authors' own Lean function (tested against real Go, not proved from fmt's source: count such statements apart). THE CARD IS WHAT COUNTS. Prove the row's statement (the work); the ties are given (YteekonojmpihlaaDoorTie.lean); close each card by the builder's one call (the guide's Derived/Test/ToyasCard.lean, 'card_holds'). Laid BY PROGRAM, IN A SANDBOX (cutbox-door.mjs). By AI agents, Wed Nov 11 2026. No macro, syntax, notation, axiom, sorry.
-/
import Derived.Test.YteekonojmpihlaaDoorRows
import GoSem.ClaimSeven
namespace Go.Proofs.YteekonojmpihlaaDoor
namespace Rows

/-- THE TIED CARD OF 'dofferlaw11.NamesBook'. -/
def namesBookCard : Claim7 := { stood := { row := namesBookRow, standIns := [], harness := (true, "3c9b10cea693c888cd30d6dcdfdb36fd9489fbca9499dcd0eff7b53e1cee9391"), looks := true }, kinds := [], alts := [], laidByText := true, laidKinds := [.sentinel, .sentinel, .sentinel, .sentinel, .sentinel, .sentinel, .sentinel, .sentinel, .sentinel, .sentinel, .sentinel, .sentinel, .sentinel, .sentinel, .sentinel, .sentinel, .sentinel, .sentinel], laidTests := true, laidLooks := .later }
def NamesBookCardSaid : Prop := Claim7.holds Tryd.pinned (.plain (OpenSpec.ofChange namesBookSpec)) namesBookCard

/-- THE TIED CARD OF 'dofferlaw11.NamesSpread'. -/
def namesSpreadCard : Claim7 := { stood := { row := namesSpreadRow, standIns := [], harness := (true, "3c9b10cea693c888cd30d6dcdfdb36fd9489fbca9499dcd0eff7b53e1cee9391"), looks := true }, kinds := [], alts := [], laidByText := true, laidKinds := [.sentinel, .sentinel, .sentinel, .sentinel, .sentinel, .sentinel, .sentinel, .sentinel, .sentinel, .sentinel, .sentinel, .sentinel, .sentinel, .sentinel, .sentinel, .sentinel, .sentinel, .sentinel], laidTests := true, laidLooks := .later }
def NamesSpreadCardSaid : Prop := Claim7.holds Tryd.pinned (.plain (OpenSpec.ofChange namesSpreadSpec)) namesSpreadCard

/-- THE TIED CARD OF 'dofferlaw11.NamesAgain'. -/
def namesAgainCard : Claim7 := { stood := { row := namesAgainRow, standIns := [], harness := (true, "3c9b10cea693c888cd30d6dcdfdb36fd9489fbca9499dcd0eff7b53e1cee9391"), looks := true }, kinds := [], alts := [], laidByText := true, laidKinds := [.sentinel, .sentinel, .sentinel, .sentinel, .sentinel, .sentinel, .sentinel, .sentinel, .sentinel, .sentinel, .sentinel, .sentinel, .sentinel, .sentinel, .sentinel, .sentinel, .sentinel, .sentinel], laidTests := true, laidLooks := .later }
def NamesAgainCardSaid : Prop := Claim7.holds Tryd.pinned (.plain (OpenSpec.ofChange namesAgainSpec)) namesAgainCard

/-- THE TIED CARD OF 'dofferlaw23.CombSlots'. -/
def combSlotsCard : Claim7 := { stood := { row := combSlotsRow, standIns := [], harness := (true, "3c9b10cea693c888cd30d6dcdfdb36fd9489fbca9499dcd0eff7b53e1cee9391"), looks := true }, kinds := [], alts := [], laidByText := true, laidKinds := [.sentinel], laidTests := true, laidLooks := .later }
def CombSlotsCardSaid : Prop := Claim7.holds Tryd.pinned (.plain (OpenSpec.ofChange combSlotsSpec)) combSlotsCard

/-- THE TIED CARD OF 'dofferlaw23.CombAgain'. -/
def combAgainCard : Claim7 := { stood := { row := combAgainRow, standIns := [], harness := (true, "3c9b10cea693c888cd30d6dcdfdb36fd9489fbca9499dcd0eff7b53e1cee9391"), looks := true }, kinds := [], alts := [], laidByText := true, laidKinds := [.sentinel], laidTests := true, laidLooks := .later }
def CombAgainCardSaid : Prop := Claim7.holds Tryd.pinned (.plain (OpenSpec.ofChange combAgainSpec)) combAgainCard

/-- THE TIED CARD OF 'dofferlaw23.CombLay'. -/
def combLayCard : Claim7 := { stood := { row := combLayRow, standIns := [], harness := (true, "3c9b10cea693c888cd30d6dcdfdb36fd9489fbca9499dcd0eff7b53e1cee9391"), looks := true }, kinds := [], alts := [], laidByText := true, laidKinds := [.sentinel, .sentinel, .sentinel, .sentinel, .sentinel, .sentinel, .sentinel, .sentinel, .sentinel, .sentinel, .sentinel, .sentinel, .sentinel, .sentinel, .sentinel, .sentinel, .sentinel, .sentinel], laidTests := true, laidLooks := .later }
def CombLayCardSaid : Prop := Claim7.holds Tryd.pinned (.plain (OpenSpec.ofChange combLaySpec)) combLayCard

/-- THE TIED CARD OF 'dofferlaw23.CombAt'. -/
def combAtCard : Claim7 := { stood := { row := combAtRow, standIns := [], harness := (true, "3c9b10cea693c888cd30d6dcdfdb36fd9489fbca9499dcd0eff7b53e1cee9391"), looks := true }, kinds := [], alts := [], laidByText := true, laidKinds := [.sentinel, .sentinel, .sentinel, .sentinel, .sentinel, .sentinel, .sentinel, .sentinel, .sentinel, .sentinel, .sentinel, .sentinel, .sentinel, .sentinel, .sentinel, .sentinel, .sentinel, .sentinel], laidTests := true, laidLooks := .later }
def CombAtCardSaid : Prop := Claim7.holds Tryd.pinned (.plain (OpenSpec.ofChange combAtSpec)) combAtCard

/-- THE TIED CARD OF 'dofferlaw07.TreeNames'. -/
def treeNamesCard : Claim7 := { stood := { row := treeNamesRow, standIns := [], harness := (true, "3c9b10cea693c888cd30d6dcdfdb36fd9489fbca9499dcd0eff7b53e1cee9391"), looks := true }, kinds := [], alts := [], laidByText := true, laidKinds := [.data], laidTests := true, laidLooks := .later }
def TreeNamesCardSaid : Prop := Claim7.holds Tryd.pinned (.plain (OpenSpec.ofChange treeNamesSpec)) treeNamesCard

/-- THE TIED CARD OF 'dofferlaw07.TreeBounds'. -/
def treeBoundsCard : Claim7 := { stood := { row := treeBoundsRow, standIns := [], harness := (true, "3c9b10cea693c888cd30d6dcdfdb36fd9489fbca9499dcd0eff7b53e1cee9391"), looks := true }, kinds := [], alts := [], laidByText := true, laidKinds := [.data], laidTests := true, laidLooks := .later }
def TreeBoundsCardSaid : Prop := Claim7.holds Tryd.pinned (.plain (OpenSpec.ofChange treeBoundsSpec)) treeBoundsCard

/-- THE TIED CARD OF 'dofferlaw07.TreeTells'. -/
def treeTellsCard : Claim7 := { stood := { row := treeTellsRow, standIns := [], harness := (true, "3c9b10cea693c888cd30d6dcdfdb36fd9489fbca9499dcd0eff7b53e1cee9391"), looks := true }, kinds := [], alts := [], laidByText := true, laidKinds := [.data], laidTests := true, laidLooks := .later }
def TreeTellsCardSaid : Prop := Claim7.holds Tryd.pinned (.plain (OpenSpec.ofChange treeTellsSpec)) treeTellsCard

/-- THE TIED CARD OF 'dofferlaw07.TreeSame'. -/
def treeSameCard : Claim7 := { stood := { row := treeSameRow, standIns := [], harness := (true, "3c9b10cea693c888cd30d6dcdfdb36fd9489fbca9499dcd0eff7b53e1cee9391"), looks := true }, kinds := [], alts := [], laidByText := true, laidKinds := [.data], laidTests := true, laidLooks := .later }
def TreeSameCardSaid : Prop := Claim7.holds Tryd.pinned (.plain (OpenSpec.ofChange treeSameSpec)) treeSameCard

/-- THE SECOND FORM's CARD OF 'dofferlaw11.NamesBook'. -/
def namesBookUptoCard : Claim7 := { stood := { row := namesBookUptoRow, standIns := [], harness := (true, "3c9b10cea693c888cd30d6dcdfdb36fd9489fbca9499dcd0eff7b53e1cee9391"), looks := true }, kinds := [], alts := [], laidByText := true, laidKinds := [.sentinel, .sentinel, .sentinel, .sentinel, .sentinel, .sentinel, .sentinel, .sentinel, .sentinel, .sentinel, .sentinel, .sentinel, .sentinel, .sentinel, .sentinel, .sentinel, .sentinel, .sentinel], laidTests := true, laidLooks := .later }
def NamesBookUptoCardSaid : Prop := Claim7.holds Tryd.pinned (.plain (OpenSpec.upto namesBookSpec)) namesBookUptoCard

/-- THE SECOND FORM's CARD OF 'dofferlaw11.NamesSpread'. -/
def namesSpreadUptoCard : Claim7 := { stood := { row := namesSpreadUptoRow, standIns := [], harness := (true, "3c9b10cea693c888cd30d6dcdfdb36fd9489fbca9499dcd0eff7b53e1cee9391"), looks := true }, kinds := [], alts := [], laidByText := true, laidKinds := [.sentinel, .sentinel, .sentinel, .sentinel, .sentinel, .sentinel, .sentinel, .sentinel, .sentinel, .sentinel, .sentinel, .sentinel, .sentinel, .sentinel, .sentinel, .sentinel, .sentinel, .sentinel], laidTests := true, laidLooks := .later }
def NamesSpreadUptoCardSaid : Prop := Claim7.holds Tryd.pinned (.plain (OpenSpec.upto namesSpreadSpec)) namesSpreadUptoCard

/-- THE SECOND FORM's CARD OF 'dofferlaw11.NamesAgain'. -/
def namesAgainUptoCard : Claim7 := { stood := { row := namesAgainUptoRow, standIns := [], harness := (true, "3c9b10cea693c888cd30d6dcdfdb36fd9489fbca9499dcd0eff7b53e1cee9391"), looks := true }, kinds := [], alts := [], laidByText := true, laidKinds := [.sentinel, .sentinel, .sentinel, .sentinel, .sentinel, .sentinel, .sentinel, .sentinel, .sentinel, .sentinel, .sentinel, .sentinel, .sentinel, .sentinel, .sentinel, .sentinel, .sentinel, .sentinel], laidTests := true, laidLooks := .later }
def NamesAgainUptoCardSaid : Prop := Claim7.holds Tryd.pinned (.plain (OpenSpec.upto namesAgainSpec)) namesAgainUptoCard

/-- THE SECOND FORM's CARD OF 'dofferlaw23.CombSlots'. -/
def combSlotsUptoCard : Claim7 := { stood := { row := combSlotsUptoRow, standIns := [], harness := (true, "3c9b10cea693c888cd30d6dcdfdb36fd9489fbca9499dcd0eff7b53e1cee9391"), looks := true }, kinds := [], alts := [], laidByText := true, laidKinds := [.sentinel], laidTests := true, laidLooks := .later }
def CombSlotsUptoCardSaid : Prop := Claim7.holds Tryd.pinned (.plain (OpenSpec.upto combSlotsSpec)) combSlotsUptoCard

/-- THE SECOND FORM's CARD OF 'dofferlaw23.CombAgain'. -/
def combAgainUptoCard : Claim7 := { stood := { row := combAgainUptoRow, standIns := [], harness := (true, "3c9b10cea693c888cd30d6dcdfdb36fd9489fbca9499dcd0eff7b53e1cee9391"), looks := true }, kinds := [], alts := [], laidByText := true, laidKinds := [.sentinel], laidTests := true, laidLooks := .later }
def CombAgainUptoCardSaid : Prop := Claim7.holds Tryd.pinned (.plain (OpenSpec.upto combAgainSpec)) combAgainUptoCard

/-- THE SECOND FORM's CARD OF 'dofferlaw23.CombLay'. -/
def combLayUptoCard : Claim7 := { stood := { row := combLayUptoRow, standIns := [], harness := (true, "3c9b10cea693c888cd30d6dcdfdb36fd9489fbca9499dcd0eff7b53e1cee9391"), looks := true }, kinds := [], alts := [], laidByText := true, laidKinds := [.sentinel, .sentinel, .sentinel, .sentinel, .sentinel, .sentinel, .sentinel, .sentinel, .sentinel, .sentinel, .sentinel, .sentinel, .sentinel, .sentinel, .sentinel, .sentinel, .sentinel, .sentinel], laidTests := true, laidLooks := .later }
def CombLayUptoCardSaid : Prop := Claim7.holds Tryd.pinned (.plain (OpenSpec.upto combLaySpec)) combLayUptoCard

/-- THE SECOND FORM's CARD OF 'dofferlaw23.CombAt'. -/
def combAtUptoCard : Claim7 := { stood := { row := combAtUptoRow, standIns := [], harness := (true, "3c9b10cea693c888cd30d6dcdfdb36fd9489fbca9499dcd0eff7b53e1cee9391"), looks := true }, kinds := [], alts := [], laidByText := true, laidKinds := [.sentinel, .sentinel, .sentinel, .sentinel, .sentinel, .sentinel, .sentinel, .sentinel, .sentinel, .sentinel, .sentinel, .sentinel, .sentinel, .sentinel, .sentinel, .sentinel, .sentinel, .sentinel], laidTests := true, laidLooks := .later }
def CombAtUptoCardSaid : Prop := Claim7.holds Tryd.pinned (.plain (OpenSpec.upto combAtSpec)) combAtUptoCard

/-- THE SECOND FORM's CARD OF 'dofferlaw07.TreeNames'. -/
def treeNamesUptoCard : Claim7 := { stood := { row := treeNamesUptoRow, standIns := [], harness := (true, "3c9b10cea693c888cd30d6dcdfdb36fd9489fbca9499dcd0eff7b53e1cee9391"), looks := true }, kinds := [], alts := [], laidByText := true, laidKinds := [.data], laidTests := true, laidLooks := .later }
def TreeNamesUptoCardSaid : Prop := Claim7.holds Tryd.pinned (.plain (OpenSpec.upto treeNamesSpec)) treeNamesUptoCard

/-- THE SECOND FORM's CARD OF 'dofferlaw07.TreeBounds'. -/
def treeBoundsUptoCard : Claim7 := { stood := { row := treeBoundsUptoRow, standIns := [], harness := (true, "3c9b10cea693c888cd30d6dcdfdb36fd9489fbca9499dcd0eff7b53e1cee9391"), looks := true }, kinds := [], alts := [], laidByText := true, laidKinds := [.data], laidTests := true, laidLooks := .later }
def TreeBoundsUptoCardSaid : Prop := Claim7.holds Tryd.pinned (.plain (OpenSpec.upto treeBoundsSpec)) treeBoundsUptoCard

/-- THE SECOND FORM's CARD OF 'dofferlaw07.TreeTells'. -/
def treeTellsUptoCard : Claim7 := { stood := { row := treeTellsUptoRow, standIns := [], harness := (true, "3c9b10cea693c888cd30d6dcdfdb36fd9489fbca9499dcd0eff7b53e1cee9391"), looks := true }, kinds := [], alts := [], laidByText := true, laidKinds := [.data], laidTests := true, laidLooks := .later }
def TreeTellsUptoCardSaid : Prop := Claim7.holds Tryd.pinned (.plain (OpenSpec.upto treeTellsSpec)) treeTellsUptoCard

/-- THE SECOND FORM's CARD OF 'dofferlaw07.TreeSame'. -/
def treeSameUptoCard : Claim7 := { stood := { row := treeSameUptoRow, standIns := [], harness := (true, "3c9b10cea693c888cd30d6dcdfdb36fd9489fbca9499dcd0eff7b53e1cee9391"), looks := true }, kinds := [], alts := [], laidByText := true, laidKinds := [.data], laidTests := true, laidLooks := .later }
def TreeSameUptoCardSaid : Prop := Claim7.holds Tryd.pinned (.plain (OpenSpec.upto treeSameSpec)) treeSameUptoCard
end Rows
end Go.Proofs.YteekonojmpihlaaDoor
