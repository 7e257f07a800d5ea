/-
  DERIVED. GIVEN WITH THE SEED: THE CARDS: each row of YtoeeddfinmfnoaaDoorRows.lean that lists a variable, with what it lists TIED to the program's text (the seventh form; the later family's looks); each row that meets fmt, with fmt's text TOLD by the authors' own Lean function (tested against real Go, not proved from fmt's source: count such statements apart). THE CARD IS WHAT COUNTS. Prove the row's statement (the work); the ties are given (YtoeeddfinmfnoaaDoorTie.lean); close each card by the builder's one call (the guide's Derived/Test/ToyasCard.lean, 'card_holds'). Laid BY PROGRAM, IN A SANDBOX (cutbox-door.mjs). By AI agents, Wed Nov 11 2026. No macro, syntax, notation, axiom, sorry.
-/
import Derived.Test.YtoeeddfinmfnoaaDoorRows
import GoSem.ClaimSeven
namespace Go.Proofs.YtoeeddfinmfnoaaDoor
namespace Rows

/-- THE TIED CARD OF 'dofferlaw08.RegexSimple'. -/
def regexSimpleCard : Claim7 := { stood := { row := regexSimpleRow, standIns := [], harness := (true, "1214b8e9bbf57aee9780101e6ffb123870f320ac8a67ad2519cbfe081df75015"), looks := true }, kinds := [], alts := [], laidByText := true, laidKinds := [.sentinel, .sentinel, .sentinel, .sentinel, .sentinel, .sentinel], laidTests := true, laidLooks := .later }
def RegexSimpleCardSaid : Prop := Claim7.holds Tryd.pinned (.plain (OpenSpec.ofChange regexSimpleSpec)) regexSimpleCard

/-- THE TIED CARD OF 'dofferlaw08.RegexParses'. -/
def regexParsesCard : Claim7 := { stood := { row := regexParsesRow, standIns := [], harness := (true, "1214b8e9bbf57aee9780101e6ffb123870f320ac8a67ad2519cbfe081df75015"), looks := true }, kinds := [], alts := [], laidByText := true, laidKinds := [.sentinel, .sentinel, .sentinel, .sentinel, .sentinel, .sentinel, .sentinel, .sentinel, .sentinel, .sentinel, .sentinel, .sentinel, .sentinel, .sentinel, .sentinel, .sentinel, .sentinel, .sentinel], laidTests := true, laidLooks := .later }
def RegexParsesCardSaid : Prop := Claim7.holds Tryd.pinned (.plain (OpenSpec.ofChange regexParsesSpec)) regexParsesCard

/-- THE TIED CARD OF 'dofferlaw08.RegexOpen'. -/
def regexOpenCard : Claim7 := { stood := { row := regexOpenRow, standIns := [], harness := (true, "1214b8e9bbf57aee9780101e6ffb123870f320ac8a67ad2519cbfe081df75015"), looks := true }, kinds := [], alts := [], laidByText := true, laidKinds := [.sentinel, .sentinel, .sentinel, .sentinel, .sentinel, .sentinel, .sentinel, .sentinel, .sentinel, .sentinel, .sentinel, .sentinel, .sentinel, .sentinel, .sentinel, .sentinel, .sentinel, .sentinel], laidTests := true, laidLooks := .later }
def RegexOpenCardSaid : Prop := Claim7.holds Tryd.pinned (.plain (OpenSpec.ofChange regexOpenSpec)) regexOpenCard

/-- THE TIED CARD OF 'dofferlaw09.SizesEnds'. -/
def sizesEndsCard : Claim7 := { stood := { row := sizesEndsRow, standIns := [], harness := (true, "1214b8e9bbf57aee9780101e6ffb123870f320ac8a67ad2519cbfe081df75015"), looks := true }, kinds := [], alts := [], laidByText := true, laidKinds := [.sentinel, .sentinel, .sentinel, .sentinel, .sentinel, .sentinel], laidTests := true, laidLooks := .later }
def SizesEndsCardSaid : Prop := Claim7.holds Tryd.pinned (.plain (OpenSpec.ofChange sizesEndsSpec)) sizesEndsCard

/-- THE TIED CARD OF 'dofferlaw09.SizesJoin'. -/
def sizesJoinCard : Claim7 := { stood := { row := sizesJoinRow, standIns := [], harness := (true, "1214b8e9bbf57aee9780101e6ffb123870f320ac8a67ad2519cbfe081df75015"), looks := true }, kinds := [], alts := [], laidByText := true, laidKinds := [.sentinel, .sentinel, .sentinel, .sentinel, .sentinel, .sentinel], laidTests := true, laidLooks := .later }
def SizesJoinCardSaid : Prop := Claim7.holds Tryd.pinned (.plain (OpenSpec.ofChange sizesJoinSpec)) sizesJoinCard

/-- THE TIED CARD OF 'dofferlaw09.SizesOften'. -/
def sizesOftenCard : Claim7 := { stood := { row := sizesOftenRow, standIns := [], harness := (true, "1214b8e9bbf57aee9780101e6ffb123870f320ac8a67ad2519cbfe081df75015"), looks := true }, kinds := [], alts := [], laidByText := true, laidKinds := [.sentinel, .sentinel, .sentinel, .sentinel, .sentinel, .sentinel], laidTests := true, laidLooks := .later }
def SizesOftenCardSaid : Prop := Claim7.holds Tryd.pinned (.plain (OpenSpec.ofChange sizesOftenSpec)) sizesOftenCard

/-- THE TIED CARD OF 'dofferlaw10.MatchLaws'. -/
def matchLawsCard : Claim7 := { stood := { row := matchLawsRow, standIns := [], harness := (true, "1214b8e9bbf57aee9780101e6ffb123870f320ac8a67ad2519cbfe081df75015"), looks := true }, kinds := [], alts := [], laidByText := true, laidKinds := [.data, .sentinel, .sentinel, .sentinel, .sentinel, .sentinel, .sentinel], laidTests := true, laidLooks := .later }
def MatchLawsCardSaid : Prop := Claim7.holds Tryd.pinned (.plain (OpenSpec.ofChange matchLawsSpec)) matchLawsCard

/-- THE TIED CARD OF 'dofferlaw10.MatchEmpty'. -/
def matchEmptyCard : Claim7 := { stood := { row := matchEmptyRow, standIns := [], harness := (true, "1214b8e9bbf57aee9780101e6ffb123870f320ac8a67ad2519cbfe081df75015"), looks := true }, kinds := [], alts := [], laidByText := true, laidKinds := [.data, .sentinel, .sentinel, .sentinel, .sentinel, .sentinel, .sentinel], laidTests := true, laidLooks := .later }
def MatchEmptyCardSaid : Prop := Claim7.holds Tryd.pinned (.plain (OpenSpec.ofChange matchEmptySpec)) matchEmptyCard

/-- THE TIED CARD OF 'dofferlaw08.RegexBack'. -/
def regexBackCard : Claim7 := { stood := { row := regexBackRow, standIns := [], harness := (true, "1214b8e9bbf57aee9780101e6ffb123870f320ac8a67ad2519cbfe081df75015"), looks := true }, kinds := [], alts := [], laidByText := true, laidKinds := [.data, .sentinel, .sentinel, .sentinel, .sentinel, .sentinel, .sentinel], laidTests := true, laidLooks := .later }
def RegexBackCardSaid : Prop := Claim7.holds Tryd.pinned (.plain (OpenSpec.ofChange regexBackSpec)) regexBackCard

/-- THE SECOND FORM's CARD OF 'dofferlaw08.RegexSimple'. -/
def regexSimpleUptoCard : Claim7 := { stood := { row := regexSimpleUptoRow, standIns := [], harness := (true, "1214b8e9bbf57aee9780101e6ffb123870f320ac8a67ad2519cbfe081df75015"), looks := true }, kinds := [], alts := [], laidByText := true, laidKinds := [.sentinel, .sentinel, .sentinel, .sentinel, .sentinel, .sentinel], laidTests := true, laidLooks := .later }
def RegexSimpleUptoCardSaid : Prop := Claim7.holds Tryd.pinned (.plain (OpenSpec.upto regexSimpleSpec)) regexSimpleUptoCard

/-- THE SECOND FORM's CARD OF 'dofferlaw08.RegexParses'. -/
def regexParsesUptoCard : Claim7 := { stood := { row := regexParsesUptoRow, standIns := [], harness := (true, "1214b8e9bbf57aee9780101e6ffb123870f320ac8a67ad2519cbfe081df75015"), looks := true }, kinds := [], alts := [], laidByText := true, laidKinds := [.sentinel, .sentinel, .sentinel, .sentinel, .sentinel, .sentinel, .sentinel, .sentinel, .sentinel, .sentinel, .sentinel, .sentinel, .sentinel, .sentinel, .sentinel, .sentinel, .sentinel, .sentinel], laidTests := true, laidLooks := .later }
def RegexParsesUptoCardSaid : Prop := Claim7.holds Tryd.pinned (.plain (OpenSpec.upto regexParsesSpec)) regexParsesUptoCard

/-- THE SECOND FORM's CARD OF 'dofferlaw08.RegexOpen'. -/
def regexOpenUptoCard : Claim7 := { stood := { row := regexOpenUptoRow, standIns := [], harness := (true, "1214b8e9bbf57aee9780101e6ffb123870f320ac8a67ad2519cbfe081df75015"), looks := true }, kinds := [], alts := [], laidByText := true, laidKinds := [.sentinel, .sentinel, .sentinel, .sentinel, .sentinel, .sentinel, .sentinel, .sentinel, .sentinel, .sentinel, .sentinel, .sentinel, .sentinel, .sentinel, .sentinel, .sentinel, .sentinel, .sentinel], laidTests := true, laidLooks := .later }
def RegexOpenUptoCardSaid : Prop := Claim7.holds Tryd.pinned (.plain (OpenSpec.upto regexOpenSpec)) regexOpenUptoCard

/-- THE SECOND FORM's CARD OF 'dofferlaw09.SizesEnds'. -/
def sizesEndsUptoCard : Claim7 := { stood := { row := sizesEndsUptoRow, standIns := [], harness := (true, "1214b8e9bbf57aee9780101e6ffb123870f320ac8a67ad2519cbfe081df75015"), looks := true }, kinds := [], alts := [], laidByText := true, laidKinds := [.sentinel, .sentinel, .sentinel, .sentinel, .sentinel, .sentinel], laidTests := true, laidLooks := .later }
def SizesEndsUptoCardSaid : Prop := Claim7.holds Tryd.pinned (.plain (OpenSpec.upto sizesEndsSpec)) sizesEndsUptoCard

/-- THE SECOND FORM's CARD OF 'dofferlaw09.SizesJoin'. -/
def sizesJoinUptoCard : Claim7 := { stood := { row := sizesJoinUptoRow, standIns := [], harness := (true, "1214b8e9bbf57aee9780101e6ffb123870f320ac8a67ad2519cbfe081df75015"), looks := true }, kinds := [], alts := [], laidByText := true, laidKinds := [.sentinel, .sentinel, .sentinel, .sentinel, .sentinel, .sentinel], laidTests := true, laidLooks := .later }
def SizesJoinUptoCardSaid : Prop := Claim7.holds Tryd.pinned (.plain (OpenSpec.upto sizesJoinSpec)) sizesJoinUptoCard

/-- THE SECOND FORM's CARD OF 'dofferlaw09.SizesOften'. -/
def sizesOftenUptoCard : Claim7 := { stood := { row := sizesOftenUptoRow, standIns := [], harness := (true, "1214b8e9bbf57aee9780101e6ffb123870f320ac8a67ad2519cbfe081df75015"), looks := true }, kinds := [], alts := [], laidByText := true, laidKinds := [.sentinel, .sentinel, .sentinel, .sentinel, .sentinel, .sentinel], laidTests := true, laidLooks := .later }
def SizesOftenUptoCardSaid : Prop := Claim7.holds Tryd.pinned (.plain (OpenSpec.upto sizesOftenSpec)) sizesOftenUptoCard

/-- THE SECOND FORM's CARD OF 'dofferlaw10.MatchLaws'. -/
def matchLawsUptoCard : Claim7 := { stood := { row := matchLawsUptoRow, standIns := [], harness := (true, "1214b8e9bbf57aee9780101e6ffb123870f320ac8a67ad2519cbfe081df75015"), looks := true }, kinds := [], alts := [], laidByText := true, laidKinds := [.data, .sentinel, .sentinel, .sentinel, .sentinel, .sentinel, .sentinel], laidTests := true, laidLooks := .later }
def MatchLawsUptoCardSaid : Prop := Claim7.holds Tryd.pinned (.plain (OpenSpec.upto matchLawsSpec)) matchLawsUptoCard

/-- THE SECOND FORM's CARD OF 'dofferlaw10.MatchEmpty'. -/
def matchEmptyUptoCard : Claim7 := { stood := { row := matchEmptyUptoRow, standIns := [], harness := (true, "1214b8e9bbf57aee9780101e6ffb123870f320ac8a67ad2519cbfe081df75015"), looks := true }, kinds := [], alts := [], laidByText := true, laidKinds := [.data, .sentinel, .sentinel, .sentinel, .sentinel, .sentinel, .sentinel], laidTests := true, laidLooks := .later }
def MatchEmptyUptoCardSaid : Prop := Claim7.holds Tryd.pinned (.plain (OpenSpec.upto matchEmptySpec)) matchEmptyUptoCard

/-- THE SECOND FORM's CARD OF 'dofferlaw08.RegexBack'. -/
def regexBackUptoCard : Claim7 := { stood := { row := regexBackUptoRow, standIns := [], harness := (true, "1214b8e9bbf57aee9780101e6ffb123870f320ac8a67ad2519cbfe081df75015"), looks := true }, kinds := [], alts := [], laidByText := true, laidKinds := [.data, .sentinel, .sentinel, .sentinel, .sentinel, .sentinel, .sentinel], laidTests := true, laidLooks := .later }
def RegexBackUptoCardSaid : Prop := Claim7.holds Tryd.pinned (.plain (OpenSpec.upto regexBackSpec)) regexBackUptoCard
end Rows
end Go.Proofs.YtoeeddfinmfnoaaDoor
