/-
  DERIVED. GIVEN WITH THE SEED: THE CARDS: each row of YtpjimmdpcpcmoaaDoorRows.lean that lists a variable, with what it lists TIED to the program's text (the seventh form; the later family's looks); each row that meets fmt, with fmt's text TOLD by the authors' own Lean function (tested against real Go, not proved from fmt's source: count such statements apart). THE CARD IS WHAT COUNTS. Prove the row's statement (the work); the ties are given (YtpjimmdpcpcmoaaDoorTie.lean); close each card by the builder's one call (the guide's Derived/Test/ToyasCard.lean, 'card_holds'). Laid BY PROGRAM, IN A SANDBOX (cutbox-door.mjs). By AI agents, Wed Nov 11 2026. No macro, syntax, notation, axiom, sorry.
-/
import Derived.Test.YtpjimmdpcpcmoaaDoorRows
import GoSem.ClaimSeven
namespace Go.Proofs.YtpjimmdpcpcmoaaDoor
namespace Rows

/-- THE TIED CARD OF 'dofferlaw30.PoolKeeps'. -/
def poolKeepsCard : Claim7 := { stood := { row := poolKeepsRow, standIns := [], harness := (true, "334af363b6d78ad5dee936550af1826a8663a12f47767099639b240744c11e2b"), looks := true }, kinds := [], alts := [], laidByText := true, laidKinds := [.data, .sentinel, .sentinel, .sentinel, .sentinel, .sentinel, .sentinel, .sentinel, .sentinel, .sentinel, .sentinel, .sentinel, .sentinel, .sentinel, .sentinel, .sentinel, .sentinel, .sentinel, .sentinel], laidTests := true, laidLooks := .later }
def PoolKeepsCardSaid : Prop := Claim7.holds Tryd.pinned (.plain (OpenSpec.ofChange poolKeepsSpec)) poolKeepsCard

/-- THE TIED CARD OF 'dofferlaw31.ChainNew'. -/
def chainNewCard : Claim7 := { stood := { row := chainNewRow, standIns := [], harness := (true, "334af363b6d78ad5dee936550af1826a8663a12f47767099639b240744c11e2b"), looks := true }, kinds := [], alts := [], laidByText := true, laidKinds := [.data, .sentinel, .sentinel, .sentinel, .sentinel, .sentinel, .sentinel, .sentinel, .sentinel, .sentinel, .sentinel, .sentinel, .sentinel, .sentinel, .sentinel, .sentinel, .sentinel, .sentinel, .sentinel], laidTests := true, laidLooks := .later }
def ChainNewCardSaid : Prop := Claim7.holds Tryd.pinned (.plain (OpenSpec.ofChange chainNewSpec)) chainNewCard

/-- THE TIED CARD OF 'dofferlaw30.PoolPlays'. -/
def poolPlaysCard : Claim7 := { stood := { row := poolPlaysRow, standIns := [], harness := (true, "334af363b6d78ad5dee936550af1826a8663a12f47767099639b240744c11e2b"), looks := true }, kinds := [], alts := [], laidByText := true, laidKinds := [.data, .sentinel, .sentinel, .sentinel, .sentinel, .sentinel, .sentinel, .sentinel, .sentinel, .sentinel, .sentinel, .sentinel, .sentinel, .sentinel, .sentinel, .sentinel, .sentinel, .sentinel, .sentinel], laidTests := true, laidLooks := .later }
def PoolPlaysCardSaid : Prop := Claim7.holds Tryd.pinned (.plain (OpenSpec.ofChange poolPlaysSpec)) poolPlaysCard

/-- THE TIED CARD OF 'dofferlaw31.ChainKeeps'. -/
def chainKeepsCard : Claim7 := { stood := { row := chainKeepsRow, standIns := [], harness := (true, "334af363b6d78ad5dee936550af1826a8663a12f47767099639b240744c11e2b"), looks := true }, kinds := [], alts := [], laidByText := true, laidKinds := [.data, .sentinel, .sentinel, .sentinel, .sentinel, .sentinel, .sentinel, .sentinel, .sentinel, .sentinel, .sentinel, .sentinel, .sentinel, .sentinel, .sentinel, .sentinel, .sentinel, .sentinel, .sentinel], laidTests := true, laidLooks := .later }
def ChainKeepsCardSaid : Prop := Claim7.holds Tryd.pinned (.plain (OpenSpec.ofChange chainKeepsSpec)) chainKeepsCard

/-- THE TIED CARD OF 'dofferlaw31.ChainPlays'. -/
def chainPlaysCard : Claim7 := { stood := { row := chainPlaysRow, standIns := [], harness := (true, "334af363b6d78ad5dee936550af1826a8663a12f47767099639b240744c11e2b"), looks := true }, kinds := [], alts := [], laidByText := true, laidKinds := [.data, .sentinel, .sentinel, .sentinel, .sentinel, .sentinel, .sentinel, .sentinel, .sentinel, .sentinel, .sentinel, .sentinel, .sentinel, .sentinel, .sentinel, .sentinel, .sentinel, .sentinel, .sentinel], laidTests := true, laidLooks := .later }
def ChainPlaysCardSaid : Prop := Claim7.holds Tryd.pinned (.plain (OpenSpec.ofChange chainPlaysSpec)) chainPlaysCard

/-- THE TIED CARD OF 'dofferlaw31.ChainShare'. -/
def chainShareCard : Claim7 := { stood := { row := chainShareRow, standIns := [], harness := (true, "334af363b6d78ad5dee936550af1826a8663a12f47767099639b240744c11e2b"), looks := true }, kinds := [], alts := [], laidByText := true, laidKinds := [.data, .sentinel, .sentinel, .sentinel, .sentinel, .sentinel, .sentinel, .sentinel, .sentinel, .sentinel, .sentinel, .sentinel, .sentinel, .sentinel, .sentinel, .sentinel, .sentinel, .sentinel, .sentinel], laidTests := true, laidLooks := .later }
def ChainShareCardSaid : Prop := Claim7.holds Tryd.pinned (.plain (OpenSpec.ofChange chainShareSpec)) chainShareCard

/-- THE SECOND FORM's CARD OF 'dofferlaw30.PoolKeeps'. -/
def poolKeepsUptoCard : Claim7 := { stood := { row := poolKeepsUptoRow, standIns := [], harness := (true, "334af363b6d78ad5dee936550af1826a8663a12f47767099639b240744c11e2b"), looks := true }, kinds := [], alts := [], laidByText := true, laidKinds := [.data, .sentinel, .sentinel, .sentinel, .sentinel, .sentinel, .sentinel, .sentinel, .sentinel, .sentinel, .sentinel, .sentinel, .sentinel, .sentinel, .sentinel, .sentinel, .sentinel, .sentinel, .sentinel], laidTests := true, laidLooks := .later }
def PoolKeepsUptoCardSaid : Prop := Claim7.holds Tryd.pinned (.plain (OpenSpec.upto poolKeepsSpec)) poolKeepsUptoCard

/-- THE SECOND FORM's CARD OF 'dofferlaw31.ChainNew'. -/
def chainNewUptoCard : Claim7 := { stood := { row := chainNewUptoRow, standIns := [], harness := (true, "334af363b6d78ad5dee936550af1826a8663a12f47767099639b240744c11e2b"), looks := true }, kinds := [], alts := [], laidByText := true, laidKinds := [.data, .sentinel, .sentinel, .sentinel, .sentinel, .sentinel, .sentinel, .sentinel, .sentinel, .sentinel, .sentinel, .sentinel, .sentinel, .sentinel, .sentinel, .sentinel, .sentinel, .sentinel, .sentinel], laidTests := true, laidLooks := .later }
def ChainNewUptoCardSaid : Prop := Claim7.holds Tryd.pinned (.plain (OpenSpec.upto chainNewSpec)) chainNewUptoCard

/-- THE SECOND FORM's CARD OF 'dofferlaw30.PoolPlays'. -/
def poolPlaysUptoCard : Claim7 := { stood := { row := poolPlaysUptoRow, standIns := [], harness := (true, "334af363b6d78ad5dee936550af1826a8663a12f47767099639b240744c11e2b"), looks := true }, kinds := [], alts := [], laidByText := true, laidKinds := [.data, .sentinel, .sentinel, .sentinel, .sentinel, .sentinel, .sentinel, .sentinel, .sentinel, .sentinel, .sentinel, .sentinel, .sentinel, .sentinel, .sentinel, .sentinel, .sentinel, .sentinel, .sentinel], laidTests := true, laidLooks := .later }
def PoolPlaysUptoCardSaid : Prop := Claim7.holds Tryd.pinned (.plain (OpenSpec.upto poolPlaysSpec)) poolPlaysUptoCard

/-- THE SECOND FORM's CARD OF 'dofferlaw31.ChainKeeps'. -/
def chainKeepsUptoCard : Claim7 := { stood := { row := chainKeepsUptoRow, standIns := [], harness := (true, "334af363b6d78ad5dee936550af1826a8663a12f47767099639b240744c11e2b"), looks := true }, kinds := [], alts := [], laidByText := true, laidKinds := [.data, .sentinel, .sentinel, .sentinel, .sentinel, .sentinel, .sentinel, .sentinel, .sentinel, .sentinel, .sentinel, .sentinel, .sentinel, .sentinel, .sentinel, .sentinel, .sentinel, .sentinel, .sentinel], laidTests := true, laidLooks := .later }
def ChainKeepsUptoCardSaid : Prop := Claim7.holds Tryd.pinned (.plain (OpenSpec.upto chainKeepsSpec)) chainKeepsUptoCard

/-- THE SECOND FORM's CARD OF 'dofferlaw31.ChainPlays'. -/
def chainPlaysUptoCard : Claim7 := { stood := { row := chainPlaysUptoRow, standIns := [], harness := (true, "334af363b6d78ad5dee936550af1826a8663a12f47767099639b240744c11e2b"), looks := true }, kinds := [], alts := [], laidByText := true, laidKinds := [.data, .sentinel, .sentinel, .sentinel, .sentinel, .sentinel, .sentinel, .sentinel, .sentinel, .sentinel, .sentinel, .sentinel, .sentinel, .sentinel, .sentinel, .sentinel, .sentinel, .sentinel, .sentinel], laidTests := true, laidLooks := .later }
def ChainPlaysUptoCardSaid : Prop := Claim7.holds Tryd.pinned (.plain (OpenSpec.upto chainPlaysSpec)) chainPlaysUptoCard

/-- THE SECOND FORM's CARD OF 'dofferlaw31.ChainShare'. -/
def chainShareUptoCard : Claim7 := { stood := { row := chainShareUptoRow, standIns := [], harness := (true, "334af363b6d78ad5dee936550af1826a8663a12f47767099639b240744c11e2b"), looks := true }, kinds := [], alts := [], laidByText := true, laidKinds := [.data, .sentinel, .sentinel, .sentinel, .sentinel, .sentinel, .sentinel, .sentinel, .sentinel, .sentinel, .sentinel, .sentinel, .sentinel, .sentinel, .sentinel, .sentinel, .sentinel, .sentinel, .sentinel], laidTests := true, laidLooks := .later }
def ChainShareUptoCardSaid : Prop := Claim7.holds Tryd.pinned (.plain (OpenSpec.upto chainShareSpec)) chainShareUptoCard
end Rows
end Go.Proofs.YtpjimmdpcpcmoaaDoor
